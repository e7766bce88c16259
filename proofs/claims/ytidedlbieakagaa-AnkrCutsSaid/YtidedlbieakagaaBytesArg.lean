/- AN ARGUMENT OF BYTES, as it came in. -/
import Derived.Test.YtidedlbieakagaaView
import Derived.ProofKit
import Derived.OpenShut
import Derived.ShutString
import Derived.ChangeOld
import Derived.SizedLaws
namespace Go.Proofs.Ytidedlbieakagaa
open Go.ChangeShapes Go.WideShapes Go.ChangeAt Go.RowKit
theorem own : ownKnob Try.prog.godebug = none := by kernel_rfl
theorem laidOut : laidOutB Try.prog = true := by kernel_rfl
theorem bytes_arg {H : Type} {enc : TypeId × Value → H} {W : World} {base : Nat} {spare : Nat → Bool} {held : Bool} {fuel : Nat} {a : Option Addr} {len cap : Nat} {x : DataW H × List MemPlace}
    (h : DataW.trod enc Try.prog W base spare held fuel 25 (Value.slice a len cap).cells.toList = some x) : ∃ l : List Int, l.length = len ∧ len ≤ cap ∧ cap ≤ 9223372036854775807 ∧ Bts W.heap.size W a l := by
  rcases open_ints Try.underlying25 Try.underlying5 (by kernel_rfl) h with ⟨hcs, _⟩ | ⟨y, n, c, zs, hcs, _, hl, hm, hz, _, hcell, hwz⟩
  · simp [Value.cells] at hcs
    obtain ⟨rfl, rfl, rfl⟩ := hcs
    exact ⟨[], rfl, Nat.le_refl _, by omega, .inl rfl, fun _ h => by simp at h⟩
  · simp [Value.cells] at hcs
    obtain ⟨rfl, rfl, rfl⟩ := hcs
    have hzl : len ≤ zs.length := by rw [hz]; split <;> omega
    refine ⟨zs.take len, by simp; omega, hl, by unfold maxLen at hm; omega, ?_, fun z hz => ?_⟩
    · rcases Nat.eq_zero_or_pos len with h0 | h0
      · left; simp [h0]
      · right
        obtain ⟨b, off, spot⟩ := y
        have hc := hcell 0 (by omega)
        have hspot : spot = none := by simpa [Addr.add] using World.cell?_spot hc
        subst hspot
        refine ⟨b, off, rfl, ⟨Nat.zero_le _, ?_⟩, fun i hi => ?_⟩
        · have := World.block_lt_of_cell? W _ hc
          simpa [Addr.add] using this
        · simp at hi
          have hci := hcell i (by omega)
          have he : (⟨b, off, none⟩ : Addr).add i = ⟨b, off + i, none⟩ := by unfold Addr.add; split <;> simp_all
          rw [he] at hci
          rw [hci]
          have hi1 : i < len := by omega
          have hi2 : i < zs.length := by omega
          simp [hi1, List.getD, List.getElem?_eq_getElem hi2]
    · have := bounds_u8 (hwz z (List.mem_of_mem_take hz))
      omega
end Go.Proofs.Ytidedlbieakagaa
