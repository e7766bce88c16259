/- THE WALKS of package seek: none. -/
import Derived.Test.YtidedlbieakagaaLook2
namespace Go.Proofs.Ytidedlbieakagaa
open Go.RowKit
variable [Lo]
set_option maxRecDepth 100000 in
theorem none_any (N : Nat) (a : Option Addr) (l : List Int) (len cap : Nat) (keys : Nat) (w : World) (hb : Bts N w a l) (hN : N ≤ w.heap.size) (hl : l.length = len) (hc : len ≤ cap) (hm : cap ≤ 9223372036854775807) (hk : 2 * keys ≤ len) :
    Calls Try.prog 123 #[.agg #[.slice a len cap], .int .i64 keys] w (Gives (.bool (noneB l keys)) w) := by
  have hB0 := heap_alloc_new w (.cells #[.slice a len cap] 40)
  have hk0 := (Kp.refl w).alloc (.cells #[.slice a len cap] 40)
  have hb0 := hb.al hN (.cells #[.slice a len cap] 40)
  clear hb
  go_enter Try.func123, Try.ntmps123
  go_wp2_with fail
  go_loopw [7] (fun i wr => ∃ k : Nat, k ≤ keys ∧ i = .int .i64 k ∧ (∀ j : Nat, j < k → nv l (2 * j) 2 = 65535) ∧ Blk wr w.heap.size 40 #[.slice a len cap] ∧ Bts N wr a l ∧ Kp w wr) (fun i _ => keys - (intOf i).toNat)
  case atStart => exact ⟨0, Nat.zero_le _, rfl, fun j hj => by omega, hB0, hb0, hk0⟩
  case round =>
    obtain ⟨k, hkm, rfl, hall, hBr, hbr, hkr⟩ := hrel
    have hNr : N ≤ wr.heap.size := by have := hkr.1.size; omega
    have hall2 := Lib.hid hall
    clear hB0 hb0 hk0 hall
    have hc0 := hBr.cell 0
    by_cases hlt : k < keys
    · have CN := U16_any N a l len cap (2 * k) wr hbr hNr hl hc hm
      have e : u16 l (2 * k) = some (nv l (2 * k) 2) := by simp [u16, nv, show pcOk l.length (2 * k) 2 by unfold pcOk; omega]
      rw [e] at CN
      clear e
      have H : ∀ w2, Kp wr w2 → Blk w2 w.heap.size 40 #[.slice a len cap] ∧ Bts N w2 a l ∧ Kp w w2 := fun w2 hK => ⟨hBr.below hK.1 hBr.lt, hbr.kp hNr hK, hkr.trans hK⟩
      have H2 := Lib.hid H
      clear H hBr hbr
      by_cases hx : nv l (2 * k) 2 = 65535
      · have hx' : (nv l (2 * k) 2 != 65535) = false := by simp [hx]
        have hall3 : Hid (∀ j : Nat, j < k + 1 → nv l (2 * j) 2 = 65535) := by
          intro j hj
          by_cases h : j < k
          · exact hall2.out j h
          · obtain rfl : j = k := by omega
            exact hx
        clear hx hall2
        generalize nv l (2 * k) 2 = x at CN hx'
        go_wp2_with (go_at_call 44; refine CN.mono ?_; rintro e w2 ⟨rfl, hB2, hc2, hf2, hz2⟩; clear CN)
        go_roundw
        case rel => exact ⟨k + 1, by omega, by go_num, hall3.out, H2.out _ ⟨hB2, hc2, hf2, hz2⟩⟩
        case measure => simp [intOf]; omega
      · have hx' : (nv l (2 * k) 2 != 65535) = true := by simp [hx]
        rw [noneB_false k hlt hx]
        clear hx hall2
        generalize nv l (2 * k) 2 = x at CN hx'
        go_wp2_with (go_at_call 44; refine CN.mono ?_; rintro e w2 ⟨rfl, hB2, hc2, hf2, hz2⟩; clear CN)
        go_ret
        exact ⟨rfl, (H2.out _ ⟨hB2, hc2, hf2, hz2⟩).2.2⟩
    · obtain rfl : k = keys := by omega
      go_wp2
      go_ret
      exact ⟨by rw [noneB_true hall2.out]; rfl, hkr⟩
end Go.Proofs.Ytidedlbieakagaa
