/- AN ARGUMENT THAT IS LISTS OF POINTS, as it came in. -/
import Derived.Test.YtidedlbieakagaaOpenArg
import Derived.Test.YtidedlbieakagaaAnkrB0
namespace Go.Proofs.Ytidedlbieakagaa
open Go.ChangeShapes Go.WideShapes Go.ChangeAt Go.RowKit
theorem slice_shape {H : Type} {enc : TypeId × Value → H} {P : Program} {w : World} {base : Nat} {spare : Nat → Bool} {held : Bool} {fuel : Nat} {t e : TypeId} {cs : List Value} {x : DataW H × List MemPlace}
    (ht : P.underlying t = some (.slice e)) (h : DataW.trod enc P w base spare held fuel t cs = some x) : ∃ a n c, cs = [.slice a n c] := by
  rcases Go.Deep.open_slice ht h with ⟨hcs, _⟩ | ⟨y, n, c, m, fu, D, Pl, hcs, _⟩
  · exact ⟨_, _, _, hcs⟩
  · exact ⟨_, _, _, hcs⟩
def PtR (cs : List Value) (p : Int × Int) : Prop := PtC cs p ∧ (-32768 ≤ p.1 ∧ p.1 ≤ 32767) ∧ (-32768 ≤ p.2 ∧ p.2 ≤ 32767)
section
variable {H : Type} {enc : TypeId × Value → H} {w : World} {base : Nat} {spare : Nat → Bool} {held : Bool} {fuel : Nat}
set_option maxRecDepth 100000 in
theorem pt_open {cs : List Value} {x : DataW H × List MemPlace} (h : DataW.trod enc Try.prog w base spare held fuel 33 cs = some x) (hl : cs.length = 2) : ∃ p, PtR cs p := by
  obtain ⟨xs, m, _, _, _, hxl, hx⟩ := DataW.trod_array Try.underlying33 h
  have hce : Try.prog.cellsOf 32 = 1 := by kernel_rfl
  obtain ⟨y0, hy0⟩ : ∃ y, xs[0]? = some y := ⟨_, List.getElem?_eq_getElem (by omega)⟩
  obtain ⟨y1, hy1⟩ : ∃ y, xs[1]? = some y := ⟨_, List.getElem?_eq_getElem (by omega)⟩
  have h0 := (hx 0 (by omega)).trans hy0
  have h1 := (hx 1 (by omega)).trans hy1
  generalize Try.prog.cellsOf 32 = q at hce h0 h1
  subst hce
  obtain ⟨z0, c0, _, w0⟩ := DataW.trod_int Try.underlying32 h0
  obtain ⟨z1, c1, _, w1⟩ := DataW.trod_int Try.underlying32 h1
  match cs, hl with
  | [u, v], _ =>
    simp at c0 c1
    subst c0 c1
    exact ⟨(z0, z1), rfl, bounds_i16 w0, bounds_i16 w1⟩
set_option maxRecDepth 100000 in
theorem pts_arg {a : Option Addr} {len cap : Nat} {x : DataW H × List MemPlace} (h : DataW.trod enc Try.prog w base spare held fuel 22 [Value.slice a len cap] = some x) : ∃ ls : List (List (Int × Int)), PtsV (· < w.heap.size) w (.slice a len cap) ls ∧ InR ls := by
  obtain ⟨ls, _, hs⟩ := open_of (s := 1) (R := fun cs (l : List (Int × Int)) => ∃ v, cs = [v] ∧ SliceOf (· < w.heap.size) w 2 PtR v l) Try.underlying22 (by kernel_rfl) (by omega) (fun n cs y hy _ => by
    obtain ⟨a', n', c', rfl⟩ := slice_shape Try.underlying24 hy
    obtain ⟨l, _, hl⟩ := open_of (s := 2) (R := PtR) Try.underlying24 (by kernel_rfl) (by omega) (fun n cs y hy hl => pt_open hy hl) hy
    exact ⟨l, _, rfl, hl⟩) h
  refine ⟨ls, hs.weaken fun cs l ⟨v, hv, hl⟩ => ⟨v, hv, hl.weaken fun _ _ h => h.1⟩, fun l hl p hp => ?_⟩
  obtain ⟨cs, v, _, hl2⟩ := hs.all l hl
  obtain ⟨cs2, hp2⟩ := hl2.all p hp
  exact hp2.2
end
end Go.Proofs.Ytidedlbieakagaa
