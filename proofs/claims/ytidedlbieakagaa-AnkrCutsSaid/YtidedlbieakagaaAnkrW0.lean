/- A TABLE OF POINTS, WRITTEN: the bytes, and how the argument lies in memory. -/
import Derived.Test.YtidedlbieakagaaRow3
namespace Go.Proofs.Ytidedlbieakagaa
open Go.RowKit
def ptB (p : Int × Int) : List Int := be (p.1 % 65536) 2 ++ be (p.2 % 65536) 2
def ptsB (l : List (Int × Int)) : List Int := be l.length 4 ++ l.flatMap ptB
def dataB (ls : List (List (Int × Int))) : List Int := ls.flatMap ptsB
def offB (ls : List (List (Int × Int))) (k : Nat) : List Int := be 8 2 ++ be 0 2 ++ be ls.length 2 ++ (List.range k).flatMap fun i => be (dataB (ls.take i)).length 2
/-- What swashlaw24.Write makes. -/
def writeA (ls : List (List (Int × Int))) : List Int := [0, 0, 0, 0, 0, 0, 0, 12] ++ be (12 + ((offB ls ls.length).length : Int)) 4 ++ offB ls ls.length ++ dataB ls
theorem dataB_succ {ls : List (List (Int × Int))} {k : Nat} {l : List (Int × Int)} (h : ls[k]? = some l) : dataB (ls.take (k + 1)) = dataB (ls.take k) ++ be l.length 4 ++ l.flatMap ptB := by
  unfold dataB
  obtain ⟨hk, rfl⟩ := List.getElem?_eq_some_iff.1 h
  rw [List.take_succ_eq_append_getElem hk, List.flatMap_append]
  simp [ptsB]
theorem offB_succ (ls : List (List (Int × Int))) (k : Nat) : offB ls (k + 1) = offB ls k ++ be (dataB (ls.take k)).length 2 := by
  unfold offB
  rw [List.range_succ, List.flatMap_append]
  simp
theorem offB_len (ls : List (List (Int × Int))) (k : Nat) : (offB ls k).length = 6 + 2 * k := by
  induction k with
  | zero => simp [offB, be_len]
  | succ k ih => rw [offB_succ, List.length_append, ih, be_len]; omega
theorem ptB_len (p : Int × Int) : (ptB p).length = 4 := by simp [ptB, be_len]
theorem pts_len (l : List (Int × Int)) : (l.flatMap ptB).length = 4 * l.length := by
  induction l with
  | nil => simp
  | cons p r ih => rw [List.flatMap_cons, List.length_append, ih, ptB_len, List.length_cons]; omega
theorem take_flat {l : List (Int × Int)} {m : Nat} {p : Int × Int} (h : l[m]? = some p) : (l.take (m + 1)).flatMap ptB = (l.take m).flatMap ptB ++ (be (p.1 % 65536) 2 ++ be (p.2 % 65536) 2) := by
  obtain ⟨hk, rfl⟩ := List.getElem?_eq_some_iff.1 h
  rw [List.take_succ_eq_append_getElem hk, List.flatMap_append]
  simp [ptB]
theorem wf_append {a b : List Int} (ha : Wf a) (hb : Wf b) : Wf (a ++ b) := fun x hx => (List.mem_append.1 hx).elim (ha x) (hb x)
theorem wf_flat {α : Type} {l : List α} {f : α → List Int} (h : ∀ x ∈ l, Wf (f x)) : Wf (l.flatMap f) := fun x hx => by
  obtain ⟨y, hy, hx⟩ := List.mem_flatMap.1 hx
  exact h y hy x hx
theorem ptsB_wf (l : List (Int × Int)) : Wf (ptsB l) := wf_append (be_wf _ _) (wf_flat fun _p _ => wf_append (be_wf _ _) (be_wf _ _))
theorem dataB_wf (ls : List (List (Int × Int))) : Wf (dataB ls) := wf_flat fun l _ => ptsB_wf l
theorem offB_wf (ls : List (List (Int × Int))) (k : Nat) : Wf (offB ls k) := wf_append (wf_append (wf_append (be_wf _ _) (be_wf _ _)) (be_wf _ _)) (wf_flat fun _ _ => be_wf _ _)
theorem writeA_wf (ls : List (List (Int × Int))) : Wf (writeA ls) :=
  wf_append (wf_append (wf_append (fun x hx => by simp at hx; rcases hx with rfl | rfl <;> omega) (be_wf _ _)) (offB_wf _ _)) (dataB_wf _)
/-- A point, and lists of points, as they lie. -/
def PtC (cs : List Value) (p : Int × Int) : Prop := cs = [.int .i16 p.1, .int .i16 p.2]
def PtsC (P : Nat → Prop) (w : World) (cs : List Value) (l : List (Int × Int)) : Prop := ∃ v, cs = [v] ∧ SliceOf P w 2 PtC v l
theorem PtsC.frame {P : Nat → Prop} {w w' : World} {cs : List Value} {l : List (Int × Int)} (h : PtsC P w cs l) (hb : Same P w w') : PtsC P w' cs l := by
  obtain ⟨v, hv, h⟩ := h
  exact ⟨v, hv, SliceOf.frame h hb fun _ _ h => h⟩
def PtsV (P : Nat → Prop) (w : World) (v : Value) (ls : List (List (Int × Int))) : Prop := SliceOf P w 1 (PtsC P w) v ls
theorem PtsV.frame {P : Nat → Prop} {w w' : World} {v : Value} {ls : List (List (Int × Int))} (h : PtsV P w v ls) (hb : Same P w w') : PtsV P w' v ls := SliceOf.frame h hb fun _ _ h => h.frame hb
theorem PtsV.at {P : Nat → Prop} {w : World} {v : Value} {ls : List (List (Int × Int))} (h : PtsV P w v ls) {k : Nat} {l : List (Int × Int)} (hk : ls[k]? = some l) :
    ∃ b o c v', v = .slice (some ⟨b, o, none⟩) ls.length c ∧ P b ∧ w.cell? ⟨b, o + k, none⟩ = some v' ∧ SliceOf P w 2 PtC v' l := by
  obtain ⟨hi, he⟩ := List.getElem?_eq_some_iff.1 hk
  obtain ⟨b, o, c, hv, h1, h2, hb, f, hf⟩ := SliceOf.at h (by omega) hi
  obtain ⟨⟨v', hR, hs⟩, hlen, hc⟩ := hf k hi
  have := hc 0 (by omega)
  rw [hR] at this
  rw [he] at hs
  exact ⟨b, o, c, v', hv, hb, by simpa using this, hs⟩
theorem pts_at {P : Nat → Prop} {w : World} {v : Value} {l : List (Int × Int)} (h : SliceOf P w 2 PtC v l) {j : Nat} {p : Int × Int} (hj : l[j]? = some p) :
    ∃ b o c, v = .slice (some ⟨b, o, none⟩) l.length c ∧ P b ∧ w.cell? ⟨b, o + j * 2, none⟩ = some (.int .i16 p.1) ∧ w.cell? ⟨b, o + j * 2 + 1, none⟩ = some (.int .i16 p.2) := by
  obtain ⟨hi, he⟩ := List.getElem?_eq_some_iff.1 hj
  obtain ⟨b, o, c, hv, h1, h2, hb, f, hf⟩ := SliceOf.at h (by omega) hi
  obtain ⟨hR, hlen, hc⟩ := hf j hi
  rw [he] at hR
  have c0 := hc 0 (by omega)
  have c1 := hc 1 (by omega)
  rw [hR] at c0 c1
  refine ⟨b, o, c, hv, hb, ?_, ?_⟩
  · rw [show o + j * 2 = o + (2 * j + 0) by omega]; simpa using c0
  · rw [show o + j * 2 + 1 = o + (2 * j + 1) by omega]; simpa using c1
end Go.Proofs.Ytidedlbieakagaa
