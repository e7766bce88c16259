/- 'Try', OF A FUNCTION THAT STORES WHAT IT HAS INTO ONE VARIABLE. -/
import Derived.Test.YtidedlbieakagaaTry
import Derived.Test.YtidedlbieakagaaAnkrI
namespace Go.Proofs.Ytidedlbieakagaa
open Go.RowKit
/-- What is left where the function ended: its value lies in the variable; all else lies as it left it, but for Try's own flag. -/
structure Stored (w w1 w2 : World) (bo : Nat) (t : TypeId) (v : Value) : Prop where
  k : Kp w w1
  out : Blk w2 bo t #[v]
  same : ∀ c, c ≠ bo → c ≠ w.heap.size → w2.heap[c]? = w1.heap[c]?
  size : w2.heap.size = w1.heap.size
  os : w2.os = w1.os
  tape : w2.tape = w1.tape
  output : w2.output = w1.output
theorem Stored.kj {w w1 w2 : World} {bo : Nat} {t : TypeId} {v : Value} (h : Stored w w1 w2 bo t v) : KJ bo w w2 :=
  ⟨h.os.trans h.k.1.os, h.tape.trans h.k.1.tape, h.output.trans h.k.1.output, by have := h.k.1.size; rw [h.size]; exact this, fun c hc hb => (h.same c hb (by omega)).trans (h.k.1.block c hc)⟩
theorem KJ.trans {bm : Nat} {a b c : World} (h : KJ bm a b) (k : KJ bm b c) : KJ bm a c :=
  ⟨k.os.trans h.os, k.tape.trans h.tape, k.output.trans h.output, Nat.le_trans h.size k.size, fun i hi hb => (k.block i (Nat.lt_of_lt_of_le hi h.size) hb).trans (h.block i hi hb)⟩
theorem KJ.set {bm : Nat} {a b : World} (h : KJ bm a b) (i : Nat) (v : Value) : KJ bm a (b.setCell ⟨bm, i, none⟩ v) :=
  ⟨h.os, h.tape, h.output, by simpa using h.size, fun c hc hb => (Below.heap_setCell _ _ _ _ hb).trans (h.block c hc hb)⟩
theorem Try_store (g : Nat) (caps : Array Value) (bo : Nat) (t : TypeId) (u : Value) (R : World → Value → Prop) (N : Prop) (w : World) (hB : Blk w bo t #[u])
    (h : Calls Try.prog g caps (w.alloc (.cells #[.bool false] 4)) fun e w' => (∃ v w1, e = .returned (.tuple #[]) ∧ Kp (w.alloc (.cells #[.bool false] 4)) w1 ∧ R w1 v ∧ w' = w1.setCell ⟨bo, 0, none⟩ v) ∨ (N ∧ e = .panicked Short ∧ Kp (w.alloc (.cells #[.bool false] 4)) w'))
    (hg : ∀ (w : World), (callFunc g caps).run Try.prog w = .ok (.enter g caps) w) :
    Calls Try.prog 13 #[.func (.func g) #[] caps] w fun e w2 => (∃ v w1, e = .returned (.bool true) ∧ Kp (w.alloc (.cells #[.bool false] 4)) w1 ∧ R w1 v ∧ Stored w w1 w2 bo t v) ∨ (N ∧ e = .returned (.bool false) ∧ Kp w w2) := by
  have hz := hB.lt
  have hF := Blk.new w 4 #[.bool false]
  refine (Try_any g caps (fun W => ∃ v w1, Kp (w.alloc (.cells #[.bool false] 4)) w1 ∧ R w1 v ∧ W = w1.setCell ⟨bo, 0, none⟩ v) (fun W => N ∧ Kp (w.alloc (.cells #[.bool false] 4)) W) w (h.mono ?_) hg).mono ?_
  · rintro e W (⟨v, w1, rfl, hk, hR, rfl⟩ | ⟨hN, rfl, hk⟩)
    · have hF1 := (hF.below hk.1 hF.lt).far (p := ⟨bo, 0, none⟩) (by simp; omega) v
      exact ⟨⟨hF1.cell 0, hF1.frozen 0, hF1.lt⟩, .inl ⟨⟨_, rfl⟩, v, w1, hk, hR, rfl⟩⟩
    · have hF1 := hF.below hk.1 hF.lt
      exact ⟨⟨hF1.cell 0, hF1.frozen 0, hF1.lt⟩, .inr ⟨rfl, hN, hk⟩⟩
  · rintro e w2 ⟨W, (⟨rfl, ⟨v, w1, hk, hR, rfl⟩, rfl⟩ | ⟨rfl, ⟨hN, hk⟩, rfl⟩)⟩
    · have hk1 : Kp w w1 := ((Kp.refl w).alloc _).trans hk
      refine .inl ⟨v, w1, rfl, hk, hR, hk1, ?_, fun c h1 h2 => ?_, by simp, rfl, rfl, rfl⟩
      · have h1 := (((hB.below hk1.1 hz).set_ 0 v).far (p := ⟨w.heap.size, 0, none⟩) (by simp; omega) (.bool true))
        simpa using h1
      · exact (Below.heap_setCell _ _ _ _ (by simpa using h2)).trans (Below.heap_setCell _ _ _ _ (by simpa using h1))
    · exact .inr ⟨hN, rfl, ((((Kp.refl w).alloc _).trans hk).set (by simp) _).alloc _⟩
end Go.Proofs.Ytidedlbieakagaa
