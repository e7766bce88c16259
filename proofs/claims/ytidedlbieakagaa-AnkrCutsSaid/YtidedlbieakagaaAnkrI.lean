/- BETWEEN THE ROUNDS of ankr.Take's loop. -/
import Derived.Test.YtidedlbieakagaaRange
namespace Go.Proofs.Ytidedlbieakagaa
open Go.RowKit
variable [Lo]
/-- All that lay is as it lay, but for the map. -/
structure KJ (bm : Nat) (wb W : World) : Prop where
  os : W.os = wb.os
  tape : W.tape = wb.tape
  output : W.output = wb.output
  size : wb.heap.size ≤ W.heap.size
  block : ∀ c, c < wb.heap.size → c ≠ bm → W.heap[c]? = wb.heap[c]?
omit [Lo] in
theorem KJ.refl (bm : Nat) (w : World) : KJ bm w w := ⟨rfl, rfl, rfl, Nat.le_refl _, fun _ _ _ => rfl⟩
omit [Lo] in
theorem KJ.kp {bm : Nat} {wb W W' : World} (h : KJ bm wb W) (k : Kp W W') : KJ bm wb W' :=
  ⟨k.1.os.trans h.os, k.1.tape.trans h.tape, k.1.output.trans h.output, Nat.le_trans h.size k.1.size, fun c hc hb => (k.1.block c (Nat.lt_of_lt_of_le hc h.size)).trans (h.block c hc hb)⟩
omit [Lo] in
theorem KJ.put {bm j : Nat} {wb W : World} (h : KJ bm wb W) (o : Obj) (hj : wb.heap.size ≤ j) : KJ bm wb (W.putObj j o) :=
  ⟨h.os, h.tape, h.output, by simpa using h.size, fun c hc hb => (World.putObj_heap_other (by omega)).trans (h.block c hc hb)⟩
omit [Lo] in
theorem KJ.grown {bm : Nat} {wb W W' : World} (h : KJ bm wb W) (hg : W.grownBy W' (some bm)) : KJ bm wb W' :=
  ⟨hg.os.trans h.os, hg.tape.trans h.tape, hg.output.trans h.output, Nat.le_trans h.size hg.size, fun c hc hb => (hg.block c (Nat.lt_of_lt_of_le hc h.size) (by simpa using hb)).trans (h.block c hc hb)⟩
/-- Between two rounds. -/
def AI (wb : World) (bm : Nat) (ps : List Part) (data : List Int) (k : Nat) (W : World) : Prop :=
  KJ bm wb W ∧ (∃ (D : DataW Unit) (n : Nat), W.ownsMap Try.prog 3 unitElem bm n D ∧ n ≤ k ∧ ∀ x : Int, Maps.has D (.int .i64 x) = true → okAt data x = true) ∧ ∀ (i : Nat) (x : Int × Int), i < k → (allOf ps)[i]? = some x → okAt data x.2 = true
def AIp (wb : World) (bm : Nat) (ps : List Part) (data : List Int) (W : World) : Prop := KJ bm wb W ∧ (allOf ps).all (fun x => okAt data x.2) = false
omit [Lo] in
theorem AI.kp {wb W W' : World} {bm k : Nat} {ps : List Part} {data : List Int} (h : AI wb bm ps data k W) (kp : Kp W W') : AI wb bm ps data k W' := by
  obtain ⟨h1, ⟨D, n, h2, h3, h4⟩, h5⟩ := h
  exact ⟨h1.kp kp, ⟨D, n, h2.kept (only_of_below kp.1 none) (by simp), h3, h4⟩, h5⟩
omit [Lo] in
theorem AI.put {wb W : World} {bm k j : Nat} {ps : List Part} {data : List Int} (h : AI wb bm ps data k W) (hbm : bm < wb.heap.size) (o : Obj) (hj : wb.heap.size ≤ j) : AI wb bm ps data k (W.putObj j o) := by
  obtain ⟨h1, ⟨D, n, h2, h3, h4⟩, h5⟩ := h
  exact ⟨h1.put o hj, ⟨D, n, h2.kept (grownBy_putObj' W j o) (by simp; omega), h3, h4⟩, h5⟩
omit [Lo] in
theorem KJ.kpOf {bm : Nat} {w wb W : World} (h : KJ bm wb W) (hk : Kp w wb) (hb : w.heap.size ≤ bm) : Kp w W :=
  .of ⟨h.os.trans hk.1.os, h.tape.trans hk.1.tape, h.output.trans hk.1.output, Nat.le_trans hk.1.size h.size, fun c hc => (h.block c (Nat.lt_of_lt_of_le hc hk.1.size) (by omega)).trans (hk.1.block c hc)⟩
theorem at_last {N bA : Nat} {w wc w3 W : World} {ps : List Part} {data : List Int} (hA : AT N (New w wc) wc bA ps data) (hN : N ≤ wc.heap.size) (hkc : Kp wc w3) (h : KJ wc.heap.size w3 W) : AT N (New w W) W bA ps data := by
  obtain ⟨hn, bT, a, hb, ht, hd⟩ := hA
  have hs : ∀ c, c < wc.heap.size → W.heap[c]? = wc.heap[c]? := fun c hc => (h.block c (Nat.lt_of_lt_of_le hc hkc.1.size) (by omega)).trans (hkc.1.block c hc)
  have hz : wc.heap.size ≤ W.heap.size := Nat.le_trans hkc.1.size h.size
  have hbel : Below wc.heap.size wc W := ⟨h.os.trans hkc.1.os, h.tape.trans hkc.1.tape, h.output.trans hkc.1.output, hz, hs⟩
  exact ⟨⟨hn.1, Nat.lt_of_lt_of_le hn.2 hz⟩, bT, a, (hs bA hn.2).trans hb, (ht.frame ((Same.of_below hbel).mono fun b hb => hb.2)).mono fun b hb => ⟨hb.1, Nat.lt_of_lt_of_le hb.2 hz⟩, hd.frame (hbel.mono hN)⟩
omit [Lo] in
theorem allOk {ps : List Part} {data : List Int} (h : ∀ (i : Nat) (x : Int × Int), i < (allOf ps).length → (allOf ps)[i]? = some x → okAt data x.2 = true) : (allOf ps).all (fun x => okAt data x.2) = true := by
  rw [List.all_eq_true]
  intro x hx
  obtain ⟨i, hi, he⟩ := List.getElem_of_mem hx
  exact h i x hi (by rw [← he]; exact List.getElem?_eq_getElem hi)
end Go.Proofs.Ytidedlbieakagaa
