/- A CALL's OWN BLOCKS, all known; nothing that lay has turned. -/
import Derived.Test.YtidedlbieakagaaWords
import Derived.Lib.Hide
namespace Go.Proofs.Ytidedlbieakagaa
open Go.RowKit
variable [Lo]
def Own (w : World) (L : List (Nat × TypeId × Array Value)) (W : World) : Prop := Kp w W ∧ ∀ x ∈ L, w.heap.size ≤ x.1 ∧ Blk W x.1 x.2.1 x.2.2
omit [Lo] in
theorem Own.start (w : World) : Own w [] w := ⟨.refl _, by simp⟩
omit [Lo] in
theorem Own.kp {w W W' : World} {L : List (Nat × TypeId × Array Value)} (h : Own w L W) (k : Kp W W') : Own w L W' :=
  ⟨h.1.trans k, fun x hx => ⟨(h.2 x hx).1, (h.2 x hx).2.below k.1 (h.2 x hx).2.lt⟩⟩
omit [Lo] in
theorem Own.drew {w W : World} {L : List (Nat × TypeId × Array Value)} (h : Own w L W) : Own w L W.drew := h.kp (.drew (.refl _))
omit [Lo] in
theorem Own.size {w W : World} {L : List (Nat × TypeId × Array Value)} (h : Own w L W) : w.heap.size ≤ W.heap.size := h.1.1.size
omit [Lo] in
theorem Own.alloc {w W : World} {L : List (Nat × TypeId × Array Value)} (h : Own w L W) (cs : Array Value) (t : TypeId) : Own w ((W.heap.size, t, cs) :: L) (W.alloc (.cells cs t)) := by
  have h2 := h.kp ((Kp.refl W).alloc (.cells cs t))
  refine ⟨h2.1, fun x hx => ?_⟩
  rcases List.mem_cons.1 hx with rfl | hx
  · exact ⟨h.size, Blk.new _ _ _⟩
  · exact h2.2 x hx
omit [Lo] in
theorem Own.cell {w W : World} {L : List (Nat × TypeId × Array Value)} (h : Own w L W) {b : Nat} {t : TypeId} {cs : Array Value} (hm : (b, t, cs) ∈ L) (i : Nat) : W.cell? ⟨b, i, none⟩ = cs[i]? := (h.2 _ hm).2.cell i
omit [Lo] in
theorem Own.free {w W : World} {L : List (Nat × TypeId × Array Value)} (h : Own w L W) {b : Nat} {t : TypeId} {cs : Array Value} (hm : (b, t, cs) ∈ L) (i : Nat) : W.frozen? ⟨b, i, none⟩ = false := (h.2 _ hm).2.frozen i
omit [Lo] in
theorem Own.lt {w W : World} {L : List (Nat × TypeId × Array Value)} (h : Own w L W) {b : Nat} {t : TypeId} {cs : Array Value} (hm : (b, t, cs) ∈ L) : b < W.heap.size := (h.2 _ hm).2.lt
omit [Lo] in
theorem Own.ge {w W : World} {L : List (Nat × TypeId × Array Value)} (h : Own w L W) {b : Nat} {t : TypeId} {cs : Array Value} (hm : (b, t, cs) ∈ L) : w.heap.size ≤ b := (h.2 _ hm).1
omit [Lo] in
theorem Own.sub {w W : World} {L L' : List (Nat × TypeId × Array Value)} (h : Own w L W) (hs : ∀ x ∈ L', x ∈ L) : Own w L' W := ⟨h.1, fun x hx => h.2 x (hs x hx)⟩
omit [Lo] in
theorem Own.set {w W : World} {L : List (Nat × TypeId × Array Value)} {b : Nat} {t : TypeId} {cs : Array Value} (h : Own w ((b, t, cs) :: L) W) (hd : ∀ x ∈ L, x.1 ≠ b) (i : Nat) (v : Value) :
    Own w ((b, t, cs.setIfInBounds i v) :: L) (W.setCell ⟨b, i, none⟩ v) := by
  have h0 := h.2 _ (List.mem_cons_self)
  refine ⟨h.1.set h0.1 v, fun x hx => ?_⟩
  rcases List.mem_cons.1 hx with rfl | hx
  · exact ⟨h0.1, h0.2.set_ i v⟩
  · have h1 := h.2 x (List.mem_cons_of_mem _ hx)
    exact ⟨h1.1, h1.2.far (hd x hx) v⟩
/-- Bytes that lay ahead of the call stay. -/
theorem Own.bts {w W : World} {L : List (Nat × TypeId × Array Value)} (h : Own w L W) {N : Nat} {a : Option Addr} {l : List Int} (hb : Bts N w a l) (hN : N ≤ w.heap.size) : Bts N W a l := hb.kp hN h.1
omit [Lo] in
theorem own_kp {w w' : World} {base : Nat} {e : TypeId} {size n : Nat} {v : Value} {xs : List Value} (h : w.ownsRow base e size v n xs) (k : Kp w w') : w'.ownsRow base e size v n xs :=
  h.kept (only_of_below k.1 none) (by cases v.ownBlock <;> simp)
omit [Lo] in
/-- Behind an append to a row that lies from B0 on: what lay below B0 stays. -/
theorem grown_own {w W W' : World} {L : List (Nat × TypeId × Array Value)} {B0 : Nat} {row : Option Nat} (hO : Own w L W) (hL : ∀ x ∈ L, x.1 < B0) (hB : w.heap.size ≤ B0) (hB2 : B0 ≤ W.heap.size) (hv : ∀ k, row = some k → B0 ≤ k) (hg : W.grownBy W' row) :
    Own w L W' ∧ Below B0 W W' := by
  have h1 : Below B0 W W' := (Below.refl _ _).grown hg hB2 hv
  refine ⟨⟨.of (hO.1.1.trans (h1.mono hB)), fun x hx => ⟨(hO.2 x hx).1, (hO.2 x hx).2.below h1 (hL x hx)⟩⟩, h1⟩
end Go.Proofs.Ytidedlbieakagaa
