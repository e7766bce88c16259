/- BEHIND AN append OF ONE PIECE TO A ROW OF THE CALL's OWN: lemmas outside the walks. -/
import Derived.Test.YtidedlbieakagaaOwn
import Derived.Test.YtidedlbieakagaaData
namespace Go.Proofs.Ytidedlbieakagaa
open Go.RowKit
variable [Lo]
omit [Lo] in
theorem Reads.one_new (w : World) (t : TypeId) (cs : Array Value) : Reads (w.alloc (.cells cs t)) (w.heap.size + 1) cs.size (some ⟨w.heap.size, 0, none⟩) 1 cs.toList := by
  have hb : Blk (w.alloc (.cells cs t)) w.heap.size t cs := Blk.new _ _ _
  refine ⟨by simp, fun _ => ⟨_, rfl, Nat.lt_succ_self _, fun j u hu => ?_⟩⟩
  rw [show (⟨w.heap.size, 0, none⟩ : Addr).add j = ⟨w.heap.size, j, none⟩ by cases j <;> simp [Addr.add], hb.cell j]
  simpa using hu

omit [Lo] in
/-- One new piece behind a row of the call's own. -/
theorem wpList_push {P : Program} {ops : Array Oper} {rest : List Oper} {o : Oper} {a : Act} {Q : Exit → Act → World → Prop} {w W : World} (hgd : o.guard = none) (s x : Operand) (t : TypeId)
    (ho : o.op = .call { callee := .builtin .append, args := #[s, x], argTypes := #[t, t] })
    (base : Nat) (e : TypeId) (i : TypeInfo) (z : Value) (size bytes : Nat) (ht : P.underlying t = some (.slice e)) (hi : P.info? e = some i) (hz : i.zero = some z)
    (hsize : i.size = size) (hby : i.bytes = bytes) (hzs : z.cells.size = size) (hsz : 0 < size)
    (v : Value) (n : Nat) (xs : List Value) (hs : a.eval s = v) (hown : w.ownsRow base e size v n xs) (hk : Kp w W) {t' : TypeId} {cs : Array Value} (hcs : cs.size = size) (h1 : ∀ u ∈ cs.toList, u.oneCell' = true)
    (hx : a.eval x = .slice (some ⟨W.heap.size, 0, none⟩) 1 1)
    (h63 : n + 1 ≤ maxLen) (hbytes : (n + 1) * bytes ≤ 140737488355328) (hbase : base ≤ w.heap.size)
    (h : ∀ v' w', w'.ownsRow base e size v' (n + 1) (xs ++ cs.toList) → (W.alloc (.cells cs t')).grownBy w' v.ownBlock → (v'.ownBlock = v.ownBlock ∨ v'.ownBlock = some (W.heap.size + 1)) → wpList P ops Q rest (a.put o.dst v') w') : wpList P ops Q (o :: rest) a (W.alloc (.cells cs t')) := by
  refine wpList_append_any _ hgd s x t ho base e i z size bytes ht hi hz hsize hby hzs hsz v n xs hs ((own_kp hown hk).alloc _) (W.heap.size + 1) _ 1 1 cs.toList hx (hcs ▸ Reads.one_new W t' cs) h1 h63 hbytes (by have := hk.1.size; simp; omega) fun v' w' h2 h3 h4 => h v' w' h2 h3 (by simpa using h4)
omit [Lo] in
theorem Same.setCell {P : Nat → Prop} {w : World} {b i : Nat} {v : Value} (h : ¬ P b) : Same P w (w.setCell ⟨b, i, none⟩ v) := fun g hg => Below.heap_setCell _ _ _ _ (by rintro rfl; exact h hg)
omit [Lo] in
/-- What an append leaves: the own blocks, and all that lay below B0. -/
theorem append_step {w wr w7 w9 : World} {L : List (Nat × TypeId × Array Value)} {B0 : Nat} {row : Option Nat} {o : Obj} (hO : Own w L wr) (hL : ∀ x ∈ L, x.1 < B0) (hwB : w.heap.size ≤ B0) (hBr : B0 ≤ wr.heap.size)
    (hv : ∀ j, row = some j → B0 ≤ j) (hK7 : Kp wr w7) (hg : (w7.alloc o).grownBy w9 row) : Own w L w9 ∧ Below B0 wr w9 ∧ B0 ≤ w9.heap.size := by
  have hK8 := hK7.alloc o
  have h8 : B0 ≤ (w7.alloc o).heap.size := Nat.le_trans hBr hK8.1.size
  obtain ⟨hO9, hB9⟩ := grown_own (hO.kp hK8) hL hwB h8 hv hg
  exact ⟨hO9, (hK8.1.mono hBr).trans hB9, Nat.le_trans h8 hB9.size⟩
theorem views_snoc {N : Nat} {w wr w7 w9 : World} {L : List (Nat × TypeId × Array Value)} {B0 : Nat} {row : Option Nat} {o : Obj} {xs : List Value} {ls : List (List Int)} {mk : List Int} {a7 : Option Addr}
    (hO : Own w L wr) (hL : ∀ x ∈ L, x.1 < B0) (hwB : w.heap.size ≤ B0) (hBr : B0 ≤ wr.heap.size) (hNB : N ≤ B0)
    (hv : ∀ j, row = some j → B0 ≤ j) (hfl : Flat 1 (ViewC N wr) xs ls) (hb7 : Bts N w7 a7 mk) (hmk : mk.length ≤ 9223372036854775807) (hK7 : Kp wr w7) (hg : (w7.alloc o).grownBy w9 row) :
    Flat 1 (ViewC N w9) (xs ++ [.slice a7 mk.length mk.length]) (ls ++ [mk]) ∧ Own w L w9 ∧ Below B0 wr w9 ∧ B0 ≤ w9.heap.size := by
  obtain ⟨hO9, hB9, hz9⟩ := append_step hO hL hwB hBr hv hK7 hg
  refine ⟨(hfl.mono fun cs p h => h.frame (hB9.mono hNB)).snoc rfl ⟨_, rfl, ?_⟩, hO9, hB9, hz9⟩
  have h8 : N ≤ w7.heap.size := Nat.le_trans hNB (Nat.le_trans hBr hK7.1.size)
  have h9 : Below N (w7.alloc o) w9 := (Below.refl _ _).grown hg (by simp; omega) (fun j hj => Nat.le_trans hNB (hv j hj))
  exact ((hb7.al h8 o).frame h9).v _ (Nat.le_refl _) hmk
/-- New blocks that are none of a row's own. -/
def Nb (w wr : World) (v : Value) (b : Nat) : Prop := New w wr b ∧ some b ≠ v.ownBlock
omit [Lo] in
theorem nest_snoc {α : Type} {s : Nat} {R : (Nat → Prop) → World → List Value → α → Prop} (hRf : ∀ P w w' cs p, R P w cs p → Same P w w' → R P w' cs p) (hRm : ∀ P Q w cs p, R P w cs p → (∀ b, P b → Q b) → R Q w cs p)
    {w wr W8 w9 : World} {v v' : Value} {xs cs : List Value} {ps : List α} {p : α} (hw : Kp w wr) (hfl : Flat s (R (Nb w wr v) wr) xs ps) (hK : Kp wr W8) (hl : cs.length = s) (hnew : R (New wr W8) W8 cs p)
    (hv : ∀ j, v.ownBlock = some j → j < wr.heap.size) (hg : W8.grownBy w9 v.ownBlock) (hv' : v'.ownBlock = v.ownBlock ∨ v'.ownBlock = some W8.heap.size) :
    Flat s (R (Nb w w9 v') w9) (xs ++ cs) (ps ++ [p]) := by
  have h1 : wr.heap.size ≤ W8.heap.size := hK.1.size
  have h2 : W8.heap.size ≤ w9.heap.size := hg.size
  have h0 : w.heap.size ≤ wr.heap.size := hw.1.size
  refine (hfl.mono fun cs p h => ?_).snoc hl ?_
  · refine hRm _ _ _ _ _ (hRf _ _ _ _ _ h ?_) ?_
    · intro b hb
      rw [hg.block b (by have := hb.1.2; omega) hb.2]
      exact hK.1.block b hb.1.2
    · intro b hb
      refine ⟨⟨hb.1.1, by have := hb.1.2; omega⟩, ?_⟩
      rcases hv' with e | e <;> rw [e]
      · exact hb.2
      · intro e; injection e with e; have := hb.1.2; omega
  · refine hRm _ _ _ _ _ (hRf _ _ _ _ _ hnew ?_) ?_
    · intro b hb
      exact hg.block b hb.2 (fun e => by have := hv b e.symm; have := hb.1; omega)
    · intro b hb
      refine ⟨⟨by have := hb.1; omega, by have := hb.2; omega⟩, ?_⟩
      rcases hv' with e | e <;> rw [e]
      · intro e2; have := hv b e2.symm; have := hb.1; omega
      · intro e; injection e with e; have := hb.2; omega
omit [Lo] in
theorem parts_snoc {w wr W8 w9 : World} {v v' : Value} {xs cs : List Value} {ps : List Part} {p : Part} (hw : Kp w wr) (hfl : Flat 3 (PartC (Nb w wr v) wr) xs ps) (hK : Kp wr W8) (hl : cs.length = 3) (hnew : PartC (New wr W8) W8 cs p)
    (hv : ∀ j, v.ownBlock = some j → j < wr.heap.size) (hg : W8.grownBy w9 v.ownBlock) (hv' : v'.ownBlock = v.ownBlock ∨ v'.ownBlock = some W8.heap.size) : Flat 3 (PartC (Nb w w9 v') w9) (xs ++ cs) (ps ++ [p]) :=
  nest_snoc (R := PartC) (fun _ _ _ _ _ h => h.frame) (fun _ _ _ _ _ h => h.mono) hw hfl hK hl hnew hv hg hv'
omit [Lo] in
/-- A slice of one new integer. -/
theorem ints_new (W : World) (x : Int) (t : TypeId) : Ints (New W (W.alloc (.cells #[.int .i64 x] t))) (W.alloc (.cells #[.int .i64 x] t)) (.slice (some ⟨W.heap.size, 0, none⟩) 1 1) [x] := by
  have hb : Blk (W.alloc (.cells #[.int .i64 x] t)) W.heap.size t [Value.int .i64 x].toArray := Blk.new _ _ _
  exact SliceOf.of_blk (ps := [x]) (c := 1) hb (Flat.ints [x]) (by simp) (by simp [maxLen]) ⟨Nat.le_refl _, by simp⟩
end Go.Proofs.Ytidedlbieakagaa
