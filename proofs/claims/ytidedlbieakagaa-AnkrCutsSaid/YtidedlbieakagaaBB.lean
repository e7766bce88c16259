/- BYTES IN HAND: the call's own blocks, and bytes that lay ahead of it; the readers' contracts in this form. -/
import Derived.Test.YtidedlbieakagaaSeek2
namespace Go.Proofs.Ytidedlbieakagaa
open Go.RowKit
variable [Lo]
def BB (N : Nat) (a : Option Addr) (l : List Int) (cap : Nat) (L : List (Nat × TypeId × Array Value)) (w W : World) : Prop := Own w L W ∧ Bts N W a l ∧ N ≤ w.heap.size ∧ l.length ≤ cap ∧ cap ≤ 9223372036854775807
variable {N : Nat} {a : Option Addr} {l : List Int} {cap : Nat} {L : List (Nat × TypeId × Array Value)} {w W W' : World}
theorem BB.start (hb : Bts N w a l) (hN : N ≤ w.heap.size) (hc : l.length ≤ cap) (hm : cap ≤ 9223372036854775807) : BB N a l cap [] w w := ⟨Own.start w, hb, hN, hc, hm⟩
theorem BB.hN (h : BB N a l cap L w W) : N ≤ W.heap.size := by have := h.1.size; have := h.2.2.1; omega
theorem BB.kp (h : BB N a l cap L w W) (k : Kp W W') : BB N a l cap L w W' := ⟨h.1.kp k, h.2.1.kp h.hN k, h.2.2⟩
theorem BB.drew (h : BB N a l cap L w W) : BB N a l cap L w W.drew := h.kp (.drew (.refl _))
theorem BB.alloc (h : BB N a l cap L w W) (cs : Array Value) (t : TypeId) : BB N a l cap ((W.heap.size, t, cs) :: L) w (W.alloc (.cells cs t)) := ⟨h.1.alloc cs t, h.2.1.al h.hN _, h.2.2⟩
theorem BB.K (h : BB N a l cap L w W) : Kp w W := h.1.1
theorem BB.cell (h : BB N a l cap L w W) {b : Nat} {t : TypeId} {cs : Array Value} (hm : (b, t, cs) ∈ L) (i : Nat) : W.cell? ⟨b, i, none⟩ = cs[i]? := h.1.cell hm i
theorem BB.cellA {b : Nat} {t : TypeId} {cs : Array Value} (h : BB N a l cap ((b, t, cs) :: L) w W) (i : Nat) : W.cell? ⟨b, i, none⟩ = cs[i]? := h.1.cell (List.mem_cons_self) i
theorem BB.cellB {b : Nat} {t : TypeId} {cs : Array Value} {y : Nat × TypeId × Array Value} (h : BB N a l cap (y :: (b, t, cs) :: L) w W) (i : Nat) : W.cell? ⟨b, i, none⟩ = cs[i]? := h.1.cell (List.mem_cons_of_mem _ (List.mem_cons_self)) i
theorem BB.cellC {b : Nat} {t : TypeId} {cs : Array Value} {y z : Nat × TypeId × Array Value} (h : BB N a l cap (z :: y :: (b, t, cs) :: L) w W) (i : Nat) : W.cell? ⟨b, i, none⟩ = cs[i]? := h.1.cell (List.mem_cons_of_mem _ (List.mem_cons_of_mem _ (List.mem_cons_self))) i
theorem BB.freeA {b : Nat} {t : TypeId} {cs : Array Value} (h : BB N a l cap ((b, t, cs) :: L) w W) (i : Nat) : W.frozen? ⟨b, i, none⟩ = false := h.1.free (List.mem_cons_self) i
theorem BB.free (h : BB N a l cap L w W) {b : Nat} {t : TypeId} {cs : Array Value} (hm : (b, t, cs) ∈ L) (i : Nat) : W.frozen? ⟨b, i, none⟩ = false := h.1.free hm i
theorem BB.set {b : Nat} {t : TypeId} {cs : Array Value} (h : BB N a l cap ((b, t, cs) :: L) w W) (hd : ∀ x ∈ L, x.1 ≠ b) (i : Nat) (v : Value) : BB N a l cap ((b, t, cs.setIfInBounds i v) :: L) w (W.setCell ⟨b, i, none⟩ v) :=
  ⟨h.1.set hd i v, h.2.1.frame ((Below.refl _ _).setCell (by have := h.1.ge (List.mem_cons_self); have := h.2.2.1; exact Nat.le_trans ‹N ≤ _› ‹_›) _), h.2.2⟩
theorem BB.set3 {b : Nat} {t : TypeId} {x y z : Value} {e : Nat × TypeId × Array Value} (h : BB N a l cap [(b, t, #[x, y, z]), e] w W) (hd : e.1 < b) (u v r : Value) : BB N a l cap [(b, t, #[u, v, r]), e] w (((W.setCell ⟨b, 0, none⟩ u).setCell ⟨b, 1, none⟩ v).setCell ⟨b, 2, none⟩ r) := by
  have hd' : ∀ x ∈ [e], x.1 ≠ b := by intro x hx; simp at hx; subst hx; omega
  exact ((h.set hd' 0 u).set hd' 1 v).set hd' 2 r
theorem BB.u16 (q : Int) (W : World) (h : BB N a l cap L w W) :
    Calls Try.prog 44 #[.agg #[.slice a l.length cap], .int .i64 q] W (fun e w' => (∃ x, Go.Proofs.Ytidedlbieakagaa.u16 l q = some x ∧ e = .returned (.int .i64 x) ∧ BB N a l cap L w w') ∨ (Go.Proofs.Ytidedlbieakagaa.u16 l q = none ∧ e = .panicked Short ∧ BB N a l cap L w w')) := by
  refine (U16_any N a l _ cap q W h.2.1 h.hN rfl h.2.2.2.1 h.2.2.2.2).mono fun e w' hh => ?_
  rcases hh.or with ⟨x, hx, he, hK⟩ | ⟨hx, he, hK⟩
  · exact .inl ⟨x, hx, he, h.kp hK⟩
  · exact .inr ⟨hx, he, h.kp hK⟩
theorem BB.u32 (q : Int) (W : World) (h : BB N a l cap L w W) :
    Calls Try.prog 40 #[.agg #[.slice a l.length cap], .int .i64 q] W (fun e w' => (∃ x, Go.Proofs.Ytidedlbieakagaa.u32 l q = some x ∧ e = .returned (.int .i64 x) ∧ BB N a l cap L w w') ∨ (Go.Proofs.Ytidedlbieakagaa.u32 l q = none ∧ e = .panicked Short ∧ BB N a l cap L w w')) := by
  refine (U32_any N a l _ cap q W h.2.1 h.hN rfl h.2.2.2.1 h.2.2.2.2).mono fun e w' hh => ?_
  rcases hh.or with ⟨x, hx, he, hK⟩ | ⟨hx, he, hK⟩
  · exact .inl ⟨x, hx, he, h.kp hK⟩
  · exact .inr ⟨hx, he, h.kp hK⟩
theorem BB.rest (q : Int) (h0 : 0 ≤ q) (h1 : q ≤ 4294967295) (W : World) (h : BB N a l cap L w W) :
    Calls Try.prog 46 #[.agg #[.slice a l.length cap], .int .i64 q] W (fun e w' => (∃ m a', Go.Proofs.Ytidedlbieakagaa.rest l q = some m ∧ e = .returned (.agg #[.slice a' m.length m.length]) ∧ Bts N w' a' m ∧ BB N a l cap L w w') ∨ (Go.Proofs.Ytidedlbieakagaa.rest l q = none ∧ e = .panicked Short ∧ BB N a l cap L w w')) := by
  refine (Rest_any N a l _ cap q W h.2.1 h.hN rfl h.2.2.2.1 h.2.2.2.2 h0 h1).mono fun e w' hh => ?_
  rcases hh.or with ⟨x, a', hx, he, hb, hK⟩ | ⟨hx, he, hK⟩
  · exact .inl ⟨x, a', hx, he, hb, h.kp hK⟩
  · exact .inr ⟨hx, he, h.kp hK⟩
theorem BB.cut (q n : Int) (W : World) (h : BB N a l cap L w W) :
    Calls Try.prog 90 #[.agg #[.slice a l.length cap], .int .i64 q, .int .i64 n] W (fun e w' => (∃ m a', pc l q n = some m ∧ e = .returned (.agg #[.slice a' m.length m.length]) ∧ Bts N w' a' m ∧ BB N a l cap L w w') ∨ (pc l q n = none ∧ e = .panicked Short ∧ BB N a l cap L w w')) := by
  refine (Cut_any N a l _ cap q n W h.2.1 h.hN rfl h.2.2.2.1 h.2.2.2.2).mono fun e w' hh => ?_
  rcases hh.or with ⟨x, a', hx, he, hb, hK⟩ | ⟨hx, he, hK⟩
  · exact .inl ⟨x, a', hx, he, hb, h.kp hK⟩
  · exact .inr ⟨hx, he, h.kp hK⟩
theorem BB.rows (q n size : Int) (W : World) (h : BB N a l cap L w W) :
    Calls Try.prog 48 #[.agg #[.slice a l.length cap], .int .i64 q, .int .i64 n, .int .i64 size] W (fun e w' => (∃ m a', Go.Proofs.Ytidedlbieakagaa.rows l q n size = some m ∧ e = .returned (.agg #[.slice a' m.length m.length]) ∧ Bts N w' a' m ∧ BB N a l cap L w w') ∨ (Go.Proofs.Ytidedlbieakagaa.rows l q n size = none ∧ e = .panicked Short ∧ BB N a l cap L w w')) := by
  refine (Rows_any N a l _ cap q n size W h.2.1 h.hN rfl h.2.2.2.1 h.2.2.2.2).mono fun e w' hh => ?_
  rcases hh.or with ⟨x, a', hx, he, hb, hK⟩ | ⟨hx, he, hK⟩
  · exact .inl ⟨x, a', hx, he, hb, h.kp hK⟩
  · exact .inr ⟨hx, he, h.kp hK⟩
theorem BB.number (q size : Int) (W : World) (h : BB N a l cap L w W) :
    Calls Try.prog 111 #[.agg #[.slice a l.length cap], .int .i64 q, .int .i64 size] W (fun e w' => (∃ x, num l q size = some x ∧ e = .returned (.int .i64 x) ∧ BB N a l cap L w w') ∨ (num l q size = none ∧ e = .panicked Short ∧ BB N a l cap L w w')) := by
  refine (number_any N a l _ cap q size W h.2.1 h.hN rfl h.2.2.2.1 h.2.2.2.2).mono fun e w' hh => ?_
  rcases hh.or with ⟨x, hx, he, hK⟩ | ⟨hx, he, hK⟩
  · exact .inl ⟨x, hx, he, h.kp hK⟩
  · exact .inr ⟨hx, he, h.kp hK⟩
theorem BB.list (hlen : l.length ≤ 1073741824) (q n size : Int) (hs : size = 1 ∨ size = 2 ∨ size = 4) (W : World) (h : BB N a l cap L w W) :
    Calls Try.prog 85 #[.agg #[.slice a l.length cap], .int .i64 q, .int .i64 n, .int .i64 size] W (fun e w' => (∃ xs v, Go.Proofs.Ytidedlbieakagaa.list l q n size = some xs ∧ e = .returned v ∧ Ints (New W w') w' v xs ∧ BB N a l cap L w w') ∨ (Go.Proofs.Ytidedlbieakagaa.list l q n size = none ∧ e = .panicked Short ∧ BB N a l cap L w w')) := by
  refine (list_any N a l _ cap q n size W h.2.1 h.hN rfl h.2.2.2.1 h.2.2.2.2 hlen hs).mono fun e w' hh => ?_
  cases hq : Go.Proofs.Ytidedlbieakagaa.list l q n size with
  | some xs => rw [hq] at hh; obtain ⟨v, he, hi, hK⟩ := hh; exact .inl ⟨xs, v, rfl, he, hi, h.kp hK⟩
  | none => rw [hq] at hh; exact .inr ⟨rfl, hh.1, h.kp hh.2⟩
theorem BB.seek (hlen : l.length ≤ 1073741824) (p need : Int) (keys : Nat) (hk : 2 * (keys : Int) ≤ need) (hp0 : 0 ≤ p) (hp1 : p ≤ 65536) (W : World) (h : BB N a l cap L w W) :
    Calls Try.prog 112 #[.agg #[.slice a l.length cap], .int .i64 p, .int .i64 need, .int .i64 keys] W (fun e w' => (∃ ls v, seekTake l p need keys = some ls ∧ e = .returned v ∧ Views w'.heap.size w' v ls ∧ BB N a l cap L w w') ∨ (seekTake l p need keys = none ∧ e = .panicked Short ∧ BB N a l cap L w w')) := by
  refine (seekTake_any N a l _ cap p need keys W h.2.1 h.hN rfl h.2.2.2.1 h.2.2.2.2 hlen hk hp0 hp1).mono fun e w' hh => ?_
  cases hq : seekTake l p need keys with
  | some xs => rw [hq] at hh; obtain ⟨v, he, hi, hK⟩ := hh; exact .inl ⟨xs, v, rfl, he, hi, h.kp hK⟩
  | none => rw [hq] at hh; exact .inr ⟨rfl, hh.1, h.kp hh.2⟩
theorem BB.seekK (hlen : l.length ≤ 1073741824) (p need : Int) (keys : Nat) (kI : Int) (hkI : kI = (keys : Int)) (hk : 2 * kI ≤ need) (hp0 : 0 ≤ p) (hp1 : p ≤ 65536) (W : World) (h : BB N a l cap L w W) :
    Calls Try.prog 112 #[.agg #[.slice a l.length cap], .int .i64 p, .int .i64 need, .int .i64 kI] W (fun e w' => (∃ ls v, seekTake l p need keys = some ls ∧ e = .returned v ∧ Views w'.heap.size w' v ls ∧ BB N a l cap L w w') ∨ (seekTake l p need keys = none ∧ e = .panicked Short ∧ BB N a l cap L w w')) := by
  subst hkI
  exact BB.seek hlen p need keys hk hp0 hp1 W h
theorem BB.app {B0 : Nat} {row : Option Nat} {W8 w9 : World} (h : BB N a l cap L w W) (hL : ∀ x ∈ L, x.1 < B0) (hwB : w.heap.size ≤ B0) (hBr : B0 ≤ W.heap.size) (hK : Kp W W8) (hv : ∀ j, row = some j → B0 ≤ j) (hg : W8.grownBy w9 row) :
    BB N a l cap L w w9 ∧ Below B0 W w9 ∧ B0 ≤ w9.heap.size := by
  have h8 : B0 ≤ W8.heap.size := Nat.le_trans hBr hK.1.size
  obtain ⟨hO9, hB9⟩ := grown_own (h.1.kp hK) hL hwB h8 hv hg
  have hB : Below B0 W w9 := (hK.1.mono hBr).trans hB9
  exact ⟨⟨hO9, h.2.1.frame (hB.mono (by have := h.2.2.1; omega)), h.2.2⟩, hB, Nat.le_trans h8 hB9.size⟩
omit [Lo] in
theorem seekTake_len {l : List Int} {p need : Int} {keys : Nat} {rs : List (List Int)} (hw : Wf l) (h : seekTake l p need keys = some rs) : rs.length ≤ 65536 := by
  unfold seekTake at h
  cases h1 : Go.Proofs.Ytidedlbieakagaa.u16 l p with
  | none => rw [h1] at h; cases h
  | some size =>
    cases h2 : Go.Proofs.Ytidedlbieakagaa.u16 l (p + 2) with
    | none => rw [h1, h2] at h; cases h
    | some n =>
      have := u16_lt hw h2
      rw [h1, h2] at h
      simp only at h
      split at h
      · split at h
        · injection h with h
          subst h
          split <;> simp <;> omega
        · cases h
      · cases h
theorem BB.mid (h : BB N a l cap L w W) : BB N a l cap [] W W := ⟨Own.start W, h.2.1, h.hN, h.2.2.2⟩
end Go.Proofs.Ytidedlbieakagaa
