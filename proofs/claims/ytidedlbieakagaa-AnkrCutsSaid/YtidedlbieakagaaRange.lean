/- THE STATEMENT 'for .. := range t.All()', whose rounds may panic. -/
import Derived.Test.YtidedlbieakagaaAnkr0
namespace Go.Proofs.Ytidedlbieakagaa
open Go.RowKit
/-- How a round's body is left. -/
def bodyR (I : Nat → World → Prop) (Ip : World → Prop) (B k : Nat) (W : World) : Exit → Act → World → Prop
  | .normal, _, W' => I (k + 1) W' ∧ KB B W W'
  | .panic ch, a, W' => a.defers = [] ∧ ch = Short ∧ Ip W' ∧ KB B W W'
  | _, _, _ => False
theorem bodyR_panic {I : Nat → World → Prop} {Ip : World → Prop} {B k : Nat} {W W' : World} {a : Act} (hd : a.defers = []) (h : Ip W') (hk : KB B W W') : bodyR I Ip B k W (.panic Short) a W' := ⟨hd, rfl, h, hk⟩
set_option maxHeartbeats 1000000 in
theorem range_all {f : FuncId} {fn : Func} (hf : Try.prog.funcs[f]? = some fn) {vs : Array Tmp} {assign body : Code} {Q : Exit → Act → World → Prop} {a : Act} {w : World} {bx b : Nat} (g : Operand) (hg : a.eval g = .func (.func 89) #[] #[.pointer (some ⟨bx, 0, none⟩)])
    (hvs : vs.size = 2) (ps : List Part) (hw : PW ps) (hlen : ps.length ≤ 1073741824) (P : Nat → Prop) (hP : ∀ b, P b → b < w.heap.size) (hbx : w.cell? ⟨bx, 0, none⟩ = some (.pointer (some ⟨b, 0, none⟩))) (hbP : P bx) (ht : Tab P w b ps)
    (I : Nat → World → Prop) (Ip : World → Prop) (hIk : ∀ k W W', I k W → Kp W W' → I k W') (hIput : ∀ k W j o, I k W → w.heap.size ≤ j → I k (W.putObj j o)) (hIP : ∀ k W, I k W → Same P w W) (hI0 : I 0 w)
    (a₁ : Int × Int → Act)
    (hassign : ∀ (l : Nat) (x : Int × Int) (W : World) (K : Act → World → Prop), K (a₁ x) W →
      assign.wpIn (Fence.wide.inRound l) 3 Try.prog (Exit.then K (fun _ _ _ => False)) { tmps := (vs.zip #[.int .i64 x.1, .int .i64 x.2]).foldl (fun t (p, v) => t.setIfInBounds p v) a.tmps, defers := [] } W)
    (hbody : ∀ (l k : Nat) (x : Int × Int) (W : World), (allOf ps)[k]? = some x → I k W → body.wpIn (Fence.wide.inRound l) 3 Try.prog (bodyR I Ip w.heap.size k W) (a₁ x) W)
    (hdone : ∀ (D : Nat) (W : World), I (allOf ps).length W → w.heap.size ≤ D → W.heap[D]? = some (.deferred (some [])) → Q .normal { a with defers := { target := .collected D, args := #[] } :: a.defers } W)
    (hpanic : ∀ (D : Nat) (W : World), Ip W → w.heap.size ≤ D → W.heap[D]? = some (.deferred (some [])) → Q (.panic Short) { a with defers := { target := .collected D, args := #[] } :: a.defers } W) :
    wpAt f Try.prog (Code.rangeFunc g vs assign body) Q a w := by
  obtain ⟨rec, hrec⟩ : ∃ rec : LoopState → Loop, rec = fun st => { state := st, pending := none, fn := f, tmps := a.tmps, params := vs, assign, body, defers := w.heap.size } := ⟨_, rfl⟩
  obtain ⟨W1, hW1⟩ : ∃ W1, (w.alloc (.deferred (some []))).alloc (.loop (rec .ready)) = W1 := ⟨_, rfl⟩
  have hL1 : W1.heap[w.heap.size + 1]? = some (.loop (rec .ready)) := by
    rw [← hW1]; have := World.alloc_heap_new (w.alloc (.deferred (some []))) (.loop (rec .ready)); rwa [World.size_alloc] at this
  have hD1 : W1.heap[w.heap.size]? = some (.deferred (some [])) := by
    rw [← hW1]; exact (Below.heap_alloc _ _ _ (by simp)).trans (World.alloc_heap_new w _)
  have hk1 : Kp w W1 := by rw [← hW1]; exact ((Kp.refl w).alloc _).alloc _
  have hz1 : W1.heap.size = w.heap.size + 2 := by rw [← hW1]; simp
  have hI1 := hIk _ _ _ hI0 hk1
  have hstate : ∀ st, (rec st).state = st := fun st => by rw [hrec]
  refine wpAt_rangeFunc (l := w.heap.size + 1) (mark := [{ target := .collected w.heap.size, args := #[] }]) (w₁ := W1) (d := { target := .fn (.func 89) #[.pointer (some ⟨bx, 0, none⟩)], args := #[.func (.yield (w.heap.size + 1)) #[] #[]] }) (w₁' := W1)
    (f' := 89) (args := #[.func (.yield (w.heap.size + 1)) #[] #[], .pointer (some ⟨bx, 0, none⟩)]) (w₂ := W1) ?_ ?_ ?_ ?_
  · rw [← hW1, hrec]; exact run_enterLoop_outer _ _ _ _ _
  · simp only [resolve, hg]
    simp [go_sem]
  · simp [invoke, go_sem]
  · have hC := All1_any 4 (w.heap.size + 1) bx b (w.heap.size + 2) ps hw hlen P
      (fun k W => I k W ∧ W.heap[w.heap.size + 1]? = some (.loop (rec .ready)) ∧ W.heap[w.heap.size]? = some (.deferred (some [])))
      (fun W => Ip W ∧ W.heap[w.heap.size]? = some (.deferred (some []))) W1
      (fun b hb => by have := hP b hb; omega)
      ((World.cell?_of_block (a := ⟨bx, 0, none⟩) (hk1.1.block bx (hP bx hbP))).trans hbx)
      (ht.frame ((Same.of_below hk1.1).mono fun b hb => hP b hb))
      (fun k W W' h k' => ⟨hIk _ _ _ h.1 k', (k'.1.block _ (Array.getElem?_eq_some_iff.1 h.2.1).1).trans h.2.1, (k'.1.block _ (Array.getElem?_eq_some_iff.1 h.2.2).1).trans h.2.2⟩)
      (fun k W h => ⟨fun c hc => (hIP k W h.1 c hc).trans (hk1.1.block c (hP c hc)).symm, by have := (Array.getElem?_eq_some_iff.1 h.2.1).1; omega⟩)
      ?_ ⟨hI1, hL1, hD1⟩
    · refine hC.mono ?_
      rintro e W2 (⟨⟨v, rfl⟩, hi, hl, hd⟩ | ⟨rfl, hi, hd⟩)
      · have he := run_endLoop (P := Try.prog) hl (by rw [hstate]; simp)
        rw [show (rec .ready).pending = none by rw [hrec]] at he
        exact ⟨_, he, hdone _ _ (hIput _ _ _ _ hi (by omega)) (Nat.le_refl _) ((World.putObj_heap_other (by omega)).trans hd)⟩
      · exact hpanic _ _ hi (Nat.le_refl _) hd
    · rintro k x W hx ⟨hi, hl, hd⟩
      have hlt : w.heap.size + 1 < W.heap.size := (Array.getElem?_eq_some_iff.1 hl).1
      have hy := run_yield (P := Try.prog) (args := #[.int .i64 x.1, .int .i64 x.2]) hl (by rw [hrec]; simp [hvs])
      rw [hrec] at hy
      have hbr := run_beginRound (P := Try.prog) hl (hstate _)
      obtain ⟨W2, hW2⟩ : ∃ W2, W.putObj (w.heap.size + 1) (.loop { rec .ready with state := .busy }) = W2 := ⟨_, rfl⟩
      rw [hW2] at hbr
      refine ⟨f, _, assign, body, hy, roundIn_of_wpP hf trivial (hassign _ x W _ ⟨W2, hbr, ?_⟩)⟩
      have hl2 : W2.heap[w.heap.size + 1]? = some (.loop { rec .ready with state := .busy }) := by rw [← hW2]; exact World.putObj_heap_same hlt
      have ho2 : ∀ c, c ≠ w.heap.size + 1 → W2.heap[c]? = W.heap[c]? := fun c hc => by rw [← hW2]; exact World.putObj_heap_other hc
      have hd2 := (ho2 w.heap.size (by omega)).trans hd
      have hz2 : W2.heap.size = W.heap.size := by rw [← hW2]; simp
      have hI2 : I k W2 := by rw [← hW2]; exact hIput _ _ _ _ hi (by omega)
      clear hW2 hbr
      refine wpIn_mono (hbody _ k x _ hx hI2) ?_
      rintro e a3 W3 hp
      cases e with
      | normal =>
        obtain ⟨hi3, hkb⟩ := hp
        have hl3 := (hkb.2 _ (by omega) (by omega)).trans hl2
        have hd3 := (hkb.2 _ (by omega) (by omega)).trans hd2
        have he := run_endRound (P := Try.prog) none hl3
        refine ⟨_, _, he, .inl ⟨rfl, ⟨hIput _ _ _ _ hi3 (by omega), ?_, (World.putObj_heap_other (by omega)).trans hd3⟩, ?_⟩⟩
        · rw [World.putObj_heap_same (Array.getElem?_eq_some_iff.1 hl3).1]; rw [hrec]; rfl
        · refine ⟨by have := hkb.1; simp; omega, fun c hc hcl => ?_⟩
          rw [World.putObj_heap_other (by omega), hkb.2 c (by omega) (by omega), ho2 c (by omega)]
      | panic ch =>
        obtain ⟨hdf, rfl, hi3, hkb⟩ := hp
        exact ⟨hdf, .inr ⟨rfl, hi3, (hkb.2 _ (by omega) (by omega)).trans hd2⟩⟩
      | ret => exact hp.elim
      | exit id => exact hp.elim
      | goto t => exact hp.elim
      | outgrown => exact hp.elim
end Go.Proofs.Ytidedlbieakagaa
