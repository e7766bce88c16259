/- A RANGE OVER A FUNCTION WHOSE ROUNDS MAY PANIC: the round's law with a panic taken in (the library's law of a round asks 'False' there). -/
import Derived.Test.YtidedlbieakagaaGet2
import Derived.RangeFuncLeaves
import Derived.RangeFuncOwn
namespace Go.Proofs.Ytidedlbieakagaa
open Go.RowKit
variable {F : Fence} {n : Nat} {P : Program}
def roundPostP (P : Program) (l : Nat) (R : Ending → World → Prop) : Exit → Act → World → Prop
  | .normal, _, w => ∃ v w', (Instr.endRound l none).run P w = .ok v w' ∧ R (.returned v) w'
  | .panic chain, a, w => a.defers = [] ∧ R (.panicked chain) w
  | _, _, _ => False
theorem roundIn_of_wpP {l : Nat} {f : FuncId} {fn : Func} {tmps : Array Value} {assign body : Code} {w : World} {R : Ending → World → Prop} (hf : P.funcs[f]? = some fn) (hF : F.fn f)
    (h : assign.wpIn (F.inRound l) n P (Exit.then (fun a₁ w₁ => ∃ w₂, (Instr.beginRound l).run P w₁ = .ok () w₂ ∧ body.wpIn (F.inRound l) n P (roundPostP P l R) a₁ w₂) (fun _ _ _ => False)) { tmps := tmps, defers := [] } w) :
    RoundIn F n P l f tmps assign body w R := by
  refine ⟨hF, fun c cs hr => ?_⟩
  let b : Frame := { (default : Frame) with fn := f, kind := .normal, roundOf := some l }
  have hb0 : Frame.round l f tmps assign body .normal = b.atR { tmps := tmps, defers := [] } [.code assign, .beginRound, .code body] := by
    simp [Frame.round, Frame.atR, b]
  have hr' : (F.inRound l).room ((c :: cs).length + 1 + n) := hr
  have hF' : (F.inRound l).fn b.fn := hF
  obtain ⟨e, a₁, w₁, hq, harr⟩ := h b [.beginRound, .code body] (c :: cs) rfl hF' hr'
  rw [← hb0] at harr
  cases e with
  | normal =>
    obtain ⟨w₂, hbr, hbody⟩ := hq
    have s1 : StepsIn (Machine.fenced P (F.inRound l)) P (lone (b.atR a₁ [.beginRound, .code body]) (c :: cs) w₁) (lone (b.atR a₁ [.code body]) (c :: cs) w₂) :=
      .one (fenced_calm (fr := b.atR a₁ [.beginRound, .code body]) hF' hr' rfl) (stepR_beginRound rfl hbr)
    obtain ⟨e₂, a₂, w₃, hq₂, harr₂⟩ := hbody b [] (c :: cs) rfl hF' hr'
    cases e₂ with
    | normal =>
      obtain ⟨v, w₄, hend, hR⟩ := hq₂
      exact ⟨.returned v, w₄, hR, (StepsIn.trans harr s1).trans (StepsIn.trans harr₂ (.one (fenced_calm (fr := b.atR a₂ []) hF' hr' rfl) (stepR_round_end rfl rfl hend)))⟩
    | panic chain =>
      obtain ⟨hd, hR⟩ := hq₂
      obtain ⟨todo, hs⟩ := harr₂
      have hl : Frame.leaving P { b.atR a₂ todo with mode := .panicking chain } w₃ (.panicked chain) := ⟨rfl, by simpa [Frame.atR] using hd, fn, hf⟩
      refine ⟨.panicked chain, w₃, hR, (StepsIn.trans harr s1).trans (StepsIn.trans hs (.one (fenced_leaving (n := n) (F := F.inRound l) hF' hr' hl) (step_leave_panicked hl)))⟩
    | ret => exact hq₂.elim
    | exit id => exact hq₂.elim
    | goto t => exact hq₂.elim
    | outgrown => exact hq₂.elim
  | exit id => exact hq.elim
  | goto t => exact hq.elim
  | ret => exact hq.elim
  | panic chain => exact hq.elim
  | outgrown => exact hq.elim
/-- 'Code.wp', of the frames of one function: a round's panic asks that its function be known. -/
def wpAt (f : FuncId) (P : Program) (c : Code) (Q : Exit → Act → World → Prop) (a : Act) (w : World) : Prop :=
  ∀ (b : Frame) (k : List Item) (cs : List Frame), b.fn = f → b.roundOf = none →
    ∃ e a' w', Q e a' w' ∧ ArrivesIn (Machine.fenced P Fence.wide) P (lone (b.atR a (.code c :: k)) cs w) b k cs e a' w'
section
variable {f : FuncId} {x y c : Code} {Q : Exit → Act → World → Prop} {a : Act} {w : World}
theorem wpAt_of_wp (h : c.wp P Q a w) : wpAt f P c Q a w := fun b k cs _ hro => (wpIn_wide (n := 0)).2 h b k cs hro trivial (room_wide _)
theorem wpAt_seq (h : wpAt f P x (Exit.then (wpAt f P y Q) Q) a w) : wpAt f P (Code.seq x y) Q a w := by
  intro b k cs hf hro
  obtain ⟨e, a₁, w₁, hq, harr⟩ := h b (.code y :: k) cs hf hro
  have h0 := fenced_wide P (lone (b.atR a (.code (.seq x y) :: k)) cs w)
  cases e with
  | normal =>
    obtain ⟨e₂, a₂, w₂, hq₂, harr₂⟩ := hq b k cs hf hro
    exact ⟨e₂, a₂, w₂, hq₂, .of_steps (.head h0 stepR_seq harr) harr₂⟩
  | exit id => exact ⟨_, a₁, w₁, hq, .of_steps (.one h0 stepR_seq) (.pass (x := .code y) rfl (fun _ _ => .inl (by simp)) harr)⟩
  | goto l => exact ⟨_, a₁, w₁, hq, .of_steps (.one h0 stepR_seq) (.pass (x := .code y) rfl (fun _ _ => .inl (by simp)) harr)⟩
  | ret => exact ⟨_, a₁, w₁, hq, .of_steps (.one h0 stepR_seq) (.pass (x := .code y) rfl (fun _ _ => .inl (by simp)) harr)⟩
  | panic ch => exact ⟨_, a₁, w₁, hq, .of_steps (.one h0 stepR_seq) (.pass (x := .code y) rfl (fun _ _ => .inl (by simp)) harr)⟩
  | outgrown => exact ⟨_, a₁, w₁, hq, .of_steps (.one h0 stepR_seq) (.pass (x := .code y) rfl (fun _ _ => .inl (by simp)) harr)⟩
theorem wpAt_seq_k (h : ∀ K : Act → World → Prop, (∀ a w, wpAt f P y Q a w → K a w) → x.wp P (Exit.then K Q) a w) : wpAt f P (Code.seq x y) Q a w := wpAt_seq (wpAt_of_wp (h _ fun _ _ h => h))
/-- .. the block of a loop that is left by no exit of its own. -/
theorem wpAt_block {id : Nat} (h : wpAt f P c (fun e a w => match e with | .normal => Q .normal a w | .panic ch => Q (.panic ch) a w | _ => False) a w) : wpAt f P (Code.block id c) Q a w := by
  intro b k cs hf hro
  have h0 := fenced_wide P (lone (b.atR a (.code (.block id c) :: k)) cs w)
  obtain ⟨e, a₁, w₁, hq, harr⟩ := h b (.inBlock id :: k) cs hf hro
  cases e with
  | normal => exact ⟨.normal, a₁, w₁, hq, .head h0 stepR_block (StepsIn.trans harr (.one (fenced_wide _ _) stepR_inBlock))⟩
  | panic ch => exact ⟨_, a₁, w₁, hq, .of_steps (.one h0 stepR_block) harr⟩
  | exit id => exact hq.elim
  | goto l => exact hq.elim
  | ret => exact hq.elim
  | outgrown => exact hq.elim
/-- The statement, by one call of the function that is ranged over; no jump out of it is pending. -/
theorem wpAt_rangeFunc {g : Operand} {ps : Array Tmp} {assign body : Code} {l : Nat} {mark : List Deferred} {w₁ : World} {d : Deferred} {w₁' : World} {f' : FuncId} {args : Array Value} {w₂ : World}
    (he : (Instr.enterLoop f a.tmps ps assign body none).run P w = .ok (l, mark) w₁) (hres : (resolve a.eval (rangeCall g l) 0).run P w₁ = .ok d w₁') (hinv : (invoke d.target d.args).run P w₁' = .ok (.enter f' args) w₂)
    (hcall : CallsIn Fence.wide 4 P f' args w₂ fun e w₃ => match e with
      | .returned _ => ∃ w₄, (Instr.endLoop l).run P w₃ = .ok none w₄ ∧ Q .normal { a with defers := mark ++ a.defers } w₄
      | .panicked chain => Q (.panic chain) { a with defers := mark ++ a.defers } w₃
      | .outgrown => False) : wpAt f P (Code.rangeFunc g ps assign body) Q a w := by
  intro b k cs hf hro
  have henter := stepR_rangeFunc (P := P) (b := b) (a := a) (k := k) (cs := cs) (w := w) (by rw [hf, hro]; exact he) hres hinv
  obtain ⟨e, w₃, fr, hR, hsteps, hfn, hleave⟩ := hcall.2 (b.atR { a with defers := mark ++ a.defers } (.inRangeFunc l :: k) :: cs) (room_wide _)
  cases e with
  | outgrown => exact hR.elim
  | returned v =>
    obtain ⟨w₄, hend, hj⟩ := hR
    refine ⟨.normal, _, w₄, hj, .head (fenced_wide _ _) henter (StepsIn.trans hsteps (.head (fenced_wide _ _) ?_ (.one (fenced_wide _ _) (stepR_endRangeFunc hend))))⟩
    rw [← finish_atR_inRangeFunc l v]; exact step_leave_returned hleave
  | panicked chain =>
    refine ⟨.panic chain, _, w₃, hR, .inRangeFunc l :: k, .head (fenced_wide _ _) henter (StepsIn.trans hsteps (.one (fenced_wide _ _) ?_))⟩
    rw [← Frame.raise_atR]; exact step_leave_panicked hleave
end
/-- A function's contract from its body; marks among the deferred calls. -/
theorem calls_of_wpAt {n : Nat} {f : FuncId} {fn : Func} {c : Code} {args : Array Value} {w : World} {R : Ending → World → Prop} (hf : P.funcs[f]? = some fn) (hb : fn.body = some c)
    (h : wpAt f P c (bodyPostM Fence.wide n P fn R) { tmps := args ++ Array.replicate (fn.ntmps - args.size) undef, defers := [] } w) : Calls P f args w R := by
  refine (callsIn_wide (n := n)).1 ⟨trivial, fun cs hr => ?_⟩
  let b : Frame := { (default : Frame) with fn := f, kind := .normal, roundOf := none }
  have henter : Frame.enter P f args .normal = b.atR { tmps := args ++ Array.replicate (fn.ntmps - args.size) undef, defers := [] } [.code c] := by
    simp [Frame.enter, Frame.atR, hf, hb, b]
  obtain ⟨e, a', w', hq, harr⟩ := h b [] cs rfl rfl
  rw [← henter] at harr
  cases e with
  | normal =>
    obtain ⟨e', w'', fr', hR, hs, hfn, hl⟩ := leaves_stepsInM a'.defers .returning w' { b.atR a' [] with mode := .returning } cs rfl rfl rfl hf rfl trivial hr hq
    exact ⟨e', w'', fr', hR, ComesIn.of_steps (StepsIn.trans harr (.one (fenced_wide _ _) (stepR_end rfl))) hs, hfn, hl⟩
  | ret =>
    obtain ⟨todo, hs₀⟩ := harr.1 rfl
    obtain ⟨e', w'', fr', hR, hs, hfn, hl⟩ := leaves_stepsInM a'.defers .returning w' { b.atR a' todo with mode := .returning } cs rfl rfl rfl hf rfl trivial hr hq
    exact ⟨e', w'', fr', hR, ComesIn.of_steps hs₀ hs, hfn, hl⟩
  | panic chain =>
    obtain ⟨todo, hs₀⟩ := harr
    obtain ⟨e', w'', fr', hR, hs, hfn, hl⟩ := leaves_stepsInM a'.defers (.panicking chain) w' { b.atR a' todo with mode := .panicking chain } cs rfl rfl rfl hf rfl trivial hr hq
    exact ⟨e', w'', fr', hR, ComesIn.of_steps hs₀ hs, hfn, hl⟩
  | exit id => exact hq.elim
  | goto l => exact hq.elim
  | outgrown => exact ⟨.outgrown, w', b, hq, harr.resolve_left (by simp [b]), rfl, trivial⟩
end Go.Proofs.Ytidedlbieakagaa
