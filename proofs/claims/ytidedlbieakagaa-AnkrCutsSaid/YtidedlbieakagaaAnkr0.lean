/- BEFORE THE WALK of ankr.Take. -/
import Derived.Test.YtidedlbieakagaaSpec3
import Derived.Test.YtidedlbieakagaaAll
import Derived.Maps.OwnIn
namespace Go.Proofs.Ytidedlbieakagaa
open Go.RowKit
variable [Lo]
def okAt (data : List Int) (x : Int) : Bool := match u32 data x with | some n => (rows data (x + 4) n 4).isSome | none => false
/-- The table of points that bytes begin with: a lookup's parts, and the points' bytes. -/
def ankrTake (l : List Int) (glyphs : Int) : Option (List Part × List Int) :=
  match u16 l 0, u32 l 4 with
  | some k, some p =>
    if k = 0 then
      match rest l p with
      | some m =>
        match lkTake m glyphs 2, u32 l 8 with
        | some ps, some q =>
          match rest l q with
          | some data => if (allOf ps).all (fun x => okAt data x.2) then some (ps, data) else none
          | none => none
        | _, _ => none
      | none => none
    else none
  | _, _ => none
def ankrHead (l : List Int) (glyphs : Int) : Option (List Part × List Int) :=
  match u16 l 0, u32 l 4 with
  | some k, some p =>
    if k = 0 then
      match rest l p with
      | some m =>
        match lkTake m glyphs 2, u32 l 8 with
        | some ps, some q =>
          match rest l q with
          | some data => some (ps, data)
          | none => none
        | _, _ => none
      | none => none
    else none
  | _, _ => none
omit [Lo] in
theorem ankrTake_head (l : List Int) (glyphs : Int) : ankrTake l glyphs = (ankrHead l glyphs).bind fun x => if (allOf x.1).all (fun y => okAt x.2 y.2) then some x else none := by
  unfold ankrTake ankrHead
  cases u16 l 0 <;> cases u32 l 4 <;> try rfl
  rename_i k p
  simp only
  split
  · cases rest l p <;> try rfl
    rename_i m
    simp only
    cases lkTake m glyphs 2 <;> cases u32 l 8 <;> try rfl
    rename_i ps q
    simp only
    cases rest l q <;> rfl
  · rfl
omit [Lo] in
theorem rest_len {l m : List Int} {p : Int} (h : rest l p = some m) : m.length ≤ l.length := by
  unfold rest at h; exact (pc_length h).2.2
omit [Lo] in
theorem u32_lt {l : List Int} {p x : Int} (hw : Wf l) (h : u32 l p = some x) : 0 ≤ x ∧ x ≤ 4294967295 := by
  unfold u32 at h; split at h
  · have := hw.B p; have := hw.B (p + 1); have := hw.B (p + 2); have := hw.B (p + 3); cases h; omega
  · cases h
omit [Lo] in
theorem TabPost.or {o : Option (List Part)} {w w' : World} {e : Ending} (h : TabPost o w e w') : (∃ ps b, o = some ps ∧ e = .returned (.pointer (some ⟨b, 0, none⟩)) ∧ Tab (New w w') w' b ps ∧ Kp w w') ∨ (o = none ∧ e = .panicked Short ∧ Kp w w') := by
  cases o with
  | some ps => obtain ⟨b, h1, h2, h3⟩ := h; exact .inl ⟨ps, b, rfl, h1, h2, h3⟩
  | none => exact .inr ⟨rfl, h.1, h.2⟩
/-- A table of points. -/
def AT (N : Nat) (P : Nat → Prop) (w : World) (b : Nat) (ps : List Part) (data : List Int) : Prop := P b ∧ ∃ bT a, Blk w b 42 #[.pointer (some ⟨bT, 0, none⟩), .slice a data.length data.length] ∧ Tab P w bT ps ∧ Bts N w a data
def AnkrPost (N : Nat) (o : Option (List Part × List Int)) (w : World) (e : Ending) (w' : World) : Prop := match o with | some x => (∃ b, e = .returned (.pointer (some ⟨b, 0, none⟩)) ∧ AT N (New w w') w' b x.1 x.2 ∧ Kp w w') | none => Fails w e w'
/-- What the body of a function with one range over a function must achieve; a panic's post looks at the deferred calls alone, at no slot. -/
def postK (n : Nat) (P : Program) (fn : Func) (R : Ending → World → Prop) (e : Exit) (a : Act) (w : World) : Prop :=
  match e with
  | .panic ch => (a.defers = [] ∧ R (.panicked ch) w) ∨ ∃ D w', a.defers = [{ target := .collected D, args := #[] }] ∧ (Instr.takeDeferred D).run P w = .ok [] w' ∧ R (.panicked ch) w'
  | e => bodyPostM Fence.wide n P fn R e a w
omit [Lo] in
theorem wpAt_mono {f : FuncId} {P : Program} {c : Code} {Q Q' : Exit → Act → World → Prop} {a : Act} {w : World} (hq : ∀ e a w, Q e a w → Q' e a w) (h : wpAt f P c Q a w) : wpAt f P c Q' a w :=
  fun b k cs h1 h2 => let ⟨e, a', w', q, r⟩ := h b k cs h1 h2; ⟨e, a', w', hq _ _ _ q, r⟩
omit [Lo] in
theorem calls_of_wpAtK {n : Nat} {P : Program} {f : FuncId} {fn : Func} {c : Code} {args : Array Value} {w : World} {R : Ending → World → Prop} (hf : P.funcs[f]? = some fn) (hb : fn.body = some c)
    (h : wpAt f P c (postK n P fn R) { tmps := args ++ Array.replicate (fn.ntmps - args.size) undef, defers := [] } w) : Calls P f args w R := by
  refine calls_of_wpAt (n := n) hf hb (wpAt_mono ?_ h)
  intro e a w hq
  cases e with
  | panic ch =>
    rcases hq with ⟨hd, hR⟩ | ⟨D, w', hd, ht, hR⟩
    · show LeavesInM Fence.wide n P fn a.tmps R a.defers (.panicking ch) w
      rw [hd]; exact hR
    · show LeavesInM Fence.wide n P fn a.tmps R a.defers (.panicking ch) w
      rw [hd]
      exact ⟨by simp, .inl ⟨D, w', rfl, ht, hR⟩⟩
  | normal => exact hq
  | ret => exact hq
  | exit id => exact hq
  | goto l => exact hq
  | outgrown => exact hq
omit [Lo] in
theorem mpanic {n : Nat} {P : Program} {fn : Func} {R : Ending → World → Prop} {chain : List PanicEntry} {tmps : Array Value} {w : World} (h : R (.panicked chain) w) : postK n P fn R (.panic chain) { tmps := tmps, defers := [] } w := .inl ⟨rfl, h⟩
omit [Lo] in
theorem ankrHead_n1 {l : List Int} {g : Int} (h : u16 l 0 = none) : ankrHead l g = none := by simp [ankrHead, h]
omit [Lo] in
theorem ankrHead_n2 {l : List Int} {g k : Int} (h : u16 l 0 = some k) (hk : ¬ k = 0) : ankrHead l g = none := by unfold ankrHead; rw [h]; cases u32 l 4 <;> simp [hk]
omit [Lo] in
theorem ankrHead_n3 {l : List Int} {g : Int} (h : u32 l 4 = none) : ankrHead l g = none := by unfold ankrHead; rw [h]; cases u16 l 0 <;> rfl
omit [Lo] in
theorem ankrHead_n4 {l : List Int} {g p : Int} (h : u32 l 4 = some p) (h2 : rest l p = none) : ankrHead l g = none := by unfold ankrHead; rw [h]; cases u16 l 0 <;> simp [h2]
omit [Lo] in
theorem ankrHead_n5 {l m : List Int} {g p : Int} (h : u32 l 4 = some p) (h2 : rest l p = some m) (h3 : lkTake m g 2 = none) : ankrHead l g = none := by unfold ankrHead; rw [h]; cases u16 l 0 <;> simp [h2, h3]
omit [Lo] in
theorem ankrHead_n6 {l m : List Int} {g p : Int} (h : u32 l 4 = some p) (h2 : rest l p = some m) (h3 : u32 l 8 = none) : ankrHead l g = none := by
  unfold ankrHead; rw [h]; cases u16 l 0 <;> simp only [h2, h3]
  cases lkTake m g 2 <;> simp
omit [Lo] in
theorem ankrHead_n7 {l m : List Int} {g p q : Int} (h : u32 l 4 = some p) (h2 : rest l p = some m) (h3 : u32 l 8 = some q) (h4 : rest l q = none) : ankrHead l g = none := by
  unfold ankrHead; rw [h]; cases u16 l 0 <;> simp only [h2, h3]
  cases lkTake m g 2 <;> simp [h4]
omit [Lo] in
theorem ankrHead_y {l m data : List Int} {g k p q : Int} {ps : List Part} (h0 : u16 l 0 = some k) (hk : k = 0) (h : u32 l 4 = some p) (h2 : rest l p = some m) (h5 : lkTake m g 2 = some ps) (h3 : u32 l 8 = some q) (h4 : rest l q = some data) : ankrHead l g = some (ps, data) := by
  simp [ankrHead, h0, hk, h, h2, h3, h4, h5]
omit [Lo] in
theorem Tab.on {w W W' : World} {b : Nat} {ps : List Part} (h : Tab (New w W) W b ps) (k : Kp W W') : Tab (New w W') W' b ps :=
  (h.frame ((Same.of_below k.1).mono fun _b hb => hb.2)).mono fun _b hb => ⟨hb.1, Nat.lt_of_lt_of_le hb.2 k.1.size⟩
section
variable {N : Nat} {a : Option Addr} {l : List Int} {cap : Nat} {L : List (Nat × TypeId × Array Value)} {w : World}
theorem BB.set1 {W : World} {b b' : Nat} {t t' : TypeId} {x : Value} {cs : Array Value} (h : BB N a l cap [(b, t, #[x]), (b', t', cs)] w W) (hd : b' < b) (u : Value) : BB N a l cap [(b, t, #[u]), (b', t', cs)] w (W.setCell ⟨b, 0, none⟩ u) :=
  h.set (by intro y hy; simp at hy; subst hy; simp; omega) 0 u
theorem BB.u32M (q : Int) (W : World) (h : BB N a l cap L w W) :
    Calls Try.prog 40 #[.agg #[.slice a l.length cap], .int .i64 q] W (fun e w' => (∃ x, Go.Proofs.Ytidedlbieakagaa.u32 l q = some x ∧ e = .returned (.int .i64 x) ∧ Kp W w') ∨ (Go.Proofs.Ytidedlbieakagaa.u32 l q = none ∧ e = .panicked Short ∧ Kp W w')) := by
  refine (BB.u32 q W h.mid).mono fun e w' hh => ?_
  rcases hh with ⟨x, h1, h2, h3⟩ | ⟨h1, h2, h3⟩
  · exact .inl ⟨x, h1, h2, h3.K⟩
  · exact .inr ⟨h1, h2, h3.K⟩
theorem BB.restM (q : Int) (h0 : 0 ≤ q) (h1 : q ≤ 4294967295) (W : World) (h : BB N a l cap L w W) :
    Calls Try.prog 46 #[.agg #[.slice a l.length cap], .int .i64 q] W (fun e w' => (∃ m a', Go.Proofs.Ytidedlbieakagaa.rest l q = some m ∧ e = .returned (.agg #[.slice a' m.length m.length]) ∧ Bts N w' a' m ∧ Kp W w') ∨ (Go.Proofs.Ytidedlbieakagaa.rest l q = none ∧ e = .panicked Short ∧ Kp W w')) := by
  refine (BB.rest q h0 h1 W h.mid).mono fun e w' hh => ?_
  rcases hh with ⟨m, a', h1, h2, h3, h4⟩ | ⟨h1, h2, h3⟩
  · exact .inl ⟨m, a', h1, h2, h3, h4.K⟩
  · exact .inr ⟨h1, h2, h3.K⟩
theorem lkTakeM (N : Nat) (a : Option Addr) (m : List Int) (glyphs : Int) (W : World) (hb : Bts N W a m) (hN : N ≤ W.heap.size) (hlen : m.length ≤ 1073741824) (hg : 1 ≤ glyphs ∧ glyphs ≤ 65536) :
    Calls Try.prog 45 #[.agg #[.slice a m.length m.length], .int .i64 glyphs, .int .i64 2] W (fun e w' => (∃ ps b, lkTake m glyphs 2 = some ps ∧ e = .returned (.pointer (some ⟨b, 0, none⟩)) ∧ Tab (New W w') w' b ps ∧ Kp W w') ∨ (lkTake m glyphs 2 = none ∧ e = .panicked Short ∧ Kp W w')) :=
  (lkTake_any N a m _ m.length glyphs 2 W hb hN rfl (Nat.le_refl _) (by omega) hlen (.inl rfl) (by omega)).mono fun e w' h => h.or
end
section
variable {N : Nat} {a : Option Addr} {l : List Int} {cap : Nat} {w W w5 w7 : World} {bT b5 : Nat} {ps : List Part} {data : List Int} {ad : Option Addr} {t t' : TypeId} {cs : Array Value}
theorem at_gen {W8 : World} {bA : Nat} (ht : Tab (New W w5) w5 bT ps) (hwW : w.heap.size ≤ W.heap.size) (h58 : Same (New W w5) w5 W8) (hsz : w5.heap.size ≤ W8.heap.size) (hb : Bts N W8 ad data)
    (hA : Blk W8 bA 42 #[.pointer (some ⟨bT, 0, none⟩), .slice ad data.length data.length]) (hwA : w.heap.size ≤ bA) : AT N (New w W8) W8 bA ps data :=
  ⟨⟨hwA, hA.lt⟩, bT, ad, hA, (ht.frame h58).mono fun _b hb => ⟨Nat.le_trans hwW hb.1, Nat.lt_of_lt_of_le hb.2 hsz⟩, hb⟩
omit [Lo] in
theorem same57 (hk : Kp w5 w7) : Same (New W w5) w5 w7 := (Same.of_below hk.1).mono fun _b hb => hb.2
omit [Lo] in
theorem same7 {W8 : World} (hk : Kp w5 w7) (hk8 : Kp w7 W8) : Same (New W w5) w5 W8 := (Same.of_below (hk.trans hk8).1).mono fun _b hb => hb.2
theorem BB.drop2 {w W : World} {x y z : Nat × TypeId × Array Value} (h : BB N a l cap [x, y, z] w W) : BB N a l cap [y, z] w W := ⟨h.1.sub fun _u hu => List.mem_cons_of_mem _ hu, h.2⟩
theorem fin1 (hV : BB N a l cap [(w.heap.size, t', cs)] w w7) (ht : Tab (New W w5) w5 bT ps) (hwW : w.heap.size ≤ W.heap.size) (hk : Kp w5 w7) (hb : Bts N w7 ad data) :
    AT N (New w ((w7.alloc (.cells #[.pointer (some ⟨bT, 0, none⟩), .slice ad data.length data.length] 42)).alloc (.cells #[.pointer (some ⟨w7.heap.size, 0, none⟩)] t))) ((w7.alloc (.cells #[.pointer (some ⟨bT, 0, none⟩), .slice ad data.length data.length] 42)).alloc (.cells #[.pointer (some ⟨w7.heap.size, 0, none⟩)] t)) w7.heap.size ps data ∧
      BB N a l cap [(w7.heap.size + 1, t, #[.pointer (some ⟨w7.heap.size, 0, none⟩)]), (w.heap.size, t', cs)] w ((w7.alloc (.cells #[.pointer (some ⟨bT, 0, none⟩), .slice ad data.length data.length] 42)).alloc (.cells #[.pointer (some ⟨w7.heap.size, 0, none⟩)] t)) := by
  have hk8 : Kp w7 ((w7.alloc (.cells #[.pointer (some ⟨bT, 0, none⟩), .slice ad data.length data.length] 42)).alloc (.cells #[.pointer (some ⟨w7.heap.size, 0, none⟩)] t)) := ((Kp.refl _).alloc _).alloc _
  refine ⟨at_gen ht hwW (same7 hk hk8) (Nat.le_trans hk.1.size hk8.1.size) (hb.kp hV.hN hk8) ?_ hV.K.1.size, ?_⟩
  · exact (Blk.new w7 _ _).below ((Below.refl _ _).alloc (Nat.le_refl _) _) (by simp)
  · have h := (hV.kp ((Kp.refl w7).alloc (.cells #[.pointer (some ⟨bT, 0, none⟩), .slice ad data.length data.length] 42))).alloc #[.pointer (some ⟨w7.heap.size, 0, none⟩)] t
    simpa only [World.size_alloc] using h
theorem fin2 (hV : BB N a l cap [(w.heap.size, t', cs)] w w7) (ht : Tab (New W w5) w5 bT ps) (hwW : w.heap.size ≤ W.heap.size) (hk : Kp w5 w7) (hb : Bts N w7 ad data) :
    AT N (New w ((w7.alloc (.cells #[.pointer (some ⟨w7.heap.size + 1, 0, none⟩)] t)).alloc (.cells #[.pointer (some ⟨bT, 0, none⟩), .slice ad data.length data.length] 42))) ((w7.alloc (.cells #[.pointer (some ⟨w7.heap.size + 1, 0, none⟩)] t)).alloc (.cells #[.pointer (some ⟨bT, 0, none⟩), .slice ad data.length data.length] 42)) (w7.heap.size + 1) ps data ∧
      BB N a l cap [(w7.heap.size, t, #[.pointer (some ⟨w7.heap.size + 1, 0, none⟩)]), (w.heap.size, t', cs)] w ((w7.alloc (.cells #[.pointer (some ⟨w7.heap.size + 1, 0, none⟩)] t)).alloc (.cells #[.pointer (some ⟨bT, 0, none⟩), .slice ad data.length data.length] 42)) := by
  have hk8 : Kp w7 ((w7.alloc (.cells #[.pointer (some ⟨w7.heap.size + 1, 0, none⟩)] t)).alloc (.cells #[.pointer (some ⟨bT, 0, none⟩), .slice ad data.length data.length] 42)) := ((Kp.refl _).alloc _).alloc _
  refine ⟨at_gen ht hwW (same7 hk hk8) (Nat.le_trans hk.1.size hk8.1.size) (hb.kp hV.hN hk8) ?_ (Nat.le_succ_of_le hV.K.1.size), ?_⟩
  · have h := Blk.new (w7.alloc (.cells #[.pointer (some ⟨w7.heap.size + 1, 0, none⟩)] t)) 42 #[.pointer (some ⟨bT, 0, none⟩), .slice ad data.length data.length]
    simpa only [World.size_alloc] using h
  · exact (hV.alloc #[.pointer (some ⟨w7.heap.size + 1, 0, none⟩)] t).kp ((Kp.refl _).alloc _)
theorem fin3 (hV : BB N a l cap [(b5, t, #[.pointer none]), (w.heap.size, t', cs)] w w7) (h5 : b5 < W.heap.size ∨ w5.heap.size ≤ b5) (hw5 : w.heap.size < b5) (ht : Tab (New W w5) w5 bT ps) (hwW : w.heap.size ≤ W.heap.size) (hk : Kp w5 w7) (hb : Bts N w7 ad data) :
    AT N (New w ((w7.setCell ⟨b5, 0, none⟩ (.pointer (some ⟨w7.heap.size, 0, none⟩))).alloc (.cells #[.pointer (some ⟨bT, 0, none⟩), .slice ad data.length data.length] 42))) ((w7.setCell ⟨b5, 0, none⟩ (.pointer (some ⟨w7.heap.size, 0, none⟩))).alloc (.cells #[.pointer (some ⟨bT, 0, none⟩), .slice ad data.length data.length] 42)) w7.heap.size ps data ∧
      BB N a l cap [(b5, t, #[.pointer (some ⟨w7.heap.size, 0, none⟩)]), (w.heap.size, t', cs)] w ((w7.setCell ⟨b5, 0, none⟩ (.pointer (some ⟨w7.heap.size, 0, none⟩))).alloc (.cells #[.pointer (some ⟨bT, 0, none⟩), .slice ad data.length data.length] 42)) := by
  have hV8 := (hV.set1 hw5 (.pointer (some ⟨w7.heap.size, 0, none⟩))).kp ((Kp.refl _).alloc (.cells #[.pointer (some ⟨bT, 0, none⟩), .slice ad data.length data.length] 42))
  have hNb : N ≤ b5 := by have := hV.2.2.1; omega
  have hs : Same (New W w5) w7 (w7.setCell ⟨b5, 0, none⟩ (.pointer (some ⟨w7.heap.size, 0, none⟩))) := Same.setCell (by intro h; have := h.1; have := h.2; omega)
  have hs2 : Same (New W w5) (w7.setCell ⟨b5, 0, none⟩ (.pointer (some ⟨w7.heap.size, 0, none⟩))) ((w7.setCell ⟨b5, 0, none⟩ (.pointer (some ⟨w7.heap.size, 0, none⟩))).alloc (.cells #[.pointer (some ⟨bT, 0, none⟩), .slice ad data.length data.length] 42)) :=
    (Same.of_below ((Kp.refl _).alloc _).1).mono fun b hb => by have := hb.2; have := hk.1.size; simp; omega
  refine ⟨at_gen (ad := ad) ht hwW (((same57 hk).trans hs).trans hs2) (by have := hk.1.size; simp; omega) ?_ ?_ hV.K.1.size, hV8⟩
  · exact (hb.frame ((Below.refl _ _).setCell hNb _)).al (by have := hV.hN; simp; omega) _
  · have h := Blk.new (w7.setCell ⟨b5, 0, none⟩ (.pointer (some ⟨w7.heap.size, 0, none⟩))) 42 #[.pointer (some ⟨bT, 0, none⟩), .slice ad data.length data.length]
    simpa only [World.size_setCell] using h
end
omit [Lo] in
theorem All_any (p : Option Addr) (w : World) : Calls Try.prog 47 #[.pointer p] w fun e w' => e = .returned (.func (.func 89) #[] #[.pointer (some ⟨w.heap.size, 0, none⟩)]) ∧ w' = w.alloc (.cells #[.pointer p] 38) := by
  go_enter Try.func47, Try.ntmps47
  go_wp2_with fail
  go_ret
  exact ⟨rfl, rfl⟩
end Go.Proofs.Ytidedlbieakagaa
