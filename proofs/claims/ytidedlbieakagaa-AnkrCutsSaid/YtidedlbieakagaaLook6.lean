/- THE WALKS of package lookup: Take. -/
import Derived.Test.YtidedlbieakagaaLook5
import Derived.Deep.CutBlock
namespace Go.Proofs.Ytidedlbieakagaa
open Go.RowKit
variable [Lo]
omit [Lo] in
theorem partsOf_0 {l : List Int} {glyphs size : Int} (h : u16 l 0 = some 0) : partsOf l glyphs size = (list l 2 glyphs size).map fun vs => [⟨0, glyphs - 1, vs⟩] := by simp [partsOf, h]
omit [Lo] in
theorem partsOf_2 {l : List Int} {glyphs size : Int} (h : u16 l 0 = some 2) : partsOf l glyphs size = segments l size false := by simp [partsOf, h]
omit [Lo] in
theorem partsOf_4 {l : List Int} {glyphs size : Int} (h : u16 l 0 = some 4) : partsOf l glyphs size = segments l size true := by simp [partsOf, h]
omit [Lo] in
theorem partsOf_6 {l : List Int} {glyphs size : Int} (h : u16 l 0 = some 6) : partsOf l glyphs size = single l size := by simp [partsOf, h]
omit [Lo] in
theorem partsOf_8 {l : List Int} {glyphs size : Int} (h : u16 l 0 = some 8) : partsOf l glyphs size = trimmed l 2 size := by simp [partsOf, h]
omit [Lo] in
theorem partsOf_10 {l : List Int} {glyphs size unit : Int} (h : u16 l 0 = some 10) (h2 : u16 l 2 = some unit) (hu : unit = 1 ∨ unit = 2 ∨ unit = 4) : partsOf l glyphs size = trimmed l 4 unit := by simp only [partsOf, h, h2]; simp [hu]
omit [Lo] in
theorem partsOf_10n {l : List Int} {glyphs size : Int} (h : u16 l 0 = some 10) (h2 : u16 l 2 = none) : partsOf l glyphs size = none := by simp [partsOf, h, h2]
omit [Lo] in
theorem partsOf_10u {l : List Int} {glyphs size unit : Int} (h : u16 l 0 = some 10) (h2 : u16 l 2 = some unit) (hu : ¬ (unit = 1 ∨ unit = 2 ∨ unit = 4)) : partsOf l glyphs size = none := by simp only [partsOf, h, h2]; simp [hu]
omit [Lo] in
theorem partsOf_n {l : List Int} {glyphs size : Int} (h : u16 l 0 = none) : partsOf l glyphs size = none := by simp [partsOf, h]
omit [Lo] in
theorem partsOf_u {l : List Int} {glyphs size f : Int} (h : u16 l 0 = some f) (h0 : f ≠ 0) (h2 : f ≠ 2) (h4 : f ≠ 4) (h6 : f ≠ 6) (h8 : f ≠ 8) (h10 : f ≠ 10) : partsOf l glyphs size = none := by simp [partsOf, h, h0, h2, h4, h6, h8, h10]
omit [Lo] in
theorem fmt_cases (f : Int) : f = 0 ∨ f = 2 ∨ f = 4 ∨ f = 6 ∨ f = 8 ∨ f = 10 ∨ (f ≠ 0 ∧ f ≠ 2 ∧ f ≠ 4 ∧ f ≠ 6 ∧ f ≠ 8 ∧ f ≠ 10) := by omega
omit [Lo] in
theorem PartsPost.or {o : Option (List Part)} {w w' : World} {e : Ending} (h : PartsPost o w e w') : (∃ ps A c, o = some ps ∧ e = .returned (.slice A ps.length c) ∧ Parts (New w w') w' (.slice A ps.length c) ps ∧ Kp w w') ∨ (o = none ∧ e = .panicked Short ∧ Kp w w') := by
  cases o with
  | some ps => obtain ⟨v, h1, h2, h3⟩ := h; obtain ⟨A, c, rfl, _, _⟩ := SliceOf.form h2; exact .inl ⟨ps, A, c, rfl, h1, h2, h3⟩
  | none => exact .inr ⟨rfl, h.1, h.2⟩
/-- A table's block: format, parts. -/
def Tab (P : Nat → Prop) (w : World) (b : Nat) (ps : List Part) : Prop := P b ∧ ∃ f A c, Blk w b 178 #[.int .i64 f, .slice A ps.length c] ∧ Parts P w (.slice A ps.length c) ps
def TabPost (o : Option (List Part)) (w : World) (e : Ending) (w' : World) : Prop := match o with | some ps => (∃ b, e = .returned (.pointer (some ⟨b, 0, none⟩)) ∧ Tab (New w w') w' b ps ∧ Kp w w') | none => Fails w e w'
theorem tab_set {N : Nat} {a : Option Addr} {l : List Int} {cap : Nat} {L : List (Nat × TypeId × Array Value)} {w W1 W2 : World} {bT : Nat} {t : TypeId} {f x v : Value} {ps : List Part}
    (hB : BB N a l cap ((bT, t, #[f, x]) :: L) w W1) (hd : ∀ x ∈ L, x.1 ≠ bT) (hK : Kp W1 W2) (hp : Parts (New W1 W2) W2 v ps) :
    Parts (New w (W2.setCell ⟨bT, 1, none⟩ v)) (W2.setCell ⟨bT, 1, none⟩ v) v ps ∧ BB N a l cap ((bT, t, #[f, v]) :: L) w (W2.setCell ⟨bT, 1, none⟩ v) := by
  refine ⟨(hp.frame (Same.setCell (b := bT) ?_)).mono fun b hb => ⟨Nat.le_trans hB.K.1.size hb.1, by simpa using hb.2⟩, (hB.kp hK).set hd 1 v⟩
  have := hB.1.lt (List.mem_cons_self)
  intro h
  exact absurd h.1 (by omega)
theorem BB.segments {N : Nat} {a : Option Addr} {l : List Int} {cap : Nat} {L : List (Nat × TypeId × Array Value)} {w : World} (hlen : l.length ≤ 1073741824) (g size : Int) (hs : size = 2 ∨ size = 4) (each : Bool) (W : World) (h : BB N a l cap L w W) :
    Calls Try.prog 86 #[.agg #[.slice a l.length cap, .int .i64 g, .int .i64 size], .bool each] W (fun e w' => (∃ ps A c, Go.Proofs.Ytidedlbieakagaa.segments l size each = some ps ∧ e = .returned (.slice A ps.length c) ∧ Parts (New W w') w' (.slice A ps.length c) ps ∧ Kp W w') ∨ (Go.Proofs.Ytidedlbieakagaa.segments l size each = none ∧ e = .panicked Short ∧ Kp W w')) :=
  (segments_any N a l _ cap g size each W h.2.1 h.hN rfl h.2.2.2.1 h.2.2.2.2 hlen hs).mono fun _ _ hh => hh.or
theorem BB.single {N : Nat} {a : Option Addr} {l : List Int} {cap : Nat} {L : List (Nat × TypeId × Array Value)} {w : World} (hlen : l.length ≤ 1073741824) (g size : Int) (hs : size = 2 ∨ size = 4) (W : World) (h : BB N a l cap L w W) :
    Calls Try.prog 87 #[.agg #[.slice a l.length cap, .int .i64 g, .int .i64 size]] W (fun e w' => (∃ ps A c, Go.Proofs.Ytidedlbieakagaa.single l size = some ps ∧ e = .returned (.slice A ps.length c) ∧ Parts (New W w') w' (.slice A ps.length c) ps ∧ Kp W w') ∨ (Go.Proofs.Ytidedlbieakagaa.single l size = none ∧ e = .panicked Short ∧ Kp W w')) :=
  (single_any N a l _ cap g size W h.2.1 h.hN rfl h.2.2.2.1 h.2.2.2.2 hlen hs).mono fun _ _ hh => hh.or
theorem BB.trimmed {N : Nat} {a : Option Addr} {l : List Int} {cap : Nat} {L : List (Nat × TypeId × Array Value)} {w : World} (hlen : l.length ≤ 1073741824) (g s0 p size : Int) (hp0 : 0 ≤ p) (hp1 : p ≤ 65536) (hs : size = 1 ∨ size = 2 ∨ size = 4) (W : World) (h : BB N a l cap L w W) :
    Calls Try.prog 88 #[.agg #[.slice a l.length cap, .int .i64 g, .int .i64 s0], .int .i64 p, .int .i64 size] W (fun e w' => (∃ ps A c, Go.Proofs.Ytidedlbieakagaa.trimmed l p size = some ps ∧ e = .returned (.slice A ps.length c) ∧ Parts (New W w') w' (.slice A ps.length c) ps ∧ Kp W w') ∨ (Go.Proofs.Ytidedlbieakagaa.trimmed l p size = none ∧ e = .panicked Short ∧ Kp W w')) :=
  (trimmed_any N a l _ cap g s0 p size W h.2.1 h.hN rfl h.2.2.2.1 h.2.2.2.2 hlen hp0 hp1 hs).mono fun _ _ hh => hh.or
omit [Lo] in
theorem risen_iff {ps : List Part} : risen ps = true ↔ ∀ j p q, ps[j]? = some p → ps[j + 1]? = some q → p.last < q.first := by
  induction ps with
  | nil => simp [risen]
  | cons p r ih =>
    cases r with
    | nil => simp [risen]
    | cons q r =>
      simp only [risen, Bool.and_eq_true, decide_eq_true_eq, ih]
      constructor
      · rintro ⟨h1, h2⟩ j x y hx hy
        cases j with
        | zero => simp at hx hy; subst hx hy; exact h1
        | succ j => exact h2 j x y (by simpa using hx) (by simpa using hy)
      · intro h
        exact ⟨h 0 p q (by simp) (by simp), fun j x y hx hy => h (j + 1) x y (by simpa using hx) (by simpa using hy)⟩
set_option maxRecDepth 100000 in
set_option maxHeartbeats 8000000 in
theorem lkTake_any (N : Nat) (a : Option Addr) (l : List Int) (len cap : Nat) (glyphs size : Int) (w : World) (hb : Bts N w a l) (hN : N ≤ w.heap.size) (hl : l.length = len) (hc : len ≤ cap) (hm : cap ≤ 9223372036854775807) (hlen : len ≤ 1073741824) (hs : size = 2 ∨ size = 4) (hg : 0 ≤ glyphs ∧ glyphs ≤ 65536) :
    Calls Try.prog 45 #[.agg #[.slice a len cap], .int .i64 glyphs, .int .i64 size] w (TabPost (lkTake l glyphs size) w) := by
  subst hl
  have hV0 := (BB.start hb hN hc hm).alloc #[.slice a l.length cap] 40
  have hV1 := hV0.alloc #[.slice a l.length cap, .int .i64 glyphs, .int .i64 size] 183
  simp only [World.size_alloc] at hV1
  have HZ := Lib.hid (show size = 1 ∨ size = 2 ∨ size = 4 from .inr hs)
  have HZ2 := Lib.hid hs
  clear hb hs hV0
  generalize hT : lkTake l glyphs size = T
  have HT := Lib.hid hT
  have CU := Lib.hid (fun (q : Int) (W : World) (L : List (Nat × TypeId × Array Value)) (h : BB N a l cap L w W) => BB.u16 q W h)
  have HF := Lib.hid (show ∀ w', T = none → Kp w w' → TabPost T w (.panicked Short) w' from fun w' h k => by subst h; exact ⟨rfl, k⟩)
  have HF2 := Lib.hid (show ∀ w', partsOf l glyphs size = none → Kp w w' → TabPost T w (.panicked Short) w' from fun w' h k => HF.out w' (by rw [← hT]; simp [lkTake, h]) k)
  clear hT
  have hc0 := hV1.cellB 0
  go_enter Try.func45, Try.ntmps45
  go_upto_block 0 with (go_at_call 44; ((with_reducible refine (CU.out _ _ _ hV1).mono ?_); rintro e w1 (⟨f, hq1, rfl, hV2⟩ | ⟨hq1, rfl, hV2⟩); rotate_left; exact ⟨rfl, HF2.out _ (partsOf_n hq1) hV2.K⟩; have Hq1 := Lib.hid hq1; have hV3 := hV2.alloc #[.int .i64 f, .slice none 0 0] 178; have hd1 := hV2.1.lt (List.mem_cons_self); clear hq1 hV1 hV2 hc0))
  go_cut [8] from 20 to 86 (fun s8 w' => ∃ (ps : List Part) (A5 : Option Addr) (c5 : Nat), s8 = .pointer (some ⟨w1.heap.size, 0, none⟩) ∧ Hid (partsOf l glyphs size = some ps) ∧ Parts (New w w') w' (.slice A5 ps.length c5) ps ∧ BB N a l cap [(w1.heap.size, 178, #[.int .i64 f, .slice A5 ps.length c5]), (w.heap.size + 1, 183, #[.slice a l.length cap, .int .i64 glyphs, .int .i64 size]), (w.heap.size, 40, #[.slice a l.length cap])] w w')
  case first =>
    have hd : ∀ x ∈ [(w.heap.size + 1, 183, (#[.slice a l.length cap, .int .i64 glyphs, .int .i64 size] : Array Value)), (w.heap.size, 40, (#[.slice a l.length cap] : Array Value))], x.1 ≠ w1.heap.size := by intro x hx; simp at hx; rcases hx with rfl | rfl <;> simp <;> omega
    have CG := Lib.hid (fun (each : Bool) (W : World) (L : List (Nat × TypeId × Array Value)) (h : BB N a l cap L w W) => BB.segments hlen glyphs size HZ2.out each W h)
    have hc0 := hV3.cellC 0
    have hr0 := hV3.cellB 0
    have hr1 := hV3.cellB 1
    have hr2 := hV3.cellB 2
    have ht1 := hV3.cellA 1
    have hf1 := hV3.freeA 1
    have CL := Lib.hid (fun (q n : Int) (W : World) (L : List (Nat × TypeId × Array Value)) (h : BB N a l cap L w W) => BB.listM hlen q n size HZ.out W h)
    have CI := Lib.hid (fun (W : World) (L : List (Nat × TypeId × Array Value)) (h : BB N a l cap L w W) => BB.single hlen glyphs size HZ2.out W h)
    have CT := Lib.hid (fun (W : World) (L : List (Nat × TypeId × Array Value)) (h : BB N a l cap L w W) => BB.trimmed hlen glyphs size 2 size (by omega) (by omega) HZ.out W h)
    have CD := Lib.hid Need_any
    rcases fmt_cases f with rfl | rfl | rfl | rfl | rfl | rfl | ⟨h0, h2, h4, h6, h8, h10⟩
    · have HP := Lib.hid (partsOf_0 (glyphs := glyphs) (size := size) Hq1.out)
      have HPn := Lib.hid (show Go.Proofs.Ytidedlbieakagaa.list l 2 glyphs size = none → partsOf l glyphs size = none from fun h => by rw [HP.out, h]; rfl)
      have HPs := Lib.hid (show ∀ vs, Go.Proofs.Ytidedlbieakagaa.list l 2 glyphs size = some vs → partsOf l glyphs size = some [⟨0, glyphs - 1, vs⟩] from fun vs h => by rw [HP.out, h]; rfl)
      go_wp2_with (go_at_call 85; ((with_reducible refine (CL.out _ _ _ _ hV3).mono ?_); rintro e w4 (⟨vs, V, hq4, rfl, hi4, hK4⟩ | ⟨hq4, rfl, hK4⟩); rotate_left; exact ⟨rfl, HF2.out _ (HPn.out hq4) (hV3.K.trans hK4)⟩; obtain ⟨A4, c4, rfl, _, _⟩ := Ints.form hi4; have hV5 := (hV3.kp hK4).kp ((Kp.refl _).alloc (.cells #[.int .i64 0, .int .i64 (glyphs - 1), .slice A4 vs.length c4] 180)); have ht1 := hV5.cellA 1; have hf1 := hV5.freeA 1; have Hq4 := Lib.hid hq4; clear hq4))
      go_meet
      obtain ⟨v, hv, hp, hk⟩ := parts_one (p := ⟨0, glyphs - 1, vs⟩) hK4 hi4
      injection hv with hv
      subst hv
      exact ⟨[⟨0, glyphs - 1, vs⟩], some ⟨w4.heap.size, 0, none⟩, 1, rfl, Lib.hid (HPs.out _ Hq4.out), tab_set hV3 hd hk hp⟩
    · have HP := Lib.hid (partsOf_2 (glyphs := glyphs) (size := size) Hq1.out)
      go_wp2_with (go_at_call 86; ((with_reducible refine (CG.out _ _ _ hV3).mono ?_); rintro e w4 (⟨ps, A5, c5, hq4, rfl, hp4, hK4⟩ | ⟨hq4, rfl, hK4⟩); rotate_left; exact ⟨rfl, HF2.out _ (HP.out.trans hq4) (hV3.K.trans hK4)⟩; have ht1 := (hV3.kp hK4).cellA 1; have hf1 := (hV3.kp hK4).freeA 1; have Hq4 := Lib.hid hq4; clear hq4))
      go_meet
      exact ⟨ps, A5, c5, rfl, Lib.hid (HP.out.trans Hq4.out), tab_set hV3 hd hK4 hp4⟩
    · have HP := Lib.hid (partsOf_4 (glyphs := glyphs) (size := size) Hq1.out)
      go_wp2_with (go_at_call 86; ((with_reducible refine (CG.out _ _ _ hV3).mono ?_); rintro e w4 (⟨ps, A5, c5, hq4, rfl, hp4, hK4⟩ | ⟨hq4, rfl, hK4⟩); rotate_left; exact ⟨rfl, HF2.out _ (HP.out.trans hq4) (hV3.K.trans hK4)⟩; have ht1 := (hV3.kp hK4).cellA 1; have hf1 := (hV3.kp hK4).freeA 1; have Hq4 := Lib.hid hq4; clear hq4))
      go_meet
      exact ⟨ps, A5, c5, rfl, Lib.hid (HP.out.trans Hq4.out), tab_set hV3 hd hK4 hp4⟩
    · have HP := Lib.hid (partsOf_6 (glyphs := glyphs) (size := size) Hq1.out)
      go_wp2_with (go_at_call 87; ((with_reducible refine (CI.out _ _ hV3).mono ?_); rintro e w4 (⟨ps, A5, c5, hq4, rfl, hp4, hK4⟩ | ⟨hq4, rfl, hK4⟩); rotate_left; exact ⟨rfl, HF2.out _ (HP.out.trans hq4) (hV3.K.trans hK4)⟩; have ht1 := (hV3.kp hK4).cellA 1; have hf1 := (hV3.kp hK4).freeA 1; have Hq4 := Lib.hid hq4; clear hq4))
      go_meet
      exact ⟨ps, A5, c5, rfl, Lib.hid (HP.out.trans Hq4.out), tab_set hV3 hd hK4 hp4⟩
    · have HP := Lib.hid (partsOf_8 (glyphs := glyphs) (size := size) Hq1.out)
      go_wp2_with (go_at_call 88; ((with_reducible refine (CT.out _ _ hV3).mono ?_); rintro e w4 (⟨ps, A5, c5, hq4, rfl, hp4, hK4⟩ | ⟨hq4, rfl, hK4⟩); rotate_left; exact ⟨rfl, HF2.out _ (HP.out.trans hq4) (hV3.K.trans hK4)⟩; have ht1 := (hV3.kp hK4).cellA 1; have hf1 := (hV3.kp hK4).freeA 1; have Hq4 := Lib.hid hq4; clear hq4))
      go_meet
      exact ⟨ps, A5, c5, rfl, Lib.hid (HP.out.trans Hq4.out), tab_set hV3 hd hK4 hp4⟩
    · go_upto_region 17 with (go_at_call 44; ((with_reducible refine (CU.out _ _ _ hV3).mono ?_); rintro e w3 (⟨unit, hq3, rfl, hV4⟩ | ⟨hq3, rfl, hV4⟩); rotate_left; exact ⟨rfl, HF2.out _ (partsOf_10n Hq1.out hq3) hV4.K⟩; have Hq3 := Lib.hid hq3; have hr0 := hV4.cellB 0; have hr1 := hV4.cellB 1; have hr2 := hV4.cellB 2; clear hq3 hV3))
      have CT2 := Lib.hid (fun (s : Int) (hs : s = 1 ∨ s = 2 ∨ s = 4) (W : World) (L : List (Nat × TypeId × Array Value)) (h : BB N a l cap L w W) => BB.trimmed hlen glyphs size 4 s (by omega) (by omega) hs W h)
      rcases (by omega : unit = 1 ∨ unit = 2 ∨ unit = 4 ∨ (unit ≠ 1 ∧ unit ≠ 2 ∧ unit ≠ 4)) with rfl | rfl | rfl | ⟨h1, h2, h4⟩
      · have HP := Lib.hid (partsOf_10 (glyphs := glyphs) (size := size) Hq1.out Hq3.out (by omega))
        go_wp2_with (first
          | (go_at_call 43; ((with_reducible refine (CD.out _ _).mono ?_); rintro e w4 (⟨hq4, rfl, rfl⟩ | ⟨hq4, rfl, rfl⟩); rotate_left; cases hq4))
          | (go_at_call 88; ((with_reducible refine (CT2.out _ (by omega) _ _ hV4).mono ?_); rintro e w5 (⟨ps, A5, c5, hq4, rfl, hp4, hK4⟩ | ⟨hq4, rfl, hK4⟩); rotate_left; exact ⟨rfl, HF2.out _ (HP.out.trans hq4) (hV4.K.trans hK4)⟩; have ht1 := (hV4.kp hK4).cellA 1; have hf1 := (hV4.kp hK4).freeA 1; have Hq4 := Lib.hid hq4; clear hq4)))
        go_meet
        exact ⟨ps, A5, c5, rfl, Lib.hid (HP.out.trans Hq4.out), tab_set hV4 hd hK4 hp4⟩
      · have HP := Lib.hid (partsOf_10 (glyphs := glyphs) (size := size) Hq1.out Hq3.out (by omega))
        go_wp2_with (first
          | (go_at_call 43; ((with_reducible refine (CD.out _ _).mono ?_); rintro e w4 (⟨hq4, rfl, rfl⟩ | ⟨hq4, rfl, rfl⟩); rotate_left; cases hq4))
          | (go_at_call 88; ((with_reducible refine (CT2.out _ (by omega) _ _ hV4).mono ?_); rintro e w5 (⟨ps, A5, c5, hq4, rfl, hp4, hK4⟩ | ⟨hq4, rfl, hK4⟩); rotate_left; exact ⟨rfl, HF2.out _ (HP.out.trans hq4) (hV4.K.trans hK4)⟩; have ht1 := (hV4.kp hK4).cellA 1; have hf1 := (hV4.kp hK4).freeA 1; have Hq4 := Lib.hid hq4; clear hq4)))
        go_meet
        exact ⟨ps, A5, c5, rfl, Lib.hid (HP.out.trans Hq4.out), tab_set hV4 hd hK4 hp4⟩
      · have HP := Lib.hid (partsOf_10 (glyphs := glyphs) (size := size) Hq1.out Hq3.out (by omega))
        go_wp2_with (first
          | (go_at_call 43; ((with_reducible refine (CD.out _ _).mono ?_); rintro e w4 (⟨hq4, rfl, rfl⟩ | ⟨hq4, rfl, rfl⟩); rotate_left; cases hq4))
          | (go_at_call 88; ((with_reducible refine (CT2.out _ (by omega) _ _ hV4).mono ?_); rintro e w5 (⟨ps, A5, c5, hq4, rfl, hp4, hK4⟩ | ⟨hq4, rfl, hK4⟩); rotate_left; exact ⟨rfl, HF2.out _ (HP.out.trans hq4) (hV4.K.trans hK4)⟩; have ht1 := (hV4.kp hK4).cellA 1; have hf1 := (hV4.kp hK4).freeA 1; have Hq4 := Lib.hid hq4; clear hq4)))
        go_meet
        exact ⟨ps, A5, c5, rfl, Lib.hid (HP.out.trans Hq4.out), tab_set hV4 hd hK4 hp4⟩
      · have HPn := Lib.hid (partsOf_10u (glyphs := glyphs) (size := size) Hq1.out Hq3.out (by omega))
        have h1' : (unit == 1) = false := by simpa using h1
        have h2' : (unit == 2) = false := by simpa using h2
        have h4' : (unit == 4) = false := by simpa using h4
        go_wp2_with (go_at_call 43; ((with_reducible refine (CD.out _ _).mono ?_); rintro e w4 (⟨hq4, rfl, rfl⟩ | ⟨hq4, rfl, rfl⟩); (cases hq4); exact ⟨rfl, HF2.out _ HPn.out hV4.K⟩))
    · have HPn := Lib.hid (partsOf_u (glyphs := glyphs) (size := size) Hq1.out h0 h2 h4 h6 h8 h10)
      have h0' : (f == 0) = false := by simpa using h0
      have h2' : (f == 2) = false := by simpa using h2
      have h4' : (f == 4) = false := by simpa using h4
      have h6' : (f == 6) = false := by simpa using h6
      have h8' : (f == 8) = false := by simpa using h8
      have h10' : (f == 10) = false := by simpa using h10
      go_wp2_with (go_at_call 84; ((with_reducible refine (Fail_any _).mono ?_); rintro e w4 ⟨rfl, rfl⟩; exact ⟨rfl, HF2.out _ HPn.out hV3.K⟩))
  clear hV3
  obtain ⟨ps, A5, c5, rfl, Hp, hp, hV⟩ := hcut
  have hpf := SliceOf.form hp
  have hps : ps.length ≤ maxLen := by obtain ⟨A, c, h1, h2, h3⟩ := hpf; omega
  clear hpf
  have hps2 : ps.length ≤ 9223372036854775807 := hps
  have hFin : ∀ w', Kp wc w' → risen ps = true → TabPost T w (.returned (.pointer (some ⟨w1.heap.size, 0, none⟩))) w' := by
    intro w' hK hr
    have hT2 : T = some ps := by rw [← HT.out]; simp [lkTake, Hp.out, hr]
    have hb := (hV.kp hK).1.2 _ (List.mem_cons_self)
    subst hT2
    exact ⟨_, rfl, ⟨⟨hb.1, hb.2.lt⟩, f, A5, c5, hb.2, (hp.frame ((Same.of_below hK.1).mono fun b hb => hb.2)).mono fun b hb => ⟨hb.1, Nat.lt_of_lt_of_le hb.2 hK.1.size⟩⟩, hV.K.trans hK⟩
  have hFail : ∀ w', Kp wc w' → risen ps = false → TabPost T w (.panicked Short) w' := by
    intro w' hK hr
    exact HF.out w' (by rw [← HT.out]; simp [lkTake, Hp.out, hr]) (hV.K.trans hK)
  have HFin := Lib.hid hFin
  have HFail := Lib.hid hFail
  have ht := fun w' (hK : Kp wc w') => (hV.kp hK).cellA 1
  have Ht := Lib.hid ht
  clear hFin hFail ht hV HF HF2 HT CU
  go_wp2_with fail
  go_loopw [10] (fun i wr => ∃ (k : Nat), 1 ≤ k ∧ i = .int .i64 k ∧ (k = 1 ∨ k ≤ ps.length) ∧ Kp wc wr ∧ ∀ j p q, j + 1 < k → ps[j]? = some p → ps[j + 1]? = some q → p.last < q.first) (fun i _ => ps.length - (intOf i).toNat)
  case atStart => exact ⟨1, Nat.le_refl _, rfl, .inl rfl, .refl _, fun j p q h => by omega⟩
  case round =>
    obtain ⟨k, hk1, rfl, hk2, hK, hrs⟩ := hrel
    have ht1 := Ht.out _ hK
    have hK2 : (k : Int) ≤ 9223372036854775807 := by omega
    by_cases hlt : k < ps.length
    · obtain ⟨b, o, c, hv, h1, h2, hbP, F, hF⟩ := SliceOf.at ((hp.frame ((Same.of_below hK.1).mono fun b hb => hb.2))) (by omega) (show 0 < ps.length by omega)
      injection hv with e1 e2 e3
      subst e1 e3
      go_upto_region 22 with fail
      obtain ⟨m, hm⟩ : ∃ m, k = m + 1 := ⟨k - 1, by omega⟩
      obtain ⟨⟨V1, hR1, hx1⟩, hx2, hc1⟩ := hF m (by omega)
      obtain ⟨⟨V2, hR2, hx3⟩, hx4, hc2⟩ := hF k hlt
      have hc1 := hc1 1 (by omega)
      have hc2 := hc2 0 (by omega)
      rw [hR1] at hc1
      rw [hR2] at hc2
      have hml : m < ps.length := by omega
      have hq1 : ps[m]? = some ps[m] := List.getElem?_eq_getElem _
      have hq2 : ps[m + 1]? = some ps[k] := by rw [← hm]; exact List.getElem?_eq_getElem _
      generalize ps[m] = p at hc1 hq1
      generalize ps[k] = q at hc2 hq2
      have hc1 : wr.cell? ⟨b, o + m * 3 + 1, none⟩ = some (.int .i64 p.last) := by rw [← Nat.mul_comm 3, Nat.add_assoc]; exact hc1
      have hc2 : wr.cell? ⟨b, o + k * 3, none⟩ = some (.int .i64 q.first) := by rw [← Nat.mul_comm 3]; exact hc2
      have Hq1 := Lib.hid hq1
      have Hq2 := Lib.hid hq2
      have CD := Lib.hid Need_any
      have hkm : (k : Int) - 1 = (m : Int) := by omega
      have Hm := Lib.hid hm
      have hw := IntWalk.i64_in ((k : Int) - 1) (by omega)
      rw [hkm] at hw
      have hNo : ¬ p.last < q.first → risen ps = false := by
        intro h
        rw [Bool.eq_false_iff]
        exact fun hr => h (risen_iff.1 hr m p q hq1 hq2)
      have hYes : p.last < q.first → ∀ j x y, j + 1 < k + 1 → ps[j]? = some x → ps[j + 1]? = some y → x.last < y.first := by
        intro h j x y hj hx hy
        by_cases hjm : j = m
        · subst hjm
          rw [hq1] at hx; rw [hq2] at hy
          injection hx with hx; injection hy with hy
          subst hx hy; exact h
        · exact hrs j x y (by omega) hx hy
      have HNo := Lib.hid hNo
      have HYes := Lib.hid hYes
      clear hNo hYes hrs
      clear hx1 hx2 hx3 hx4 hF hR1 hR2 hq1 hq2 hp hm
      go_region_held2 (fun W => W.cell? ⟨w1.heap.size, 1, none⟩ = some (.slice (some ⟨b, o, none⟩) ps.length c5) ∧ W.cell? ⟨b, o + m * 3 + 1, none⟩ = some (.int .i64 p.last) ∧ W.cell? ⟨b, o + k * 3, none⟩ = some (.int .i64 q.first)) (first | go_keep | exact ⟨ht1, hc1, hc2⟩) (first
        | (go_at_call 43; ((with_reducible refine (CD.out _ _).mono ?_); rintro e w4 (⟨hq4, rfl, rfl⟩ | ⟨hq4, rfl, rfl⟩); rotate_left; exact ⟨rfl, HFail.out _ (hK.trans (.drew (.refl _))) (HNo.out (of_decide_eq_false hq4))⟩; have Hq4 := Lib.hid (of_decide_eq_true hq4); clear hq4; dsimp only)))
      have HYes := Lib.hid (HYes.out Hq4.out)
      go_wp2_with fail
      go_roundw
      case rel => exact ⟨k + 1, by omega, by go_num, .inr (by omega), hK.trans (.drew (.refl _)), HYes.out⟩
      case measure => simp [intOf]; omega
    · have hr : risen ps = true := risen_iff.2 fun j p q hj hq => hrs j p q (by have := (List.getElem?_eq_some_iff.1 hq).1; omega) hj hq
      have Hf := Lib.hid (HFin.out _ hK hr)
      clear HFin HFail hrs hp hr
      go_wp2_with fail
      go_ret
      exact Hf.out
end Go.Proofs.Ytidedlbieakagaa
