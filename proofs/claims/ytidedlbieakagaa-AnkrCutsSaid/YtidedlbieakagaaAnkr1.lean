/- THE WALK of ankr.Take. -/
import Derived.Test.YtidedlbieakagaaAnkrI
import Derived.Test.YtidedlbieakagaaSpec4
import Derived.Shelf.RegionOpen
import Derived.RangeFuncCalls
import Derived.Test.YtidedlbieakagaaHeldIn
namespace Go.Proofs.Ytidedlbieakagaa
open Go.RowKit
attribute [local go_sem] Oper.semAt_some
variable [Lo]
set_option maxRecDepth 100000 in
set_option maxHeartbeats 8000000 in
theorem ankrTake_any (N : Nat) (a : Option Addr) (l : List Int) (len cap : Nat) (glyphs : Int) (w : World) (hb : Bts N w a l) (hN : N ≤ w.heap.size) (hl : l.length = len) (hc : len ≤ cap) (hm : cap ≤ 9223372036854775807) (hlen : len ≤ 1073741824) (hg : 1 ≤ glyphs ∧ glyphs ≤ 65536) :
    Calls Try.prog 15 #[.agg #[.slice a len cap], .int .i64 glyphs] w (AnkrPost N (ankrTake l glyphs) w) := by
  subst hl
  have hwf := hb.2
  have hV := (BB.start hb hN hc hm).alloc #[.slice a l.length cap] 40
  generalize hT : ankrTake l glyphs = T
  have HT := Lib.hid hT
  have CU := Lib.hid (fun (q : Int) (W : World) (L : List (Nat × TypeId × Array Value)) (h : BB N a l cap L w W) => BB.u16 q W h)
  have CV := Lib.hid (fun (q : Int) (W : World) (L : List (Nat × TypeId × Array Value)) (h : BB N a l cap L w W) => BB.u32 q W h)
  have CR := Lib.hid (fun (q : Int) (h0 : 0 ≤ q) (h1 : q ≤ 4294967295) (W : World) (L : List (Nat × TypeId × Array Value)) (h : BB N a l cap L w W) => BB.rest q h0 h1 W h)
  have CD := Lib.hid Need_any
  have HF := Lib.hid (show ∀ w', ankrHead l glyphs = none → Kp w w' → AnkrPost N T w (.panicked Short) w' from fun w' h k => by rw [← hT, ankrTake_head, h]; exact ⟨rfl, k⟩)
  clear hT hb
  have hc0 := hV.cellA 0
  refine calls_of_wpAtK (n := 5) Try.func15 rfl ?_
  simp only [Try.ntmps15, List.size_toArray, List.length_cons, List.length_nil, Nat.reduceAdd, Nat.reduceSub, Array.replicate_succ, Array.replicate_zero, List.push_toArray, List.append_toArray, List.nil_append, List.cons_append]
  refine wpAt_seq_k fun _ _ => ?_
  go_wp2_with fail
  refine wpAt_seq_k fun _ _ => ?_
  go_wp2_with (first
    | (go_at_call 44; ((with_reducible refine (CU.out _ _ _ hV).mono ?_); rintro e w1 (⟨k, hq1, rfl, hV1⟩ | ⟨hq1, rfl, hV1⟩); rotate_left; exact mpanic (HF.out _ (ankrHead_n1 hq1) hV1.K); have Hq1 := Lib.hid hq1; clear hq1))
    | (go_at_call 43; ((with_reducible refine (CD.out _ _).mono ?_); rintro e w2 (⟨hq2, rfl, rfl⟩ | ⟨hq2, rfl, rfl⟩); rotate_left; exact mpanic (HF.out _ (ankrHead_n2 Hq1.out (by simpa using hq2)) hV1.K); have Hq2 := Lib.hid hq2; clear hq2)))
  clear hV hc0 CU CD
  have hVd := hV1.drew
  have hVa := fun cs t => (hV1.alloc cs t).drew
  have hc1 := hVd.cellA 0
  have hs1 := hV1.1.lt (List.mem_cons_self)
  have CV := Lib.hid (fun (q : Int) (W : World) (L : List (Nat × TypeId × Array Value)) (h : BB N a l cap L w W) => BB.u32M q W h)
  have CR := Lib.hid (fun (q : Int) (h0 : 0 ≤ q) (h1 : q ≤ 4294967295) (W : World) (L : List (Nat × TypeId × Array Value)) (h : BB N a l cap L w W) => BB.restM q h0 h1 W h)
  have CT := Lib.hid (fun (a' : Option Addr) (m : List Int) (hlen : m.length ≤ 1073741824) (W : World) (hb : Bts N W a' m) (hN : N ≤ W.heap.size) => lkTakeM N a' m glyphs W hb hN hlen hg)
  refine wpAt_seq_k fun _ _ => ?_
  go_cut [5] from 15 to 26 (fun s5 w' => ∃ (ps : List Part) (data : List Int) (bA b5 : Nat), s5 = .pointer (some ⟨b5, 0, none⟩) ∧ Hid (ankrHead l glyphs = some (ps, data) ∧ PW ps ∧ ps.length ≤ 65536 ∧ data.length ≤ l.length ∧ ∀ p ∈ ps, PV p) ∧ AT N (New w w') w' bA ps data ∧ BB N a l cap [(b5, 27, #[.pointer (some ⟨bA, 0, none⟩)]), (w.heap.size, 40, #[.slice a l.length cap])] w w')
  case first =>
    clear hV1
    go_region_held2 (fun W => W.cell? ⟨w.heap.size, 0, none⟩ = some (.slice a l.length cap)) (first | exact hV7.cellA 0 | exact hV7.cellB 0 | exact hV6.cellA 0 | exact hV6.cellB 0 | exact hV5.cellA 0 | exact hV5.cellB 0 | exact hV4.cellA 0 | exact hV4.cellB 0 | exact hV3.cellA 0 | exact hV3.cellB 0 | exact hVd.cellA 0 | exact (hVa _ _).cellB 0 | exact (hV3.alloc _ _).cellB 0 | exact (hV4.alloc _ _).cellB 0 | exact (hV5.alloc _ _).cellB 0 | exact (hV6.alloc _ _).cellB 0 | exact (hV7.alloc _ _).cellB 0 | exact ((hV7.set1 (by omega) _).alloc _ _).cellC 0 | exact ((hV7.alloc _ _).alloc _ _).cellC 0 | go_keep) (first
      | (go_at_call 40; ((first | (with_reducible refine (CV.out 4 _ _ hVd).mono ?_) | (with_reducible refine (CV.out 4 _ _ (hVa _ _)).mono ?_)); rintro e w3 (⟨p, hq3, rfl, hK3⟩ | ⟨hq3, rfl, hK3⟩); rotate_left; exact mpanic (HF.out _ (ankrHead_n3 hq3) (by first | exact hVd.K.trans hK3 | exact (hVa _ _).K.trans hK3)); (first | have hV3 := hVd.kp hK3 | have hV3 := (hVa _ _).kp hK3); have hp3 := u32_lt hwf hq3; have hs3 := hV3.1.lt (List.mem_cons_self); dsimp only))
      | (go_at_call 46; ((first | (with_reducible refine (CR.out p hp3.1 hp3.2 _ _ hV3).mono ?_) | (with_reducible refine (CR.out p hp3.1 hp3.2 _ _ (hV3.alloc _ _)).mono ?_)); rintro e w4 (⟨m, a4, hq4, rfl, hbm, hK4⟩ | ⟨hq4, rfl, hK4⟩); rotate_left; exact mpanic (HF.out _ (ankrHead_n4 hq3 hq4) (by first | exact hV3.K.trans hK4 | exact (hV3.alloc _ _).K.trans hK4)); (first | have hV4 := hV3.kp hK4 | have hV4 := (hV3.alloc _ _).kp hK4); (first | have hk4 : Kp w3 w4 := hK4 | have hk4 : Kp w3 w4 := ((Kp.refl _).alloc _).trans hK4); have hml := Nat.le_trans (rest_len hq4) hlen; have hs4 := hV4.1.lt (List.mem_cons_self); dsimp only))
      | (go_at_call 45; ((first | (with_reducible refine (CT.out _ _ hml _ hbm hV4.hN).mono ?_) | (with_reducible refine (CT.out _ _ hml _ (hbm.al hV4.hN _) (hV4.alloc _ _).hN).mono ?_)); rintro e w5 (⟨ps, bT, hq5, rfl, ht5, hK5⟩ | ⟨hq5, rfl, hK5⟩); rotate_left; exact mpanic (HF.out _ (ankrHead_n5 hq3 hq4 hq5) (by first | exact hV4.K.trans hK5 | exact (hV4.alloc _ _).K.trans hK5)); (first | have hV5 := hV4.kp hK5 | have hV5 := (hV4.alloc _ _).kp hK5); (first | have hk5 : Kp w4 w5 := hK5 | have hk5 : Kp w4 w5 := ((Kp.refl _).alloc _).trans hK5); have hs5 := hV5.1.lt (List.mem_cons_self); dsimp only))
      | (go_at_call 40; ((first | (with_reducible refine (CV.out 8 _ _ hV5).mono ?_) | (with_reducible refine (CV.out 8 _ _ (hV5.alloc _ _)).mono ?_)); rintro e w6 (⟨q, hq6, rfl, hK6⟩ | ⟨hq6, rfl, hK6⟩); rotate_left; exact mpanic (HF.out _ (ankrHead_n6 hq3 hq4 hq6) (by first | exact hV5.K.trans hK6 | exact (hV5.alloc _ _).K.trans hK6)); (first | have hV6 := hV5.kp hK6 | have hV6 := (hV5.alloc _ _).kp hK6); (first | have hk6 : Kp w5 w6 := hK6 | have hk6 : Kp w5 w6 := ((Kp.refl _).alloc _).trans hK6); have hz6 := hk6.1.size; have hs6 := hV6.1.lt (List.mem_cons_self); have hp6 := u32_lt hwf hq6; dsimp only))
      | (go_at_call 46; ((first | (with_reducible refine (CR.out q hp6.1 hp6.2 _ _ hV6).mono ?_) | (with_reducible refine (CR.out q hp6.1 hp6.2 _ _ (hV6.alloc _ _)).mono ?_)); rintro e w7 (⟨data, ad, hq7, rfl, hbd, hK7⟩ | ⟨hq7, rfl, hK7⟩); rotate_left; exact mpanic (HF.out _ (ankrHead_n7 hq3 hq4 hq6 hq7) (by first | exact hV6.K.trans hK7 | exact (hV6.alloc _ _).K.trans hK7)); (first | have hV7 := hV6.kp hK7 | have hV7 := (hV6.alloc _ _).kp hK7); (first | have hk7 : Kp w6 w7 := hK7 | have hk7 : Kp w6 w7 := ((Kp.refl _).alloc _).trans hK7); have hz7 := hk7.1.size; have hk57 := hk6.trans hk7; have hy0 := hV7.cellA 0; have hf0 := hV7.freeA 0; have hlw := hV7.1.lt (List.mem_cons_self); dsimp only)))
    all_goals ((repeat go_step); go_meet)
    all_goals have hq2 : k = 0 := by simpa using Hq2.out
    all_goals have hH : Hid (ankrHead l glyphs = some (ps, data) ∧ PW ps ∧ ps.length ≤ 65536 ∧ data.length ≤ l.length ∧ ∀ p ∈ ps, PV p) := ⟨ankrHead_y Hq1.out hq2 hq3 hq4 hq5 hq6 hq7, lkTake_PW hbm.2 hg hq5, lkTake_len hbm.2 hq5, rest_len hq7, lkTake_PV hbm.2 hq5⟩
    all_goals first
      | exact ⟨ps, data, _, _, rfl, hH, fin1 hV7 ht5 (by first | omega | (simp only [World.size_alloc]; omega)) hk57 hbd⟩
      | exact ⟨ps, data, _, _, rfl, hH, fin2 hV7 ht5 (by first | omega | (simp only [World.size_alloc]; omega)) hk57 hbd⟩
      | exact ⟨ps, data, _, _, rfl, hH, fin3 hV7 (by first | omega | (simp only [World.size_alloc]; omega)) (by omega) ht5 (by first | omega | (simp only [World.size_alloc]; omega)) hk57 hbd⟩
  clear hV1 hVd hVa hc1 hs1 CV CR CT HF
  obtain ⟨ps, data, bA, b5, rfl, hH, hA, hV⟩ := hcut
  have hK1 : Kp wc ((wc.alloc (.map #[] 0)).alloc (.cells #[.map (some wc.heap.size)] 113)) := ((Kp.refl wc).alloc _).alloc _
  have hc5 : ((wc.alloc (.map #[] 0)).alloc (.cells #[.map (some wc.heap.size)] 113)).cell? ⟨b5, 0, none⟩ = some (.pointer (some ⟨bA, 0, none⟩)) := (hV.kp hK1).cellA 0
  obtain ⟨hAn, bT, ad, hAb, hAt, hAd⟩ := id hA
  have hA0 : ((wc.alloc (.map #[] 0)).alloc (.cells #[.map (some wc.heap.size)] 113)).cell? ⟨bA, 0, none⟩ = some (.pointer (some ⟨bT, 0, none⟩)) := (hAb.below hK1.1 hAb.lt).cell 0
  have CA := Lib.hid All_any
  have hmm := @run_makeMap Try.prog
  go_wp2_with fail
  refine wpAt_seq_k fun _ _ => ?_
  go_wp2_with fail
  refine wpAt_seq ?_
  refine wpAt_seq_k fun _ _ => ?_
  go_wp2_with (go_at_call 47; ((with_reducible refine (CA.out _ _).mono ?_); rintro e w3 ⟨rfl, hw3⟩))
  refine wpAt_block ?_
  rw [← hw3]
  have hz3 : w3.heap.size = wc.heap.size + 3 := by rw [hw3]; simp
  have hk3 : Kp ((wc.alloc (.map #[] 0)).alloc (.cells #[.map (some wc.heap.size)] 113)) w3 := by rw [hw3]; exact (Kp.refl _).alloc _
  have hkc : Kp wc w3 := hK1.trans hk3
  have hbx : w3.cell? ⟨wc.heap.size + 2, 0, none⟩ = some (.pointer (some ⟨bT, 0, none⟩)) := by
    have h := (Blk.new ((wc.alloc (.map #[] 0)).alloc (.cells #[.map (some wc.heap.size)] 113)) 38 #[.pointer (some ⟨bT, 0, none⟩)]).cell 0
    simp only [World.size_alloc] at h
    rw [hw3]
    exact h
  have ht3 : Tab (fun c => c < w3.heap.size ∧ c ≠ wc.heap.size) w3 bT ps := (hAt.frame ((Same.of_below hkc.1).mono fun b hb => hb.2)).mono fun b hb => ⟨by have := hb.2; omega, by have := hb.2; omega⟩
  have hmap : w3.ownsMap Try.prog 3 (unitElem (H := Unit)) wc.heap.size 0 (.map []) := by
    have h := ((World.ownsMap_made wc Try.prog 3 (unitElem (H := Unit))).alloc (.cells #[.map (some wc.heap.size)] 113)).alloc (.cells #[.pointer (some ⟨bT, 0, none⟩)] 38)
    rw [hw3]; exact h
  have hI0 : AI w3 wc.heap.size ps data 0 w3 := ⟨KJ.refl _ _, ⟨.map [], 0, hmap, Nat.le_refl _, fun x h => by simp [Maps.has] at h⟩, fun i x h => absurd h (by omega)⟩
  have hps : ps.length ≤ 1073741824 := by have := hH.2.2.1; omega
  have hpw := hH.2.1
  have hz3a : w3.heap.size ≤ wc.heap.size + 3 := by omega
  have hz3b : wc.heap.size + 3 ≤ w3.heap.size := by omega
  clear hz3 hw3
  refine range_all (a₁ := ?a1) Try.func15 (.tmp 32) rfl rfl ps hpw hps (fun c => c < w3.heap.size ∧ c ≠ wc.heap.size) (fun _ h => h.1) hbx ⟨by omega, by omega⟩ ht3 (AI w3 wc.heap.size ps data) (AIp w3 wc.heap.size ps data) (fun k W W' h kp => h.kp kp) (fun k W j o h hj => h.put (by omega) o hj) (fun k W h c hc => h.1.block c hc.1 hc.2) hI0 ?_ ?_ ?_ ?_
  rotate_left
  · intro l x W K hK
    gi_wp2_with fail
    exact hK
  · rintro l2 k2 x W hx hI
    have hmx : Try.prog.follows .mixedOrders = true := by kernel_rfl
    obtain ⟨hJ, ⟨D, nD, hown, hnD, hkeys⟩, hdone⟩ := hI
    have hbw : b5 < wc.heap.size := hV.1.lt (List.mem_cons_self)
    have hAw : bA < wc.heap.size := hAb.lt
    have hc6 : W.cell? ⟨wc.heap.size + 1, 0, none⟩ = some (.map (some wc.heap.size)) := by
      have h := (Blk.new (wc.alloc (.map #[] 0)) 113 #[.map (some wc.heap.size)]).cell 0
      simp only [World.size_alloc] at h
      refine (World.cell?_of_block (a := ⟨wc.heap.size + 1, 0, none⟩) (hJ.block _ (by simp; omega) (by simp))).trans ?_
      refine (hk3.1.cell (p := ⟨wc.heap.size + 1, 0, none⟩) (by simp)).trans h
    have hc5 : W.cell? ⟨b5, 0, none⟩ = some (.pointer (some ⟨bA, 0, none⟩)) :=
      ((World.cell?_of_block (a := ⟨b5, 0, none⟩) (hJ.block _ (by simp; omega) (by simp; omega))).trans (hkc.1.cell (p := ⟨b5, 0, none⟩) hbw)).trans (hV.cellA 0)
    have hcd : W.cell? ⟨bA, 1, none⟩ = some (.slice ad data.length data.length) :=
      ((World.cell?_of_block (a := ⟨bA, 1, none⟩) (hJ.block _ (by simp; omega) (by simp; omega))).trans (hkc.1.cell (p := ⟨bA, 1, none⟩) hAw)).trans (hAb.cell 1)
    have hvb := allOf_VB hH.2.2.2.2 hx
    unfold VB at hvb
    have hkey : keyOf Try.prog 3 (.int .i64 x.2) = some (.int .i64 x.2) := Maps.keyOf_int_mk Try.underlying3 (by have h1 : IntKind.i64.min = -9223372036854775808 := rfl; have h2 : IntKind.i64.max = 9223372036854775807 := rfl; simp only [Lit.wf, h1, h2, Bool.and_eq_true, decide_eq_true_eq]; omega)
    have hz : (zeroValue 108).run Try.prog W = .ok (.agg #[]) W := rfl
    have hkW := (Kp.refl W).alloc (.cells #[] 108)
    have hc6' : (W.alloc (.cells #[] 108)).cell? ⟨wc.heap.size + 1, 0, none⟩ = some (.map (some wc.heap.size)) := (hkW.1.cell (p := ⟨wc.heap.size + 1, 0, none⟩) (by have := hJ.size; simp; omega)).trans hc6
    have Hkeys := Lib.hid hkeys
    have Hdone := Lib.hid hdone
    clear hkeys hdone
    have hownW := hown.alloc (.cells #[] 108)
    have hnm : nD < maxLen := by
      have := (List.getElem?_eq_some_iff.1 hx).1
      have := allOf_len hpw
      have := hH.2.2.1
      simp only [maxLen]; omega
    gi_wp2_with (first | (gi_at_mapUpdate; go_loud (refine wpListIn_mapUpdate_own _ rfl (.tmp 42) (.tmp 43) (.tmp 44) 113 rfl 3 108 (Maps.int_keyed Try.underlying3) Try.underlying113 unitElem wc.heap.size nD D rfl hownW hnm (.int .i64 x.2) (.agg #[]) (.int .i64 x.2) rfl rfl hkey (.agg []) [] unitElem_mk ?_; intro w5 hown5 hg5)) | (gi_at_lookup; go_loud (refine wpListIn_lookup_own_unit _ rfl (.tmp 36) (.tmp 37) 113 rfl 3 108 (Maps.int_keyed Try.underlying3) Try.underlying113 hz wc.heap.size nD D rfl hown _ (.int .i64 x.2) rfl hkey ?_)))
    · have hh : Maps.has D (.int .i64 x.2) = true := by assumption
      refine ⟨⟨hJ.kp hkW, ⟨D, nD, hownW, by omega, Hkeys.out⟩, fun i y hi hy => ?_⟩, KB.of_kp hkW⟩
      by_cases hik : i = k2
      · subst hik; rw [hx] at hy; injection hy with hy; subst hy; exact Hkeys.out _ hh
      · exact Hdone.out i y (by omega) hy
    have hJ5 := (hJ.kp hkW).grown hg5
    have hkb5 : KB w3.heap.size W w5 := ⟨Nat.le_trans hkW.1.size hg5.size, fun c hc hcl => (hg5.block c (by simp; omega) (by simp; omega)).trans (hkW.1.block c hcl)⟩
    have hc55 : w5.cell? ⟨b5, 0, none⟩ = some (.pointer (some ⟨bA, 0, none⟩)) :=
      ((World.cell?_of_block (a := ⟨b5, 0, none⟩) (hJ5.block _ (by simp; omega) (by simp; omega))).trans (hkc.1.cell (p := ⟨b5, 0, none⟩) hbw)).trans (hV.cellA 0)
    have hcd5 : w5.cell? ⟨bA, 1, none⟩ = some (.slice ad data.length data.length) :=
      ((World.cell?_of_block (a := ⟨bA, 1, none⟩) (hJ5.block _ (by simp; omega) (by simp; omega))).trans (hkc.1.cell (p := ⟨bA, 1, none⟩) hAw)).trans (hAb.cell 1)
    have hAd5 : Bts N w5 ad data := hAd.frame ⟨hJ5.os.trans hkc.1.os, hJ5.tape.trans hkc.1.tape, hJ5.output.trans hkc.1.output, Nat.le_trans hkc.1.size hJ5.size, fun c hc => (hJ5.block c (by have := hV.hN; omega) (by have := hV.hN; omega)).trans (hkc.1.block c (by have := hV.hN; omega))⟩
    have hN5 : N ≤ w5.heap.size := by have := hV.hN; have := hkc.1.size; have := hJ5.size; omega
    have hdl : data.length ≤ 1073741824 := by have := hH.2.2.2.1; omega
    have CU := Lib.hid (fun W' (k : Kp w5 W') => (U32_any N ad data _ data.length x.2 W' (hAd5.kp hN5 k) (Nat.le_trans hN5 k.1.size) rfl (Nat.le_refl _) (by omega)))
    have CR := Lib.hid (fun (n : Int) W' (k : Kp w5 W') => (Rows_any N ad data _ data.length (x.2 + 4) n 4 W' (hAd5.kp hN5 k) (Nat.le_trans hN5 k.1.size) rfl (Nat.le_refl _) (by omega)))
    have hkd := (Kp.refl w5).drew
    have hb5lt : b5 < w5.heap.size := by have := hJ5.size; omega
    have hbAlt : bA < w5.heap.size := by have := hJ5.size; omega
    have hwx := IntWalk.i64_in (x.2 + 4) (by omega)
    clear hV hc5 hc6 hcd hc6' hA0 hbx ht3 hmap hI0 hown hownW hg5
    have hBad : okAt data x.2 = false → (allOf ps).all (fun y => okAt data y.2) = false := by
      intro h
      rw [Bool.eq_false_iff]
      intro hall
      have := List.all_eq_true.1 hall x (List.mem_of_getElem? hx)
      rw [h] at this
      cases this
    have HBad := Lib.hid hBad
    have hKey : okAt data x.2 = true → ∀ y : Int, Maps.has (D.put (.int .i64 x.2) (.agg [])) (.int .i64 y) = true → okAt data y = true := by
      intro h y hy
      by_cases hyx : y = x.2
      · subst hyx; exact h
      · rw [Maps.has_put_other (by intro e; injection e with e1 e2; exact hyx e2)] at hy
        exact Hkeys.out y hy
    have hDone : okAt data x.2 = true → ∀ (i : Nat) (y : Int × Int), i < k2 + 1 → (allOf ps)[i]? = some y → okAt data y.2 = true := by
      intro h i y hi hy
      by_cases hik : i = k2
      · subst hik; rw [hx] at hy; injection hy with hy; subst hy; exact h
      · exact Hdone.out i y (by omega) hy
    have HKey := Lib.hid hKey
    have HDone2 := Lib.hid hDone
    clear hBad hKey hDone
    refine wpIn_region_held (fun W' => W'.cell? ⟨b5, 0, none⟩ = some (.pointer (some ⟨bA, 0, none⟩)) ∧ W'.cell? ⟨bA, 1, none⟩ = some (.slice ad data.length data.length)) hmx (by rfl) (by rintro ⟨a', w', h⟩; exact h) ⟨hc55, hcd5⟩ (fun hHeld => ?_)
    refine wpAnyH_take (i := 0) (v := ?_) rfl (by kernel_rfl) (by kernel_rfl) (by kernel_rfl) (fun _ _ _ h => h) (Or.inl ⟨by rfl, ?_⟩) hHeld ?_
    rotate_left
    · intro w hSw; (try dsimp only at hSw); go_simp; (try with_reducible rfl); (try done)
    simp only [Act.put, List.setIfInBounds_toArray, List.set_cons_zero, List.set_cons_succ, List.getElem_toArray, List.getElem_cons_zero]
    refine wpAnyH_take (i := 1) (v := ?_) rfl (by kernel_rfl) (by kernel_rfl) (by kernel_rfl) (fun _ _ _ h => h) (Or.inl ⟨by rfl, ?_⟩) hHeld ?_
    rotate_left
    · intro w hSw; (try dsimp only at hSw); go_simp; (try with_reducible rfl); (try done)
    simp only [Act.put, List.setIfInBounds_toArray, List.set_cons_zero, List.set_cons_succ, List.getElem_toArray, List.getElem_cons_zero, List.getElem_cons_succ]
    refine wpAnyH_take (i := 2) (v := ?_) rfl (by kernel_rfl) (by kernel_rfl) (by kernel_rfl) (fun _ _ _ h => h) (Or.inl ⟨by rfl, ?_⟩) hHeld ?_
    rotate_left
    · intro w hSw; (try dsimp only at hSw); go_simp; (try with_reducible rfl); (try done)
    simp only [Act.put, List.setIfInBounds_toArray, List.set_cons_zero, List.set_cons_succ, List.getElem_toArray, List.getElem_cons_zero, List.getElem_cons_succ]
    refine wpAnyH_take (i := 3) (v := ?_) rfl (by kernel_rfl) (by kernel_rfl) (by kernel_rfl) (fun _ _ _ h => h) (Or.inl ⟨by rfl, ?_⟩) hHeld ?_
    rotate_left
    · intro w hSw; (try dsimp only at hSw); go_simp; (try with_reducible rfl); (try done)
    simp only [Act.put, List.setIfInBounds_toArray, List.set_cons_zero, List.set_cons_succ, List.getElem_toArray, List.getElem_cons_zero, List.getElem_cons_succ]
    refine wpAnyH_take (i := 4) (v := ?_) rfl (by kernel_rfl) (by kernel_rfl) (by kernel_rfl) (fun _ _ _ h => h) (Or.inl ⟨by rfl, ?_⟩) hHeld ?_
    rotate_left
    · intro w hSw; (try dsimp only at hSw); go_simp; (try with_reducible rfl); (try done)
    simp only [Act.put, List.setIfInBounds_toArray, List.set_cons_zero, List.set_cons_succ, List.getElem_toArray, List.getElem_cons_zero, List.getElem_cons_succ]
    refine wpAnyH_take (i := 5) (v := ?_) rfl (by kernel_rfl) (by kernel_rfl) (by kernel_rfl) (fun _ _ _ h => h) (Or.inl ⟨by rfl, ?_⟩) hHeld ?_
    rotate_left
    · intro w hSw; (try dsimp only at hSw); go_simp; (try with_reducible rfl); (try done)
    simp only [Act.put, List.setIfInBounds_toArray, List.set_cons_zero, List.set_cons_succ, List.getElem_toArray, List.getElem_cons_zero, List.getElem_cons_succ]
    refine wpAnyH_take (i := 6) (v := ?_) rfl (by kernel_rfl) (by kernel_rfl) (by kernel_rfl) (fun _ _ _ h => h) (Or.inl ⟨by rfl, ?_⟩) hHeld ?_
    rotate_left
    · intro w hSw; (try dsimp only at hSw); go_simp; (try with_reducible rfl); (try done)
    simp only [Act.put, List.setIfInBounds_toArray, List.set_cons_zero, List.set_cons_succ, List.getElem_toArray, List.getElem_cons_zero, List.getElem_cons_succ]
    refine wpAnyH_take (i := 7) (v := ?_) rfl (by kernel_rfl) (by kernel_rfl) (by kernel_rfl) (fun _ _ _ h => h) (Or.inl ⟨by rfl, ?_⟩) hHeld ?_
    rotate_left
    · intro w hSw; (try dsimp only at hSw); go_simp; (try with_reducible rfl); (try done)
    simp only [Act.put, List.setIfInBounds_toArray, List.set_cons_zero, List.set_cons_succ, List.getElem_toArray, List.getElem_cons_zero, List.getElem_cons_succ]
    refine wpAnyH_take (i := 8) (v := ?_) rfl (by kernel_rfl) (by kernel_rfl) (by kernel_rfl) (fun _ _ _ h => h) (Or.inl ⟨by rfl, ?_⟩) hHeld ?_
    rotate_left
    · intro w hSw; (try dsimp only at hSw); go_simp; (try with_reducible rfl); (try done)
    simp only [Act.put, List.setIfInBounds_toArray, List.set_cons_zero, List.set_cons_succ, List.getElem_toArray, List.getElem_cons_zero, List.getElem_cons_succ]
    refine wpAnyH_take (i := 9) (v := ?_) rfl (by kernel_rfl) (by kernel_rfl) (by kernel_rfl) (fun _ _ _ h => h) (Or.inl ⟨by rfl, ?_⟩) hHeld ?_
    rotate_left
    · intro w hSw; (try dsimp only at hSw); go_simp; (try with_reducible rfl); (try done)
    simp only [Act.put, List.setIfInBounds_toArray, List.set_cons_zero, List.set_cons_succ, List.getElem_toArray, List.getElem_cons_zero, List.getElem_cons_succ]
    refine wpAnyH_take (i := 10) (v := ?_) rfl (by kernel_rfl) (by kernel_rfl) (by kernel_rfl) (fun _ _ _ h => h) (Or.inl ⟨by rfl, ?_⟩) hHeld ?_
    rotate_left
    · intro w hSw; (try dsimp only at hSw); go_simp; (try with_reducible rfl); (try done)
    simp only [Act.put, List.setIfInBounds_toArray, List.set_cons_zero, List.set_cons_succ, List.getElem_toArray, List.getElem_cons_zero, List.getElem_cons_succ]
    refine wpAnyH_ready (rs := [11]) (by kernel_rfl) (by simp) ?_
    refine AllReadyH.cons rfl (fun K' hK' => ?_) AllReadyH.nil
    go_simp
    refine (CU.out _ hkd).mono ?_
    rintro e w6 hh
    rcases hh.or with ⟨n6, hq6, rfl, hK6⟩ | ⟨hq6, rfl, hK6⟩
    rotate_left
    · refine bodyR_panic (I := AI w3 wc.heap.size ps data) (Ip := AIp w3 wc.heap.size ps data) (B := w3.heap.size) (k := k2) (W := W) rfl ⟨hJ5.kp (hkd.trans hK6), HBad.out (by simp [okAt, hq6])⟩ (hkb5.trans (.of_kp (hkd.trans hK6)))
    have hk6 := hkd.trans hK6
    have hc56 := (hk6.2.1 b5 0 hb5lt).trans hc55
    have hcd6 := (hk6.2.1 bA 1 hbAlt).trans hcd5
    refine hK'.out _ _ ⟨hc56, hcd6⟩ (fun hHeld => ?_)
    clear hK' K'
    try simp only [Act.put, List.setIfInBounds_toArray, List.set_cons_zero, List.set_cons_succ, List.getElem_toArray, List.getElem_cons_zero, List.getElem_cons_succ]
    refine wpAnyH_ready (rs := [12]) (by kernel_rfl) (by simp) ?_
    refine AllReadyH.cons rfl (fun K' hK' => ?_) AllReadyH.nil
    go_simp
    refine (CR.out _ _ hk6).mono ?_
    rintro e w7 hh
    rcases hh.or with ⟨m7, a7, hq7, rfl, hb7, hK7⟩ | ⟨hq7, rfl, hK7⟩
    rotate_left
    · refine bodyR_panic (I := AI w3 wc.heap.size ps data) (Ip := AIp w3 wc.heap.size ps data) (B := w3.heap.size) (k := k2) (W := W) rfl ⟨hJ5.kp (hk6.trans hK7), HBad.out (by simp [okAt, hq6, hq7])⟩ (hkb5.trans (.of_kp (hk6.trans hK7)))
    have hc57 := ((hk6.trans hK7).2.1 b5 0 hb5lt).trans hc55
    have hcd7 := ((hk6.trans hK7).2.1 bA 1 hbAlt).trans hcd5
    refine hK'.out _ _ ⟨hc57, hcd7⟩ (fun hHeld => ?_)
    clear hK' K'
    refine wpAnyH_done (by kernel_rfl) ?_ _
    gi_wp2_with fail
    have hok : okAt data x.2 = true := by simp [okAt, hq6, hq7]
    exact ⟨⟨hJ5.kp (hk6.trans hK7), ⟨_, _, hown5.kept (only_of_below (hk6.trans hK7).1 none) (by simp), by omega, HKey.out hok⟩, HDone2.out hok⟩, hkb5.trans (.of_kp (hk6.trans hK7))⟩
  · intro D W hI hD hDd
    have hb5 : W.cell? ⟨b5, 0, none⟩ = some (.pointer (some ⟨bA, 0, none⟩)) :=
      ((World.cell?_of_block (a := ⟨b5, 0, none⟩) (hI.1.block _ (by simp; have := hV.1.lt (List.mem_cons_self); omega) (by simp; have := hV.1.lt (List.mem_cons_self); omega))).trans (hkc.1.cell (p := ⟨b5, 0, none⟩) (hV.1.lt (List.mem_cons_self)))).trans (hV.cellA 0)
    have hfin : AnkrPost N T w (.returned (.pointer (some ⟨bA, 0, none⟩))) (W.putObj D (.deferred none)) := by
      have hT : T = some (ps, data) := by
        rw [← HT.out, ankrTake_head, hH.1]
        simp [allOk hI.2.2]
      rw [hT]
      have hJ := hI.1.put (.deferred none) hD
      exact ⟨bA, rfl, at_last hA hV.hN hkc hJ, hJ.kpOf (hV.K.trans hkc) hV.K.1.size⟩
    have Hfin := Lib.hid hfin
    have Htd := Lib.hid (run_takeDeferred (P := Try.prog) hDd)
    clear hfin hI hA hAn hAb hAt hAd hV hc5 hA0 hbx ht3 hmap hI0 hkc hk3 hK1 hDd
    refine wpAt_of_wp ?_
    go_wp2_with fail
    refine ⟨by simp, .inl ⟨_, _, rfl, Htd.out, ?_⟩⟩
    exact ⟨_, results_tmp (t := 4) rfl _ _ _, Hfin.out⟩
  · intro D W hI hD hDd
    refine .inr ⟨D, _, rfl, run_takeDeferred (P := Try.prog) hDd, ?_⟩
    have hJ := hI.1.put (.deferred none) hD
    have hT : T = none := by
      rw [← HT.out, ankrTake_head, hH.1]
      simp [hI.2]
    rw [hT]
    exact ⟨rfl, hJ.kpOf (hV.K.trans hkc) hV.K.1.size⟩
end Go.Proofs.Ytidedlbieakagaa
