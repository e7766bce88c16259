/- THE WALKS of package lookup: segments. -/
import Derived.Test.YtidedlbieakagaaLook4
import Derived.Deep.CutRange
namespace Go.Proofs.Ytidedlbieakagaa
open Go.RowKit
variable [Lo]
theorem BB.listM {N : Nat} {a : Option Addr} {l : List Int} {cap : Nat} {L : List (Nat × TypeId × Array Value)} {w : World} (hlen : l.length ≤ 1073741824) (q n size : Int) (hs : size = 1 ∨ size = 2 ∨ size = 4) (W : World) (h : BB N a l cap L w W) :
    Calls Try.prog 85 #[.agg #[.slice a l.length cap], .int .i64 q, .int .i64 n, .int .i64 size] W (fun e w' => (∃ xs v, Go.Proofs.Ytidedlbieakagaa.list l q n size = some xs ∧ e = .returned v ∧ Ints (New W w') w' v xs ∧ Kp W w') ∨ (Go.Proofs.Ytidedlbieakagaa.list l q n size = none ∧ e = .panicked Short ∧ Kp W w')) := by
  refine (BB.list hlen q n size hs W h.mid).mono fun e w' hh => ?_
  rcases hh with ⟨xs, v, h1, h2, h3, h4⟩ | ⟨h1, h2, h4⟩
  · exact .inl ⟨xs, v, h1, h2, h3, h4.K⟩
  · exact .inr ⟨h1, h2, h4.K⟩
omit [Lo] in
theorem segment_no1 {l row : List Int} {size : Int} {each : Bool} (h : u16 row 2 = none) : segment l row size each = none := by simp [segment, h]
omit [Lo] in
theorem segment_no2 {l row : List Int} {size : Int} {each : Bool} (h : u16 row 0 = none) : segment l row size each = none := by
  unfold segment; rw [h]; cases u16 row 2 <;> rfl
omit [Lo] in
theorem segment_no3 {l row : List Int} {size first last : Int} {each : Bool} (h1 : u16 row 2 = some first) (h2 : u16 row 0 = some last) (h3 : ¬ first ≤ last) : segment l row size each = none := by simp [segment, h1, h2, h3]
set_option maxRecDepth 100000 in
set_option maxHeartbeats 4000000 in
theorem segments_any (N : Nat) (a : Option Addr) (l : List Int) (len cap : Nat) (g size : Int) (each : Bool) (w : World) (hb : Bts N w a l) (hN : N ≤ w.heap.size) (hl : l.length = len) (hc : len ≤ cap) (hm : cap ≤ 9223372036854775807) (hlen : len ≤ 1073741824) (hs : size = 2 ∨ size = 4) :
    Calls Try.prog 86 #[.agg #[.slice a len cap, .int .i64 g, .int .i64 size], .bool each] w (PartsPost (segments l size each) w) := by
  subst hl
  have hV := (BB.start hb hN hc hm).alloc #[.slice a l.length cap, .int .i64 g, .int .i64 size] 183
  have hsz : 2 ≤ size ∧ size ≤ 4 := by omega
  have HZ := Lib.hid (show size = 1 ∨ size = 2 ∨ size = 4 from .inr hs)
  clear hb hs
  generalize hT : segments l size each = T
  have HT := Lib.hid hT
  have CS := Lib.hid (fun (p : Int) (need : Int) hp0 hp1 hk => @BB.seekK _ N a l cap [(w.heap.size, 183, #[.slice a l.length cap, .int .i64 g, .int .i64 size])] w hlen p need 2 2 rfl hk hp0 hp1)
  have HF := Lib.hid (show ∀ w', T = none → Kp w w' → PartsPost T w (.panicked Short) w' from fun w' h k => by subst h; exact ⟨rfl, k⟩)
  clear hT
  have hc0 := hV.cell (List.mem_cons_self) 0
  have hc2 := hV.cell (List.mem_cons_self) 2
  go_enter Try.func86, Try.ntmps86
  go_upto_if 13 with fail
  go_cut [5] from 10 to 13 (fun s5 w' => (∃ need : Int, s5 = .int .i64 need ∧ need = if each then 6 else 4 + size) ∧ w' = w.alloc (.cells #[.slice a l.length cap, .int .i64 g, .int .i64 size] 183))
  case first => go_wp2_with fail; all_goals (go_meet; simp_all)
  obtain ⟨⟨need, rfl, hneed⟩, rfl⟩ := hcut
  have hn4 : 4 ≤ need := by rw [hneed]; split <;> omega
  have Hneed := Lib.hid hneed
  clear hneed
  go_wp2_with (go_at_call 112; ((with_reducible refine (CS.out _ _ ?_ ?_ ?_ _ ?_).mono ?_); omega; omega; omega; exact hV; rintro e w1 (⟨rs, v, hq1, rfl, hv1, hV1⟩ | ⟨hq1, rfl, hV1⟩); rotate_left; exact ⟨rfl, HF.out _ (by rw [← HT.out]; simp [segments, ← Hneed.out, hq1]) hV1.K⟩; have Hq1 := Lib.hid hq1; obtain ⟨A, c, rfl, hvc, hvm⟩ := SliceOf.form hv1; clear hq1 hV hc0 hc2))
  obtain ⟨i0, hi0, hz0, hz1, hz2⟩ := info_parts Try.infoPart
  have hls : rs.length ≤ maxLen := by omega
  have hrl : rs.length ≤ 1073741824 := by
    have := seekTake_len hV1.2.1.2 Hq1.out
    omega
  have hw1 : w.heap.size < w1.heap.size := hV1.1.lt (List.mem_cons_self)
  go_loopw [6, 19] (fun v i wr => ∃ (k : Nat) (xs : List Value) (ps : List Part), k ≤ rs.length ∧ i = .int .i64 k ∧ wr.ownsRow w1.heap.size 180 3 v k xs ∧ Flat 3 (PartC (Nb w wr v) wr) xs ps ∧ mapO (fun row => segment l row size each) (rs.take k) = some ps ∧ BB N a l cap [(w.heap.size, 183, #[.slice a l.length cap, .int .i64 g, .int .i64 size])] w wr ∧ Views w1.heap.size wr (.slice A rs.length c) rs ∧ w1.heap.size ≤ wr.heap.size) (fun _ i _ => rs.length - (intOf i).toNat)
  case atStart => exact ⟨0, [], [], Nat.zero_le _, rfl, World.ownsRow_nil _ _ _ _, Flat.nil _ _, rfl, hV1, hv1, Nat.le_refl _⟩
  case round =>
    obtain ⟨k, xs, ps, hkm, rfl, hown, hfl, hmo, hVr, hvr, hszr⟩ := hrel
    clear hV1 hv1
    by_cases hlt : k < rs.length
    · obtain ⟨b, o, c, hu, h1, h2, hbl, hat⟩ := Views.at hvr (by omega)
      injection hu with hA hl hc
      subst hA hc
      obtain ⟨a', c', hcell, h3, h4, hbt⟩ := hat k hlt
      generalize hrow : rs[k] = row at hcell h3 hbt
      have hrs : rs[k]? = some row := by rw [List.getElem?_eq_getElem hlt, hrow]
      have hF2 : ∀ w', segment l row size each = none → Kp wr w' → PartsPost T w (.panicked Short) w' := by
        intro w' h hB
        refine HF.out w' ?_ (hVr.K.trans hB)
        rw [← HT.out]; simp only [segments, ← Hneed.out, Hq1.out]
        exact mapO_none hrs h
      have HF2 := Lib.hid hF2
      have hS : ∀ p, segment l row size each = some p → mapO (fun row => segment l row size each) (rs.take (k + 1)) = some (ps ++ [p]) := by
        intro p h
        rw [List.take_add_one, hrs]
        exact mapO_snoc hmo h
      have HS := Lib.hid hS
      have Hown := Lib.hid hown
      have Hfl := Lib.hid hfl
      have hR := (BB.start hbt hszr h3 h4).alloc #[.slice a' row.length c'] 40
      clear hat hF2 hS hrow hmo hown hfl
      go_upto_region 8 with fail
      have CU := Lib.hid (fun (q : Int) (W : World) (L : List (Nat × TypeId × Array Value)) (h : BB w1.heap.size a' row c' L wr W) => BB.u16 q W h)
      go_cut [9] from 23 to 59 (fun s9 w' => ∃ (first last : Int) (b9 : Nat), Hid (Go.Proofs.Ytidedlbieakagaa.u16 row 2 = some first ∧ Go.Proofs.Ytidedlbieakagaa.u16 row 0 = some last) ∧ s9 = .pointer (some ⟨b9, 0, none⟩) ∧ wr.heap.size < b9 ∧ BB w1.heap.size a' row c' [(b9, 180, #[.int .i64 first, .int .i64 last, .slice none 0 0]), (wr.heap.size, 40, #[.slice a' row.length c'])] wr w')
      case first =>
        have hRd := hR.drew
        have hcr := hRd.cell (List.mem_cons_self) 0
        have hRa := fun cs t => (hR.alloc cs t).drew
        clear hR
        go_region_held2 (fun w' => w'.cell? ⟨wr.heap.size, 0, none⟩ = some (.slice a' row.length c')) (first | go_keep | exact hV3.cellA 0 | exact hV3.cellB 0 | exact (hV3.alloc _ _).cellB 0 | exact (hV3.set3 (by simp only []; omega) _ _ _).cellB 0 | exact hV2.cellA 0 | exact hV2.cellB 0 | exact hRd.cellA 0 | exact (hRa _ _).cellB 0 | exact (hRd.alloc _ _).cellB 0 | exact (hV2.alloc _ _).cellB 0) (first
          | (go_at_call 44; ((first | (with_reducible refine (CU.out 2 _ _ hRd).mono ?_) | (with_reducible refine (CU.out 2 _ _ (hRd.alloc _ _)).mono ?_) | (with_reducible refine (CU.out 2 _ _ (hRa _ _)).mono ?_)); rintro e w2 (⟨first, hq2, rfl, hV2⟩ | ⟨hq2, rfl, hV2⟩); rotate_left; exact ⟨rfl, HF2.out _ (segment_no1 hq2) hV2.K⟩; have hs2 := hV2.1.lt (List.mem_cons_self); dsimp only))
          | (go_at_call 44; ((first | (with_reducible refine (CU.out 0 _ _ hV2).mono ?_) | (with_reducible refine (CU.out 0 _ _ (hV2.alloc _ _)).mono ?_)); rintro e w3 (⟨last, hq3, rfl, hV3⟩ | ⟨hq3, rfl, hV3⟩); rotate_left; exact ⟨rfl, HF2.out _ (segment_no2 hq3) hV3.K⟩; have hy0 := hV3.cellA 0; have hy1 := hV3.cellA 1; have hy2 := hV3.cellA 2; have hf0 := hV3.freeA 0; have hf1 := hV3.freeA 1; have hf2 := hV3.freeA 2; (try simp only [World.size_alloc] at hy0 hy1 hy2 hf0 hf1 hf2); dsimp only)))
        all_goals ((repeat go_step); go_meet)
        all_goals first
          | exact ⟨first, last, _, ⟨hq2, hq3⟩, rfl, hV3.1.lt (List.mem_cons_self), hV3.alloc _ _⟩
          | exact ⟨first, last, _, ⟨hq2, hq3⟩, rfl, hs2, hV3.set3 hs2 _ _ _⟩
          | (have h3 := hV3.set3 (by simp) (.int .i64 first) (.int .i64 last) (.slice none 0 0); simp only [World.size_alloc] at h3; exact ⟨first, last, _, ⟨hq2, hq3⟩, rfl, by omega, h3⟩)
      clear hR
      obtain ⟨first, last, b9, Hq2, rfl, hb9, hR⟩ := hcut
      have hf := u16_lt hR.2.1.2 Hq2.out.1
      have hl := u16_lt hR.2.1.2 Hq2.out.2
      have hy0 := hR.cellA 0
      have hy1 := hR.cellA 1
      have hne : ∀ x ∈ [(wr.heap.size, 40, (#[.slice a' row.length c'] : Array Value))], x.1 ≠ b9 := by intro x hx; simp at hx; subst hx; simp; omega
      have CD := Lib.hid Need_any
      have hw4 := IntWalk.i64_in (last - first) (by omega)
      have hw5 := IntWalk.i64_in (last - first + 1) (by omega)
      go_upto_if 34 with (go_at_call 43; ((with_reducible refine (CD.out _ _).mono ?_); rintro e w4 (⟨hq4, rfl, rfl⟩ | ⟨hq4, rfl, rfl⟩); rotate_left; exact ⟨rfl, HF2.out _ (segment_no3 Hq2.out.1 Hq2.out.2 (of_decide_eq_false hq4)) hR.K⟩; have Hq4 := Lib.hid (of_decide_eq_true hq4); clear hq4))
      clear hy0 hy1
      go_cut [9] from 35 to 54 (fun s9 w' => ∃ (vs : List Int) (A5 : Option Addr) (c5 : Nat), s9 = .pointer (some ⟨b9, 0, none⟩) ∧ Hid (segment l row size each = some ⟨first, last, vs⟩) ∧ Ints (New wr w') w' (.slice A5 vs.length c5) vs ∧ BB w1.heap.size a' row c' [(b9, 180, #[.int .i64 first, .int .i64 last, .slice A5 vs.length c5]), (wr.heap.size, 40, #[.slice a' row.length c'])] wr w')
      case first =>
        have CL := Lib.hid (fun (q n : Int) (W : World) (h : BB N a l cap [(w.heap.size, 183, #[.slice a l.length cap, .int .i64 g, .int .i64 size])] w W) => BB.listM hlen q n size HZ.out W h)
        have CN := Lib.hid (fun (q : Int) (W : World) (L : List (Nat × TypeId × Array Value)) (h : BB w1.heap.size a' row c' L wr W) => BB.number q size W h)
        have hc0 := (hVr.kp hR.K).cellA 0
        have hc2 := (hVr.kp hR.K).cellA 2
        have hy0 := hR.cellA 0
        have hy1 := hR.cellA 1
        have hcr := hR.cellB 0
        cases each with
        | true =>
          have hRd := hR.drew
          have hSeg : ∀ p vs, Go.Proofs.Ytidedlbieakagaa.u16 row 4 = some p → Go.Proofs.Ytidedlbieakagaa.list l p (last - first + 1) size = some vs → segment l row size true = some ⟨first, last, vs⟩ := by
            intro p vs h1 h2
            simp [segment, Hq2.out.1, Hq2.out.2, Hq4.out, h1, h2]
          have hNo1 : Go.Proofs.Ytidedlbieakagaa.u16 row 4 = none → segment l row size true = none := by
            intro h1
            simp [segment, Hq2.out.1, Hq2.out.2, Hq4.out, h1]
          have hNo2 : ∀ p, Go.Proofs.Ytidedlbieakagaa.u16 row 4 = some p → Go.Proofs.Ytidedlbieakagaa.list l p (last - first + 1) size = none → segment l row size true = none := by
            intro p h1 h2
            simp [segment, Hq2.out.1, Hq2.out.2, Hq4.out, h1, h2]
          have HSeg := Lib.hid hSeg
          have HNo1 := Lib.hid hNo1
          have HNo2 := Lib.hid hNo2
          have hS5 : ∀ W V, BB w1.heap.size a' row c' [(b9, 180, #[.int .i64 first, .int .i64 last, V]), (wr.heap.size, 40, #[.slice a' row.length c'])] wr W → (W.cell? ⟨w.heap.size, 0, none⟩ = some (.slice a l.length cap) ∧ W.cell? ⟨w.heap.size, 2, none⟩ = some (.int .i64 size) ∧ W.cell? ⟨wr.heap.size, 0, none⟩ = some (.slice a' row.length c') ∧ W.cell? ⟨b9, 0, none⟩ = some (.int .i64 first) ∧ W.cell? ⟨b9, 1, none⟩ = some (.int .i64 last)) := fun W V h => ⟨(hVr.kp h.K).cellA 0, (hVr.kp h.K).cellA 2, h.cellB 0, h.cellA 0, h.cellA 1⟩
          have HS5 := Lib.hid hS5
          clear hSeg hNo1 hNo2 hS5 hR
          go_wp2_with fail
          go_region_held2 (fun W => W.cell? ⟨w.heap.size, 0, none⟩ = some (.slice a l.length cap) ∧ W.cell? ⟨w.heap.size, 2, none⟩ = some (.int .i64 size) ∧ W.cell? ⟨wr.heap.size, 0, none⟩ = some (.slice a' row.length c') ∧ W.cell? ⟨b9, 0, none⟩ = some (.int .i64 first) ∧ W.cell? ⟨b9, 1, none⟩ = some (.int .i64 last)) (first | go_keep | exact HS5.out _ _ hV5 | exact HS5.out _ _ hV4 | exact HS5.out _ _ hRd | exact HS5.out _ _ (hV5.set hne 2 _)) (first
            | (go_at_call 44; ((with_reducible refine (CU.out 4 _ _ hRd).mono ?_); rintro e w4 (⟨p, hq4, rfl, hV4⟩ | ⟨hq4, rfl, hV4⟩); rotate_left; exact ⟨rfl, HF2.out _ (HNo1.out hq4) hV4.K⟩; dsimp only))
            | (go_at_call 85; ((with_reducible refine (CL.out _ _ _ (hVr.kp hV4.K)).mono ?_); rintro e w5 (⟨vs, V, hq5, rfl, hi5, hK5⟩ | ⟨hq5, rfl, hK5⟩); rotate_left; exact ⟨rfl, HF2.out _ (HNo2.out _ hq4 hq5) (hV4.K.trans hK5)⟩; obtain ⟨A5, c5, rfl, _, _⟩ := Ints.form hi5; have hV5 := hV4.kp hK5; have hy2 := hV5.cellA 2; have hf2 := hV5.freeA 2; dsimp only)))
          (repeat go_step); go_meet
          have hi6 : Ints (New wr (w5.setCell ⟨b9, 2, none⟩ (.slice A5 vs.length c5))) (w5.setCell ⟨b9, 2, none⟩ (.slice A5 vs.length c5)) (.slice A5 vs.length c5) vs :=
            (hi5.frame (Same.setCell (b := b9) (by have := hV4.1.lt (List.mem_cons_self); intro h; exact absurd h.1 (by omega)))).mono fun b hb => ⟨Nat.le_trans hV4.K.1.size hb.1, by simpa using hb.2⟩
          exact ⟨vs, A5, c5, rfl, Lib.hid (HSeg.out _ _ hq4 hq5), hi6, hV5.set hne 2 _⟩
        | false =>
          have hSeg : ∀ x, num row 4 size = some x → segment l row size false = some ⟨first, last, [x]⟩ := by
            intro x h1
            simp [segment, Hq2.out.1, Hq2.out.2, Hq4.out, h1]
          have hNo1 : num row 4 size = none → segment l row size false = none := by
            intro h1
            simp [segment, Hq2.out.1, Hq2.out.2, Hq4.out, h1]
          have HSeg := Lib.hid hSeg
          have HNo1 := Lib.hid hNo1
          clear hSeg hNo1
          go_wp2_with (go_at_call 111; ((with_reducible refine (CN.out _ _ _ hR).mono ?_); rintro e w4 (⟨x, hq4, rfl, hV4⟩ | ⟨hq4, rfl, hV4⟩); rotate_left; exact ⟨rfl, HF2.out _ (HNo1.out hq4) hV4.K⟩; have hV5 := hV4.kp ((Kp.refl _).alloc (.cells #[.int .i64 x] 3)); have hy2 := hV5.cellA 2; have hf2 := hV5.freeA 2; have Hq5 := Lib.hid hq4; clear hq4 hy0 hy1 hR hc0 hc2 hcr))
          go_meet
          have hi6 : Ints (New wr ((w4.alloc (.cells #[.int .i64 x] 3)).setCell ⟨b9, 2, none⟩ (.slice (some ⟨w4.heap.size, 0, none⟩) 1 1))) ((w4.alloc (.cells #[.int .i64 x] 3)).setCell ⟨b9, 2, none⟩ (.slice (some ⟨w4.heap.size, 0, none⟩) 1 1)) (.slice (some ⟨w4.heap.size, 0, none⟩) 1 1) [x] :=
            ((ints_new w4 x 3).frame (Same.setCell (b := b9) (by have := hV4.1.lt (List.mem_cons_self); intro h; exact absurd h.1 (by omega)))).mono fun b hb => ⟨Nat.le_trans hV4.K.1.size hb.1, by simpa using hb.2⟩
          exact ⟨[x], some ⟨w4.heap.size, 0, none⟩, 1, rfl, Lib.hid (HSeg.out _ Hq5.out), hi6, hV5.set hne 2 _⟩
      clear hR
      obtain ⟨vs, A5, c5, rfl, Hseg, hi, hR⟩ := hcut
      have hy0 := hR.cellA 0
      have hy1 := hR.cellA 1
      have hy2 := hR.cellA 2
      have hK := hR.K
      go_wp2_with (at_builtin; (refine wpList_push (w := wr) (W := wc) ?_ (.tmp 55) (.tmp 57) 176 ?_ w1.heap.size 180 i0 _ 3 40 Try.underlying176 hi0 hz0 hz1 hz2 rfl (by omega) u6 k xs ?_ Hown.out hK ?_ ?_ ?_ ?_ ?_ hszr ?_; rfl; rfl; rfl; rfl; (simp [Value.oneCell']); (simp [Act.eval]); (simp only [maxLen]; omega); omega; intro v' w9 hown9 hg9 hob9))
      have R := part_app hVr (by intro x hx; simp at hx; subst hx; exact hw1) (by omega) hszr Hown.out Hfl.out hK hi hg9 hob9
      have HS2 := HS.out _ Hseg.out
      clear Hown Hfl HS HF2 hg9 hob9 hVr hK
      go_roundw
      case rel => exact ⟨k + 1, _, _, by omega, by go_num, hown9, R.1, HS2, R.2.1, hvr.frame R.2.2.1, R.2.2.2⟩
      case measure => simp [intOf]; omega
    · obtain rfl : k = rs.length := by omega
      rw [List.take_length] at hmo
      have hT : T = some ps := by rw [← HT.out]; simp only [segments, ← Hneed.out, Hq1.out]; exact hmo
      have hV := SliceOf.of_own (P := New w wr) hown hfl (by rw [mapO_len hmo]) (fun g h1 h2 => ⟨by omega, h2⟩)
      subst hT
      have Hfin := Lib.hid (show PartsPost (some ps) w (.returned u6) wr from ⟨_, rfl, hV.mono (fun _ h => h) fun _ _ h => h.mono fun b hb => hb.1, hVr.K⟩)
      clear hV hVr hown hfl hmo hvr HT HF
      go_wp2_with fail
      go_ret
      exact Hfin.out
end Go.Proofs.Ytidedlbieakagaa
