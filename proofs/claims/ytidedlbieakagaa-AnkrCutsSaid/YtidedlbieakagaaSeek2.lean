/- THE WALKS of package seek: Take. -/
import Derived.Test.YtidedlbieakagaaSeek1
import Derived.Test.YtidedlbieakagaaGrow
import Derived.Deep.RegionHeld2
namespace Go.Proofs.Ytidedlbieakagaa
open Go.RowKit
variable [Lo]
def SeekPost (o : Option (List (List Int))) (w : World) (e : Ending) (w' : World) : Prop := match o with | some ls => (∃ v, e = .returned v ∧ Views w'.heap.size w' v ls ∧ Kp w w') | none => Fails w e w'
/-- The call's own box of its View, and the View's bytes. -/
def VBox (N : Nat) (a : Option Addr) (l : List Int) (cap : Nat) (w W : World) : Prop := Own w [(w.heap.size, 40, #[.slice a l.length cap])] W ∧ Bts N W a l ∧ N ≤ w.heap.size ∧ l.length ≤ cap ∧ cap ≤ 9223372036854775807
theorem VBox.start {N : Nat} {a : Option Addr} {l : List Int} {cap : Nat} {w : World} (hb : Bts N w a l) (hN : N ≤ w.heap.size) (hc : l.length ≤ cap) (hm : cap ≤ 9223372036854775807) : VBox N a l cap w (w.alloc (.cells #[.slice a l.length cap] 40)) :=
  ⟨(Own.start w).alloc _ _, hb.al hN _, hN, hc, hm⟩
theorem VBox.kp {N : Nat} {a : Option Addr} {l : List Int} {cap : Nat} {w W W' : World} (h : VBox N a l cap w W) (k : Kp W W') : VBox N a l cap w W' :=
  ⟨h.1.kp k, h.2.1.kp (by have := h.1.size; have := h.2.2.1; omega) k, h.2.2⟩
theorem VBox.drew {N : Nat} {a : Option Addr} {l : List Int} {cap : Nat} {w W : World} (h : VBox N a l cap w W) : VBox N a l cap w W.drew := h.kp (.drew (.refl _))
theorem VBox.cell {N : Nat} {a : Option Addr} {l : List Int} {cap : Nat} {w W : World} (h : VBox N a l cap w W) : W.cell? ⟨w.heap.size, 0, none⟩ = some (.slice a l.length cap) := h.1.cell (List.mem_cons_self) 0
theorem VBox.hN {N : Nat} {a : Option Addr} {l : List Int} {cap : Nat} {w W : World} (h : VBox N a l cap w W) : N ≤ W.heap.size := by have := h.1.size; have := h.2.2.1; omega
omit [Lo] in
theorem GivesInt.or {o : Option Int} {w w' : World} {e : Ending} (h : GivesInt o w e w') : (∃ x, o = some x ∧ e = .returned (.int .i64 x) ∧ Kp w w') ∨ (o = none ∧ e = .panicked Short ∧ Kp w w') := by
  cases o with
  | some x => exact .inl ⟨x, rfl, h.1, h.2⟩
  | none => exact .inr ⟨rfl, h.1, h.2⟩
theorem GivesView.or {N : Nat} {o : Option (List Int)} {w w' : World} {e : Ending} (h : GivesView N o w e w') : (∃ m a, o = some m ∧ e = .returned (.agg #[.slice a m.length m.length]) ∧ Bts N w' a m ∧ Kp w w') ∨ (o = none ∧ e = .panicked Short ∧ Kp w w') := by
  cases o with
  | some x => obtain ⟨a, h1, h2, h3⟩ := h; exact .inl ⟨x, a, rfl, h1, h2, h3⟩
  | none => exact .inr ⟨rfl, h.1, h.2⟩
theorem VBox.u16 {N : Nat} {a : Option Addr} {l : List Int} {cap : Nat} {w : World} (q : Int) (W : World) (h : VBox N a l cap w W) :
    Calls Try.prog 44 #[.agg #[.slice a l.length cap], .int .i64 q] W (fun e w' => (∃ x, Go.Proofs.Ytidedlbieakagaa.u16 l q = some x ∧ e = .returned (.int .i64 x) ∧ VBox N a l cap w w') ∨ (Go.Proofs.Ytidedlbieakagaa.u16 l q = none ∧ e = .panicked Short ∧ VBox N a l cap w w')) := by
  refine (U16_any N a l _ cap q W h.2.1 h.hN rfl h.2.2.2.1 h.2.2.2.2).mono fun e w' hh => ?_
  rcases hh.or with ⟨x, hx, he, hK⟩ | ⟨hx, he, hK⟩
  · exact .inl ⟨x, hx, he, h.kp hK⟩
  · exact .inr ⟨hx, he, h.kp hK⟩
theorem VBox.cut {N : Nat} {a : Option Addr} {l : List Int} {cap : Nat} {w : World} (q n : Int) (W : World) (h : VBox N a l cap w W) :
    Calls Try.prog 90 #[.agg #[.slice a l.length cap], .int .i64 q, .int .i64 n] W (fun e w' => (∃ m a', pc l q n = some m ∧ e = .returned (.agg #[.slice a' m.length m.length]) ∧ Bts N w' a' m ∧ VBox N a l cap w w') ∨ (pc l q n = none ∧ e = .panicked Short ∧ VBox N a l cap w w')) := by
  refine (Cut_any N a l _ cap q n W h.2.1 h.hN rfl h.2.2.2.1 h.2.2.2.2).mono fun e w' hh => ?_
  rcases hh.or with ⟨x, a', hx, he, hb, hK⟩ | ⟨hx, he, hK⟩
  · exact .inl ⟨x, a', hx, he, hb, h.kp hK⟩
  · exact .inr ⟨hx, he, h.kp hK⟩
theorem VBox.rows {N : Nat} {a : Option Addr} {l : List Int} {cap : Nat} {w : World} (q n size : Int) (W : World) (h : VBox N a l cap w W) :
    Calls Try.prog 48 #[.agg #[.slice a l.length cap], .int .i64 q, .int .i64 n, .int .i64 size] W (fun e w' => (∃ m a', Go.Proofs.Ytidedlbieakagaa.rows l q n size = some m ∧ e = .returned (.agg #[.slice a' m.length m.length]) ∧ Bts N w' a' m ∧ VBox N a l cap w w') ∨ (Go.Proofs.Ytidedlbieakagaa.rows l q n size = none ∧ e = .panicked Short ∧ VBox N a l cap w w')) := by
  refine (Rows_any N a l _ cap q n size W h.2.1 h.hN rfl h.2.2.2.1 h.2.2.2.2).mono fun e w' hh => ?_
  rcases hh.or with ⟨x, a', hx, he, hb, hK⟩ | ⟨hx, he, hK⟩
  · exact .inl ⟨x, a', hx, he, hb, h.kp hK⟩
  · exact .inr ⟨hx, he, h.kp hK⟩
omit [Lo] in
theorem Need_any (b : Bool) (w : World) : Calls Try.prog 43 #[.bool b] w fun e w' => (b = true ∧ e = .returned (.tuple #[]) ∧ w = w') ∨ (b = false ∧ e = .panicked Short ∧ w = w') := by
  cases b with
  | true => exact (Need_true w).mono fun e w' h => .inl ⟨rfl, h⟩
  | false => exact (Need_false w).mono fun e w' h => .inr ⟨rfl, h⟩
omit [Lo] in
theorem Try.infoView : (Try.prog.info? 40).map (fun i => (i.zero, i.size, i.bytes)) = some (some (.agg #[.slice none 0 0]), 1, 24) := by kernel_rfl
omit [Lo] in
theorem u16_lt {l : List Int} {p x : Int} (hw : Wf l) (h : u16 l p = some x) : 0 ≤ x ∧ x < 65536 := by
  unfold u16 at h; split at h
  · have := hw.B p; have := hw.B (p + 1); cases h; omega
  · cases h
set_option maxRecDepth 100000 in
set_option maxHeartbeats 1000000 in
theorem seekTake_any (N : Nat) (a : Option Addr) (l : List Int) (len cap : Nat) (p need : Int) (keys : Nat) (w : World) (hb : Bts N w a l) (hN : N ≤ w.heap.size) (hl : l.length = len) (hc : len ≤ cap) (hm : cap ≤ 9223372036854775807) (hlen : len ≤ 1073741824) (hk : 2 * (keys : Int) ≤ need) (hp0 : 0 ≤ p) (hp1 : p ≤ 65536) :
    Calls Try.prog 112 #[.agg #[.slice a len cap], .int .i64 p, .int .i64 need, .int .i64 keys] w (SeekPost (seekTake l p need keys) w) := by
  subst hl
  have hV := VBox.start hb hN hc hm
  have hw := IntWalk.i64_in (p + 2) (by omega)
  clear hb
  generalize hT : seekTake l p need keys = T
  have HT := Lib.hid hT
  have CU := Lib.hid (@VBox.u16 _ N a l cap w)
  have hVd := hV.drew
  have HF := Lib.hid (show ∀ w', T = none → Kp w w' → SeekPost T w (.panicked Short) w' from fun w' h k => by subst h; exact ⟨rfl, k⟩)
  clear hT
  go_enter Try.func112, Try.ntmps112
  go_wp2_with fail
  go_region_held2 (fun w' => w'.cell? ⟨w.heap.size, 0, none⟩ = some (.slice a l.length cap)) (first | go_keep | exact hV2.cell | exact hV1.cell) (first | (go_at_call 44; ((with_reducible refine (CU.out _ _ ?_).mono ?_); exact hV1; rintro e w2 (⟨n, hq2, rfl, hV2⟩ | ⟨hq2, rfl, hV2⟩); rotate_left; exact ⟨rfl, HF.out _ (by rw [← HT.out]; simp [seekTake, hq2]) hV2.1.1⟩; dsimp only)) | (go_at_call 44; ((with_reducible refine (CU.out _ _ ?_).mono ?_); exact hVd; rintro e w1 (⟨size, hq1, rfl, hV1⟩ | ⟨hq1, rfl, hV1⟩); rotate_left; exact ⟨rfl, HF.out _ (by rw [← HT.out]; simp [seekTake, hq1]) hV1.1.1⟩; dsimp only)))
  have hwf := hV2.2.1.2
  have hsz := u16_lt hwf hq1
  have hn := u16_lt hwf hq2
  clear hV hVd hV1 hwf hw CU
  have hc0 := hV2.cell
  have CC := Lib.hid (@VBox.cut _ N a l cap w)
  have CR := Lib.hid (@VBox.rows _ N a l cap w)
  have Hq1 := Lib.hid hq1
  have Hq2 := Lib.hid hq2
  clear hq1 hq2
  have CN := Lib.hid Need_any
  go_wp2_with (first
    | (go_at_call 90; ((with_reducible refine (CC.out _ _ _ ?_).mono ?_); exact hV2; rintro e w3 (⟨m0, a0, hq3, rfl, _, hV3⟩ | ⟨hq3, rfl, hV3⟩); rotate_left; exact ⟨rfl, HF.out _ (by rw [← HT.out]; simp [seekTake, Hq1.out, Hq2.out, pc_none hq3]) hV3.1.1⟩; have hc3 := hV3.cell; have Hq3 := Lib.hid (pc_sub hq3).1; clear hq3 hV2 hc0))
    | (go_at_call 43; ((with_reducible refine (CN.out _ _).mono ?_); rintro e w4 (⟨hq4, rfl, rfl⟩ | ⟨hq4, rfl, rfl⟩); rotate_left; exact ⟨rfl, HF.out _ (by rw [← HT.out]; have := of_decide_eq_false hq4; simp [seekTake, Hq1.out, Hq2.out, this]) hV3.1.1⟩; have Hq4 := Lib.hid (of_decide_eq_true hq4); clear hq4))
    | (go_at_call 48; ((with_reducible refine (CR.out _ _ _ _ ?_).mono ?_); exact hV3; rintro e w5 (⟨r, ra, hq5, rfl, hbr, hV5⟩ | ⟨hq5, rfl, hV5⟩); rotate_left; exact ⟨rfl, HF.out _ (by rw [← HT.out]; simp [seekTake, Hq1.out, Hq2.out, Hq3.out, Hq4.out, hq5]) hV5.1.1⟩; have hc5 := hV5.cell; have Hq5 := Lib.hid hq5; clear hq5 hV3 hc3)))
  obtain ⟨m, rfl⟩ := Int.eq_ofNat_of_zero_le hn.1
  obtain ⟨hr0, hr1, hr2, hr3, hr4, hr5⟩ := rows_some Hq5.out
  obtain ⟨i0, hi0, hz0, hz1, hz2⟩ := info_parts Try.infoView
  have hrl : r.length ≤ 1073741824 := by omega
  have hO6 := hV5.1.alloc #[.slice ra r.length r.length] 40
  have hbr6 := hbr.al hV5.hN (.cells #[.slice ra r.length r.length] 40)
  have hN5 := hV5.hN
  have hw5 := hV5.1.size
  have hvb := hV5.1.lt (List.mem_cons_self)
  have Hr3 := Lib.hid hr3
  clear hr0 hr1 hr2 hr3 hr4 hr5 hbr hV5 hc5
  go_loopw [12, 35] (fun v i wr => ∃ (k : Nat) (xs : List Value), k ≤ m ∧ i = .int .i64 k ∧ wr.ownsRow (w5.heap.size + 1) 40 1 v k xs ∧ Flat 1 (ViewC N wr) xs ((List.range k).map fun (i : Nat) => sub r (size * i) size) ∧ Own w [(w5.heap.size, 40, #[.slice ra r.length r.length]), (w.heap.size, 40, #[.slice a l.length cap])] wr ∧ Bts N wr ra r ∧ w5.heap.size + 1 ≤ wr.heap.size) (fun _ i _ => m - (intOf i).toNat)
  case atStart => exact ⟨0, [], Nat.zero_le _, rfl, World.ownsRow_nil _ _ _ _, Flat.nil _ _, hO6, hbr6, by simp⟩
  case round =>
    obtain ⟨k, xs, hkm, rfl, hown, hfl, hO, hb, hsz6⟩ := hrel
    clear hO6 hbr6
    have hp0 : 0 ≤ size * (k : Int) := Int.mul_nonneg (by omega) (by omega)
    have hp1 : size * (k : Int) ≤ 65536 * 65536 := Int.mul_le_mul (by omega) (by omega) (by omega) (by omega)
    have hc0 := hO.cell (List.mem_cons_self) 0
    have hNr : N ≤ wr.heap.size := by omega
    by_cases hlt : k < m
    · have hok : pcOk r.length (size * k) size := by
        have h1 : ((k : Int) + 1) * size ≤ (m : Int) * size := Int.mul_le_mul_of_nonneg_right (by omega) (by omega)
        have h2 : ((k : Int) + 1) * size = size * k + size := by rw [Int.add_mul, Int.mul_comm, Int.one_mul]
        have h3 : 0 ≤ (m : Int) * size := Int.mul_nonneg (by omega) (by omega)
        unfold pcOk
        rw [Hr3.out]
        omega
      have CC2 := Cut_any N ra r r.length r.length (size * k) size wr hb hNr rfl (Nat.le_refl _) (by omega)
      rw [show pc r (size * k) size = some (sub r (size * k) size) by simp [pc, hok]] at CC2
      have hml : (sub r (size * k) size).length = size.toNat := sub_length hok
      have hsnoc : (List.range (k + 1)).map (fun (i : Nat) => sub r (size * i) size) = (List.range k).map (fun (i : Nat) => sub r (size * i) size) ++ [sub r (size * k) size] := by rw [List.range_succ, List.map_append]; rfl
      generalize sub r (size * k) size = mk at CC2 hml hsnoc
      have hmk : mk.length ≤ 65536 := by omega
      have H : ∀ w7 a7 w9, Bts N w7 a7 mk → Kp wr w7 → (w7.alloc (.cells #[.slice a7 mk.length mk.length] 40)).grownBy w9 u12.ownBlock →
          Flat 1 (ViewC N w9) (xs ++ [.slice a7 mk.length mk.length]) ((List.range (k + 1)).map fun (i : Nat) => sub r (size * i) size) ∧ Own w [(w5.heap.size, 40, #[.slice ra r.length r.length]), (w.heap.size, 40, #[.slice a l.length cap])] w9 ∧ Below (w5.heap.size + 1) wr w9 ∧ w5.heap.size + 1 ≤ w9.heap.size := by
        intro w7 a7 w9 hb7 hK7 hg
        rw [hsnoc]
        exact views_snoc hO (by intro x hx; simp at hx; rcases hx with rfl | rfl <;> simp <;> omega) (by omega) hsz6 (by omega) (fun j hj => (hown.lt j hj).1) hfl hb7 (by omega) hK7 hg
      have H2 := Lib.hid H
      have hlt2 := hown.lt
      have Hown := Lib.hid hown
      clear H hsnoc hok hfl hown hml
      go_wp2_with (first
        | (go_at_call 90; ((with_reducible refine CC2.mono ?_); rintro e w7 ⟨a7, rfl, hb7, hK7⟩; clear CC2))
        | (at_builtin; refine wpList_append_own _ rfl (.tmp 38) (.tmp 45) _ rfl (w5.heap.size + 1) 40 i0 _ 1 24 Try.underlying213 hi0 hz0 hz1 hz2 rfl (by omega) _ k xs rfl ((own_kp Hown.out hK7).alloc _) ⟨w7.heap.size, 0, none⟩ 1 1 [.slice a7 mk.length mk.length] rfl rfl (cell_one_new _ _ _) (by simp [Value.oneCell']) (by simp only [maxLen]; omega) (by omega) (by have := hK7.1.size; simp; omega) ?_; intro v' w9 hown9 hg9 _))
      have R := H2.out _ _ _ hb7 hK7 hg9
      clear H2 Hown hlt2 hO
      go_roundw
      case rel => exact ⟨k + 1, _, by omega, by go_num, hown9, R.1, R.2.1, hb.frame (R.2.2.1.mono (by omega)), R.2.2.2⟩
      case measure => simp [intOf]; omega
    · obtain rfl : k = m := by omega
      have hV := SliceOf.of_own (P := (· < wr.heap.size)) hown (hfl.mono fun cs p h => h.mono hNr) (by simp) (fun g _ h => h)
      have hT : T = some (if 0 < (k : Int) ∧ noneB (sub r (size * ((k : Int) - 1)) size) keys = true then ((List.range k).map fun (i : Nat) => sub r (size * i) size).dropLast else (List.range k).map fun (i : Nat) => sub r (size * i) size) := by
        rw [← HT.out]
        simp only [seekTake, Hq1.out, Hq2.out, Hq3.out, Hq4.out, Hq5.out, and_self, if_true, Int.toNat_natCast]
      have HT2 := Lib.hid hT
      have hkr := hO.1
      clear hT hown hfl
      by_cases hk0 : k = 0
      · have hT3 : T = some [] := by rw [HT2.out, if_neg (by omega)]; simp [hk0]
        subst hT3
        have hg : decide (0 < k) = false := by simp; omega
        have hV0 : ∃ A c, u12 = .slice A k c ∧ Views wr.heap.size wr (.slice A k c) [] := by
          obtain ⟨A, c, xs', rfl, h1, h2, _⟩ := hV
          refine ⟨A, c, by simp, A, c, [], by simp [hk0], by simp, h2, .inl rfl, Flat.nil _ _⟩
        obtain ⟨A, c, rfl, hV0⟩ := hV0
        have hV0 := Lib.hid hV0
        clear hV hk0 HT2
        go_wp2_with fail
        go_ret
        exact ⟨_, rfl, hV0.out, hkr⟩
      · have hlen : ((List.range k).map fun (i : Nat) => sub r (size * i) size).length = k := by simp
        obtain ⟨b, o, c, hu, h1, h2, hbl, hat⟩ := Views.at hV (by rw [hlen]; omega)
        rw [hlen] at hu
        subst hu
        obtain ⟨a', c', hcell, h3, h4, hbt⟩ := hat (k - 1) (by rw [hlen]; omega)
        have e1 : ((List.range k).map fun (i : Nat) => sub r (size * i) size)[k - 1]'(by rw [hlen]; omega) = sub r (size * ((k : Int) - 1)) size := by
          simp only [List.getElem_map, List.getElem_range]
          rw [show ((k - 1 : Nat) : Int) = (k : Int) - 1 by omega]
        rw [e1] at hcell h3 hbt
        rw [hlen] at h1
        have hml : (sub r (size * ((k : Int) - 1)) size).length = size.toNat := by
          refine sub_length ?_
          have h5 : 0 ≤ size * ((k : Int) - 1) := Int.mul_nonneg (by omega) (by omega)
          have h6 : size * ((k : Int) - 1) = k * size - size := by rw [Int.mul_sub, Int.mul_comm, Int.mul_one]
          have h7 : 0 ≤ (k : Int) * size := Int.mul_nonneg (by omega) (by omega)
          unfold pcOk
          rw [Hr3.out]
          omega
        have CN2 := none_any _ a' _ _ c' keys wr hbt (Nat.le_refl _) rfl h3 h4 (by have := Hq4.out; omega)
        generalize sub r (size * ((k : Int) - 1)) size = mk at *
        have hg : decide (0 < k) = true := by simp; omega
        have hcell2 : wr.cell? ⟨b, o + (k - 1), none⟩ = some (.slice a' mk.length c') := hcell
        have hVt := SliceOf.take hV (k - 1) (by omega)
        have hcapm : c ≤ 9223372036854775807 := h2
        clear hat hml h3 h4 hbt e1 h2
        cases hnb : noneB mk keys with
        | true =>
          have hT3 : T = some ((List.range k).map fun (i : Nat) => sub r (size * i) size).dropLast := by rw [HT2.out, if_pos ⟨by omega, hnb⟩]
          subst hT3
          have hVd : Views wr.heap.size wr (.slice (some ⟨b, o, none⟩) (k - 1) c) ((List.range k).map fun (i : Nat) => sub r (size * i) size).dropLast := by rw [List.dropLast_eq_take, hlen]; exact hVt
          have Hfin : ∀ w9 k' A, Kp wr w9 → k' = k - 1 → A = some (⟨b, o, none⟩ : Addr) → SeekPost (some ((List.range k).map fun (i : Nat) => sub r (size * i) size).dropLast) w (.returned (.slice A k' c)) w9 := by
            rintro w9 k' A hK rfl rfl
            exact ⟨_, rfl, (hVd.frame hK.1).mono hK.1.size, hkr.trans hK⟩
          have Hfin := Lib.hid Hfin
          rw [hnb] at CN2
          clear hV hVt hVd HT2 hlen hnb
          go_wp2_with (go_at_call 123; ((with_reducible refine CN2.mono ?_); rintro e w9 ⟨rfl, hK9⟩; clear CN2))
          go_ret
          refine Hfin.out _ _ _ hK9 (by omega) ?_
          first | rfl | (split <;> rfl) | (simp [Addr.add])
        | false =>
          have hT3 : T = some ((List.range k).map fun (i : Nat) => sub r (size * i) size) := by rw [HT2.out, if_neg (by simp [hnb])]
          subst hT3
          have hVf : Views wr.heap.size wr (.slice (some ⟨b, o, none⟩) k c) ((List.range k).map fun (i : Nat) => sub r (size * i) size) := hV
          have Hfin : ∀ w9, Kp wr w9 → SeekPost (some ((List.range k).map fun (i : Nat) => sub r (size * i) size)) w (.returned (.slice (some ⟨b, o, none⟩) k c)) w9 := by
            rintro w9 hK
            exact ⟨_, rfl, (hVf.frame hK.1).mono hK.1.size, hkr.trans hK⟩
          have Hfin := Lib.hid Hfin
          rw [hnb] at CN2
          clear hV hVt hVf HT2 hlen hnb
          go_wp2_with (go_at_call 123; ((with_reducible refine CN2.mono ?_); rintro e w9 ⟨rfl, hK9⟩; clear CN2))
          go_ret
          exact Hfin.out _ hK9
end Go.Proofs.Ytidedlbieakagaa
