/- THE WALK of swashlaw24.Write. -/
import Derived.Test.YtidedlbieakagaaAnkrW0
import Derived.Deep.RegionHeld2
namespace Go.Proofs.Ytidedlbieakagaa
open Go.RowKit
theorem wrap_u16i (n : Int) : IntKind.i64.wrap (IntKind.u16.wrap n) = n % 65536 := by
  have h : IntKind.u16.wrap n = n % 65536 := by simp [IntKind.wrap, IntKind.bits, IntKind.signed]
  rw [h]
  exact IntWalk.i64_in _ (by omega)
theorem putN {base : Nat} {v : Value} {l : List Int} (n : Int) (m : Nat) {sz : Int} (w : World) (hsz : sz = (m : Int)) (hown : OB base w v l) (hbase : base ≤ w.heap.size) (hn0 : 0 ≤ n) (hn1 : n ≤ 4611686018427387904) (hs1 : m ≤ 8) (hl : l.length ≤ 1099511627776) :
    Calls Try.prog 36 #[v, .int .i64 n, .int .i64 sz] w (PutPost base (l ++ be n m) v w) := by
  subst hsz
  have h := Put_any base v l n (m : Int) w hown hbase hn0 hn1 (by omega) (by omega) hl
  rwa [Int.toNat_natCast] at h
theorem put2 {base : Nat} {v : Value} {l : List Int} (n : Int) (w : World) (hown : OB base w v l) (hbase : base ≤ w.heap.size) (hn0 : 0 ≤ n) (hn1 : n ≤ 4611686018427387904) (hl : l.length ≤ 1099511627776) :
    Calls Try.prog 36 #[v, .int .i64 n, .int .i64 2] w (PutPost base (l ++ be n 2) v w) := putN n 2 w rfl hown hbase hn0 hn1 (by omega) hl
theorem put4 {base : Nat} {v : Value} {l : List Int} (n : Int) (w : World) (hown : OB base w v l) (hbase : base ≤ w.heap.size) (hn0 : 0 ≤ n) (hn1 : n ≤ 4611686018427387904) (hl : l.length ≤ 1099511627776) :
    Calls Try.prog 36 #[v, .int .i64 n, .int .i64 4] w (PutPost base (l ++ be n 4) v w) := putN n 4 w rfl hown hbase hn0 hn1 (by omega) hl
set_option maxRecDepth 100000 in
set_option maxHeartbeats 8000000 in
theorem WriteA_any (P : Nat → Prop) (ls : List (List (Int × Int))) (v : Value) (w : World) (hP : ∀ b, P b → b < w.heap.size) (hin : PtsV P w v ls) (hsm : ls.length ≤ 1000) (hsl : (dataB ls).length ≤ 1000000) :
    Calls Try.prog 9 #[v] w fun e w' => ∃ v', e = .returned v' ∧ OB w.heap.size w' v' (writeA ls) ∧ Kp w w' := by
  obtain ⟨i0, hi0, hz0, hz1, hz2⟩ := info_parts Try.infoU8
  obtain ⟨a, c, rfl, hc1, hc2⟩ := SliceOf.form hin
  have hin' := fun W (k : Kp w W) => hin.frame ((Same.of_below k.1).mono hP)
  have hown0 : ((w.alloc (.cells #[.int .u8 0, .int .u8 0, .int .u8 0, .int .u8 0] 5)).alloc (.cells #[.int .u8 0, .int .u8 0, .int .u8 0, .int .u8 12] 5)).ownsRow w.heap.size 5 1 (.slice (some ⟨w.heap.size, 0, none⟩) 4 4) 4 [.int .u8 0, .int .u8 0, .int .u8 0, .int .u8 0] :=
    World.ownsRow.alloc (World.ownsRow_lit w #[.int .u8 0, .int .u8 0, .int .u8 0, .int .u8 0] 4 (Nat.le_refl _) (by simp [maxLen]) rfl) _
  have hrd : Reads ((w.alloc (.cells #[.int .u8 0, .int .u8 0, .int .u8 0, .int .u8 0] 5)).alloc (.cells #[.int .u8 0, .int .u8 0, .int .u8 0, .int .u8 12] 5)) (w.heap.size + 2) 1 (some ⟨w.heap.size + 1, 0, none⟩) 4 [.int .u8 0, .int .u8 0, .int .u8 0, .int .u8 12] := by
    have h := Reads.of_own (World.ownsRow_lit (e := 5) (size := 1) (base := 0) (w.alloc (.cells #[.int .u8 0, .int .u8 0, .int .u8 0, .int .u8 0] 5)) #[.int .u8 0, .int .u8 0, .int .u8 0, .int .u8 12] 4 (Nat.zero_le _) (by simp [maxLen]) rfl)
    simpa using h
  have hk0 : Kp w ((w.alloc (.cells #[.int .u8 0, .int .u8 0, .int .u8 0, .int .u8 0] 5)).alloc (.cells #[.int .u8 0, .int .u8 0, .int .u8 0, .int .u8 12] 5)) := ((Kp.refl w).alloc _).alloc _
  have Hin := Lib.hid hin'
  clear hin hin'
  go_enter Try.func9, Try.ntmps9
  go_wp2_with (at_builtin; refine wpList_append_any _ rfl (.tmp 10) (.tmp 11) _ rfl w.heap.size 5 i0 _ 1 1 Try.underlying25 hi0 hz0 hz1 hz2 rfl (by omega) (.slice (some ⟨w.heap.size, 0, none⟩) 4 4) 4 _ rfl hown0 _ _ 4 4 _ rfl hrd (by simp [Value.oneCell']) (by simp [maxLen]) (by omega) (by simp; omega) ?_; intro v3 w3 hown3 hg3 hat3)
  have hk3 : Kp w w3 := .of (hk0.1.grown hg3 hk0.1.size fun k hk => by simp [Value.ownBlock] at hk; omega)
  have hz3 := hk3.1.size
  have ho3 : OB w.heap.size w3 v3 [0, 0, 0, 0, 0, 0, 0, 12] := hown3
  clear hown3 hg3 hat3 hown0 hrd hk0
  refine (putN (base := w.heap.size) (l := []) 8 2 _ rfl (OB.nil _ _) hz3 (by omega) (by omega) (by omega) (by simp)).mono ?_
  rintro e w4 ⟨v4, rfl, ho4, hg4⟩
  have hz4 := Nat.le_trans hz3 hg4.1.size
  go_wp2_with fail
  refine (putN 0 2 _ rfl ho4 hz4 (by omega) (by omega) (by omega) (by simp [be_len])).mono ?_
  rintro e w5 ⟨v5, rfl, ho5, hg5⟩
  have hz5 := Nat.le_trans hz4 hg5.1.size
  go_wp2_with fail
  refine (putN (ls.length : Int) 2 _ rfl ho5 hz5 (by omega) (by omega) (by omega) (by simp [be_len])).mono ?_
  rintro e w6 ⟨v6, rfl, ho6, hg6⟩
  have hz6 := Nat.le_trans hz5 hg6.1.size
  have hg46 := (hg4.trans hg5).trans hg6
  have hR : R3 w.heap.size w6 v3 v6 (.slice none 0 0) [0, 0, 0, 0, 0, 0, 0, 12] (offB ls 0) (dataB (ls.take 0)) :=
    ⟨(ho3.grow hg46 (Apart.nil' _)).1, by simpa [offB] using ho6, OB.nil _ _, ((ho3.grow hg46 (Apart.nil' _)).2).symm, .nil _, .nil _⟩
  have hk6 : Kp w w6 := hk3.grow (OB.nil w.heap.size w3) hg46
  clear ho3 ho4 ho5 ho6 hg4 hg5 hg6 hg46 hz3 hz4 hz5 hk3
  go_wp2_with fail
  go_loopw [4, 5, 20] (fun v4 v5 i wr => ∃ k : Nat, k ≤ ls.length ∧ i = .int .i64 k ∧ R3 w.heap.size wr v3 v4 v5 [0, 0, 0, 0, 0, 0, 0, 12] (offB ls k) (dataB (ls.take k)) ∧ Kp w wr) (fun _ _ i _ => ls.length - (intOf i).toNat)
  case atStart => exact ⟨0, Nat.zero_le _, rfl, hR, hk6⟩
  case round =>
    obtain ⟨k, hk, rfl, hRr, hkr⟩ := hrel
    clear hR hk6 hz6
    have hzr := hkr.1.size
    by_cases hlt : k < ls.length
    · obtain ⟨l, hl⟩ : ∃ l, ls[k]? = some l := ⟨_, List.getElem?_eq_getElem hlt⟩
      obtain ⟨b, o, c', v', hv, hPb, hcellw, hsub⟩ := (Hin.out w (Kp.refl w)).at hl
      have hcell := (hkr.2.1 b (o + k) (hP b hPb)).trans hcellw
      clear hcellw
      injection hv with e1 e2 e3
      subst e1 e3
      clear e2
      obtain ⟨a', c2, rfl, hc3, hc4⟩ := SliceOf.form hsub
      obtain ⟨A5, c5, rfl, h51, h52⟩ := hRr.rc.form
      have Hl := Lib.hid hl
      have hpre : (dataB (ls.take k)).length + 4 + 4 * l.length ≤ 1000000 := by
        have h1 := dataB_succ hl
        have h2 : (dataB (ls.take (k + 1))).length ≤ (dataB ls).length := by
          have h3 : dataB ls = dataB (ls.take (k + 1)) ++ dataB (ls.drop (k + 1)) := by
            unfold dataB; rw [← List.flatMap_append, List.take_append_drop]
          rw [h3, List.length_append]; omega
        rw [h1, List.length_append, List.length_append, be_len, pts_len] at h2
        omega
      have HS := Lib.hid (fun W (k : Kp w W) => SliceOf.frame (R' := PtC) hsub ((Same.of_below k.1).mono hP) fun _ _ h => h)
      clear hl hsub
      have hol := offB_len ls k
      have Hol := Lib.hid hol
      have hol1 : (offB ls k).length ≤ 2006 := by omega
      clear hol
      go_wp2_with fail
      refine (putN _ 2 _ rfl hRr.rb hzr (by omega) (by omega) (by omega) (by omega)).mono ?_
      rintro e w7 ⟨v7, rfl, ho7, hg7⟩
      have hk7 := hkr.grow hRr.rb hg7
      have hR7 := hRr.growB hg7 ho7
      have hz7 := hk7.1.size
      go_wp2_with fail
      refine (putN _ 4 _ rfl hR7.rc hz7 (by omega) (by omega) (by omega) (by omega)).mono ?_
      rintro e w8 ⟨v8, rfl, ho8, hg8⟩
      have hk8 := hk7.grow hR7.rc hg8
      have hR8 := hR7.growC hg8 ho8
      have hz8 := hk8.1.size
      have hR9 : R3 w.heap.size w8 v3 v7 v8 [0, 0, 0, 0, 0, 0, 0, 12] (offB ls (k + 1)) (dataB (ls.take k) ++ be l.length 4 ++ (l.take 0).flatMap ptB) := by
        rw [offB_succ]; simpa using hR8
      clear hR8 hR7 hRr ho7 ho8 hg7 hg8 hz7 hz8 hk7 hkr hcell
      go_wp2_with fail
      go_loopw [5, 34] (fun v5 j wr2 => ∃ m : Nat, m ≤ l.length ∧ j = .int .i64 m ∧ R3 w.heap.size wr2 v3 v7 v5 [0, 0, 0, 0, 0, 0, 0, 12] (offB ls (k + 1)) (dataB (ls.take k) ++ be l.length 4 ++ (l.take m).flatMap ptB) ∧ Kp w wr2) (fun _ j _ => l.length - (intOf j).toNat)
      case atStart => exact ⟨0, Nat.zero_le _, rfl, hR9, hk8⟩
      case round =>
        obtain ⟨m, hm, rfl, hRi, hki⟩ := hrel
        clear hR9 hk8
        by_cases hml : m < l.length
        · obtain ⟨p, hp⟩ : ∃ p, l[m]? = some p := ⟨_, List.getElem?_eq_getElem hml⟩
          obtain ⟨b2, o2, c3, hv2, hPb2, hp0, hp1⟩ := pts_at (HS.out _ hki) hp
          injection hv2 with e1 e2 e3
          subst e1 e3
          clear e2
          have Hp := Lib.hid hp
          clear hp
          have hdl : (dataB (ls.take k) ++ be l.length 4 ++ (l.take m).flatMap ptB).length ≤ 1000000 := by simp only [List.length_append, be_len, pts_len, List.length_take]; omega
          generalize hD : dataB (ls.take k) ++ be l.length 4 ++ (l.take m).flatMap ptB = D at *
          have HD := Lib.hid hD
          clear hD
          have hka := ((Kp.refl wr).alloc (.cells #[.int .i16 p.1, .int .i16 p.2] 33)).drew
          have hRd := hRi.kp hka
          have hzd := (hki.trans hka).1.size
          have hBd : Blk (wr.alloc (.cells #[.int .i16 p.1, .int .i16 p.2] 33)).drew wr.heap.size 33 #[.int .i16 p.1, .int .i16 p.2] := (Blk.new wr _ _).drew
          have hne := hRi.rc.ne_ (Nat.le_refl _)
          go_wp2_with fail
          have hx0 : 0 ≤ p.1 % 65536 := by omega
          have hw1 := wrap_u16i p.1
          have hw2 := wrap_u16i p.2
          have hx1 : 0 ≤ p.2 % 65536 := by omega
          go_region_held2 (fun W => W.cell? ⟨wr.heap.size, 0, none⟩ = some (.int .i16 p.1) ∧ W.cell? ⟨wr.heap.size, 1, none⟩ = some (.int .i16 p.2)) (first | exact ⟨hBd.cell 0, hBd.cell 1⟩ | exact ⟨hB9.cell 0, hB9.cell 1⟩ | exact ⟨hB10.cell 0, hB10.cell 1⟩ | go_keep) (first
            | (go_at_call 36; ((with_reducible refine (put2 (p.1 % 65536) _ hRd.rc hzd hx0 (by omega) (by omega)).mono ?_); rintro e w9 ⟨v9, rfl, ho9, hg9⟩; have hR9 := hRd.growC hg9 ho9; have hk9 := (hki.trans hka).grow hRd.rc hg9; have hB9 := hBd.gb hg9 hne; have hz9 := hk9.1.size; have hne9 := hg9.ne_ hne hBd.lt; dsimp only))
            | (go_at_call 36; ((with_reducible refine (put2 (p.2 % 65536) _ hR9.rc hz9 hx1 (by omega) (by simp only [List.length_append, be_len]; omega)).mono ?_); rintro e w10 ⟨v10, rfl, ho10, hg10⟩; have hR10 := hR9.growC hg10 ho10; have hk10 := hk9.grow hR9.rc hg10; have hB10 := hB9.gb hg10 hne9; dsimp only)))
          have hfin : R3 w.heap.size w10 v3 v7 v10 [0, 0, 0, 0, 0, 0, 0, 12] (offB ls (k + 1)) (dataB (ls.take k) ++ be l.length 4 ++ (l.take (m + 1)).flatMap ptB) := by
            rw [take_flat Hp.out, ← List.append_assoc, HD.out, ← List.append_assoc]; exact hR10
          have Hfin := Lib.hid hfin
          clear hfin hR10 hR9 hRd hRi hw1 hw2 hx0 hx1
          go_wp2_with fail
          go_roundw
          case rel => first | exact ⟨m + 1, by omega, by go_num, Hfin.out, hk10⟩ | ((repeat apply Exists.intro); exact ⟨⟨m + 1, by omega, by go_num, Hfin.out, hk10⟩, rfl⟩)
          case measure => simp [intOf]; omega
        · obtain rfl : m = l.length := by omega
          have hfin : R3 w.heap.size wr v3 v7 u5 [0, 0, 0, 0, 0, 0, 0, 12] (offB ls (k + 1)) (dataB (ls.take (k + 1))) := by
            rw [dataB_succ Hl.out]; rw [List.take_length] at hRi; exact hRi
          have Hfin := Lib.hid hfin
          clear hfin hRi
          go_wp2_with fail
          go_roundw
          case rel => first | exact ⟨k + 1, by omega, by go_num, Hfin.out, hki⟩ | ((repeat apply Exists.intro); exact ⟨⟨k + 1, by omega, by go_num, Hfin.out, hki⟩, rfl⟩)
          case measure => simp [intOf]; omega
    · obtain rfl : k = ls.length := by omega
      have hol := offB_len ls ls.length
      rw [List.take_length] at hRr
      obtain ⟨A4, c4, rfl, h41, h42⟩ := hRr.rb.form
      obtain ⟨A5, c5, rfl, h51, h52⟩ := hRr.rc.form
      generalize hO : offB ls ls.length = O at *
      generalize hD : dataB ls = D at *
      have hQ : writeA ls = [0, 0, 0, 0, 0, 0, 0, 12] ++ be (12 + (O.length : Int)) 4 ++ O ++ D := by rw [writeA, hO, hD]
      have HQ := Lib.hid hQ
      clear hO hD hQ
      have hol1 : O.length ≤ 2006 := by omega
      clear hol
      go_wp2_with fail
      refine (putN _ 4 _ rfl hRr.ra hzr (by omega) (by omega) (by omega) (by simp)).mono ?_
      rintro e w7 ⟨v7, rfl, ho7, hg7⟩
      have hk7 := hkr.grow hRr.ra hg7
      have hR7 := hRr.growA hg7 ho7
      have hz7 := hk7.1.size
      clear hRr ho7 hg7
      have hal1 : ([0, 0, 0, 0, 0, 0, 0, 12] ++ be (12 + (O.length : Int)) 4).length = 12 := by simp [be_len]
      have HQ2 := Lib.hid (show ([0, 0, 0, 0, 0, 0, 0, 12] ++ be (12 + (O.length : Int)) 4) ++ O ++ D = writeA ls from HQ.out.symm)
      generalize [0, 0, 0, 0, 0, 0, 0, 12] ++ be (12 + (O.length : Int)) 4 = H at *
      have hHl : H.length ≤ 12 := by omega
      clear hal1 HQ
      have hm : maxLen = 9223372036854775807 := rfl
      have Hm := Lib.hid hm
      clear hm
      have hmx : 2000000 ≤ maxLen := by rw [Hm.out]; omega
      go_wp2_with (first | (at_builtin; refine wpList_append_any _ rfl (.tmp 55) (.tmp 56) _ rfl w.heap.size 5 i0 _ 1 1 Try.underlying25 hi0 hz0 hz1 hz2 rfl (by omega) v7 H.length _ rfl hR7.ra _ _ O.length _ _ rfl hR7.rb.reads bytes_one (by omega) (by omega) hz7 ?_; intro v8 w8 hown8 hg8 hat8; have hob8 : OB w.heap.size w8 v8 (H ++ O) := (by simpa [OB] using hown8); have hR8 := hR7.growA (GB.app hg8 hat8) hob8; have hk8 := hk7.grow hR7.ra (GB.app hg8 hat8); have hz8 := hk8.1.size; clear hown8 hat8 hg8 hob8 hR7) | (at_builtin; refine wpList_append_any _ rfl (.tmp 57) (.tmp 58) _ rfl w.heap.size 5 i0 _ 1 1 Try.underlying25 hi0 hz0 hz1 hz2 rfl (by omega) v8 (H ++ O).length _ rfl hR8.ra _ _ D.length _ _ rfl hR8.rc.reads bytes_one (by simp only [List.length_append]; omega) (by simp only [List.length_append]; omega) hz8 ?_; intro v9 w9 hown9 hg9 hat9; have hob9 : OB w.heap.size w9 v9 (H ++ O ++ D) := (by simpa [OB, Nat.add_assoc] using hown9); have hk9 := hk8.grow hR8.ra (GB.app hg9 hat9); clear hown9 hat9 hg9 hR8))
      go_ret
      exact ⟨_, rfl, by rw [← HQ2.out]; exact hob9, hk9⟩
end Go.Proofs.Ytidedlbieakagaa
