/- THE WALK of swashlaw24.AnkrBack. -/
import Derived.Test.YtidedlbieakagaaAnkrC
import Derived.Test.YtidedlbieakagaaAnkrT
import Derived.Test.YtidedlbieakagaaTryS
import Derived.Test.YtidedlbieakagaaAnkrB0
namespace Go.Proofs.Ytidedlbieakagaa
open Go.RowKit
/-- The zero table counts nothing. -/
theorem CountZero_any (b : Nat) (id : Int) (w : World) (v : Value) (hb : Blk w b 42 #[.pointer none, v]) :
    Calls Try.prog 11 #[.pointer (some ⟨b, 0, none⟩), .int .i64 id] w (Gives (.int .i64 0) w) := by
  have hc0 := hb.cell 0
  have hp1 : ∀ w : World, (binOp .eql 38 (.pointer none) (.pointer none)).run Try.prog w = .ok (.bool true) w := fun _ => by kernel_rfl
  go_enter Try.func11, Try.ntmps11
  go_wp2_with fail
  go_ret
  exact ⟨rfl, Kp.refl w⟩
theorem own_some {base : Nat} {w : World} {A : Option Addr} {n c : Nat} {l : List Int} (h : OB base w (.slice A n c) l) (hn : l.length = n) (h0 : 0 < n) : ∃ g, A = some ⟨g, 0, none⟩ ∧ base ≤ g ∧ g < w.heap.size := by
  subst hn
  obtain ⟨g, cap, hv, h1, h2⟩ := World.ownsRow.form h h0
  injection hv with e1 e2 e3
  exact ⟨g, e1, h1, h2⟩
set_option maxRecDepth 100000 in
set_option maxHeartbeats 16000000 in
theorem AnkrBack_any (P : Nat → Prop) (ls : List (List (Int × Int))) (v : Value) (spoil : Int) (w : World) (hP : ∀ b, P b → b < w.heap.size) (hin : PtsV P w v ls) (hr : InR ls) :
    Calls Try.prog 3 #[v, .int .u8 spoil] w (Gives (.bool true) w) := by
  obtain ⟨a, c, rfl, hc1, hc2⟩ := SliceOf.form hin
  have Hin := Lib.hid (fun W (k : Kp w W) => hin.frame ((Same.of_below k.1).mono hP))
  have Hat := Lib.hid (fun (k : Nat) (l : List (Int × Int)) (h : ls[k]? = some l) => hin.at h)
  have HS := Lib.hid (fun (l : List (Int × Int)) (v' : Value) (hs : SliceOf P w 2 PtC v' l) W (k : Kp w W) => SliceOf.frame (R' := PtC) hs ((Same.of_below k.1).mono hP) fun _ _ h => h)
  have Hr := Lib.hid hr
  clear hin hr
  by_cases h30 : ls.length ≤ 30
  · go_enter Try.func3, Try.ntmps3
    go_wp2_with fail
    refine (speaksA_any _).mono ?_
    rintro e w1 ⟨rfl, hk1⟩
    go_wp2_with fail
    go_loop [27] (fun i => ∃ k : Nat, k ≤ ls.length ∧ i = .int .i64 k ∧ Hid (∀ (j : Nat) (l : List (Int × Int)), j < k → ls[j]? = some l → l.length ≤ 30)) (fun i => ls.length - (intOf i).toNat)
    case atStart => exact ⟨0, Nat.zero_le _, rfl, Lib.hid fun j l h => by omega⟩
    case round =>
      obtain ⟨k, hk, rfl, hpre⟩ := hrel
      by_cases hlt : k < ls.length
      · obtain ⟨l, hl⟩ : ∃ l, ls[k]? = some l := ⟨_, List.getElem?_eq_getElem hlt⟩
        obtain ⟨b, o, c', v', hv, hPb, hcellw, hsub⟩ := Hat.out k l hl
        have hcell := (hk1.2.1 b (o + k) (hP b hPb)).trans hcellw
        clear hcellw
        injection hv with e1 e2 e3
        subst e1 e3
        clear e2
        obtain ⟨a', c2, rfl, hc3, hc4⟩ := SliceOf.form hsub
        have Hl := Lib.hid hl
        clear hsub hl
        by_cases hl30 : l.length ≤ 30
        · have hnext : Hid (∀ (j : Nat) (l : List (Int × Int)), j < k + 1 → ls[j]? = some l → l.length ≤ 30) := Lib.hid fun j l' hj hg => by
            by_cases hjk : j = k
            · subst hjk; rw [Hl.out] at hg; injection hg with hg; subst hg; exact hl30
            · exact hpre.out j l' (by omega) hg
          go_wp2_with fail
          go_round
          case rel => exact ⟨k + 1, by omega, by go_num, hnext⟩
          case measure => simp [intOf]; omega
        · go_wp2_with fail
          go_ret
          exact ⟨rfl, hk1⟩
      · obtain rfl : k = ls.length := by omega
        have hs : Small ls := ⟨h30, fun l hl => by
          obtain ⟨i, hi, rfl⟩ := List.getElem_of_mem hl
          exact hpre.out i _ hi (List.getElem?_eq_getElem hi)⟩
        have hd := hs.data
        have CW := Lib.hid (WriteA_any P ls (.slice a ls.length c) w1 (fun b hb => Nat.lt_of_lt_of_le (hP b hb) hk1.1.size) (Hin.out w1 hk1) (by omega) (by omega))
        have Hs := Lib.hid hs
        have hwl := (heads_write hs).1
        have hwl1 : 12 ≤ (writeA ls).length := by omega
        have hwl2 : (writeA ls).length ≤ 10000 := by have := offB_len ls ls.length; omega
        have hdl : (dataB ls).length ≤ 3720 := hd
        clear hs hd hwl hpre hlt
        go_wp2_with fail
        refine CW.out.mono ?_
        rintro e w2 ⟨v2, rfl, ho2, hk2⟩
        obtain ⟨A2, c2, rfl, h21, h22⟩ := ho2.form
        obtain ⟨bb, rfl, hbb1, hbb2⟩ := own_some ho2 rfl (by omega)
        have hk02 := hk1.trans hk2
        have hbw : w.heap.size ≤ bb := Nat.le_trans hk1.1.size hbb1
        have CR := Lib.hid (AnkrRead_any w2.heap.size (some ⟨bb, 0, none⟩) (writeA ls) c2 60 w2 (ho2.bts (writeA_wf _) (Nat.zero_le _)) (Nat.le_refl _) h21 (by unfold maxLen at h22; omega) (show (writeA ls).length ≤ 1073741824 by omega) (by omega) (by omega))
        have Ho2 := Lib.hid ho2
        clear ho2 CW hk2
        go_wp2_with fail
        refine CR.out.mono ?_
        rintro e w3 h3
        rw [take_write Hs.out] at h3
        obtain ⟨bt, rfl, hA, hk3⟩ := h3
        have hp1 : ∀ w : World, (binOp .eql 27 (.pointer (some ⟨bt, 0, none⟩)) (.pointer none)).run Try.prog w = .ok (.bool false) w := fun _ => by kernel_rfl
        have ho3 := Ho2.out.kp hk3
        have hk03 := hk02.trans hk3
        have hbb3 : bb < w3.heap.size := Nat.lt_of_lt_of_le hbb2 hk3.1.size
        obtain ⟨n, hn⟩ : ∃ n, n = (writeA ls).length := ⟨_, rfl⟩
        obtain ⟨B0, hB0⟩ : ∃ B0, B0 = writeA ls := ⟨_, rfl⟩
        have Hos := Lib.hid (show ∃ bs : List Int, bs.length = (writeA ls).length ∧ w3.ownsRow w1.heap.size 5 1 (.slice (some ⟨bb, 0, none⟩) (writeA ls).length c2) (writeA ls).length (bs.map (Value.int .u8)) from ⟨_, rfl, ho3⟩)
        clear ho3 Ho2 CR hn hB0
        go_wp2_with fail
        go_loopw [50] (fun i wr => ∃ k : Nat, k ≤ (writeA ls).length ∧ i = .int .i64 k ∧ KJ bb w3 wr ∧ Hid (∃ bs : List Int, bs.length = (writeA ls).length ∧ wr.ownsRow w1.heap.size 5 1 (.slice (some ⟨bb, 0, none⟩) (writeA ls).length c2) (writeA ls).length (bs.map (Value.int .u8)))) (fun i _ => (writeA ls).length - (intOf i).toNat)
        case atStart => exact ⟨0, Nat.zero_le _, rfl, KJ.refl _ _, Hos⟩
        case round =>
          obtain ⟨k, hk, rfl, hJ, hbs⟩ := hrel
          clear Hos
          by_cases hlt : k < (writeA ls).length
          · obtain ⟨bs, hbl, hown⟩ := hbs.out
            have hck := World.ownsRow.cellAt hown k (by omega)
            have hfk := World.ownsRow.frozenAt hown k
            have hst := (World.ownsRow.stored hown k (.int .u8 spoil)).1
            obtain ⟨u, hu⟩ : ∃ u, (bs.map (Value.int .u8))[k]? = some u := ⟨_, List.getElem?_eq_getElem (by simp; omega)⟩
            rw [hu] at hck
            have hnext : Hid (∃ bs : List Int, bs.length = (writeA ls).length ∧ (wr.setCell ⟨bb, k, none⟩ (.int .u8 spoil)).ownsRow w1.heap.size 5 1 (.slice (some ⟨bb, 0, none⟩) (writeA ls).length c2) (writeA ls).length (bs.map (Value.int .u8))) :=
              Lib.hid ⟨bs.set k spoil, by simp [hbl], by rw [List.map_set]; exact hst⟩
            have hJn := hJ.set k (.int .u8 spoil)
            clear hst hown hu hbs hJ hbl
            go_wp2_with fail
            go_roundw
            case rel => exact ⟨k + 1, by omega, by go_num, hJn, hnext⟩
            case measure => simp [intOf]; omega
          · clear hbs
            have hk5 : Kp w wr := hJ.kpOf hk03 hbw
            have hA5 : ATP (· < wr.heap.size) wr bt (wparts ls) (dataB ls) := (hA.frame fun c hc => hJ.block c hc.2 (by have := hc.1; omega)).mono fun c hc => Nat.lt_of_lt_of_le hc.2 hJ.size
            have hok : ATok (wparts ls, dataB ls) := takeATok (g := 60) (writeA_wf ls) (by omega) (by omega) (take_write Hs.out)
            obtain ⟨w5, rfl⟩ : ∃ w5 : World, w5 = wr := ⟨_, rfl⟩
            have CC := Lib.hid (fun (k : Nat) (l : List (Int × Int)) (h : ls[k]? = some l) (hk : k ≤ 1000) W (kp : Kp w5 W) => show Calls Try.prog 11 #[.pointer (some ⟨bt, 0, none⟩), .int .i64 (k : Int)] W (Gives (.int .i64 (l.length : Int)) W) by
              have h1 := Count_any bt (wparts ls, dataB ls) (k : Int) W (hA5.cur kp fun c hc => hc) hok (by omega)
              rwa [count_write Hs.out h] at h1)
            have CG := Lib.hid (fun (k : Nat) (l : List (Int × Int)) (h : ls[k]? = some l) (hk : k ≤ 1000) (m : Nat) (p : Int × Int) (hp : l[m]? = some p) (hm : m ≤ 1000) W (kp : Kp w5 W) => show Calls Try.prog 12 #[.pointer (some ⟨bt, 0, none⟩), .int .i64 (k : Int), .int .i64 (m : Int)] W (Gives (.tuple #[.agg #[.int .i64 p.1, .int .i64 p.2], .bool true]) W) by
              have h1 := ankrGet_any bt (wparts ls, dataB ls) (k : Int) (m : Int) W (hA5.cur kp fun c hc => hc) hok (by omega) (by omega)
              have h2 := Hr.out l (List.mem_of_getElem? h) p (List.mem_of_getElem? hp)
              rwa [get_write Hs.out h hp h2.1 h2.2] at h1)
            have CE := Lib.hid (fun (k : Nat) (l : List (Int × Int)) (h : ls[k]? = some l) (hk : k ≤ 1000) (hm : l.length ≤ 1000) W (kp : Kp w5 W) => show Calls Try.prog 12 #[.pointer (some ⟨bt, 0, none⟩), .int .i64 (k : Int), .int .i64 (l.length : Int)] W (Gives (.tuple #[.agg #[.int .i64 0, .int .i64 0], .bool false]) W) by
              have h1 := ankrGet_any bt (wparts ls, dataB ls) (k : Int) (l.length : Int) W (hA5.cur kp fun c hc => hc) hok (by omega) (by omega)
              rwa [get_past Hs.out h] at h1)
            have CZ := Lib.hid (fun W (kp : Kp w5 W) => show Calls Try.prog 11 #[.pointer (some ⟨bt, 0, none⟩), .int .i64 (ls.length : Int)] W (Gives (.int .i64 0) W) by
              have h1 := Count_any bt (wparts ls, dataB ls) (ls.length : Int) W (hA5.cur kp fun c hc => hc) hok (by omega)
              rwa [count_past] at h1)
            have H30 := Lib.hid Hs.out.2
            clear hJ hA hk03 hk3 hk02 hbb1 hbb2 hbw hbb3 hp1 hA5 hok
            go_wp2_with fail
            clear hlt
            go_loopw [60] (fun i wr => ∃ k : Nat, k ≤ ls.length ∧ i = .int .i64 k ∧ Kp w5 wr) (fun i _ => ls.length - (intOf i).toNat)
            case atStart => exact ⟨0, Nat.zero_le _, rfl, Kp.refl _⟩
            case round =>
              obtain ⟨k, hk, rfl, hkr⟩ := hrel
              by_cases hlt : k < ls.length
              · obtain ⟨l, hl⟩ : ∃ l, ls[k]? = some l := ⟨_, List.getElem?_eq_getElem hlt⟩
                obtain ⟨b, o, c', v', hv, hPb, hcellw, hsub⟩ := Hat.out k l hl
                have hcell := ((hk5.trans hkr).2.1 b (o + k) (hP b hPb)).trans hcellw
                clear hcellw
                injection hv with e1 e2 e3
                subst e1 e3
                clear e2
                obtain ⟨a', c3, rfl, hc3, hc4⟩ := SliceOf.form hsub
                have hl30 := H30.out l (List.mem_of_getElem? hl)
                have Hsub := Lib.hid hsub
                have Hl := Lib.hid hl
                clear hsub hl
                go_wp2_with fail
                refine (CC.out k l Hl.out (by omega) _ hkr).mono ?_
                rintro e w6 ⟨rfl, hk6⟩
                have hk6' := hkr.trans hk6
                clear hcell
                go_wp2_with fail
                go_loopw [73] (fun j wr => ∃ m : Nat, m ≤ l.length ∧ j = .int .i64 m ∧ Kp w5 wr) (fun j _ => l.length - (intOf j).toNat)
                case atStart => exact ⟨0, Nat.zero_le _, rfl, hk6'⟩
                case round =>
                  obtain ⟨m, hm, rfl, hkm⟩ := hrel
                  by_cases hml : m < l.length
                  · obtain ⟨p, hp⟩ : ∃ p, l[m]? = some p := ⟨_, List.getElem?_eq_getElem hml⟩
                    obtain ⟨b2, o2, c4, hv2, hPb2, hq0, hq1⟩ := pts_at (HS.out l _ Hsub.out _ (hk5.trans hkm)) hp
                    injection hv2 with e1 e2 e3
                    subst e1 e3
                    clear e2
                    have hr1 := (Hr.out l (List.mem_of_getElem? Hl.out) p (List.mem_of_getElem? hp)).1
                    have hr2 := (Hr.out l (List.mem_of_getElem? Hl.out) p (List.mem_of_getElem? hp)).2
                    obtain ⟨hr11, hr12⟩ := hr1
                    obtain ⟨hr21, hr22⟩ := hr2
                    have hka := hkm.alloc (.cells #[.int .i16 p.1, .int .i16 p.2] 33)
                    have hX := Blk.new wr 33 #[.int .i16 p.1, .int .i16 p.2]
                    have Hp := Lib.hid hp
                    clear hp
                    go_wp2_with fail
                    refine (CG.out k l Hl.out (by omega) m p Hp.out (by omega) _ hka).mono ?_
                    rintro e w7 ⟨rfl, hk7⟩
                    have hX8 := (hX.below hk7.1 hX.lt).alloc (.cells #[.int .i64 p.1, .int .i64 p.2] 35)
                    have hX80 := hX8.cell 0
                    have hX81 := hX8.cell 1
                    have hk8 := (hka.trans hk7).alloc (.cells #[.int .i64 p.1, .int .i64 p.2] 35)
                    clear hX hX8 hq0 hq1
                    go_wp2_with fail
                    go_roundw
                    case rel => exact ⟨m + 1, by omega, by go_num, hk8⟩
                    case measure => simp [intOf]; omega
                  · obtain rfl : m = l.length := by omega
                    go_wp2_with fail
                    refine (CE.out k l Hl.out (by omega) (by omega) _ hkm).mono ?_
                    rintro e w7 ⟨rfl, hk7⟩
                    have hk8 := (hkm.trans hk7).alloc (.cells #[.int .i64 0, .int .i64 0] 35)
                    go_wp2_with fail
                    go_roundw
                    case rel => exact ⟨k + 1, by omega, by go_num, hk8⟩
                    case measure => simp [intOf]; omega
              · obtain rfl : k = ls.length := by omega
                have hka := hkr.alloc (.cells #[.pointer none, .slice none 0 0] 42)
                have hX := Blk.new wr 42 #[.pointer none, .slice none 0 0]
                go_wp2_with fail
                refine (CZ.out _ hka).mono ?_
                rintro e w7 ⟨rfl, hk7⟩
                have hX7 := hX.below hk7.1 hX.lt
                go_wp2_with fail
                refine (CountZero_any _ 0 w7 _ hX7).mono ?_
                rintro e w8 ⟨rfl, hk8⟩
                go_wp2_with fail
                go_ret
                exact ⟨rfl, hk5.trans ((hka.trans hk7).trans hk8)⟩
  · go_enter Try.func3, Try.ntmps3
    go_wp2_with fail
    refine (speaksA_any _).mono ?_
    rintro e w1 ⟨rfl, hk1⟩
    go_wp2_with fail
    go_ret
    exact ⟨rfl, hk1⟩
end Go.Proofs.Ytidedlbieakagaa
