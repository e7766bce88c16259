/- THE WALK of swashlaw24.AnkrCuts. -/
import Derived.Test.YtidedlbieakagaaAnkrS
import Derived.Test.YtidedlbieakagaaAnkrL
namespace Go.Proofs.Ytidedlbieakagaa
open Go.RowKit
theorem Bts.take {N : Nat} {w : World} {a : Option Addr} {l : List Int} (h : Bts N w a l) (m : Nat) : Bts N w a (l.take m) := by
  refine ⟨?_, fun x hx => h.2 x (List.mem_of_mem_take hx)⟩
  rcases h.1 with h1 | ⟨b, o, ha, hb, hc⟩
  · left
    have : l = [] := by simpa using h1
    subst this
    simp
  · right
    refine ⟨b, o, ha, hb, fun i hi => ?_⟩
    simp at hi
    rw [hc i (by simp; omega)]
    have : i < m := by omega
    simp [List.getElem?_take, this]
set_option maxRecDepth 100000 in
set_option maxHeartbeats 8000000 in
theorem AnkrCuts_any (P : Nat → Prop) (ls : List (List (Int × Int))) (v : Value) (cut : Int) (w : World) (hP : ∀ b, P b → b < w.heap.size) (hin : PtsV P w v ls) (hcut : 0 ≤ cut ∧ cut ≤ 255) :
    Calls Try.prog 4 #[v, .int .u8 cut] w (Gives (.bool true) w) := by
  obtain ⟨a, c, rfl, hc1, hc2⟩ := SliceOf.form hin
  obtain ⟨hcut0, hcut1⟩ := hcut
  have Hin := Lib.hid (fun W (k : Kp w W) => hin.frame ((Same.of_below k.1).mono hP))
  clear hin
  by_cases h0 : 0 < ls.length
  · by_cases h30 : ls.length ≤ 30
    · have hz0 : ((ls.length : Int) == 0) = false := by rw [beq_eq_false_iff_ne]; omega
      go_enter Try.func4, Try.ntmps4
      go_wp2_with fail
      refine (speaksA_any _).mono ?_
      rintro e w1 ⟨rfl, hk1⟩
      go_wp2_with fail
      go_loop [22] (fun i => ∃ k : Nat, k ≤ ls.length ∧ i = .int .i64 k ∧ Hid (∀ (j : Nat) (l : List (Int × Int)), j < k → ls[j]? = some l → l.length ≤ 30)) (fun i => ls.length - (intOf i).toNat)
      case atStart => exact ⟨0, Nat.zero_le _, rfl, Lib.hid fun j l h => by omega⟩
      case round =>
        obtain ⟨k, hk, rfl, hpre⟩ := hrel
        by_cases hlt : k < ls.length
        · obtain ⟨l, hl⟩ : ∃ l, ls[k]? = some l := ⟨_, List.getElem?_eq_getElem hlt⟩
          obtain ⟨b, o, c', v', hv, hPb, hcell, hsub⟩ := (Hin.out w1 hk1).at hl
          injection hv with e1 e2 e3
          subst e1 e3
          clear e2
          obtain ⟨a', c2, rfl, hc3, hc4⟩ := SliceOf.form hsub
          have Hl := Lib.hid hl
          clear hsub hl
          by_cases hl30 : l.length ≤ 30
          · have hnext : Hid (∀ (j : Nat) (l : List (Int × Int)), j < k + 1 → ls[j]? = some l → l.length ≤ 30) := Lib.hid fun j l' hj hg => by
              by_cases hjk : j = k
              · subst hjk; rw [Hl.out] at hg; injection hg with hg; subst hg; exact hl30
              · exact hpre.out j l' (by omega) hg
            go_wp2_with fail
            go_round
            case rel => exact ⟨k + 1, by omega, by go_num, hnext⟩
            case measure => simp [intOf]; omega
          · go_wp2_with fail
            go_ret
            exact ⟨rfl, hk1⟩
        · obtain rfl : k = ls.length := by omega
          have hs : Small ls := ⟨h30, fun l hl => by
            obtain ⟨i, hi, rfl⟩ := List.getElem_of_mem hl
            exact hpre.out i _ hi (List.getElem?_eq_getElem hi)⟩
          have hd := hs.data
          have CW := Lib.hid (WriteA_any P ls (.slice a ls.length c) w1 (fun b hb => Nat.lt_of_lt_of_le (hP b hb) hk1.1.size) (Hin.out w1 hk1) (by omega) (by omega))
          have Hs := Lib.hid hs
          have hwl := (heads_write hs).1
          have hwl1 : 12 ≤ (writeA ls).length := by omega
          have hwl2 : (writeA ls).length ≤ 10000 := by have := offB_len ls ls.length; omega
          clear hs hd hwl hpre
          go_wp2_with fail
          refine CW.out.mono ?_
          rintro e w2 ⟨v2, rfl, ho2, hk2⟩
          obtain ⟨A2, c2, rfl, h21, h22⟩ := ho2.form
          have hb2 := ho2.bts (writeA_wf _) (Nat.zero_le _)
          have hk02 := hk1.trans hk2
          have CR := Lib.hid (fun (m : Nat) (hm : m < (writeA ls).length) => AnkrRead_any w2.heap.size A2 ((writeA ls).take m) c2 60 w2 (hb2.take m) (Nat.le_refl _) (show ((writeA ls).take m).length ≤ c2 by simp; omega) (by unfold maxLen at h22; omega) (show ((writeA ls).take m).length ≤ 1073741824 by simp; omega) (by omega) (by omega))
          clear ho2 hb2 CW
          by_cases hcm : (0 : Int) ≤ ((writeA ls).length : Int) - 1 - cut
          · obtain ⟨m, hm⟩ := Int.eq_ofNat_of_zero_le hcm
            have hmlt : m < (writeA ls).length := by omega
            have hCR := CR.out m hmlt
            rw [cut_none Hs.out h0 hmlt, show ((writeA ls).take m).length = m by simp; omega] at hCR
            have HCR := Lib.hid hCR
            clear hCR CR
            go_wp2_with fail
            refine HCR.out.mono ?_
            rintro e w3 ⟨rfl, hk3⟩
            go_wp2_with fail
            go_ret
            exact ⟨rfl, hk02.trans hk3⟩
          · have hCR := CR.out 0 (by omega)
            rw [cut_none Hs.out h0 (by omega), show ((writeA ls).take 0).length = 0 by simp] at hCR
            have HCR := Lib.hid hCR
            clear hCR CR
            go_wp2_with fail
            refine HCR.out.mono ?_
            rintro e w3 ⟨rfl, hk3⟩
            go_wp2_with fail
            go_ret
            exact ⟨rfl, hk02.trans hk3⟩
    · have hz0 : ((ls.length : Int) == 0) = false := by rw [beq_eq_false_iff_ne]; omega
      go_enter Try.func4, Try.ntmps4
      go_wp2_with fail
      refine (speaksA_any _).mono ?_
      rintro e w1 ⟨rfl, hk1⟩
      go_wp2_with fail
      go_ret
      exact ⟨rfl, hk1⟩
  · have hz0 : ls.length = 0 := by omega
    rw [hz0]
    clear hz0
    go_enter Try.func4, Try.ntmps4
    go_wp2_with fail
    refine (speaksA_any _).mono ?_
    rintro e w1 ⟨rfl, hk1⟩
    go_wp2_with fail
    go_ret
    exact ⟨rfl, hk1⟩
end Go.Proofs.Ytidedlbieakagaa
