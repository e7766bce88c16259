/- THE WALK of seek.First: by what the given function answers. -/
import Derived.Test.YtidedlbieakagaaGet
namespace Go.Proofs.Ytidedlbieakagaa
open Go.RowKit
set_option maxRecDepth 100000 in
set_option maxHeartbeats 2000000 in
theorem First_any (n m g : Nat) (caps : Array Value) (w : World) (hn : n ≤ 1073741824) (hm : m ≤ n) (hg : ∀ (args : Array Value) (w : World), (callFunc g args).run Try.prog w = .ok (.enter g args) w)
    (hlow : ∀ i : Nat, i < m → ∀ w', Kp w w' → Calls Try.prog g (#[.int .i64 i] ++ caps) w' fun e w'' => e = .returned (.bool false) ∧ Kp w' w'')
    (hhigh : ∀ i : Nat, m ≤ i → i < n → ∀ w', Kp w w' → Calls Try.prog g (#[.int .i64 i] ++ caps) w' fun e w'' => e = .returned (.bool true) ∧ Kp w' w'') :
    Calls Try.prog 80 #[.int .i64 n, .func (.func g) #[] caps] w fun e w' => e = .returned (.int .i64 m) ∧ Kp w w' := by
  have HL := Lib.hid hlow
  have HH := Lib.hid hhigh
  clear hlow hhigh
  go_enter Try.func80, Try.ntmps80
  go_wp2_with fail
  go_loopw [5, 6] (fun x y wr => ∃ (lo hi : Nat), x = .int .i64 lo ∧ y = .int .i64 hi ∧ lo ≤ m ∧ m ≤ hi ∧ hi ≤ n ∧ Kp w wr) (fun x y _ => (intOf y).toNat - (intOf x).toNat)
  case atStart => exact ⟨0, n, rfl, rfl, Nat.zero_le _, hm, Nat.le_refl _, .refl _⟩
  case round =>
    obtain ⟨lo, hi, rfl, rfl, h1, h2, h3, hK⟩ := hrel
    by_cases hlt : lo < hi
    · obtain ⟨q, hq⟩ : ∃ q : Nat, q = (hi - lo) / 2 := ⟨_, rfl⟩
      obtain ⟨k, hk⟩ : ∃ k : Nat, k = lo + q := ⟨_, rfl⟩
      have hq1 : (hi : Int) - lo = ((hi - lo : Nat) : Int) := by omega
      have hq2 : (((hi - lo : Nat) : Int)).tdiv 2 = (q : Int) := by rw [hq]; rfl
      have hq3 : (lo : Int) + q = (k : Int) := by omega
      have hklo : lo ≤ k := by omega
      have hkhi : k < hi := by omega
      have hw1 := IntWalk.i64_in (((hi - lo : Nat) : Int)) (by omega)
      have hw2 := IntWalk.i64_in (q : Int) (by omega)
      have hw3 := IntWalk.i64_in (k : Int) (by omega)
      clear hq hk
      by_cases hkm : k < m
      · go_wp2_with fail
        refine (HL.out k hkm _ hK).mono ?_
        rintro e w1 ⟨rfl, hK1⟩
        clear hg hq1 hq2 hq3 hw1 hw2 hw3 HL HH
        have hw4 := IntWalk.i64_in ((k : Int) + 1) (by omega)
        go_wp2_with fail
        go_roundw
        case rel => exact ⟨k + 1, hi, by go_num, rfl, by omega, h2, h3, hK.trans hK1⟩
        case measure => simp [intOf]; omega
      · go_wp2_with fail
        refine (HH.out k (by omega) (by omega) _ hK).mono ?_
        rintro e w1 ⟨rfl, hK1⟩
        clear hg hq1 hq2 hq3 hw1 hw2 hw3 HL HH
        go_wp2_with fail
        go_roundw
        case rel => exact ⟨lo, k, rfl, rfl, h1, by omega, by omega, hK.trans hK1⟩
        case measure => simp [intOf]; omega
    · obtain rfl : lo = hi := by omega
      obtain rfl : lo = m := by omega
      go_wp2_with fail
      go_ret
      exact ⟨rfl, hK⟩
theorem First_zero (g : Nat) (caps : Array Value) (w : World) (hg : ∀ (args : Array Value) (w : World), (callFunc g args).run Try.prog w = .ok (.enter g args) w) :
    Calls Try.prog 80 #[.int .i64 0, .func (.func g) #[] caps] w fun e w' => e = .returned (.int .i64 0) ∧ Kp w w' :=
  First_any 0 0 g caps w (by omega) (by omega) hg (fun i h => absurd h (by omega)) (fun i _ h => absurd h (by omega))
end Go.Proofs.Ytidedlbieakagaa
