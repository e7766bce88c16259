/- THE WALKS of package view. -/
import Derived.Test.YtidedlbieakagaaProg
import Derived.Test.YtidedlbieakagaaMem
import Derived.Test.YtidedlbieakagaaBits
import Derived.WalkKit
import Derived.WalkSpells
import Derived.WalkLawsBesides
import Derived.Handy
import Derived.Deep.QuietTactic
import Derived.BigQuiet
namespace Go.Proofs.Ytidedlbieakagaa
open Go.RowKit
variable [Lo]
omit [Lo] in
theorem Need_true (w : World) : Calls Try.prog 43 #[.bool true] w fun e w' => e = .returned (.tuple #[]) ∧ w = w' := by
  go_enter Try.func43, Try.ntmps43
  go_wp2
  go_returns
  exact ⟨rfl, rfl⟩
omit [Lo] in
theorem Need_false (w : World) : Calls Try.prog 43 #[.bool false] w fun e w' => e = .panicked Short ∧ w = w' := by
  go_enter Try.func43, Try.ntmps43
  go_wp2
  exact ⟨rfl, rfl, rfl, rfl⟩
omit [Lo] in
theorem Fail_any (w : World) : Calls Try.prog 84 #[] w fun e w' => e = .panicked Short ∧ w = w' := by
  go_enter Try.func84, Try.ntmps84
  go_wp2
  exact ⟨rfl, rfl, rfl⟩
theorem piece_ok (N : Nat) (a : Option Addr) (l : List Int) (len cap : Nat) (p n : Int) (w : World) (hb : Bts N w a l) (hN : N ≤ w.heap.size) (hl : l.length = len) (hc : len ≤ cap) (hm : cap ≤ 9223372036854775807) (hp : pcOk len p n) :
    Calls Try.prog 83 #[.agg #[.slice a len cap], .int .i64 p, .int .i64 n] w (RetBts N (sub l p n) w) := by
  subst hl
  have hs := sub_length hp
  have hr := hb.part hp
  obtain ⟨h0, h1, h2, h3⟩ := hp
  have H : ∀ a' k k' w', k = n.toNat → k' = n.toNat → a' = (if n.toNat = 0 then a else a.map (·.add p.toNat)) → w' = w.alloc (.cells #[.slice a l.length cap] 40) → RetBts N (sub l p n) w (.returned (.slice a' k k')) w' := by
    rintro a' k k' w' rfl rfl rfl rfl
    refine ⟨_, ?_, hr.al hN _, (Kp.refl _).alloc _⟩
    rw [hs]
  clear hs hr hb hN
  go_enter Try.func83, Try.ntmps83
  go_wp2_with (go_at_call 43; refine (Need_true _).mono ?_; rintro e w' ⟨rfl, rfl⟩)
  · go_ret
    exact H _ _ _ _ (by omega) (by omega) (by rw [if_pos (by omega)]) rfl
  · go_ret
    exact H _ _ _ _ (by omega) (by omega) (by rw [if_neg (by omega)]) rfl
omit [Lo] in
theorem piece_no (a : Option Addr) (len cap : Nat) (p n : Int) (w : World) (hc : len ≤ cap) (hm : cap ≤ 9223372036854775807) (hp : ¬ pcOk len p n) :
    Calls Try.prog 83 #[.agg #[.slice a len cap], .int .i64 p, .int .i64 n] w (Fails w) := by
  have H : ∀ w', w' = w.alloc (.cells #[.slice a len cap] 40) → Fails w (.panicked Short) w' := by
    rintro w' rfl
    exact ⟨rfl, (Kp.refl _).alloc _⟩
  unfold pcOk at hp
  by_cases h0 : 0 ≤ p
  · by_cases h1 : 0 ≤ n
    · by_cases h2 : p ≤ len
      · have h3 : ¬ n ≤ len - p := fun h => hp ⟨h0, h1, h2, h⟩
        clear hp
        go_enter Try.func83, Try.ntmps83
        go_wp2_with (go_at_call 43; refine (Need_false _).mono ?_; rintro e w' ⟨rfl, rfl⟩)
        exact ⟨rfl, H _ rfl⟩
      · clear hp
        go_enter Try.func83, Try.ntmps83
        go_wp2_with (go_at_call 43; refine (Need_false _).mono ?_; rintro e w' ⟨rfl, rfl⟩)
        exact ⟨rfl, H _ rfl⟩
    · clear hp
      go_enter Try.func83, Try.ntmps83
      go_wp2_with (go_at_call 43; refine (Need_false _).mono ?_; rintro e w' ⟨rfl, rfl⟩)
      exact ⟨rfl, H _ rfl⟩
  · clear hp
    go_enter Try.func83, Try.ntmps83
    go_wp2_with (go_at_call 43; refine (Need_false _).mono ?_; rintro e w' ⟨rfl, rfl⟩)
    exact ⟨rfl, H _ rfl⟩
theorem piece_any (N : Nat) (a : Option Addr) (l : List Int) (len cap : Nat) (p n : Int) (w : World) (hb : Bts N w a l) (hN : N ≤ w.heap.size) (hl : l.length = len) (hc : len ≤ cap) (hm : cap ≤ 9223372036854775807) :
    Calls Try.prog 83 #[.agg #[.slice a len cap], .int .i64 p, .int .i64 n] w (GivesBts N (pc l p n) w) := by
  subst hl
  by_cases hp : pcOk l.length p n
  · rw [pc, if_pos hp]; exact piece_ok N a l _ cap p n w hb hN rfl hc hm hp
  · rw [pc, if_neg hp]; exact piece_no a _ cap p n w hc hm hp
omit [Lo] in
/-- 'Of': a View of a slice. -/
theorem Of_any (a : Option Addr) (len cap : Nat) (w : World) : Calls Try.prog 16 #[.slice a len cap] w (Gives (.agg #[.slice a len cap]) w) := by
  go_enter Try.func16, Try.ntmps16
  go_wp2
  go_returns
  exact ⟨rfl, (Kp.refl _).alloc _⟩
theorem Cut_any (N : Nat) (a : Option Addr) (l : List Int) (len cap : Nat) (p n : Int) (w : World) (hb : Bts N w a l) (hN : N ≤ w.heap.size) (hl : l.length = len) (hc : len ≤ cap) (hm : cap ≤ 9223372036854775807) :
    Calls Try.prog 90 #[.agg #[.slice a len cap], .int .i64 p, .int .i64 n] w (GivesView N (pc l p n) w) := by
  have HC := piece_any N a l len cap p n _ (hb.al2 hN (.cells #[.slice a len cap] 40) (.cells #[.slice none 0 0] 40)) (by simp; omega) hl hc hm
  subst hl
  cases hq : pc l p n with
  | some m =>
    rw [hq] at HC
    clear hb
    go_enter Try.func90, Try.ntmps90
    go_wp2_with (go_at_call 83; refine HC.mono ?_; rintro e w1 ⟨a', rfl, hb1, hB1, hc1, hf1, hz1⟩; clear HC; simp only [World.size_alloc] at hc1 hf1 hz1)
    go_wp2
    refine bodyPost_ret (v := .agg #[.slice a' m.length m.length]) (by simp [results, Try.results90, go_sem, hc1]) rfl ?_
    have hk : Kp w w1 := (((Kp.refl _).alloc _).alloc _).via hB1
    exact ⟨a', rfl, hb1.frame ((Below.refl _ _).setCell (by simp; omega) _), hk.set (by simp) _⟩
  | none =>
    rw [hq] at HC
    go_enter Try.func90, Try.ntmps90
    go_wp2_with (go_at_call 83; refine HC.mono ?_; rintro e w1 ⟨rfl, hB1⟩)
    exact ⟨rfl, rfl, (((Kp.refl _).alloc _).alloc _).via hB1.1⟩
theorem U8_any (N : Nat) (a : Option Addr) (l : List Int) (len cap : Nat) (p : Int) (w : World) (hb : Bts N w a l) (hN : N ≤ w.heap.size) (hl : l.length = len) (hc : len ≤ cap) (hm : cap ≤ 9223372036854775807) :
    Calls Try.prog 122 #[.agg #[.slice a len cap], .int .i64 p] w (GivesInt (u8 l p) w) := by
  have HC := piece_any N a l len cap p 1 _ (hb.al hN (.cells #[.slice a len cap] 40)) (by simp; omega) hl hc hm
  subst hl
  by_cases hp : pcOk l.length p 1
  · have hu : u8 l p = some (B l p) := by simp [u8, hp]
    have hq : pc l p 1 = some (sub l p 1) := by simp [pc, hp]
    rw [hq] at HC; rw [hu]
    have e0 : (sub l p 1).getD 0 0 = B l p := by
      have := hp.1
      simp [sub, B, List.getD, List.getElem?_drop]
    have hlen : (sub l p 1).length = 1 := sub_length hp
    have w0 := hb.2.B p
    generalize B l p = x0 at *
    generalize sub l p 1 = m at *
    clear hb hu hq hp
    have HC2 : Calls Try.prog 83 #[.agg #[.slice a l.length cap], .int .i64 p, .int .i64 1] (w.alloc (.cells #[.slice a l.length cap] 40)) fun e w' => ∃ b o, e = .returned (.slice (some ⟨b, o, none⟩) 1 1) ∧ w'.cell? ⟨b, o, none⟩ = some (.int .u8 x0) ∧ Kp w w' := by
      refine HC.mono ?_
      rintro e w' ⟨a', rfl, hb', hK⟩
      obtain ⟨b, o, rfl, _, hcell⟩ := hb'.at (by omega)
      rw [hlen] at *
      exact ⟨b, o, rfl, by rw [← e0]; exact hcell 0 (by omega), ((Kp.refl _).alloc _).trans hK⟩
    clear HC e0 hlen hc hm
    go_enter Try.func122, Try.ntmps122
    go_wp2_with (go_at_call 83; refine HC2.mono ?_; rintro e w1 ⟨b, o, rfl, hc0, hK⟩; clear HC2)
    go_wp2
    go_ret
    exact ⟨rfl, hK⟩
  · have hu : u8 l p = none := by simp [u8, hp]
    have hq : pc l p 1 = none := by simp [pc, hp]
    rw [hq] at HC; rw [hu]
    clear hu hq
    go_enter Try.func122, Try.ntmps122
    go_wp2_with (go_at_call 83; refine HC.mono ?_; rintro e w1 ⟨rfl, hB1⟩)
    exact ⟨rfl, rfl, ((Kp.refl _).alloc _).via hB1.1⟩
theorem U16_any (N : Nat) (a : Option Addr) (l : List Int) (len cap : Nat) (p : Int) (w : World) (hb : Bts N w a l) (hN : N ≤ w.heap.size) (hl : l.length = len) (hc : len ≤ cap) (hm : cap ≤ 9223372036854775807) :
    Calls Try.prog 44 #[.agg #[.slice a len cap], .int .i64 p] w (GivesInt (u16 l p) w) := by
  have HC := piece_any N a l len cap p 2 _ (hb.al hN (.cells #[.slice a len cap] 40)) (by simp; omega) hl hc hm
  subst hl
  by_cases hp : pcOk l.length p 2
  · have hu : u16 l p = some (256 * B l p + B l (p + 1)) := by simp [u16, hp]
    have hq : pc l p 2 = some (sub l p 2) := by simp [pc, hp]
    rw [hq] at HC; rw [hu]
    have e0 : (sub l p 2).getD 0 0 = B l p := by
      have := hp.1
      simp [sub, B, List.getD, List.getElem?_drop]
    have e1 : (sub l p 2).getD 1 0 = B l (p + 1) := by
      have := hp.1
      simp [sub, B, List.getD, List.getElem?_drop, show (p + 1).toNat = p.toNat + 1 by omega]
    have hlen : (sub l p 2).length = 2 := sub_length hp
    have w0 := hb.2.B p
    have w1 := hb.2.B (p + 1)
    generalize B l p = x0 at *
    generalize B l (p + 1) = x1 at *
    generalize sub l p 2 = m at *
    clear hb hu hq hp
    have HC2 : Calls Try.prog 83 #[.agg #[.slice a l.length cap], .int .i64 p, .int .i64 2] (w.alloc (.cells #[.slice a l.length cap] 40)) fun e w' => ∃ b o, e = .returned (.slice (some ⟨b, o, none⟩) 2 2) ∧ w'.cell? ⟨b, o, none⟩ = some (.int .u8 x0) ∧ w'.cell? ⟨b, o + 1, none⟩ = some (.int .u8 x1) ∧ Kp w w' := by
      refine HC.mono ?_
      rintro e w' ⟨a', rfl, hb', hK⟩
      obtain ⟨b, o, rfl, _, hcell⟩ := hb'.at (by omega)
      rw [hlen] at *
      exact ⟨b, o, rfl, by rw [← e0]; exact hcell 0 (by omega), by rw [← e1]; exact hcell 1 (by omega), ((Kp.refl _).alloc _).trans hK⟩
    clear HC e0 e1 hlen hc hm
    go_enter Try.func44, Try.ntmps44
    go_wp2_with (go_at_call 83; refine HC2.mono ?_; rintro e w1 ⟨b, o, rfl, hc0, hc1, hK⟩; clear HC2)
    go_quiet (fail)
    go_wp2
    go_ret
    refine ⟨?_, .of (hK.1.trans ⟨rfl, rfl, rfl, Nat.le_refl _, fun _ _ => rfl⟩)⟩
    rw [i64_join 8 (x0 * 256) x1 (by omega) (by omega) (by omega) (by omega) (by omega) (by omega), Int.mul_comm]
    rfl
  · have hu : u16 l p = none := by simp [u16, hp]
    have hq : pc l p 2 = none := by simp [pc, hp]
    rw [hq] at HC; rw [hu]
    clear hu hq
    go_enter Try.func44, Try.ntmps44
    go_wp2_with (go_at_call 83; refine HC.mono ?_; rintro e w1 ⟨rfl, hB1⟩)
    exact ⟨rfl, rfl, ((Kp.refl _).alloc _).via hB1.1⟩
theorem U32_any (N : Nat) (a : Option Addr) (l : List Int) (len cap : Nat) (p : Int) (w : World) (hb : Bts N w a l) (hN : N ≤ w.heap.size) (hl : l.length = len) (hc : len ≤ cap) (hm : cap ≤ 9223372036854775807) :
    Calls Try.prog 40 #[.agg #[.slice a len cap], .int .i64 p] w (GivesInt (u32 l p) w) := by
  have HC := piece_any N a l len cap p 4 _ (hb.al hN (.cells #[.slice a len cap] 40)) (by simp; omega) hl hc hm
  subst hl
  by_cases hp : pcOk l.length p 4
  · have hu : u32 l p = some (16777216 * B l p + 65536 * B l (p + 1) + 256 * B l (p + 2) + B l (p + 3)) := by simp [u32, hp]
    have hq : pc l p 4 = some (sub l p 4) := by simp [pc, hp]
    rw [hq] at HC; rw [hu]
    have e0 : (sub l p 4).getD 0 0 = B l p := by
      have := hp.1
      simp [sub, B, List.getD, List.getElem?_drop]
    have e1 : (sub l p 4).getD 1 0 = B l (p + 1) := by
      have := hp.1
      simp [sub, B, List.getD, List.getElem?_drop, show (p + 1).toNat = p.toNat + 1 by omega]
    have e2 : (sub l p 4).getD 2 0 = B l (p + 2) := by
      have := hp.1
      simp [sub, B, List.getD, List.getElem?_drop, show (p + 2).toNat = p.toNat + 2 by omega]
    have e3 : (sub l p 4).getD 3 0 = B l (p + 3) := by
      have := hp.1
      simp [sub, B, List.getD, List.getElem?_drop, show (p + 3).toNat = p.toNat + 3 by omega]
    have hlen : (sub l p 4).length = 4 := sub_length hp
    have w0 := hb.2.B p
    have w1 := hb.2.B (p + 1)
    have w2 := hb.2.B (p + 2)
    have w3 := hb.2.B (p + 3)
    generalize B l p = x0 at *
    generalize B l (p + 1) = x1 at *
    generalize B l (p + 2) = x2 at *
    generalize B l (p + 3) = x3 at *
    generalize sub l p 4 = m at *
    clear hb hu hq hp
    have HC2 : Calls Try.prog 83 #[.agg #[.slice a l.length cap], .int .i64 p, .int .i64 4] (w.alloc (.cells #[.slice a l.length cap] 40)) fun e w' => ∃ b o, e = .returned (.slice (some ⟨b, o, none⟩) 4 4) ∧ w'.cell? ⟨b, o, none⟩ = some (.int .u8 x0) ∧ w'.cell? ⟨b, o + 1, none⟩ = some (.int .u8 x1) ∧ w'.cell? ⟨b, o + 2, none⟩ = some (.int .u8 x2) ∧ w'.cell? ⟨b, o + 3, none⟩ = some (.int .u8 x3) ∧ Kp w w' := by
      refine HC.mono ?_
      rintro e w' ⟨a', rfl, hb', hK⟩
      obtain ⟨b, o, rfl, _, hcell⟩ := hb'.at (by omega)
      rw [hlen] at *
      exact ⟨b, o, rfl, by rw [← e0]; exact hcell 0 (by omega), by rw [← e1]; exact hcell 1 (by omega), by rw [← e2]; exact hcell 2 (by omega), by rw [← e3]; exact hcell 3 (by omega), ((Kp.refl _).alloc _).trans hK⟩
    clear HC e0 e1 e2 e3 hlen hc hm
    go_enter Try.func40, Try.ntmps40
    go_wp2_with (go_at_call 83; refine HC2.mono ?_; rintro e w1 ⟨b, o, rfl, hc0, hc1, hc2, hc3, hK⟩; clear HC2)
    go_quiet (fail)
    go_wp2
    go_ret
    refine ⟨?_, .of (hK.1.trans ⟨rfl, rfl, rfl, Nat.le_refl _, fun _ _ => rfl⟩)⟩
    rw [i64_join 24 (x0 * 16777216) (x1 * 65536) (by omega) (by omega) (by omega) (by omega) (by omega) (by omega), i64_join 16 _ (x2 * 256) (by omega) (by omega) (by omega) (by omega) (by omega) (by omega), i64_join 8 _ x3 (by omega) (by omega) (by omega) (by omega) (by omega) (by omega),
      Int.mul_comm x0, Int.mul_comm x1, Int.mul_comm x2]
    rfl
  · have hu : u32 l p = none := by simp [u32, hp]
    have hq : pc l p 4 = none := by simp [pc, hp]
    rw [hq] at HC; rw [hu]
    clear hu hq
    go_enter Try.func40, Try.ntmps40
    go_wp2_with (go_at_call 83; refine HC.mono ?_; rintro e w1 ⟨rfl, hB1⟩)
    exact ⟨rfl, rfl, ((Kp.refl _).alloc _).via hB1.1⟩
theorem I16_any (N : Nat) (a : Option Addr) (l : List Int) (len cap : Nat) (p : Int) (w : World) (hb : Bts N w a l) (hN : N ≤ w.heap.size) (hl : l.length = len) (hc : len ≤ cap) (hm : cap ≤ 9223372036854775807) :
    Calls Try.prog 41 #[.agg #[.slice a len cap], .int .i64 p] w (GivesInt (i16 l p) w) := by
  have HC := U16_any N a l len cap p _ (hb.al hN (.cells #[.slice a len cap] 40)) (by simp; omega) hl hc hm
  have hw0 := hb.2.B p
  have hw1 := hb.2.B (p + 1)
  cases hq : u16 l p with
  | some x =>
    have hx : 0 ≤ x ∧ x < 65536 := by
      unfold u16 at hq; split at hq
      · cases hq; omega
      · cases hq
    have hu : i16 l p = some (s16 x) := by simp [i16, hq]
    rw [hq] at HC; rw [hu]
    clear hb hu hq hw0 hw1
    go_enter Try.func41, Try.ntmps41
    go_wp2_with (go_at_call 44; refine HC.mono ?_; rintro e w1 ⟨rfl, hK⟩; clear HC)
    go_wp2
    go_ret
    refine ⟨?_, ((Kp.refl _).alloc _).trans hK⟩
    rw [← wrap_s16 x (by omega) (by omega)]
    rfl
  | none =>
    have hu : i16 l p = none := by simp [i16, hq]
    rw [hq] at HC; rw [hu]
    clear hb hu hq hw0 hw1
    go_enter Try.func41, Try.ntmps41
    go_wp2_with (go_at_call 44; refine HC.mono ?_; rintro e w1 ⟨rfl, hK⟩; clear HC)
    exact ⟨rfl, rfl, ((Kp.refl _).alloc _).trans hK⟩
theorem Rest_any (N : Nat) (a : Option Addr) (l : List Int) (len cap : Nat) (p : Int) (w : World) (hb : Bts N w a l) (hN : N ≤ w.heap.size) (hl : l.length = len) (hc : len ≤ cap) (hm : cap ≤ 9223372036854775807) (h0 : 0 ≤ p) (h1 : p ≤ 4294967295) :
    Calls Try.prog 46 #[.agg #[.slice a len cap], .int .i64 p] w (GivesView N (rest l p) w) := by
  have HC := fun n => piece_any N a l len cap p n _ (hb.al2 hN (.cells #[.slice a len cap] 40) (.cells #[.slice none 0 0] 40)) (by simp; omega) hl hc hm
  clear hb
  subst hl
  have hn : ∃ n, rest l p = pc l p n ∧ (n = (l.length : Int) - p ∧ p ≤ l.length ∨ n = 0 ∧ ¬ p ≤ l.length) := by
    by_cases hp : p ≤ l.length
    · exact ⟨_, by simp only [rest]; rw [show max ((l.length : Int) - p) 0 = (l.length : Int) - p by omega], .inl ⟨rfl, hp⟩⟩
    · exact ⟨_, by simp only [rest]; rw [show max ((l.length : Int) - p) 0 = 0 by omega], .inr ⟨rfl, hp⟩⟩
  obtain ⟨n, hr, hn⟩ := hn
  rw [hr]
  clear hr
  have HC := HC n
  cases hq : pc l p n with
  | some m =>
    rw [hq] at HC
    clear hq
    rcases hn with ⟨rfl, hp⟩ | ⟨rfl, hp⟩
    all_goals
      go_enter Try.func46, Try.ntmps46
      go_wp2_with (go_at_call 83; refine HC.mono ?_; rintro e w1 ⟨a', rfl, hb1, hB1, hc1, hf1, hz1⟩; clear HC; simp only [World.size_alloc] at hc1 hf1 hz1)
      go_wp2
      refine bodyPost_ret (v := .agg #[.slice a' m.length m.length]) (by simp [results, Try.results46, go_sem, hc1]) rfl ?_
      have hk : Kp w w1 := (((Kp.refl _).alloc _).alloc _).via hB1
      exact ⟨a', rfl, hb1.frame ((Below.refl _ _).setCell (by simp; omega) _), hk.set (by simp) _⟩
  | none =>
    rw [hq] at HC
    clear hq
    rcases hn with ⟨rfl, hp⟩ | ⟨rfl, hp⟩
    all_goals
      go_enter Try.func46, Try.ntmps46
      go_wp2_with (go_at_call 83; refine HC.mono ?_; rintro e w1 ⟨rfl, hB1⟩)
      exact ⟨rfl, rfl, (((Kp.refl _).alloc _).alloc _).via hB1.1⟩
set_option maxRecDepth 100000 in
theorem Rows_any (N : Nat) (a : Option Addr) (l : List Int) (len cap : Nat) (p n size : Int) (w : World) (hb : Bts N w a l) (hN : N ≤ w.heap.size) (hl : l.length = len) (hc : len ≤ cap) (hm : cap ≤ 9223372036854775807) :
    Calls Try.prog 48 #[.agg #[.slice a len cap], .int .i64 p, .int .i64 n, .int .i64 size] w (GivesView N (rows l p n size) w) := by
  have HC := Cut_any N a l len cap p (n * size) _ (hb.al2 hN (.cells #[.slice a len cap] 40) (.cells #[.slice none 0 0] 40)) (by simp; omega) hl hc hm
  have hbad : ¬ rowsOk len n size → rows l p n size = none := fun h => by simp [rows, hl, h]
  have hgood : rowsOk len n size → rows l p n size = pc l p (n * size) := fun h => by simp [rows, hl, h]
  by_cases h0 : 0 ≤ n
  · by_cases h1 : 0 ≤ size
    · by_cases h2 : size = 0
      · rw [hgood ⟨h0, h1, .inl h2⟩]
        clear hbad hgood hb hl
        have h6 : 0 ≤ n * size ∧ n * size ≤ 0 := by subst h2; simp
        have h5 : (size == 0) = true := by simpa using h2
        clear h2
        cases hq : pc l p (n * size) with
        | some m =>
          rw [hq] at HC
          clear hq
          go_enter Try.func48, Try.ntmps48
          go_wp2_with (first | (go_at_call 43; refine (Need_true _).mono ?_; rintro e w' ⟨rfl, rfl⟩) | (go_at_call 90; refine HC.mono ?_; rintro e w1 ⟨a', rfl, hb1, hB1, hc1, hf1, hz1⟩; clear HC; simp only [World.size_alloc] at hc1 hf1 hz1))
          go_wp2
          refine bodyPost_ret (v := .agg #[.slice a' m.length m.length]) (by simp [results, Try.results48, go_sem, hc1]) rfl ?_
          have hk : Kp w w1 := (((Kp.refl _).alloc _).alloc _).via hB1
          exact ⟨a', rfl, hb1.frame ((Below.refl _ _).setCell (by simp; omega) _), hk.set (by simp) _⟩
        | none =>
          rw [hq] at HC
          clear hq
          go_enter Try.func48, Try.ntmps48
          go_wp2_with (first | (go_at_call 43; refine (Need_true _).mono ?_; rintro e w' ⟨rfl, rfl⟩) | (go_at_call 90; refine HC.mono ?_; rintro e w1 ⟨rfl, hB1⟩))
          exact ⟨rfl, rfl, (((Kp.refl _).alloc _).alloc _).via hB1.1⟩
      · have h4 : 1 ≤ size := by omega
        have h5 : (size == 0) = false := by simpa using h2
        have h6 : 0 ≤ (len : Int) / size := Int.ediv_nonneg (by omega) (by omega)
        have h7 : (len : Int) / size ≤ len := Int.ediv_le_self _ (by omega)
        by_cases h3 : n ≤ (len : Int) / size
        · rw [hgood ⟨h0, h1, .inr h3⟩]
          clear hbad hgood hb h2 h1 hl
          have h8 : 0 ≤ n * size := Int.mul_nonneg h0 (by omega)
          have h9 : n * size ≤ len := Int.le_trans (Int.mul_le_mul_of_nonneg_right h3 (by omega)) (Int.ediv_mul_le _ (by omega))
          cases hq : pc l p (n * size) with
          | some m =>
            rw [hq] at HC
            clear hq
            go_enter Try.func48, Try.ntmps48
            go_wp2_with (first | (go_at_call 43; refine (Need_true _).mono ?_; rintro e w' ⟨rfl, rfl⟩) | (go_at_call 90; refine HC.mono ?_; rintro e w1 ⟨a', rfl, hb1, hB1, hc1, hf1, hz1⟩; clear HC; simp only [World.size_alloc] at hc1 hf1 hz1))
            go_wp2
            refine bodyPost_ret (v := .agg #[.slice a' m.length m.length]) (by simp [results, Try.results48, go_sem, hc1]) rfl ?_
            have hk : Kp w w1 := (((Kp.refl _).alloc _).alloc _).via hB1
            exact ⟨a', rfl, hb1.frame ((Below.refl _ _).setCell (by simp; omega) _), hk.set (by simp) _⟩
          | none =>
            rw [hq] at HC
            clear hq
            go_enter Try.func48, Try.ntmps48
            go_wp2_with (first | (go_at_call 43; refine (Need_true _).mono ?_; rintro e w' ⟨rfl, rfl⟩) | (go_at_call 90; refine HC.mono ?_; rintro e w1 ⟨rfl, hB1⟩))
            exact ⟨rfl, rfl, (((Kp.refl _).alloc _).alloc _).via hB1.1⟩
        · rw [hbad (fun h => by rcases h.2.2 with h | h; exact h2 h; exact h3 h)]
          clear HC hbad hgood hb h2 h1 hl
          go_enter Try.func48, Try.ntmps48
          go_wp2_with (go_at_call 43; refine (Need_false _).mono ?_; rintro e w' ⟨rfl, rfl⟩)
          exact ⟨rfl, rfl, ((Kp.refl _).alloc _).alloc _⟩
    · rw [hbad (fun h => h1 h.2.1)]
      clear HC hbad hgood hb
      go_enter Try.func48, Try.ntmps48
      go_wp2_with (go_at_call 43; refine (Need_false _).mono ?_; rintro e w' ⟨rfl, rfl⟩)
      exact ⟨rfl, rfl, ((Kp.refl _).alloc _).alloc _⟩
  · rw [hbad (fun h => h0 h.1)]
    clear HC hbad hgood hb
    go_enter Try.func48, Try.ntmps48
    go_wp2_with (go_at_call 43; refine (Need_false _).mono ?_; rintro e w' ⟨rfl, rfl⟩)
    exact ⟨rfl, rfl, ((Kp.refl _).alloc _).alloc _⟩
end Go.Proofs.Ytidedlbieakagaa
