/- THE WALK of lookup.list. -/
import Derived.Test.YtidedlbieakagaaLook1
namespace Go.Proofs.Ytidedlbieakagaa
open Go.RowKit
variable [Lo]
omit [Lo] in
theorem Try.infoInt : (Try.prog.info? 3).map (fun i => (i.zero, i.size, i.bytes)) = some (some (.int .i64 0), 1, 8) := by kernel_rfl
/-- The cells of a list of integers. -/
def arr (l : List Int) : Array Value := (l.map (Value.int .i64)).toArray
omit [Lo] in
theorem arr_set (l : List Int) (i : Nat) (x : Int) : (arr l).setIfInBounds i (.int .i64 x) = arr (l.set i x) := by
  simp [arr, List.map_set]
omit [Lo] in
theorem arr_get (l : List Int) (i : Nat) (h : i < l.length) : (arr l)[i]? = some (.int .i64 (l.getD i 0)) := by
  simp [arr, List.getD, h]
omit [Lo] in
theorem mk_ints (m : Nat) (hm : m ≤ 1099511627776) (W : World) : (Instr.makeSlice 56 (.int .i64 (m : Int)) (.int .i64 (m : Int))).run Try.prog W = .ok (.slice (some ⟨W.heap.size, 0, none⟩) m m) (W.alloc (.cells (arr (List.replicate m 0)) 3)) := by
  obtain ⟨i0, hi, hz0, hz1, hz2⟩ := info_parts Try.infoInt
  rw [run_make_rowN (P := Try.prog) 56 3 i0 _ Try.underlying56 hi hz0 .i64 .i64 m m (Nat.le_refl _) (by rw [hz2]; omega) (by omega) W]
  have : madeCells (Value.int .i64 0).cells (m * i0.size) = arr (List.replicate m 0) := by
    rw [hz1, Nat.mul_one]
    apply Array.toList_inj.1
    rw [show (Value.int .i64 0).cells = #[Value.int .i64 0] from rfl, toList_madeCells_one]
    simp [arr]
  rw [this]
/-- What 'list' has filled behind k rounds. -/
def filled (r : List Int) (size : Int) (n k : Nat) : List Int := ((List.range k).map fun (i : Nat) => nv r (size * i) size) ++ List.replicate (n - k) 0
omit [Lo] in
theorem filled_zero (r : List Int) (size : Int) (n : Nat) : filled r size n 0 = List.replicate n 0 := by simp [filled]
omit [Lo] in
theorem filled_set (r : List Int) (size : Int) (n k : Nat) (h : k < n) : (filled r size n k).set k (nv r (size * k) size) = filled r size n (k + 1) := by
  unfold filled
  have hn : n - k = (n - (k + 1)) + 1 := by omega
  rw [List.set_append_right _ _ (by simp), hn, List.replicate_succ, List.range_succ, List.map_append]
  simp
omit [Lo] in
theorem filled_len (r : List Int) (size : Int) (n k : Nat) (h : k ≤ n) : (filled r size n k).length = n := by simp [filled]; omega
omit [Lo] in
theorem rel_store {wr w1 : World} {g : Nat} {l : List Int} {k : Nat} {x : Int} (hb : Blk wr g 3 (arr l)) (hK : Kp wr w1) : Blk (w1.setCell ⟨g, k, none⟩ (.int .i64 x)) g 3 (arr (l.set k x)) := by
  rw [← arr_set]
  exact (hb.below hK.1 hb.lt).set_ _ _
def ListPost (o : Option (List Int)) (w : World) (e : Ending) (w' : World) : Prop := match o with | some xs => (∃ v, e = .returned v ∧ Ints (New w w') w' v xs ∧ Kp w w') | none => Fails w e w'
set_option maxRecDepth 100000 in
theorem list_any (N : Nat) (a : Option Addr) (l : List Int) (len cap : Nat) (p n size : Int) (w : World) (hb : Bts N w a l) (hN : N ≤ w.heap.size) (hl : l.length = len) (hc : len ≤ cap) (hm : cap ≤ 9223372036854775807) (hlen : len ≤ 1073741824) (hs : size = 1 ∨ size = 2 ∨ size = 4) :
    Calls Try.prog 85 #[.agg #[.slice a len cap], .int .i64 p, .int .i64 n, .int .i64 size] w (ListPost (list l p n size) w) := by
  have hk := (Kp.refl w).alloc (.cells #[.slice a len cap] 40)
  have CR := Rows_any N a l len cap p n size _ (hb.al hN (.cells #[.slice a len cap] 40)) (by simp; omega) hl hc hm
  cases hq : rows l p n size with
  | none =>
    rw [hq] at CR
    have e : list l p n size = none := by simp [list, hq]
    rw [e]
    clear hq e hb hs
    go_enter Try.func85, Try.ntmps85
    go_wp2_with (go_at_call 48; refine CR.mono ?_; rintro e w1 ⟨rfl, hK⟩; clear CR)
    exact ⟨rfl, rfl, hk.trans hK⟩
  | some r =>
    obtain ⟨h0, _, h2, h3, h4, _⟩ := rows_some hq
    rw [hq] at CR
    have e : list l p n size = some (filled r size n.toNat n.toNat) := by simp [list, hq, filled]
    rw [e]
    obtain ⟨m, rfl⟩ := Int.eq_ofNat_of_zero_le h0
    have hm8 : m ≤ 1073741824 := by rcases hs with rfl | rfl | rfl <;> omega
    have hrl : r.length ≤ 1073741824 := by omega
    have hnum : ∀ k : Nat, k < m → num r (size * k) size = some (nv r (size * k) size) := by
      intro k hk
      refine num_eq hs ?_
      rcases hs with rfl | rfl | rfl <;> (unfold pcOk; rw [h3]; omega)
    have hsz : 1 ≤ size ∧ size ≤ 4 := by rcases hs with rfl | rfl | rfl <;> omega
    have hmk := mk_ints m (by omega)
    have Hnum := Lib.hid hnum
    clear hnum
    rw [Int.toNat_natCast]
    clear hq e hb hs h2 h3 h4 hl
    go_enter Try.func85, Try.ntmps85
    go_wp2_with (go_at_call 48; refine CR.mono ?_; rintro e w1 ⟨a', rfl, hb1, hB1, hc1, hf1, hz1⟩; clear CR; simp only [World.size_alloc] at hc1 hf1 hz1)
    have hk1 : Kp w w1 := hk.trans ⟨hB1, by simpa using hc1, by simpa using hf1, by simpa using hz1⟩
    have hN1 : N ≤ w1.heap.size := by omega
    have hB0 := heap_alloc2_old w1 (.cells #[.slice a' r.length r.length] 40) (.cells (arr (List.replicate m 0)) 3)
    have hG0 := heap_alloc2_new w1 (.cells #[.slice a' r.length r.length] 40) (.cells (arr (List.replicate m 0)) 3)
    have hk2 := (hk1.alloc (.cells #[.slice a' r.length r.length] 40)).alloc (.cells (arr (List.replicate m 0)) 3)
    have hb2 := hb1.al2 hN1 (.cells #[.slice a' r.length r.length] 40) (.cells (arr (List.replicate m 0)) 3)
    have hx1 : w.heap.size ≤ w1.heap.size := hk1.1.size
    clear hB1 hc1 hf1 hz1 hb1 hmk hk
    go_loopw [21] (fun i wr => ∃ k : Nat, k ≤ m ∧ i = .int .i64 k ∧ Blk wr w1.heap.size 40 #[.slice a' r.length r.length] ∧ Blk wr (w1.heap.size + 1) 3 (arr (filled r size m k)) ∧ Bts N wr a' r ∧ Kp w wr) (fun i _ => m - (intOf i).toNat)
    case atStart => exact ⟨0, Nat.zero_le _, rfl, hB0, by rw [filled_zero]; exact hG0, hb2, hk2⟩
    case round =>
      obtain ⟨k, hkm, rfl, hBr, hGr, hbr, hkr⟩ := hrel
      have hNr : N ≤ wr.heap.size := by have := hkr.1.size; omega
      clear hB0 hG0 hk2 hb2
      have hp0 : 0 ≤ size * (k : Int) := Int.mul_nonneg (by omega) (by omega)
      have hp1 : size * (k : Int) ≤ 4 * 1073741824 := Int.mul_le_mul (by omega) (by omega) (by omega) (by omega)
      have hc0 := hBr.cell 0
      have hgl := hGr.lt
      by_cases hlt : k < m
      · have CN := number_any N a' r r.length r.length (size * k) size wr hbr hNr rfl (Nat.le_refl _) (by omega)
        rw [Hnum.out k hlt] at CN
        have hcg : ∃ v, wr.cell? ⟨w1.heap.size + 1, k, none⟩ = some v := ⟨_, (hGr.cell k).trans (arr_get _ _ (by rw [filled_len _ _ _ _ hkm]; exact hlt))⟩
        have hfg := hGr.frozen k
        obtain ⟨v0, hcg⟩ := hcg
        have H : ∀ w2, Kp wr w2 → (Blk (w2.setCell ⟨w1.heap.size + 1, k, none⟩ (.int .i64 (nv r (size * k) size))) w1.heap.size 40 #[.slice a' r.length r.length] ∧ Blk (w2.setCell ⟨w1.heap.size + 1, k, none⟩ (.int .i64 (nv r (size * k) size))) (w1.heap.size + 1) 3 (arr (filled r size m (k + 1))) ∧ Bts N (w2.setCell ⟨w1.heap.size + 1, k, none⟩ (.int .i64 (nv r (size * k) size))) a' r ∧ Kp w (w2.setCell ⟨w1.heap.size + 1, k, none⟩ (.int .i64 (nv r (size * k) size)))) := by
          intro w2 hK
          refine ⟨(hBr.below hK.1 hBr.lt).far (by simp) _, ?_, (hbr.kp hNr hK).frame ((Below.refl _ _).setCell (by simp; omega) _), (hkr.trans hK).set (by simp; omega) _⟩
          rw [← filled_set _ _ _ _ hlt]
          exact rel_store hGr hK
        have H2 := Lib.hid H
        clear H
        generalize nv r (size * k) size = x at *
        clear hBr hGr hbr
        go_wp2_with (go_at_call 111; refine CN.mono ?_; rintro e w2 ⟨rfl, hB2, hc2, hf2, hz2⟩; clear CN)
        go_roundw
        case rel => exact ⟨k + 1, by omega, by go_num, H2.out _ ⟨hB2, hc2, hf2, hz2⟩⟩
        case measure => simp [intOf]; omega
      · obtain rfl : k = m := by omega
        go_wp2
        go_ret
        refine ⟨_, rfl, ?_, hkr⟩
        have hfl := filled_len r size k k hkm
        have := SliceOf.of_blk (c := k) hGr (.ints _) (by omega) (by simp only [maxLen]; omega) (P := New w wr) ⟨by omega, hgl⟩
        rw [hfl] at this
        exact this
end Go.Proofs.Ytidedlbieakagaa
