/- THE WALK of swashref02.Put: a number's bytes behind others. -/
import Derived.Test.YtidedlbieakagaaView2
import Derived.Test.YtidedlbieakagaaGrow
namespace Go.Proofs.Ytidedlbieakagaa
open Go.RowKit
def dv (n : Int) (m : Nat) : Int := n / 256 ^ m
theorem dv_zero (n : Int) : dv n 0 = n := by simp [dv]
theorem dv_succ (n : Int) (m : Nat) : dv n m / 256 = dv n (m + 1) := by
  unfold dv
  rw [Int.ediv_ediv_of_nonneg (Int.pow_nonneg (by omega)), ← Int.pow_succ]
theorem dv_bd {n : Int} (h : 0 ≤ n) (m : Nat) : 0 ≤ dv n m ∧ dv n m ≤ n := by
  unfold dv
  have hp : (0 : Int) < 256 ^ m := Int.pow_pos (by omega)
  exact ⟨Int.ediv_nonneg h (by omega), Int.ediv_le_self _ h⟩
/-- The last bytes of a number, so many, the higher first. -/
def be (n : Int) : Nat → List Int
  | 0 => []
  | s + 1 => (dv n s % 256) :: be n s
theorem be_len (n : Int) (s : Nat) : (be n s).length = s := by induction s with | zero => rfl | succ s ih => simp [be, ih]
theorem be_wf (n : Int) (s : Nat) : Wf (be n s) := by
  induction s with
  | zero => intro x hx; simp [be] at hx
  | succ s ih =>
    intro x hx
    rcases List.mem_cons.1 hx with rfl | hx
    · omega
    · exact ih x hx
/-- Bytes that lie in a row of one's own. -/
def OB (base : Nat) (w : World) (v : Value) (l : List Int) : Prop := w.ownsRow base 5 1 v l.length (l.map (Value.int .u8))
theorem OB.nil (base : Nat) (w : World) : OB base w (.slice none 0 0) [] := ⟨rfl, .inl ⟨rfl, rfl⟩⟩
theorem OB.kp {base : Nat} {w w' : World} {v : Value} {l : List Int} (h : OB base w v l) (k : Kp w w') : OB base w' v l := own_kp h k
theorem OB.mono {base base' : Nat} {w : World} {v : Value} {l : List Int} (h : OB base w v l) (hb : base' ≤ base) : OB base' w v l := by
  refine ⟨h.1, ?_⟩
  rcases h.2 with h2 | ⟨g, c, cur, h1, h2, h3⟩
  · exact .inl h2
  · exact .inr ⟨g, c, cur, h1, by omega, h3⟩
/-- From v to v': only v's own block is written, all else that is written is new; v' lies in v's block or in a new one. -/
def GB (w w' : World) (v v' : Value) : Prop := w.grownBy w' v.ownBlock ∧ (v'.ownBlock = v.ownBlock ∨ ∀ k, v'.ownBlock = some k → w.heap.size ≤ k)
theorem GB.refl (w : World) (v : Value) : GB w w v v := ⟨World.grownBy.refl w _, .inl rfl⟩
theorem GB.trans {a b c : World} {u v x : Value} (h : GB a b u v) (k : GB b c v x) : GB a c u x := by
  refine ⟨⟨k.1.os.trans h.1.os, k.1.tape.trans h.1.tape, k.1.output.trans h.1.output, Nat.le_trans h.1.size k.1.size, fun i hi hne => ?_⟩, ?_⟩
  · refine (k.1.block i (Nat.lt_of_lt_of_le hi h.1.size) ?_).trans (h.1.block i hi hne)
    rcases h.2 with h2 | h2
    · rw [h2]; exact hne
    · intro e
      have := h2 i e.symm
      omega
  · rcases k.2 with k2 | k2
    · rw [k2]; exact h.2
    · exact .inr fun j hj => Nat.le_trans h.1.size (k2 j hj)
theorem GB.kp {a b c : World} {u v : Value} (h : GB a b u v) (k : Kp b c) : GB a c u v := h.trans ⟨only_of_below k.1 _, .inl rfl⟩
theorem GB.ofKp {a b : World} (v : Value) (k : Kp a b) : GB a b v v := ⟨only_of_below k.1 _, .inl rfl⟩
theorem GB.push {w W w' : World} {v v' : Value} (k : Kp w W) (hg : W.grownBy w' v.ownBlock) (hv : v'.ownBlock = v.ownBlock ∨ v'.ownBlock = some W.heap.size) : GB w w' v v' :=
  (GB.ofKp v k).trans ⟨hg, hv.imp id fun h j hj => by rw [h] at hj; injection hj with hj; omega⟩
/-- A row that was nil at first: nothing that lay is turned. -/
theorem GB.fresh {w w' : World} {v : Value} (h : GB w w' (.slice none 0 0) v) : Kp w w' :=
  .of ⟨h.1.os, h.1.tape, h.1.output, h.1.size, fun i hi => h.1.block i hi (by simp [Value.ownBlock])⟩
theorem GB.newBlock {w w' : World} {v : Value} (h : GB w w' (.slice none 0 0) v) : ∀ k, v.ownBlock = some k → w.heap.size ≤ k := by
  rcases h.2 with h2 | h2
  · rw [h2]; intro k hk; simp [Value.ownBlock] at hk
  · exact h2
def PutPost (base : Nat) (l : List Int) (v : Value) (w : World) (e : Ending) (w' : World) : Prop := ∃ v', e = .returned v' ∧ OB base w' v' l ∧ GB w w' v v'
set_option maxRecDepth 100000 in
set_option maxHeartbeats 4000000 in
theorem Put_any (base : Nat) (v : Value) (l : List Int) (n sz : Int) (w : World) (hown : OB base w v l) (hbase : base ≤ w.heap.size) (hn0 : 0 ≤ n) (hn1 : n ≤ 4611686018427387904) (hs0 : 0 ≤ sz) (hs1 : sz ≤ 8) (hl : l.length ≤ 1099511627776) :
    Calls Try.prog 36 #[v, .int .i64 n, .int .i64 sz] w (PutPost base (l ++ be n sz.toNat) v w) := by
  obtain ⟨i0, hi0, hz0, hz1, hz2⟩ := info_parts Try.infoU8
  generalize hQ : l ++ be n sz.toNat = Q
  have HQ := Lib.hid hQ
  clear hQ
  go_enter Try.func36, Try.ntmps36
  go_wp2
  go_loopw [0, 7] (fun u i wr => ∃ z : Int, -1 ≤ z ∧ z ≤ 7 ∧ i = .int .i64 z ∧ ∃ m : List Int, Hid (m ++ be n (z + 1).toNat = Q) ∧ OB base wr u m ∧ GB w wr v u ∧ m.length ≤ l.length + 8 - (z + 1).toNat) (fun _ i _ => ((intOf i) + 1).toNat)
  case atStart => exact ⟨sz - 1, by omega, by omega, rfl, l, by rw [show sz - 1 + 1 = sz by omega]; exact HQ, hown, GB.refl _ _, by omega⟩
  case round =>
    obtain ⟨z, hz0', hz1', rfl, m, hm, hob, hgb, hml⟩ := hrel
    by_cases hlt : 0 ≤ z
    · go_wp2
      go_loop [8, 9] (fun k j => ∃ t : Nat, (t : Int) ≤ z ∧ j = .int .i64 t ∧ k = .int .i64 (dv n t)) (fun _ j => (z - intOf j).toNat)
      case atStart => exact ⟨0, by omega, rfl, by rw [dv_zero]⟩
      case round =>
        obtain ⟨t, ht, rfl, rfl⟩ := hrel
        have hd := dv_bd hn0 t
        have hd0 := hd.1
        have hd1 : dv n t ≤ 4611686018427387904 := by omega
        have Hs := Lib.hid (dv_succ n t)
        clear hd
        by_cases htz : (t : Int) < z
        · go_wp2
          go_round
          case rel => exact ⟨t + 1, by omega, by go_num, by rw [← Hs.out]⟩
          case measure => simp [intOf]; omega
        · obtain rfl : z = (t : Int) := by omega
          have hbw : base ≤ wr.heap.size := Nat.le_trans hbase hgb.1.size
          go_wp2_with (at_builtin; refine wpList_push rfl (.tmp 24) (.tmp 28) 25 rfl base 5 i0 _ 1 1 Try.underlying25 hi0 hz0 hz1 hz2 rfl (by omega) u0 m.length (m.map (Value.int .u8)) rfl hob (Kp.refl wr) rfl (by simp [Value.oneCell']) rfl (by simp only [maxLen]; omega) (by omega) hbw ?_; intro v1 w1 hown1 hg1 hat1)
          go_roundw
          case rel =>
            refine ⟨(t : Int) - 1, by omega, by omega, rfl, m ++ [dv n t % 256], ?_, ?_, hgb.trans (GB.push ((Kp.refl wr).alloc _) hg1 (by simpa using hat1)), ?_⟩
            · have h := hm.out
              rw [show ((t : Int) + 1).toNat = t + 1 by omega, be] at h
              rw [show ((t : Int) - 1 + 1).toNat = t by omega]
              exact Lib.hid (by rw [← h]; simp)
            · simpa [OB] using hown1
            · simp; omega
          case measure => simp [intOf]
    · obtain rfl : z = -1 := by omega
      go_wp2
      go_ret
      refine ⟨_, rfl, ?_, hgb⟩
      have := hm.out
      simp [be] at this
      rw [← this]; exact hob
end Go.Proofs.Ytidedlbieakagaa
