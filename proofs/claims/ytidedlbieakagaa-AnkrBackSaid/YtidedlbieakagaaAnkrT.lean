/- THE WALK of swashlaw24.AnkrTakes. -/
import Derived.Test.YtidedlbieakagaaAnkrS
import Derived.Test.YtidedlbieakagaaTryS
import Derived.Test.YtidedlbieakagaaEqs
namespace Go.Proofs.Ytidedlbieakagaa
open Go.RowKit
theorem AnkrTakes1_any (N : Nat) (a : Option Addr) (l : List Int) (cap : Nat) (bb bt : Nat) (W : World) (hb : Bts N W a l) (hN : N ≤ W.heap.size) (hc : l.length ≤ cap) (hm : cap ≤ 9223372036854775807) (hlen : l.length ≤ 1073741824)
    (h1 : W.cell? ⟨bb, 0, none⟩ = some (.slice a l.length cap)) (h3 : Blk W bt 27 #[.pointer none]) :
    Calls Try.prog 14 #[.pointer (some ⟨bb, 0, none⟩), .pointer (some ⟨bt, 0, none⟩)] W fun e w' => (∃ v w1, e = .returned (.tuple #[]) ∧ Kp W w1 ∧ (∃ x b, ankrTake l 40 = some x ∧ v = .pointer (some ⟨b, 0, none⟩) ∧ ATP (fun c => (c < N ∨ W.heap.size ≤ c) ∧ c < w1.heap.size) w1 b x.1 x.2) ∧ w' = w1.setCell ⟨bt, 0, none⟩ v) ∨ (ankrTake l 40 = none ∧ e = .panicked Short ∧ Kp W w') := by
  have CT := Lib.hid (fun W' (k : Kp W W') => ankrTake_any N a l l.length cap 40 W' (hb.kp hN k) (Nat.le_trans hN k.1.size) rfl hc hm hlen (by omega))
  clear hb
  go_enter Try.func14, Try.ntmps14
  go_wp2_with fail
  refine (Of_any _ _ _ _).mono ?_
  rintro e w1 ⟨rfl, hK1⟩
  go_wp2_with fail
  refine (CT.out _ hK1).mono ?_
  rintro e w2 hh
  rcases hh.or with ⟨x, b, hx, rfl, hA, hK⟩ | ⟨hx, rfl, hK⟩
  · have hk2 := hK1.trans hK
    have hB2 := h3.below hk2.1 h3.lt
    have h31 := hB2.cell 0
    have h41 := hB2.frozen 0
    have Hx := Lib.hid hx
    clear hx h3
    go_wp2_with fail
    go_returns
    refine .inl ⟨_, w2, rfl, hk2, ⟨x, b, Hx.out, rfl, hA.toP (fun c hc => ⟨.inr (Nat.le_trans hK1.1.size hc.1), hc.2⟩) fun c _ h2 => ⟨.inl h2, ?_⟩⟩, rfl⟩
    exact Nat.lt_of_lt_of_le h2 (Nat.le_trans hN hk2.1.size)
  · exact ⟨rfl, .inr ⟨hx, rfl, hK1.trans hK⟩⟩
/-- What 'Get' gives, as three values. -/
def gv (o : Option (Int × Int)) : Int × Int × Bool := match o with | some p => (p.1, p.2, true) | none => (0, 0, false)
theorem PtPost.gv {o : Option (Int × Int)} {w w' : World} {e : Ending} (h : PtPost o w e w') : Gives (.tuple #[.agg #[.int .i64 (gv o).1, .int .i64 (gv o).2.1], .bool (gv o).2.2]) w e w' := by
  cases o <;> exact h
theorem takeATok {l : List Int} {g : Int} {x : List Part × List Int} (hw : Wf l) (hg : 1 ≤ g ∧ g ≤ 65536) (hl : l.length ≤ 1073741824) (h : ankrTake l g = some x) : ATok x := by
  have ho := ankrTake_ok h
  rw [ankrTake_head] at h
  cases hh : ankrHead l g with
  | none => rw [hh] at h; cases h
  | some y =>
    rw [hh] at h
    simp only [Option.bind_some] at h
    split at h
    · injection h with h
      subst h
      unfold ankrHead at hh
      cases h1 : u16 l 0 with
      | none => rw [h1] at hh; cases hh
      | some k =>
        cases h2 : u32 l 4 with
        | none => rw [h1, h2] at hh; cases hh
        | some p =>
          rw [h1, h2] at hh
          simp only at hh
          split at hh
          · cases h3 : rest l p with
            | none => rw [h3] at hh; cases hh
            | some m =>
              rw [h3] at hh
              simp only at hh
              cases h4 : lkTake m g 2 with
              | none => rw [h4] at hh; cases hh
              | some ps =>
                cases h5 : u32 l 8 with
                | none => rw [h4, h5] at hh; cases hh
                | some q =>
                  rw [h4, h5] at hh
                  simp only at hh
                  cases h6 : rest l q with
                  | none => rw [h6] at hh; cases hh
                  | some data =>
                    rw [h6] at hh
                    injection hh with hh
                    subst hh
                    have hwm : Wf m := hw.pc h3
                    exact ⟨lkTake_PW hwm hg h4, lkTake_len hwm h4, by have := rest_len h6; show data.length ≤ 1073741824; omega, ho, lkTake_PV hwm h4⟩
          · cases hh
    · cases h
theorem boolNeqS (b : Bool) (w : World) : (binOp .neq 4 (.bool b) (.bool b)).run Try.prog w = .ok (.bool false) w := by cases b <;> kernel_rfl
set_option maxRecDepth 100000 in
set_option maxHeartbeats 8000000 in
theorem AnkrTakes_any (a : Option Addr) (l : List Int) (cap : Nat) (w : World) (hb : Bts w.heap.size w a l) (hc : l.length ≤ cap) (hm : cap ≤ 9223372036854775807) :
    Calls Try.prog 5 #[.slice a l.length cap] w (Gives (.bool true) w) := by
  have hwf := hb.2
  have hk0 : Kp w (w.alloc (.cells #[.slice a l.length cap] 25)) := (Kp.refl w).alloc _
  have hB0 := Blk.new w 25 #[.slice a l.length cap]
  have hcf : ∀ (args : Array Value) (w : World), (callFunc 14 args).run Try.prog w = .ok (.enter 14 args) w := fun _ _ => by kernel_rfl
  have Hcf := Lib.hid hcf
  have hbk := Lib.hid (fun W (k : Kp w W) => hb.kp (Nat.le_refl _) k)
  clear hcf hb
  by_cases hlen : l.length ≤ 800
  · go_enter Try.func5, Try.ntmps5
    go_wp2_with fail
    refine (speaksA_any _).mono ?_
    rintro e w1 ⟨rfl, hK1⟩
    have hk1 := hk0.trans hK1
    have hB1 := hB0.below hK1.1 hB0.lt
    have hc1 := hB1.cell 0
    clear hB0
    go_wp2_with fail
    have hk2 := hk1.alloc (.cells #[.pointer none] 27)
    have hB2 : Blk (w1.alloc (.cells #[.pointer none] 27)) w.heap.size 25 #[.slice a l.length cap] := hB1.alloc _
    have hT2 := Blk.new w1 27 #[.pointer none]
    have hF2 := (Kp.refl (w1.alloc (.cells #[.pointer none] 27))).alloc (.cells #[.bool false] 4)
    refine (Try_store 14 _ w1.heap.size 27 (.pointer none) (fun W v => ∃ x b, ankrTake l 40 = some x ∧ v = .pointer (some ⟨b, 0, none⟩) ∧ ATP (fun c => (c < w.heap.size ∨ ((w1.alloc (.cells #[.pointer none] 27)).alloc (.cells #[.bool false] 4)).heap.size ≤ c) ∧ c < W.heap.size) W b x.1 x.2) (ankrTake l 40 = none) _ hT2 (AnkrTakes1_any w.heap.size a l cap w.heap.size w1.heap.size _ (hbk.out _ (hk2.trans hF2)) (hk2.trans hF2).1.size hc hm (by omega) ((hB2.below hF2.1 hB2.lt).cell 0) (hT2.below hF2.1 hT2.lt)) (Hcf.out _)).mono ?_
    have hz1 := hk1.1.size
    rintro e w3 (⟨v, wT, rfl, hkT, ⟨x, b1, hx, rfl, hA⟩, hst⟩ | ⟨hx, rfl, hkN⟩)
    · have hk3 : Kp w w3 := hst.kj.kpOf hk2 hz1
      have hA3 : ATP (fun c => c < w3.heap.size ∧ c ≠ w1.heap.size) w3 b1 x.1 x.2 := by
        refine (hA.frame fun c hc => hst.same c ?_ ?_).mono fun c hc => ⟨by rw [hst.size]; exact hc.2, ?_⟩
        · have := hc.1; simp at this; omega
        · have := hc.1; simp at this ⊢; omega
        · have := hc.1; simp at this; omega
      have hB3 : Blk w3 w.heap.size 25 #[.slice a l.length cap] := (hst.kj.block _ hB2.lt (by have := hB1.lt; omega)).trans hB2
      have hT3 := hst.out
      have hok := takeATok (g := 40) hwf (by omega) (by omega) hx
      have CR := Lib.hid (AnkrRead_any w.heap.size a l cap 40 w3 (hbk.out _ hk3) hk3.1.size hc hm (show l.length ≤ 1073741824 by omega) (show (1 : Int) ≤ 40 by omega) (show (40 : Int) ≤ 65535 by omega))
      have Hx := Lib.hid hx
      have hc3 := hB3.cell 0
      clear hx hA hkT hB2 hT2 hF2 hst hB1 hc1 hK1 hk1 hk2
      go_wp2_with fail
      refine CR.out.mono ?_
      rintro e w4 h4
      rw [Hx.out] at h4
      obtain ⟨b2, rfl, hU, hk4⟩ := h4
      have hA4 := (hA3.mono fun c hc => hc.1).cur hk4 fun c hc => hc
      have hU4 := hU.mono (Q := (· < w4.heap.size)) fun c hc => hc.2
      have hT4 := hT3.below hk4.1 hT3.lt
      have hct := hT4.cell 0
      have hk04 := hk3.trans hk4
      have hp1 : ∀ w : World, (binOp .neq 27 (.pointer (some ⟨b1, 0, none⟩)) (.pointer none)).run Try.prog w = .ok (.bool true) w := fun _ => by kernel_rfl
      have hp2 : ∀ w : World, (binOp .neq 27 (.pointer (some ⟨b2, 0, none⟩)) (.pointer none)).run Try.prog w = .ok (.bool true) w := fun _ => by kernel_rfl
      have CG := Lib.hid (fun (b : Nat) (hA : ATP (· < w4.heap.size) w4 b x.1 x.2) W (k : Kp w4 W) (g i : Int) (hg : -9000000000 ≤ g ∧ g ≤ 9000000000) (hi : -9000000000 ≤ i ∧ i ≤ 9000000000) => ankrGet_any b x g i W (hA.cur k fun c hc => hc) hok hg hi)
      have CC := Lib.hid (fun (b : Nat) (hA : ATP (· < w4.heap.size) w4 b x.1 x.2) W (k : Kp w4 W) (g : Int) (hg : -9000000000 ≤ g ∧ g ≤ 9000000000) => Count_any b x g W (hA.cur k fun c hc => hc) hok hg)
      have hctk := Lib.hid (fun W (k : Kp w4 W) => (k.2.1 w1.heap.size 0 hT4.lt).trans hct)
      clear hA3 hU hB3 hc3 CR hk3 hbk
      go_wp2_with fail
      go_loopw [7] (fun i wr => ∃ z : Int, -1 ≤ z ∧ z ≤ 12 ∧ i = .int .i64 z ∧ Kp w4 wr) (fun i _ => (12 - intOf i).toNat)
      case atStart => exact ⟨-1, by omega, by omega, rfl, Kp.refl _⟩
      case round =>
        obtain ⟨z, hz0, hz12, rfl, hkr⟩ := hrel
        clear hct hp1 hp2
        by_cases hlt : z < 12
        · go_wp2_with fail
          go_loopw [8] (fun i wr => ∃ y : Int, -1 ≤ y ∧ y ≤ 5 ∧ i = .int .i64 y ∧ Kp w4 wr) (fun i _ => (5 - intOf i).toNat)
          case atStart => exact ⟨-1, by omega, by omega, rfl, hkr⟩
          case round =>
            obtain ⟨y, hy0, hy5, rfl, hki⟩ := hrel
            clear hkr
            by_cases hly : y < 5
            · have hct := hctk.out _ hki
              go_wp2_with fail
              refine (CG.out b1 hA4 _ hki z y (by omega) (by omega)).mono ?_
              rintro e w5 h5
              obtain ⟨rfl, hk5⟩ := h5.gv
              clear h5 hct
              have hk5' := hki.trans hk5
              generalize hq : gv (ankrGet x z y) = q at *
              have Hq := Lib.hid hq
              clear hq
              go_wp2_with fail
              have hk6 := hk5'.alloc (.cells #[.int .i64 q.1, .int .i64 q.2.1] 35)
              have hX6 := Blk.new w5 35 #[.int .i64 q.1, .int .i64 q.2.1]
              refine (CG.out b2 hU4 _ hk6 z y (by omega) (by omega)).mono ?_
              rintro e w7 h7
              obtain ⟨rfl, hk7⟩ := h7.gv
              rw [Hq.out]
              clear h7
              have hk7' := hk6.trans hk7
              have hX7 := hX6.below hk7.1 hX6.lt
              have hX8 := hX7.alloc (.cells #[.int .i64 q.1, .int .i64 q.2.1] 35)
              have hk8 := hk7'.alloc (.cells #[.int .i64 q.1, .int .i64 q.2.1] 35)
              have c80 := hX8.cell 0
              have c81 := hX8.cell 1
              have hnp := fun W => neqPoint W q.1 q.2.1
              have hnb := fun W => boolNeqS q.2.2 W
              have hct := hctk.out _ hk8
              clear hX6 hX7 hX8
              go_wp2_with fail
              refine (CC.out b1 hA4 _ hk8 z (by omega)).mono ?_
              rintro e w9 ⟨rfl, hk9⟩
              have hk9' := hk8.trans hk9
              go_wp2_with fail
              refine (CC.out b2 hU4 _ hk9' z (by omega)).mono ?_
              rintro e w10 ⟨rfl, hk10⟩
              have hk10' := hk9'.trans hk10
              clear hct c80 c81 hnp hnb
              go_wp2_with fail
              go_roundw
              case rel => exact ⟨y + 1, by omega, by omega, by go_num, hk10'⟩
              case measure => simp [intOf]; omega
            · go_wp2_with fail
              go_roundw
              case rel => exact ⟨z + 1, by omega, by omega, by go_num, hki⟩
              case measure => simp [intOf]; omega
        · go_wp2_with fail
          go_ret
          exact ⟨rfl, hk04.trans hkr⟩
    · have CR := Lib.hid (AnkrRead_any w.heap.size a l cap 40 w3 (hbk.out _ (hk2.trans hkN)) (hk2.trans hkN).1.size hc hm (show l.length ≤ 1073741824 by omega) (show (1 : Int) ≤ 40 by omega) (show (40 : Int) ≤ 65535 by omega))
      have hB3 := hB2.below hkN.1 hB2.lt
      have hT3 := hT2.below hkN.1 hT2.lt
      have hc3 := hB3.cell 0
      have Hx := Lib.hid hx
      have hk3 := hk2.trans hkN
      clear hx hB2 hT2 hF2 hB1 hc1 hK1 hk1 hk2
      go_wp2_with fail
      refine CR.out.mono ?_
      rintro e w4 h4
      rw [Hx.out] at h4
      obtain ⟨rfl, hk4⟩ := h4
      have hT4 := (hT3.below hk4.1 hT3.lt).cell 0
      have hp1 : ∀ w : World, (binOp .neq 27 (.pointer none) (.pointer none)).run Try.prog w = .ok (.bool false) w := fun _ => by kernel_rfl
      clear hB3 hT3 hc3 CR
      go_wp2_with fail
      go_loopw [7] (fun i wr => ∃ z : Int, -1 ≤ z ∧ z ≤ 12 ∧ i = .int .i64 z ∧ Kp w4 wr) (fun i _ => (12 - intOf i).toNat)
      case atStart => exact ⟨-1, by omega, by omega, rfl, Kp.refl _⟩
      case round =>
        obtain ⟨z, hz0, hz12, rfl, hkr⟩ := hrel
        go_wp2_with fail
        go_ret
        exact ⟨rfl, (hk3.trans hk4).trans hkr⟩
  · go_enter Try.func5, Try.ntmps5
    go_wp2_with fail
    refine (speaksA_any _).mono ?_
    rintro e w1 ⟨rfl, hK1⟩
    have hc1 := (hB0.below hK1.1 hB0.lt).cell 0
    go_wp2_with fail
    go_ret
    exact ⟨rfl, hk0.trans hK1⟩
end Go.Proofs.Ytidedlbieakagaa
