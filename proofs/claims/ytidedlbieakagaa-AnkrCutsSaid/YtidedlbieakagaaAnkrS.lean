/- THE WALK of swashlaw24.speaks. -/
import Derived.Test.YtidedlbieakagaaAnkrS0
namespace Go.Proofs.Ytidedlbieakagaa
open Go.RowKit
theorem ATP.cur {P : Nat → Prop} {w w' : World} {b : Nat} {ps : List Part} {data : List Int} (h : ATP P w b ps data) (k : Kp w w') (hP : ∀ c, P c → c < w.heap.size) : ATP (· < w'.heap.size) w' b ps data :=
  (h.frame ((Same.of_below k.1).mono hP)).mono fun c hc => Nat.lt_of_lt_of_le (hP c hc) k.1.size
set_option maxRecDepth 100000 in
set_option maxHeartbeats 8000000 in
theorem speaksA_any (w : World) : Calls Try.prog 8 #[] w (Gives (.bool true) w) := by
  have hB : Blk (((w.alloc (.cells #[] 33)).alloc (.cells #[.int .i16 3, .int .i16 (-4)] 33)).alloc (.cells #[.slice (some ⟨w.heap.size, 0, none⟩) 0 0, .slice (some ⟨w.heap.size + 1, 0, none⟩) 1 1] 24)) (w.heap.size + 1) 33 #[.int .i16 3, .int .i16 (-4)] := by
    have h := (Blk.new (w.alloc (.cells #[] 33)) 33 #[.int .i16 3, .int .i16 (-4)]).alloc (.cells #[.slice (some ⟨w.heap.size, 0, none⟩) 0 0, .slice (some ⟨w.heap.size + 1, 0, none⟩) 1 1] 24)
    simpa only [World.size_alloc] using h
  have hC : Blk (((w.alloc (.cells #[] 33)).alloc (.cells #[.int .i16 3, .int .i16 (-4)] 33)).alloc (.cells #[.slice (some ⟨w.heap.size, 0, none⟩) 0 0, .slice (some ⟨w.heap.size + 1, 0, none⟩) 1 1] 24)) (w.heap.size + 1 + 1) 24 #[.slice (some ⟨w.heap.size, 0, none⟩) 0 0, .slice (some ⟨w.heap.size + 1, 0, none⟩) 1 1] := by
    have h := Blk.new ((w.alloc (.cells #[] 33)).alloc (.cells #[.int .i16 3, .int .i16 (-4)] 33)) 24 #[.slice (some ⟨w.heap.size, 0, none⟩) 0 0, .slice (some ⟨w.heap.size + 1, 0, none⟩) 1 1]
    simpa only [World.size_alloc] using h
  have hk3 : Kp w (((w.alloc (.cells #[] 33)).alloc (.cells #[.int .i16 3, .int .i16 (-4)] 33)).alloc (.cells #[.slice (some ⟨w.heap.size, 0, none⟩) 0 0, .slice (some ⟨w.heap.size + 1, 0, none⟩) 1 1] 24)) := (((Kp.refl w).alloc _).alloc _).alloc _
  have hin := sMem (· < (((w.alloc (.cells #[] 33)).alloc (.cells #[.int .i16 3, .int .i16 (-4)] 33)).alloc (.cells #[.slice (some ⟨w.heap.size, 0, none⟩) 0 0, .slice (some ⟨w.heap.size + 1, 0, none⟩) 1 1] 24)).heap.size) _ _ _ _ hB hC hB.lt hC.lt
  have CW := Lib.hid (WriteA_any _ sLs _ _ (fun b h => h) hin (by simp [sLs]) sLen)
  clear hB hC hin
  go_enter Try.func8, Try.ntmps8
  go_wp2_with fail
  refine CW.out.mono ?_
  rintro e w4 ⟨v4, rfl, ho4, hk4⟩
  obtain ⟨A4, c4, rfl, h41, h42⟩ := ho4.form
  have hk04 := hk3.trans hk4
  have hl4 := sLenW
  have CR := Lib.hid (AnkrRead_any w4.heap.size A4 (writeA sLs) c4 9 w4 (ho4.bts (writeA_wf _) (Nat.zero_le _)) (Nat.le_refl _) h41 (by unfold maxLen at h42; omega) (by omega) (by omega) (by omega))
  clear ho4 hk4 CW
  go_wp2_with fail
  refine CR.out.mono ?_
  rintro e w5 h5
  rw [sTake] at h5
  obtain ⟨b, rfl, hA, hk5⟩ := h5
  have hk05 := hk04.trans hk5
  have hcur := fun W (k : Kp w5 W) => hA.cur k fun c hc => hc.2
  have CG := Lib.hid (fun W (k : Kp w5 W) => ankrGet_any b ([⟨0, 1, [0, 4]⟩], dataB sLs) 1 0 W (hcur W k) sOk (by omega) (by omega))
  have CC := Lib.hid (fun W (k : Kp w5 W) (g : Int) (hg : -9000000000 ≤ g ∧ g ≤ 9000000000) => Count_any b ([⟨0, 1, [0, 4]⟩], dataB sLs) g W (hcur W k) sOk hg)
  have hp1 : ∀ w : World, (binOp .eql 27 (.pointer (some ⟨b, 0, none⟩)) (.pointer none)).run Try.prog w = .ok (.bool false) w := fun _ => by kernel_rfl
  have hp2 : ∀ w : World, (binOp .eql 35 (.agg #[.int .i64 3, .int .i64 (-4)]) (.agg #[.int .i64 3, .int .i64 (-4)])).run Try.prog w = .ok (.bool true) w := fun _ => by kernel_rfl
  clear hcur hA CR
  go_wp2_with fail
  refine (CG.out w5 (Kp.refl _)).mono ?_
  rintro e w6 h6
  rw [sGet] at h6
  obtain ⟨rfl, hk6⟩ := h6
  go_wp2_with fail
  have hk7 := hk6.alloc (.cells #[.int .i64 3, .int .i64 (-4)] 35)
  refine (CC.out _ hk7 1 (by omega)).mono ?_
  rintro e w8 h8
  rw [sCount1] at h8
  obtain ⟨rfl, hk8⟩ := h8
  go_wp2_with fail
  refine (CC.out _ (hk7.trans hk8) 0 (by omega)).mono ?_
  rintro e w9 h9
  rw [sCount0] at h9
  obtain ⟨rfl, hk9⟩ := h9
  go_wp2_with fail
  go_ret
  exact ⟨rfl, hk05.trans ((hk7.trans hk8).trans hk9)⟩
end Go.Proofs.Ytidedlbieakagaa
