/- THE WALKS of ankr.Count, Get. -/
import Derived.Test.YtidedlbieakagaaSpec5
import Derived.Test.YtidedlbieakagaaAnkrR
namespace Go.Proofs.Ytidedlbieakagaa
open Go.RowKit
/-- What a table of points must be, to be asked. -/
def ATok (x : List Part × List Int) : Prop := PW x.1 ∧ x.1.length ≤ 65536 ∧ x.2.length ≤ 1073741824 ∧ okTab x = true ∧ ∀ p ∈ x.1, PV p
theorem lkGet_VB {ps : List Part} {id v : Int} (h : ∀ p ∈ ps, PV p) (hg : lkGet ps id = some v) : VB v := by
  unfold lkGet at hg
  cases hf : ps.find? (fun p => decide (id ≤ p.last)) with
  | none => rw [hf] at hg; cases hg
  | some p =>
    rw [hf] at hg
    simp only at hg
    split at hg
    · injection hg with hg; subst hg; exact atV_VB (h p (List.mem_of_find?_eq_some hf)) _
    · cases hg
set_option maxHeartbeats 2000000 in
theorem Count_any (b : Nat) (x : List Part × List Int) (id : Int) (w : World) (ht : ATP (· < w.heap.size) w b x.1 x.2) (hok : ATok x) (hid : -9000000000 ≤ id ∧ id ≤ 9000000000) :
    Calls Try.prog 11 #[.pointer (some ⟨b, 0, none⟩), .int .i64 id] w (Gives (.int .i64 (ankrCount x id)) w) := by
  obtain ⟨hb0, bT, a, hb, hT, hd, hwd⟩ := ht
  have hc0 := hb.cell 0
  have CG := Lib.hid (Get_any w.heap.size bT x.1 id w hT (Nat.le_refl _) hok.1 (by have := hok.2.1; omega) hid)
  have CU := Lib.hid (fun (q : Int) (W : World) (k : Kp w W) => U32_any w.heap.size a x.2 _ x.2.length q W ((hd.bts hwd fun c h => h).kp (Nat.le_refl _) k) k.1.size rfl (Nat.le_refl _) (by have := hok.2.2.1; omega))
  have hp1 : ∀ w : World, (binOp .eql 38 (.pointer (some ⟨bT, 0, none⟩)) (.pointer none)).run Try.prog w = .ok (.bool false) w := fun _ => by kernel_rfl
  have Hok := Lib.hid hok
  clear hT hd hok
  go_enter Try.func11, Try.ntmps11
  go_wp2_with fail
  refine CG.out.mono ?_
  rintro e w1 (⟨v, hv, rfl, hK⟩ | ⟨hv, rfl, hK⟩)
  · have hs := okAt_spec (okAt_of Hok.out.2.2.2.1 Hok.out.1 hv)
    have hcd := (hK.2.1 b 1 hb.lt).trans (hb.cell 1)
    have Hs := Lib.hid hs
    have Hv := Lib.hid hv
    clear hs hv
    go_wp2_with fail
    refine (CU.out v w1 hK).mono ?_
    rintro e w2 h2
    rw [Hs.out.1] at h2
    obtain ⟨rfl, hK2⟩ := h2
    go_wp2_with fail
    go_ret
    refine ⟨?_, hK.trans hK2⟩
    rw [ankrCount, Hv.out]
    rfl
  · have Hv := Lib.hid hv
    clear hv
    go_wp2_with fail
    go_ret
    refine ⟨?_, hK⟩
    rw [ankrCount, Hv.out]
    rfl
def PtPost (o : Option (Int × Int)) (w : World) (e : Ending) (w' : World) : Prop := match o with
  | some p => Gives (.tuple #[.agg #[.int .i64 p.1, .int .i64 p.2], .bool true]) w e w'
  | none => Gives (.tuple #[.agg #[.int .i64 0, .int .i64 0], .bool false]) w e w'
set_option maxRecDepth 100000 in
set_option maxHeartbeats 4000000 in
theorem ankrGet_any (b : Nat) (x : List Part × List Int) (g i : Int) (w : World) (ht : ATP (· < w.heap.size) w b x.1 x.2) (hok : ATok x) (hid : -9000000000 ≤ g ∧ g ≤ 9000000000) (hi : -9000000000 ≤ i ∧ i ≤ 9000000000) :
    Calls Try.prog 12 #[.pointer (some ⟨b, 0, none⟩), .int .i64 g, .int .i64 i] w (PtPost (ankrGet x g i) w) := by
  have hcz : (w.alloc (.cells #[.int .i64 0, .int .i64 0] 35)).cell? ⟨w.heap.size, 0, none⟩ = some (.int .i64 0) := (Blk.new w 35 #[.int .i64 0, .int .i64 0]).cell 0
  have hcz1 : (w.alloc (.cells #[.int .i64 0, .int .i64 0] 35)).cell? ⟨w.heap.size, 1, none⟩ = some (.int .i64 0) := (Blk.new w 35 #[.int .i64 0, .int .i64 0]).cell 1
  by_cases h0 : 0 ≤ i
  · have hk1 : Kp w (w.alloc (.cells #[.int .i64 0, .int .i64 0] 35)) := (Kp.refl w).alloc _
    have hBo := Blk.new w 35 #[.int .i64 0, .int .i64 0]
    have htk := fun W (k : Kp w W) => (ht.frame (Same.of_below k.1)).mono (Q := (· < W.heap.size)) fun b h => Nat.lt_of_lt_of_le h k.1.size
    have CC := Lib.hid (fun W (k : Kp w W) => Count_any b x g W (htk W k) hok hid)
    have CG := Lib.hid (fun bT W (hT : Tab (· < W.heap.size) W bT x.1) => Get_any W.heap.size bT x.1 g W hT (Nat.le_refl _) hok.1 (by have := hok.2.1; omega) hid)
    obtain ⟨hb0, bT, a, hb, hT, hd, hwd⟩ := id ht
    have CI := Lib.hid (fun (q : Int) (W : World) (k : Kp w W) => I16_any w.heap.size a x.2 _ x.2.length q W ((hd.bts hwd fun c h => h).kp (Nat.le_refl _) k) k.1.size rfl (Nat.le_refl _) (by have := hok.2.2.1; omega))
    have Hok := Lib.hid hok
    have hTk := fun W (k : Kp w W) => (hT.frame (Same.of_below k.1)).mono (Q := (· < W.heap.size)) fun b h => Nat.lt_of_lt_of_le h k.1.size
    have hcell := fun (j : Nat) W (k : Kp w W) => (k.2.1 b j hb.lt).trans (hb.cell j)
    have hb1 : b < w.heap.size := hb.lt
    clear hd ht hok hT htk
    go_enter Try.func12, Try.ntmps12
    go_wp2_with fail
    refine (CC.out _ hk1).mono ?_
    rintro e w1 ⟨rfl, hK1⟩
    have hk1' := hk1.trans hK1
    have hz1 : w.heap.size < w1.heap.size := by have := hK1.1.size; simp at this; omega
    have hB1 := hBo.below hK1.1 hBo.lt
    by_cases hlt : i < ankrCount x g
    · obtain ⟨v, hv⟩ : ∃ v, lkGet x.1 g = some v := by
        cases hv : lkGet x.1 g with
        | some v => exact ⟨v, rfl⟩
        | none => unfold ankrCount at hlt; rw [hv] at hlt; simp at hlt; omega
      have hs := okAt_spec (okAt_of Hok.out.2.2.2.1 Hok.out.1 hv)
      have hvb := lkGet_VB Hok.out.2.2.2.2 hv
      unfold VB at hvb
      have hcnt : i < nv x.2 v 4 := by unfold ankrCount at hlt; rw [hv] at hlt; exact hlt
      have hpt : ankrGet x g i = some (ankrPt x.2 v i) := by unfold ankrGet; rw [hv]; simp [h0, hcnt]
      have hi1 := i16_of (l := x.2) (p := v + 4 + 4 * i) (by omega) (by omega)
      have hi2 := i16_of (l := x.2) (p := v + 6 + 4 * i) (by omega) (by omega)
      have Hi1 := Lib.hid hi1
      have Hi2 := Lib.hid hi2
      have Hpt := Lib.hid hpt
      have Hv := Lib.hid hv
      clear hi1 hi2 hpt hv hcnt hs
      have hc01 := hcell 0 w1 hk1'
      clear hcz hcz1 hBo
      go_wp2_with fail
      refine (CG.out bT w1 (hTk w1 hk1')).mono ?_
      rintro e w2 (⟨u, hu, rfl, hK2⟩ | ⟨hu, rfl, hK2⟩)
      · obtain rfl : v = u := by have := Hv.out.symm.trans hu; injection this
        clear hu
        have hk2 := hk1'.trans hK2
        have hB2 := hB1.below hK2.1 hB1.lt
        have hc12 := hcell 1 w2 hk2
        have hc13 := hcell 1 _ hk2.drew
        have hvi1 := IntWalk.i64_in (v + 4) (by omega)
        have hvi2 := IntWalk.i64_in (4 * i) (by omega)
        have hvi3 := IntWalk.i64_in (v + 4 + 4 * i) (by omega)
        have hvi4 := IntWalk.i64_in (v + 6) (by omega)
        have hvi5 := IntWalk.i64_in (v + 6 + 4 * i) (by omega)
        go_wp2_with fail
        go_region_held2 (fun W => W.cell? ⟨b, 1, none⟩ = some (.slice a x.2.length x.2.length)) (first | exact hc15 | exact hc14 | exact hc13 | exact hcell 1 _ ((hk4.set (by simp) _).set (by simp) _) | go_keep) (first
          | (go_at_call 41; ((with_reducible refine (CI.out (v + 4 + 4 * i) _ hk2.drew).mono ?_); rintro e w3 h3; rw [Hi1.out] at h3; obtain ⟨rfl, hK3⟩ := h3; have hk3 := hk2.drew.trans hK3; have hc14 := hcell 1 w3 hk3; dsimp only))
          | (go_at_call 41; ((with_reducible refine (CI.out (v + 6 + 4 * i) _ hk3).mono ?_); rintro e w4 h4; rw [Hi2.out] at h4; obtain ⟨rfl, hK4⟩ := h4; have hk4 := hk3.trans hK4; have hc15 := hcell 1 w4 hk4; have hB4 := hB2.drew.below (hK3.trans hK4).1 hB2.lt; have hc41 := hB4.cell 0; have hf41 := hB4.frozen 0; have hc42 := hB4.cell 1; have hf42 := hB4.frozen 1; dsimp only)))
        go_wp2_with fail
        have hd0 := (hB4.set_ 0 (.int .i64 (s16 (nv x.2 (v + 4 + 4 * i) 2)))).set_ 1 (.int .i64 (s16 (nv x.2 (v + 6 + 4 * i) 2)))
        have hd1 := hd0.cell 0
        have hd2 := hd0.cell 1
        refine bodyPost_ret (v := .tuple #[.agg #[.int .i64 (s16 (nv x.2 (v + 4 + 4 * i) 2)), .int .i64 (s16 (nv x.2 (v + 6 + 4 * i) 2))], .bool true]) (by simp [results, Try.results12, go_sem, hd1, hd2]) rfl (by rw [Hpt.out]; exact ⟨rfl, (hk4.set (by simp) _).set (by simp) _⟩)
      · rw [Hv.out] at hu; cases hu
    · have hpt : ankrGet x g i = none := by
        unfold ankrGet
        unfold ankrCount at hlt
        cases hv : lkGet x.1 g with
        | none => rfl
        | some v => rw [hv] at hlt; simp at hlt; simp; omega
      have Hpt := Lib.hid hpt
      clear hpt
      have hc1 := hB1.cell 0
      have hf1 := hB1.frozen 0
      have hc2 := hB1.cell 1
      have hf2 := hB1.frozen 1
      clear hcz hcz1 hBo
      go_wp2_with fail
      have hd0 := (hB1.set_ 0 (.int .i64 0)).set_ 1 (.int .i64 0)
      have hd1 := hd0.cell 0
      have hd2 := hd0.cell 1
      refine bodyPost_ret (v := .tuple #[.agg #[.int .i64 0, .int .i64 0], .bool false]) (by simp [results, Try.results12, go_sem, hd1, hd2]) rfl (by rw [Hpt.out]; exact ⟨rfl, (hk1'.set (by simp) _).set (by simp) _⟩)
  · have hpt : ankrGet x g i = none := by
      unfold ankrGet
      cases hv : lkGet x.1 g with
      | none => rfl
      | some v => simp; omega
    rw [hpt]
    go_enter Try.func12, Try.ntmps12
    go_wp2_with fail
    refine bodyPost_ret (v := .tuple #[.agg #[.int .i64 0, .int .i64 0], .bool false]) (by simp [results, Try.results12, go_sem, hcz, hcz1]) rfl ⟨rfl, (Kp.refl w).alloc _⟩
end Go.Proofs.Ytidedlbieakagaa
