/- THE WALKS of package lookup: Get and its closure. -/
import Derived.Test.YtidedlbieakagaaFirst
namespace Go.Proofs.Ytidedlbieakagaa
open Go.RowKit
variable [Lo]
/-- Parts as a table has them. -/
def PW (ps : List Part) : Prop := (∀ p, p ∈ ps → 0 ≤ p.first ∧ p.first ≤ p.last ∧ p.last ≤ 131072 ∧ 0 < p.values.length) ∧ risen ps = true
/-- A glyph's number. -/
def lkGet (ps : List Part) (id : Int) : Option Int := match ps.find? (fun p => decide (id ≤ p.last)) with | some p => if p.first ≤ id then some (atV p id) else none | none => none
/-- How many parts end ahead of a glyph. -/
def lkIdx (ps : List Part) (id : Int) : Nat := ps.findIdx (fun p => decide (id ≤ p.last))
omit [Lo] in
theorem PW.mono {ps : List Part} (h : PW ps) {i j : Nat} {p q : Part} (hi : ps[i]? = some p) (hj : ps[j]? = some q) (hij : i ≤ j) : p.last ≤ q.last := by
  induction j generalizing q with
  | zero => obtain rfl : i = 0 := by omega
            rw [hi] at hj; injection hj with hj; subst hj; exact Int.le_refl _
  | succ j ih =>
    by_cases he : i = j + 1
    · subst he; rw [hi] at hj; injection hj with hj; subst hj; exact Int.le_refl _
    · have hjl : j < ps.length := by have := (List.getElem?_eq_some_iff.1 hj).1; omega
      have h1 := ih (List.getElem?_eq_getElem hjl) (by omega)
      have h2 := risen_iff.1 h.2 j _ q (List.getElem?_eq_getElem hjl) hj
      have h3 := (h.1 q (List.mem_of_getElem? hj)).2.1
      omega
omit [Lo] in
theorem lkIdx_le (ps : List Part) (id : Int) : lkIdx ps id ≤ ps.length := List.findIdx_le_length
omit [Lo] in
theorem lkIdx_low {ps : List Part} {id : Int} {i : Nat} {p : Part} (h : i < lkIdx ps id) (hp : ps[i]? = some p) : ¬ id ≤ p.last := by
  have h1 := List.not_of_lt_findIdx h
  obtain ⟨hl, hp⟩ := List.getElem?_eq_some_iff.1 hp
  subst hp
  simpa using h1
omit [Lo] in
theorem lkIdx_high {ps : List Part} {id : Int} (hw : PW ps) {i : Nat} {p : Part} (h : lkIdx ps id ≤ i) (hp : ps[i]? = some p) : id ≤ p.last := by
  have hl := (List.getElem?_eq_some_iff.1 hp).1
  have hlt : lkIdx ps id < ps.length := by omega
  have h1 : decide (id ≤ (ps[lkIdx ps id]'hlt).last) = true := List.findIdx_getElem (w := hlt)
  have h2 := hw.mono (List.getElem?_eq_getElem hlt) hp h
  simp at h1
  omega
omit [Lo] in
theorem lkGet_idx {ps : List Part} {id : Int} {p : Part} (h : ps[lkIdx ps id]? = some p) : lkGet ps id = if p.first ≤ id then some (atV p id) else none := by
  have : ps.find? (fun p => decide (id ≤ p.last)) = some p := by
    rw [← h]; unfold lkIdx; exact List.find?_eq_getElem?_findIdx
  simp [lkGet, this]
omit [Lo] in
theorem lkGet_none {ps : List Part} {id : Int} (h : lkIdx ps id = ps.length) : lkGet ps id = none := by
  have : ps.find? (fun p => decide (id ≤ p.last)) = none := by
    rw [List.find?_eq_getElem?_findIdx]
    exact List.getElem?_eq_none (Nat.le_of_eq h.symm)
  simp [lkGet, this]
omit [Lo] in
theorem Kp.drewN {w w1 : World} (h : Kp w w1) (n : Nat) : Kp w (w1.drewN n) := .of (below_drewN h.1 n)
omit [Lo] in
set_option maxRecDepth 100000 in
set_option maxHeartbeats 2000000 in
theorem Get1_any (tb idb b bp o c k n : Nat) (id last : Int) (w : World) (h1 : w.cell? ⟨tb, 0, none⟩ = some (.pointer (some ⟨b, 0, none⟩))) (h2 : w.cell? ⟨idb, 0, none⟩ = some (.int .i64 id)) (h3 : w.cell? ⟨b, 1, none⟩ = some (.slice (some ⟨bp, o, none⟩) n c)) (hk : k < n) (_hn : n ≤ 9223372036854775807)
    (h4 : w.cell? ⟨bp, o + k * 3 + 1, none⟩ = some (.int .i64 last)) :
    Calls Try.prog 81 (#[.int .i64 k] ++ #[.pointer (some ⟨tb, 0, none⟩), .pointer (some ⟨idb, 0, none⟩)]) w fun e w' => e = .returned (.bool (decide (id ≤ last))) ∧ Kp w w' := by
  go_enter Try.func81, Try.ntmps81
  go_wp2_with fail
  go_quiet (fail)
  go_wp2_with fail
  go_ret
  exact ⟨by simp [], (Kp.refl w).drewN _⟩
omit [Lo] in
theorem Tab.frame {P : Nat → Prop} {w w' : World} {b : Nat} {ps : List Part} (h : Tab P w b ps) (hb : Same P w w') : Tab P w' b ps := by
  obtain ⟨h1, f, A, c, h2, h3⟩ := h
  exact ⟨h1, f, A, c, (hb b h1).trans h2, h3.frame hb⟩
omit [Lo] in
theorem Tab.mono {P Q : Nat → Prop} {w : World} {b : Nat} {ps : List Part} (h : Tab P w b ps) (hq : ∀ b, P b → Q b) : Tab Q w b ps := by
  obtain ⟨h1, f, A, c, h2, h3⟩ := h
  exact ⟨hq _ h1, f, A, c, h2, h3.mono hq⟩
omit [Lo] in
/-- What a table's parts' cells hold. -/
theorem Tab.at {P : Nat → Prop} {w : World} {b : Nat} {ps : List Part} (h : Tab P w b ps) (hp : 0 < ps.length) : ∃ bp o c, w.cell? ⟨b, 1, none⟩ = some (.slice (some ⟨bp, o, none⟩) ps.length c) ∧ ps.length ≤ 9223372036854775807 ∧ P bp ∧
    ∀ (k : Nat) (p : Part), ps[k]? = some p → w.cell? ⟨bp, o + k * 3, none⟩ = some (.int .i64 p.first) ∧ w.cell? ⟨bp, o + k * 3 + 1, none⟩ = some (.int .i64 p.last) ∧ ∃ A c, w.cell? ⟨bp, o + k * 3 + 2, none⟩ = some (.slice A p.values.length c) ∧ Ints P w (.slice A p.values.length c) p.values := by
  obtain ⟨h1, f, A, c, h2, h3⟩ := h
  obtain ⟨bp, o, c', hv, h4, h5, hbP, F, hF⟩ := SliceOf.at h3 (by omega) hp
  injection hv with e1 e2 e3
  subst e1 e3
  refine ⟨bp, o, c, h2.cell 1, Nat.le_trans h4 h5, hbP, fun k p hk => ?_⟩
  obtain ⟨hl, rfl⟩ := List.getElem?_eq_some_iff.1 hk
  obtain ⟨⟨V, hR, hi⟩, hlen, hc⟩ := hF k hl
  obtain ⟨A', c', rfl, _, _⟩ := Ints.form hi
  have e0 := hc 0 (by omega)
  have e1 := hc 1 (by omega)
  have e2 := hc 2 (by omega)
  rw [hR] at e0 e1 e2
  refine ⟨?_, ?_, A', c', ?_, hi⟩
  · rw [Nat.mul_comm]; exact e0
  · rw [Nat.mul_comm, Nat.add_assoc]; exact e1
  · rw [Nat.mul_comm, Nat.add_assoc]; exact e2
omit [Lo] in
set_option maxRecDepth 100000 in
set_option maxHeartbeats 4000000 in
theorem Get_any (N b : Nat) (ps : List Part) (id : Int) (w : World) (ht : Tab (· < N) w b ps) (hN : N ≤ w.heap.size) (hw : PW ps) (hlen : ps.length ≤ 1073741824) (hid : -9000000000 ≤ id ∧ id ≤ 9000000000) :
    Calls Try.prog 39 #[.pointer (some ⟨b, 0, none⟩), .int .i64 id] w fun e w' => (∃ x, lkGet ps id = some x ∧ e = .returned (.tuple #[.int .i64 x, .bool true]) ∧ Kp w w') ∨ (lkGet ps id = none ∧ e = .returned (.tuple #[.int .i64 0, .bool false]) ∧ Kp w w') := by
  have hO := ((Own.start w).alloc #[.pointer (some ⟨b, 0, none⟩)] 38).alloc #[.int .i64 id] 3
  simp only [World.size_alloc] at hO
  have hcb := fun W (k : Kp ((w.alloc (.cells #[.pointer (some ⟨b, 0, none⟩)] 38)).alloc (.cells #[.int .i64 id] 3)) W) => (hO.kp k).cell (List.mem_cons_of_mem _ (List.mem_cons_self)) 0
  have hci := fun W (k : Kp ((w.alloc (.cells #[.pointer (some ⟨b, 0, none⟩)] 38)).alloc (.cells #[.int .i64 id] 3)) W) => (hO.kp k).cell (List.mem_cons_self) 0
  have hK0 := hO.1
  have htt := fun W (k : Kp ((w.alloc (.cells #[.pointer (some ⟨b, 0, none⟩)] 38)).alloc (.cells #[.int .i64 id] 3)) W) => ht.frame ((Same.of_below (hK0.trans k).1).mono fun b hb => Nat.lt_of_lt_of_le hb hN)
  have htl : ∀ W, Kp ((w.alloc (.cells #[.pointer (some ⟨b, 0, none⟩)] 38)).alloc (.cells #[.int .i64 id] 3)) W → ∃ A c, W.cell? ⟨b, 1, none⟩ = some (.slice A ps.length c) := by
    intro W k
    obtain ⟨_, f, A, c, h2, _⟩ := htt W k
    exact ⟨A, c, h2.cell 1⟩
  have hcg : ∀ (args : Array Value) (w : World), (callFunc 81 args).run Try.prog w = .ok (.enter 81 args) w := fun _ _ => by kernel_rfl
  rcases Nat.eq_zero_or_pos ps.length with h0 | h0
  · have hp0 : ps = [] := List.length_eq_zero_iff.1 h0
    subst hp0
    obtain ⟨A, c, hta⟩ := htl _ (.refl _)
    have hb0 := hcb _ (.refl _)
    have CF := fun W => First_zero 81 #[.pointer (some ⟨w.heap.size, 0, none⟩), .pointer (some ⟨w.heap.size + 1, 0, none⟩)] W hcg
    have CF := Lib.hid CF
    clear hcg htt hO ht
    go_enter Try.func39, Try.ntmps39
    go_wp2_with (go_at_call 80; ((with_reducible refine (CF.out _).mono ?_); rintro e w1 ⟨rfl, hK1⟩; have hb1 := hcb _ hK1; obtain ⟨A1, c1, hta1⟩ := htl _ hK1))
    go_quiet (fail)
    go_wp2_with fail
    go_returns
    exact .inr ⟨rfl, rfl, hK0.trans (hK1.drewN _)⟩
  · obtain ⟨bp, o, c, hta, hlm, hbP, hat⟩ := Tab.at ht h0
    have hta2 := fun W (k : Kp ((w.alloc (.cells #[.pointer (some ⟨b, 0, none⟩)] 38)).alloc (.cells #[.int .i64 id] 3)) W) => ((hK0.trans k).1.cell (p := ⟨b, 1, none⟩) (Nat.lt_of_lt_of_le ht.1 hN)).trans hta
    have hat2 := fun W (k : Kp ((w.alloc (.cells #[.pointer (some ⟨b, 0, none⟩)] 38)).alloc (.cells #[.int .i64 id] 3)) W) (j : Nat) (v : Value) (h : w.cell? ⟨bp, j, none⟩ = some v) => ((hK0.trans k).1.cell (p := ⟨bp, j, none⟩) (Nat.lt_of_lt_of_le hbP hN)).trans h
    obtain ⟨m, hm⟩ : ∃ m, m = lkIdx ps id := ⟨_, rfl⟩
    have hml : m ≤ ps.length := hm ▸ lkIdx_le ps id
    have hG : ∀ (j : Nat) (p : Part), ps[j]? = some p → ∀ W, Kp ((w.alloc (.cells #[.pointer (some ⟨b, 0, none⟩)] 38)).alloc (.cells #[.int .i64 id] 3)) W → Calls Try.prog 81 (#[.int .i64 j] ++ #[.pointer (some ⟨w.heap.size, 0, none⟩), .pointer (some ⟨w.heap.size + 1, 0, none⟩)]) W fun e w' => e = .returned (.bool (decide (id ≤ p.last))) ∧ Kp W w' :=
      fun j p hp W k => Get1_any _ _ _ _ _ _ _ _ _ _ W (hcb W k) (hci W k) (hta2 W k) (List.getElem?_eq_some_iff.1 hp).1 hlm (hat2 W k _ _ (hat j p hp).2.1)
    have CF := First_any ps.length m 81 #[.pointer (some ⟨w.heap.size, 0, none⟩), .pointer (some ⟨w.heap.size + 1, 0, none⟩)] ((w.alloc (.cells #[.pointer (some ⟨b, 0, none⟩)] 38)).alloc (.cells #[.int .i64 id] 3)) hlen hml hcg
      (fun i hi W k => (hG i _ (List.getElem?_eq_getElem (by omega)) W k).mono fun e w' h => by rw [decide_eq_false (lkIdx_low (hm ▸ hi) (List.getElem?_eq_getElem (by omega)))] at h; exact h)
      (fun i hi hi2 W k => (hG i _ (List.getElem?_eq_getElem hi2) W k).mono fun e w' h => by rw [decide_eq_true (lkIdx_high hw (hm ▸ hi) (List.getElem?_eq_getElem hi2))] at h; exact h)
    have CF := Lib.hid CF
    have Hm := Lib.hid hm
    have hb0 := hcb _ (.refl _)
    have ht0 := hta2 _ (.refl _)
    clear hm hG hcg htl
    by_cases hmp : m = ps.length
    · have hN2 := Lib.hid (show lkGet ps id = none from lkGet_none (by rw [← Hm.out, hmp]))
      clear hat2
      subst hmp
      go_enter Try.func39, Try.ntmps39
      go_wp2_with (go_at_call 80; ((with_reducible refine CF.out.mono ?_); rintro e w1 ⟨rfl, hK1⟩; have hb1 := hcb _ hK1; have hta1 := hta2 _ hK1))
      go_quiet (fail)
      go_wp2_with fail
      go_returns
      exact .inr ⟨hN2.out, rfl, hK0.trans (hK1.drewN _)⟩
    · have hml2 : m < ps.length := by omega
      have hp : ps[m]? = some ps[m] := List.getElem?_eq_getElem hml2
      generalize ps[m] = p at hp
      obtain ⟨hc0, hc1, A, c2, hc2, hpi⟩ := hat m p hp
      have hpw := hw.1 p (List.mem_of_getElem? hp)
      have hgi := lkGet_idx (id := id) (Hm.out ▸ hp)
      have Hgi := Lib.hid hgi
      have hlast := lkIdx_high hw (Nat.le_of_eq Hm.out.symm) hp
      have hc0' := fun W k => hat2 W k _ _ hc0
      have hc1' := fun W k => hat2 W k _ _ hc1
      have hc2' := fun W k => hat2 W k _ _ hc2
      clear hat hat2 hgi
      have hne : ((m : Int) == (ps.length : Int)) = false := by simp; omega
      go_enter Try.func39, Try.ntmps39
      go_wp2_with (go_at_call 80; ((with_reducible refine CF.out.mono ?_); rintro e w1 ⟨rfl, hK1⟩; have hb1 := hcb _ hK1; have hta1 := hta2 _ hK1; have hci1 := hci _ hK1; have hd0 := hc0' _ hK1; have hd1 := hc1' _ hK1; have hd2 := hc2' _ hK1))
      go_quiet (fail)
      by_cases hf : p.first ≤ id
      · have hR := Lib.hid (show lkGet ps id = some (atV p id) by rw [Hgi.out, if_pos hf])
        have hK2 := hK1.drewN nq
        have hpi2 := fun W (k : Kp ((w.alloc (.cells #[.pointer (some ⟨b, 0, none⟩)] 38)).alloc (.cells #[.int .i64 id] 3)) W) => hpi.frame ((Same.of_below (hK0.trans k).1).mono fun b hb => Nat.lt_of_lt_of_le hb hN)
        have CA := Lib.hid (fun W k => at_any N p A p.values.length c2 id W (hpi2 W k) rfl (Nat.le_trans hN (hK0.trans k).1.size) hpw.2.2.2 hf ⟨hpw.1, by omega⟩)
        have hS : ∀ W, Kp ((w.alloc (.cells #[.pointer (some ⟨b, 0, none⟩)] 38)).alloc (.cells #[.int .i64 id] 3)) W → (W.cell? ⟨w.heap.size, 0, none⟩ = some (.pointer (some ⟨b, 0, none⟩)) ∧ W.cell? ⟨w.heap.size + 1, 0, none⟩ = some (.int .i64 id) ∧ W.cell? ⟨b, 1, none⟩ = some (.slice (some ⟨bp, o, none⟩) ps.length c) ∧ W.cell? ⟨bp, o + m * 3, none⟩ = some (.int .i64 p.first) ∧ W.cell? ⟨bp, o + m * 3 + 1, none⟩ = some (.int .i64 p.last) ∧ W.cell? ⟨bp, o + m * 3 + 2, none⟩ = some (.slice A p.values.length c2)) := fun W k => ⟨hcb W k, hci W k, hta2 W k, hc0' W k, hc1' W k, hc2' W k⟩
        have HS := Lib.hid hS
        have hKd : Kp ((w.alloc (.cells #[.pointer (some ⟨b, 0, none⟩)] 38)).alloc (.cells #[.int .i64 id] 3)) (w1.drewN (nq + 1)) := hK1.drewN (nq + 1)
        clear hS hpi2 hcb hci hta2 hc0' hc1' hc2' htt hpi hpw hb1 hta1 hci1 hd0 hd1 hd2 hc0 hc1 hc2 hta ht0 hb0 CF Hgi
        go_wp2_with fail
        have hSd := HS.out _ hKd
        go_region_held2 (fun W => W.cell? ⟨w.heap.size, 0, none⟩ = some (.pointer (some ⟨b, 0, none⟩)) ∧ W.cell? ⟨w.heap.size + 1, 0, none⟩ = some (.int .i64 id) ∧ W.cell? ⟨b, 1, none⟩ = some (.slice (some ⟨bp, o, none⟩) ps.length c) ∧ W.cell? ⟨bp, o + m * 3, none⟩ = some (.int .i64 p.first) ∧ W.cell? ⟨bp, o + m * 3 + 1, none⟩ = some (.int .i64 p.last) ∧ W.cell? ⟨bp, o + m * 3 + 2, none⟩ = some (.slice A p.values.length c2)) (first | exact hS3 | exact hSd | go_keep) (first | (go_at_call 82; ((with_reducible refine (CA.out _ hKd).mono ?_); rintro e w3 ⟨rfl, hK3'⟩; have hK3 := hKd.trans hK3'; have hS3 := HS.out _ hK3; dsimp only)))
        go_wp2_with fail
        go_returns
        exact .inl ⟨_, hR.out, rfl, hK0.trans hK3⟩
      · have hR := Lib.hid (show lkGet ps id = none by rw [Hgi.out, if_neg hf])
        go_wp2_with fail
        go_returns
        exact .inr ⟨hR.out, rfl, hK0.trans (hK1.drewN _)⟩
end Go.Proofs.Ytidedlbieakagaa
