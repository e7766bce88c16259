/- THE WALK of lookup.Table.All's function: by what its rounds do. -/
import Derived.Test.YtidedlbieakagaaRound
import Derived.WalkKit
import Derived.TacticsIn
import Derived.BigFrameIn
import Derived.LoopIn
namespace Go.Proofs.Ytidedlbieakagaa
open Go.RowKit
/-- How many glyphs a part has. -/
def partN (p : Part) : Nat := (p.last - p.first + 1).toNat
def partL (p : Part) : List (Int × Int) := (List.range (partN p)).map fun (i : Nat) => (p.first + i, atV p (p.first + i))
/-- All glyphs that have numbers, and these. -/
def allOf (ps : List Part) : List (Int × Int) := ps.flatMap partL
theorem partL_len (p : Part) : (partL p).length = partN p := by simp [partL]
theorem allOf_succ {ps : List Part} {k : Nat} {p : Part} (h : ps[k]? = some p) : allOf (ps.take (k + 1)) = allOf (ps.take k) ++ partL p := by
  rw [List.take_add_one, h]; simp [allOf]
theorem allOf_at {ps : List Part} {k j : Nat} {p : Part} (h : ps[k]? = some p) (hj : j < partN p) : (allOf ps)[(allOf (ps.take k)).length + j]? = some (p.first + j, atV p (p.first + j)) := by
  have h1 : allOf ps = allOf (ps.take (k + 1)) ++ allOf (ps.drop (k + 1)) := by
    unfold allOf; rw [← List.flatMap_append, List.take_append_drop]
  rw [h1, allOf_succ h, List.append_assoc, List.getElem?_append_right (by omega)]
  rw [Nat.add_sub_cancel_left, List.getElem?_append_left (by rw [partL_len]; exact hj)]
  simp [partL, hj]
/-- A round's word: what was made behind B0 stays. -/
def KB (B0 : Nat) (W W' : World) : Prop := W.heap.size ≤ W'.heap.size ∧ ∀ b, B0 ≤ b → b < W.heap.size → W'.heap[b]? = W.heap[b]?
theorem KB.of_kp {B0 : Nat} {W W' : World} (h : Kp W W') : KB B0 W W' := ⟨h.1.size, fun b _ hb => h.1.block b hb⟩
theorem KB.trans {B0 : Nat} {A B C : World} (h : KB B0 A B) (k : KB B0 B C) : KB B0 A C := ⟨Nat.le_trans h.1 k.1, fun b h1 h2 => (k.2 b h1 (by have := h.1; omega)).trans (h.2 b h1 h2)⟩
set_option maxRecDepth 100000 in
set_option maxHeartbeats 4000000 in
theorem All1_any (n l bx b B0 : Nat) (ps : List Part) (hw : PW ps) (hlen : ps.length ≤ 1073741824) (P : Nat → Prop) (J : Nat → World → Prop) (Jp : World → Prop) (W0 : World)
    (hPB : ∀ b, P b → b < B0) (hbx : W0.cell? ⟨bx, 0, none⟩ = some (.pointer (some ⟨b, 0, none⟩))) (ht : Tab P W0 b ps)
    (hJk : ∀ k W W', J k W → Kp W W' → J k W')
    (hJt : ∀ k W, J k W → Same P W0 W ∧ B0 ≤ W.heap.size)
    (hY : ∀ k (x : Int × Int) W, (allOf ps)[k]? = some x → J k W → ∃ fn tmps assign body, (Instr.yield l #[.int .i64 x.1, .int .i64 x.2]).run Try.prog W = .ok (.round l fn tmps assign body) W ∧
      RoundIn Fence.wide (n - 1) Try.prog l fn tmps assign body W fun e W' => (e = .returned (.bool true) ∧ J (k + 1) W' ∧ KB B0 W W') ∨ (e = .panicked Short ∧ Jp W'))
    (h0 : J 0 W0) :
    CallsIn Fence.wide n Try.prog 89 #[.func (.yield l) #[] #[], .pointer (some ⟨bx, 0, none⟩)] W0 fun e W' => ((∃ v, e = .returned v) ∧ J (allOf ps).length W') ∨ (e = .panicked Short ∧ Jp W') := by
  have HK := Lib.hid hJk
  have HT := Lib.hid hJt
  have HY := Lib.hid hY
  have hta : ∃ A c, W0.cell? ⟨b, 1, none⟩ = some (.slice A ps.length c) ∧ (0 < ps.length → ∃ bp o, A = some ⟨bp, o, none⟩ ∧ P bp ∧ ∀ (k : Nat) (p : Part), ps[k]? = some p → W0.cell? ⟨bp, o + k * 3, none⟩ = some (.int .i64 p.first) ∧ W0.cell? ⟨bp, o + k * 3 + 1, none⟩ = some (.int .i64 p.last) ∧ ∃ A c, W0.cell? ⟨bp, o + k * 3 + 2, none⟩ = some (.slice A p.values.length c) ∧ Ints P W0 (.slice A p.values.length c) p.values) := by
    obtain ⟨_, f, A, c, hblk, _⟩ := id ht
    refine ⟨A, c, hblk.cell 1, fun h => ?_⟩
    obtain ⟨bp, o, c', h1, _, h3, h4⟩ := Tab.at ht h
    rw [hblk.cell 1] at h1
    simp at h1
    exact ⟨bp, o, h1.1, h3, h4⟩
  obtain ⟨A, c, hta, hat⟩ := hta
  have hcm : ps.length ≤ 9223372036854775807 := by omega
  clear hJk hJt hY ht
  refine callsIn_of_wp Try.func89 rfl trivial ?_ rfl
  simp only [Try.ntmps89, List.size_toArray, List.length_cons, List.length_nil, Nat.reduceAdd, Nat.reduceSub, Array.replicate_succ, Array.replicate_zero, List.push_toArray, List.append_toArray, List.nil_append, List.cons_append]
  gi_wp2_with fail
  gi_loopw [11] (fun i wr => ∃ k : Nat, k ≤ ps.length ∧ i = .int .i64 k ∧ J (allOf (ps.take k)).length wr) (fun i _ => ps.length - (intOf i).toNat)
  case atStart => exact ⟨0, Nat.zero_le _, rfl, h0⟩
  case round =>
    obtain ⟨k, hk, rfl, hJ⟩ := hrel
    clear h0 hbx hta
    by_cases hlt : k < ps.length
    · have hp : ps[k]? = some ps[k] := List.getElem?_eq_getElem hlt
      generalize ps[k] = p at hp
      have hpw := hw.1 p (List.mem_of_getElem? hp)
      obtain ⟨bp, o, rfl, hbP, hat⟩ := hat (by omega)
      obtain ⟨hc0, hc1, A2, c2, hc2, hpi⟩ := hat k p hp
      obtain ⟨hsm, hBr⟩ := HT.out _ _ hJ
      have hc0 := (World.cell?_of_block (a := ⟨bp, o + k * 3, none⟩) (hsm bp hbP)).trans hc0
      have hc1 := (World.cell?_of_block (a := ⟨bp, o + k * 3 + 1, none⟩) (hsm bp hbP)).trans hc1
      have hc2 := (World.cell?_of_block (a := ⟨bp, o + k * 3 + 2, none⟩) (hsm bp hbP)).trans hc2
      clear hat
      gi_wp2_with fail
      have hJ1 := HK.out _ _ _ hJ ((Kp.refl wr).alloc (.cells #[.int .i64 p.first, .int .i64 p.last, .slice A2 p.values.length c2] 180))
      have hW1 : Blk (wr.alloc (.cells #[.int .i64 p.first, .int .i64 p.last, .slice A2 p.values.length c2] 180)) wr.heap.size 180 #[.int .i64 p.first, .int .i64 p.last, .slice A2 p.values.length c2] := Blk.new _ _ _
      have Hpi := Lib.hid hpi
      have Hpw := Lib.hid hpw
      have hplast : p.last ≤ 131072 := hpw.2.2.1
      have hpfirst : 0 ≤ p.first := hpw.1
      have hpN : p.first + (partN p : Int) = p.last + 1 := by unfold partN; omega
      clear hc0 hc1 hc2 hpi hpw
      gi_loopw [5] (fun x w' => ∃ j : Nat, j ≤ partN p ∧ x = .int .i64 (p.first + j) ∧ J ((allOf (ps.take k)).length + j) w' ∧ Blk w' wr.heap.size 180 #[.int .i64 p.first, .int .i64 p.last, .slice A2 p.values.length c2]) (fun x _ => (p.last + 1 - intOf x).toNat)
      case atStart => exact ⟨0, Nat.zero_le _, by simp, hJ1, hW1⟩
      case round =>
        obtain ⟨j, hj, rfl, hJj, hblk⟩ := hrel
        clear hJ1 hW1
        have hb0 := hblk.cell 0
        have hb1 := hblk.cell 1
        have hb2 := hblk.cell 2
        by_cases hjl : j < partN p
        · have hle : p.first + (j : Int) ≤ p.last := by omega
          obtain ⟨hsm2, hBj⟩ := HT.out _ _ hJj
          rename_i wj _
          have CA := at_any B0 p A2 p.values.length c2 (p.first + j) _ ((Hpi.out.frame hsm2).mono hPB) rfl hBj Hpw.out.2.2.2 (by omega) ⟨hpfirst, by omega⟩
          have hit := allOf_at hp hjl
          gi_wp2_with fail
          refine ⟨trivial, fun h => by simp [Fence.wide] at h, ?_⟩
          refine (callsIn_wide.2 CA).mono ?_
          rintro e w3 ⟨rfl, hK3⟩
          obtain ⟨fn, tmps, assign, body, hy, hR⟩ := HY.out _ _ w3 hit (HK.out _ _ _ hJj hK3)
          dsimp only at hy
          clear CA
          gi_wp2_with fail
          refine ⟨fun h => by simp [Fence.wide] at h, hR.mono ?_⟩
          clear hR hy
          rintro e W4 (⟨rfl, hJ2, hKB⟩ | ⟨rfl, hJp⟩)
          · have hw5 := IntWalk.i64_in (p.first + (j : Int) + 1) (by omega)
            gi_wp2_with fail
            go_roundw
            case rel => exact ⟨j + 1, hjl, by go_num, hJ2, (hKB.2 _ hBr (Nat.lt_of_lt_of_le hblk.lt hK3.1.size)).trans ((hK3.1.block _ hblk.lt).trans hblk)⟩
            case measure => simp [intOf]; omega
          · exact ⟨rfl, .inr ⟨rfl, hJp⟩⟩
        · obtain rfl : j = partN p := by omega
          have hle : p.last < p.first + (partN p : Int) := by omega
          gi_wp2_with fail
          go_roundw
          case rel => exact ⟨k + 1, by omega, by go_num, by rw [allOf_succ hp, List.length_append, partL_len]; exact hJj⟩
          case measure => simp [intOf]; omega
    · obtain rfl : k = ps.length := by omega
      rw [List.take_length] at hJ
      gi_wp2_with fail
      first | go_end0 | go_ret
      exact .inl ⟨⟨_, rfl⟩, hJ⟩
end Go.Proofs.Ytidedlbieakagaa
