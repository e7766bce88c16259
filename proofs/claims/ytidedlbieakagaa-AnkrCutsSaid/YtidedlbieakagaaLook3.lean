/- THE WALKS of package lookup: trimmed. -/
import Derived.Test.YtidedlbieakagaaBB
namespace Go.Proofs.Ytidedlbieakagaa
open Go.RowKit
variable [Lo]
def PartsPost (o : Option (List Part)) (w : World) (e : Ending) (w' : World) : Prop := match o with | some ps => (∃ v, e = .returned v ∧ Parts (New w w') w' v ps ∧ Kp w w') | none => Fails w e w'
omit [Lo] in
theorem parts_nil {w W : World} (h : Kp w W) : PartsPost (some []) w (.returned (.slice none 0 0)) W := ⟨_, rfl, SliceOf.nil _ _ _ _, h⟩
omit [Lo] in
theorem parts_one {w W : World} (h : Kp w W) {p : Part} {v : Value} (hv : Ints (New w W) W v p.values) : PartsPost (some [p]) w (.returned (.slice (some ⟨W.heap.size, 0, none⟩) 1 1)) (W.alloc (.cells #[.int .i64 p.first, .int .i64 p.last, v] 180)) := by
  refine ⟨_, rfl, ?_, h.alloc _⟩
  have hb : Blk (W.alloc (.cells #[.int .i64 p.first, .int .i64 p.last, v] 180)) W.heap.size 180 [.int .i64 p.first, .int .i64 p.last, v].toArray := Blk.new _ _ _
  refine SliceOf.of_blk (ps := [p]) (c := 1) hb ?_ (by simp) (by simp [maxLen]) ⟨h.1.size, by simp⟩
  refine (Flat.nil 3 _).snoc rfl ⟨v, rfl, ?_⟩
  exact (hv.frame ((Same.of_below ((Kp.refl W).alloc _).1).mono fun b hb => hb.2)).mono fun b hb => ⟨hb.1, by have := hb.2; simp; omega⟩
set_option maxRecDepth 100000 in
set_option maxHeartbeats 1000000 in
theorem trimmed_any (N : Nat) (a : Option Addr) (l : List Int) (len cap : Nat) (g s0 p size : Int) (w : World) (hb : Bts N w a l) (hN : N ≤ w.heap.size) (hl : l.length = len) (hc : len ≤ cap) (hm : cap ≤ 9223372036854775807) (hlen : len ≤ 1073741824) (hp0 : 0 ≤ p) (hp1 : p ≤ 65536) (hs : size = 1 ∨ size = 2 ∨ size = 4) :
    Calls Try.prog 88 #[.agg #[.slice a len cap, .int .i64 g, .int .i64 s0], .int .i64 p, .int .i64 size] w (PartsPost (trimmed l p size) w) := by
  subst hl
  have hV := (BB.start hb hN hc hm).alloc #[.slice a l.length cap, .int .i64 g, .int .i64 s0] 183
  have hw := IntWalk.i64_in (p + 2) (by omega)
  clear hb
  generalize hT : trimmed l p size = T
  have HT := Lib.hid hT
  have CU := Lib.hid (@BB.u16 _ N a l cap [(w.heap.size, 183, #[.slice a l.length cap, .int .i64 g, .int .i64 s0])] w)
  have CL := Lib.hid (fun q n => @BB.list _ N a l cap [(w.heap.size, 183, #[.slice a l.length cap, .int .i64 g, .int .i64 s0])] w hlen q n size hs)
  have CN := Lib.hid Need_any
  have hVd := hV.drew
  have HF := Lib.hid (show ∀ w', T = none → Kp w w' → PartsPost T w (.panicked Short) w' from fun w' h k => by subst h; exact ⟨rfl, k⟩)
  clear hT hs
  go_enter Try.func88, Try.ntmps88
  go_wp2_with fail
  go_region_held2 (fun w' => w'.cell? ⟨w.heap.size, 0, none⟩ = some (.slice a l.length cap)) (first | go_keep | exact hV2.cell (List.mem_cons_self) 0 | exact hV1.cell (List.mem_cons_self) 0) (first | (go_at_call 44; ((with_reducible refine (CU.out _ _ ?_).mono ?_); exact hV1; rintro e w2 (⟨n, hq2, rfl, hV2⟩ | ⟨hq2, rfl, hV2⟩); rotate_left; exact ⟨rfl, HF.out _ (by rw [← HT.out]; simp [trimmed, hq2]) hV2.K⟩; dsimp only)) | (go_at_call 44; ((with_reducible refine (CU.out _ _ ?_).mono ?_); exact hVd; rintro e w1 (⟨first, hq1, rfl, hV1⟩ | ⟨hq1, rfl, hV1⟩); rotate_left; exact ⟨rfl, HF.out _ (by rw [← HT.out]; simp [trimmed, hq1]) hV1.K⟩; dsimp only)))
  have hwf := hV2.2.1.2
  have hfi := u16_lt hwf hq1
  have hn := u16_lt hwf hq2
  have hc0 := hV2.cell (List.mem_cons_self) 0
  have Hq1 := Lib.hid hq1
  have Hq2 := Lib.hid hq2
  clear hV hVd hV1 hwf hw CU hq1 hq2
  go_wp2_with (first
    | (go_at_call 43; ((with_reducible refine (CN.out _ _).mono ?_); rintro e w4 (⟨hq4, rfl, rfl⟩ | ⟨hq4, rfl, rfl⟩); rotate_left; exact ⟨rfl, HF.out _ (by rw [← HT.out]; have := of_decide_eq_false hq4; simp [trimmed, Hq1.out, Hq2.out, this]) hV2.K⟩; have Hq4 := Lib.hid (of_decide_eq_true hq4); clear hq4))
    | (go_at_call 85; ((with_reducible refine (CL.out _ _ _ ?_).mono ?_); exact hV2; rintro e w5 (⟨vs, v, hq5, rfl, hi5, hV5⟩ | ⟨hq5, rfl, hV5⟩); rotate_left; exact ⟨rfl, HF.out _ (by rw [← HT.out]; simp [trimmed, Hq1.out, Hq2.out, Hq4.out, hq5]) hV5.K⟩; have Hq5 := Lib.hid hq5; obtain ⟨A, c, rfl, hv1, hv2⟩ := Ints.form hi5; have Hi5 := Lib.hid (hi5.mono (Q := New w w5) fun b hb => ⟨Nat.le_trans hV2.K.1.size hb.1, hb.2⟩); have hK5 := hV5.K; clear hq5 hV2 hc0 hi5 hV5)))
  all_goals go_ret
  · have h : n = 0 := by simpa using (show (n == 0) = true by assumption)
    have hT : T = some [] := by rw [← HT.out]; simp only [trimmed, Hq1.out, Hq2.out, if_pos Hq4.out, Hq5.out, if_pos h]
    subst hT
    exact parts_nil hK5
  · have h : ¬ n = 0 := by simpa using (show (n == 0) = false by assumption)
    have hT : T = some [⟨first, first + n - 1, vs⟩] := by rw [← HT.out]; simp [trimmed, Hq1.out, Hq2.out, Hq4.out, Hq5.out, h]
    subst hT
    exact parts_one (p := ⟨first, first + n - 1, vs⟩) hK5 Hi5.out
end Go.Proofs.Ytidedlbieakagaa
