/- THE WALKS of package lookup: single. -/
import Derived.Test.YtidedlbieakagaaLook3
namespace Go.Proofs.Ytidedlbieakagaa
open Go.RowKit
variable [Lo]
omit [Lo] in
theorem Try.infoPart : (Try.prog.info? 180).map (fun i => (i.zero, i.size, i.bytes)) = some (some (.agg #[.int .i64 0, .int .i64 0, .slice none 0 0]), 3, 40) := by kernel_rfl
/-- One more part behind a row of the call's own. -/
theorem part_app {N : Nat} {a : Option Addr} {l : List Int} {cap : Nat} {L : List (Nat × TypeId × Array Value)} {w wr w4 w9 : World} {B0 k : Nat} {e t : TypeId} {v v' V : Value} {xs : List Value} {ps : List Part} {first last : Int} {vs : List Int}
    (hB : BB N a l cap L w wr) (hL : ∀ x ∈ L, x.1 < B0) (hwB : w.heap.size ≤ B0) (hBr : B0 ≤ wr.heap.size) (hown : wr.ownsRow B0 e 3 v k xs) (hfl : Flat 3 (PartC (Nb w wr v) wr) xs ps)
    (hK4 : Kp wr w4) (hi : Ints (New wr w4) w4 V vs) (hg : (w4.alloc (.cells #[.int .i64 first, .int .i64 last, V] t)).grownBy w9 v.ownBlock) (hob : v'.ownBlock = v.ownBlock ∨ v'.ownBlock = some (w4.heap.size + 1)) :
    Flat 3 (PartC (Nb w w9 v') w9) (xs ++ [.int .i64 first, .int .i64 last, V]) (ps ++ [⟨first, last, vs⟩]) ∧ BB N a l cap L w w9 ∧ Below B0 wr w9 ∧ B0 ≤ w9.heap.size := by
  have hK8 := hK4.alloc (.cells #[.int .i64 first, .int .i64 last, V] t)
  obtain ⟨h1, h2, h3⟩ := hB.app hL hwB hBr hK8 (fun j hj => (hown.lt j hj).1) hg
  refine ⟨parts_snoc hB.K hfl hK8 rfl ⟨V, rfl, ?_⟩ (fun j hj => (hown.lt j hj).2) hg (by simpa using hob), h1, h2, h3⟩
  exact (hi.frame ((Same.of_below ((Kp.refl w4).alloc _).1).mono fun b hb => hb.2)).mono fun b hb => ⟨hb.1, by have := hb.2; simp; omega⟩
set_option maxRecDepth 100000 in
set_option maxHeartbeats 2000000 in
theorem single_any (N : Nat) (a : Option Addr) (l : List Int) (len cap : Nat) (g size : Int) (w : World) (hb : Bts N w a l) (hN : N ≤ w.heap.size) (hl : l.length = len) (hc : len ≤ cap) (hm : cap ≤ 9223372036854775807) (hlen : len ≤ 1073741824) (hs : size = 2 ∨ size = 4) :
    Calls Try.prog 87 #[.agg #[.slice a len cap, .int .i64 g, .int .i64 size]] w (PartsPost (single l size) w) := by
  subst hl
  have hV := (BB.start hb hN hc hm).alloc #[.slice a l.length cap, .int .i64 g, .int .i64 size] 183
  have hsz : 2 ≤ size ∧ size ≤ 4 := by omega
  clear hb hs
  generalize hT : single l size = T
  have HT := Lib.hid hT
  have CS := Lib.hid (fun (p : Int) (need : Int) hp0 hp1 hk => @BB.seekK _ N a l cap [(w.heap.size, 183, #[.slice a l.length cap, .int .i64 g, .int .i64 size])] w hlen p need 1 1 rfl hk hp0 hp1)
  have HF := Lib.hid (show ∀ w', T = none → Kp w w' → PartsPost T w (.panicked Short) w' from fun w' h k => by subst h; exact ⟨rfl, k⟩)
  clear hT
  have hc0 := hV.cell (List.mem_cons_self) 0
  have hc2 := hV.cell (List.mem_cons_self) 2
  go_enter Try.func87, Try.ntmps87
  go_wp2_with (go_at_call 112; ((with_reducible refine (CS.out _ _ ?_ ?_ ?_ _ ?_).mono ?_); omega; omega; omega; exact hV; rintro e w1 (⟨rs, v, hq1, rfl, hv1, hV1⟩ | ⟨hq1, rfl, hV1⟩); rotate_left; exact ⟨rfl, HF.out _ (by rw [← HT.out]; simp [single, hq1]) hV1.K⟩; have Hq1 := Lib.hid hq1; obtain ⟨A, c, rfl, hvc, hvm⟩ := SliceOf.form hv1; clear hq1 hV hc0 hc2))
  obtain ⟨i0, hi0, hz0, hz1, hz2⟩ := info_parts Try.infoPart
  have hls : rs.length ≤ maxLen := by omega
  have hrl : rs.length ≤ 1073741824 := by
    have := seekTake_len hV1.2.1.2 Hq1.out
    omega
  have hw1 : w.heap.size < w1.heap.size := hV1.1.lt (List.mem_cons_self)
  go_loopw [3, 14] (fun v i wr => ∃ (k : Nat) (xs : List Value) (ps : List Part), k ≤ rs.length ∧ i = .int .i64 k ∧ wr.ownsRow w1.heap.size 180 3 v k xs ∧ Flat 3 (PartC (Nb w wr v) wr) xs ps ∧ mapO (fun row => single1 row size) (rs.take k) = some ps ∧ BB N a l cap [(w.heap.size, 183, #[.slice a l.length cap, .int .i64 g, .int .i64 size])] w wr ∧ Views w1.heap.size wr (.slice A rs.length c) rs ∧ w1.heap.size ≤ wr.heap.size) (fun _ i _ => rs.length - (intOf i).toNat)
  case atStart => exact ⟨0, [], [], Nat.zero_le _, rfl, World.ownsRow_nil _ _ _ _, Flat.nil _ _, rfl, hV1, hv1, Nat.le_refl _⟩
  case round =>
    obtain ⟨k, xs, ps, hkm, rfl, hown, hfl, hmo, hVr, hvr, hszr⟩ := hrel
    clear hV1 hv1
    by_cases hlt : k < rs.length
    · obtain ⟨b, o, c, hu, h1, h2, hbl, hat⟩ := Views.at hvr (by omega)
      injection hu with hA hl hc
      subst hA hc
      obtain ⟨a', c', hcell, h3, h4, hbt⟩ := hat k hlt
      generalize hrow : rs[k] = row at hcell h3 hbt
      have hR := (BB.start hbt hszr h3 h4).alloc #[.slice a' row.length c'] 40
      have CU := Lib.hid (@BB.u16 _ w1.heap.size a' row c' [(wr.heap.size, 40, #[.slice a' row.length c'])] wr)
      have CN := Lib.hid (@BB.number _ w1.heap.size a' row c' [(wr.heap.size, 40, #[.slice a' row.length c'])] wr)
      have hrs : rs[k]? = some row := by rw [List.getElem?_eq_getElem hlt, hrow]
      have hF2 : ∀ w', single1 row size = none → BB w1.heap.size a' row c' [(wr.heap.size, 40, #[.slice a' row.length c'])] wr w' → PartsPost T w (.panicked Short) w' := by
        intro w' h hB
        refine HF.out w' ?_ (hVr.K.trans hB.K)
        rw [← HT.out]; simp only [single, Hq1.out]
        exact mapO_none hrs h
      have HF2 := Lib.hid hF2
      have hS : ∀ id x, Go.Proofs.Ytidedlbieakagaa.u16 row 0 = some id → num row 2 size = some x → mapO (fun row => single1 row size) (rs.take (k + 1)) = some (ps ++ [⟨id, id, [x]⟩]) := by
        intro id x h1 h2
        rw [List.take_add_one, hrs]
        exact mapO_snoc hmo (by simp [single1, h1, h2])
      have HS := Lib.hid hS
      have Hown := Lib.hid hown
      have Hfl := Lib.hid hfl
      have hcr := hR.cell (List.mem_cons_self) 0
      clear hat hF2 hS hrow hmo hown hfl
      go_wp2_with (first
        | (go_at_call 44; ((with_reducible refine (CU.out _ _ ?_).mono ?_); exact hR; rintro e w2 (⟨id, hq2, rfl, hV2⟩ | ⟨hq2, rfl, hV2⟩); rotate_left; exact ⟨rfl, HF2.out _ (by simp [single1, hq2]) hV2⟩; have Hq2 := Lib.hid hq2; have hc2 := hV2.cell (List.mem_cons_self) 0; have hcs := (hVr.kp hV2.K).cell (List.mem_cons_self) 2; clear hq2 hR hcr))
        | (go_at_call 111; ((with_reducible refine (CN.out _ _ _ ?_).mono ?_); exact hV2; rintro e w3 (⟨x, hq3, rfl, hV3⟩ | ⟨hq3, rfl, hV3⟩); rotate_left; exact ⟨rfl, HF2.out _ (by simp [single1, Hq2.out, hq3]) hV3⟩; have Hq3 := Lib.hid hq3; have hK4 := hV3.K; clear hq3 hV2 hc2 hcs hV3))
        | (at_builtin; (refine wpList_push (w := wr) (W := w3.alloc (.cells #[.int .i64 x] 3)) ?_ (.tmp 20) (.tmp 29) 176 ?_ w1.heap.size 180 i0 _ 3 40 Try.underlying176 hi0 hz0 hz1 hz2 rfl (by omega) u3 k xs ?_ Hown.out (hK4.alloc _) ?_ ?_ ?_ ?_ ?_ hszr ?_; rfl; rfl; rfl; rfl; (simp [Value.oneCell']); (simp [Act.eval]); (simp only [maxLen]; omega); omega; intro v' w9 hown9 hg9 hob9)))
      have R := part_app hVr (by intro x hx; simp at hx; subst hx; exact hw1) (by omega) hszr Hown.out Hfl.out (hK4.alloc (.cells #[.int .i64 x] 3)) ((ints_new w3 x 3).mono fun b hb => ⟨Nat.le_trans hK4.1.size hb.1, hb.2⟩) hg9 hob9
      have HS2 := HS.out id x Hq2.out Hq3.out
      clear Hown Hfl HS HF2 hg9 hob9 hVr hK4
      go_roundw
      case rel => exact ⟨k + 1, _, _, by omega, by go_num, hown9, R.1, HS2, R.2.1, hvr.frame R.2.2.1, R.2.2.2⟩
      case measure => simp [intOf]; omega
    · obtain rfl : k = rs.length := by omega
      rw [List.take_length] at hmo
      have hT : T = some ps := by rw [← HT.out]; simp only [single, Hq1.out]; exact hmo
      have hV := SliceOf.of_own (P := New w wr) hown hfl (by rw [mapO_len hmo]) (fun g h1 h2 => ⟨by omega, h2⟩)
      subst hT
      have Hfin := Lib.hid (show PartsPost (some ps) w (.returned u3) wr from ⟨_, rfl, hV.mono (fun _ h => h) fun _ _ h => h.mono fun b hb => hb.1, hVr.K⟩)
      clear hV hVr hown hfl hmo hvr HT HF
      go_wp2_with fail
      go_ret
      exact Hfin.out
end Go.Proofs.Ytidedlbieakagaa
