/- THE WALK of ankr.Read. -/
import Derived.Test.YtidedlbieakagaaAnkr1
import Derived.Test.YtidedlbieakagaaTry
namespace Go.Proofs.Ytidedlbieakagaa
open Go.RowKit
section
variable [Lo]
theorem AnkrPost.or {N : Nat} {o : Option (List Part × List Int)} {w w' : World} {e : Ending} (h : AnkrPost N o w e w') : (∃ x b, o = some x ∧ e = .returned (.pointer (some ⟨b, 0, none⟩)) ∧ AT N (New w w') w' b x.1 x.2 ∧ Kp w w') ∨ (o = none ∧ e = .panicked Short ∧ Kp w w') := by
  cases o with
  | some x => obtain ⟨b, h1, h2, h3⟩ := h; exact .inl ⟨x, b, rfl, h1, h2, h3⟩
  | none => exact .inr ⟨rfl, h.1, h.2⟩
set_option maxHeartbeats 1000000 in
theorem AnkrRead1_any (N : Nat) (a : Option Addr) (l : List Int) (cap : Nat) (glyphs : Int) (bv bg bo : Nat) (W : World) (hb : Bts N W a l) (hN : N ≤ W.heap.size) (hc : l.length ≤ cap) (hm : cap ≤ 9223372036854775807) (hlen : l.length ≤ 1073741824) (hg : 1 ≤ glyphs ∧ glyphs ≤ 65536)
    (h1 : W.cell? ⟨bv, 0, none⟩ = some (.slice a l.length cap)) (h2 : W.cell? ⟨bg, 0, none⟩ = some (.int .i64 glyphs)) (h3 : W.cell? ⟨bo, 0, none⟩ = some (.pointer none)) (h4 : W.frozen? ⟨bo, 0, none⟩ = false) (h5 : bo < W.heap.size) :
    Calls Try.prog 38 #[.pointer (some ⟨bv, 0, none⟩), .pointer (some ⟨bg, 0, none⟩), .pointer (some ⟨bo, 0, none⟩)] W fun e w' => (∃ x b w1, ankrTake l glyphs = some x ∧ e = .returned (.tuple #[]) ∧ AT N (New W w1) w1 b x.1 x.2 ∧ Kp W w1 ∧ w' = w1.setCell ⟨bo, 0, none⟩ (.pointer (some ⟨b, 0, none⟩))) ∨ (ankrTake l glyphs = none ∧ e = .panicked Short ∧ Kp W w') := by
  have CT := Lib.hid (ankrTake_any N a l l.length cap glyphs W hb hN rfl hc hm hlen hg)
  clear hb
  go_enter Try.func38, Try.ntmps38
  go_wp2_with fail
  refine CT.out.mono ?_
  rintro e w1 hh
  rcases hh.or with ⟨x, b, hx, rfl, hA, hK⟩ | ⟨hx, rfl, hK⟩
  · have h31 := (hK.2.1 bo 0 h5).trans h3
    have h41 := (hK.2.2.1 bo 0 h5).trans h4
    have Hx := Lib.hid hx
    clear hx
    go_wp2_with fail
    go_returns
    exact .inl ⟨x, b, w1, Hx.out, rfl, hA, hK, rfl⟩
  · exact ⟨rfl, .inr ⟨hx, rfl, hK⟩⟩
theorem Bts.frameP {N : Nat} {w w' : World} {a : Option Addr} {l : List Int} (h : Bts N w a l) (hs : ∀ c, Lo.lo ≤ c → c < N → w'.heap[c]? = w.heap[c]?) : Bts N w' a l := by
  refine ⟨?_, h.2⟩
  rcases h.1 with h1 | ⟨b, o, ha, hb, hc⟩
  · exact .inl h1
  · exact .inr ⟨b, o, ha, hb, fun i hi => (World.cell?_of_block (a := ⟨b, o + i, none⟩) (hs b hb.1 hb.2)).trans (hc i hi)⟩
theorem Bts.rowP {N : Nat} {P : Nat → Prop} {w : World} {a : Option Addr} {l : List Int} (h : Bts N w a l) (hs : ∀ c, Lo.lo ≤ c → c < N → P c) : RowP P w a (l.map (Value.int .u8)) := by
  rcases h.1 with h1 | ⟨b, o, ha, hb, hc⟩
  · exact .inl h1
  · exact .inr ⟨b, o, ha, hs b hb.1 hb.2, hc⟩
/-- A table of points, all in memory that meets P. -/
def ATP (P : Nat → Prop) (w : World) (b : Nat) (ps : List Part) (data : List Int) : Prop := P b ∧ ∃ bT a, Blk w b 42 #[.pointer (some ⟨bT, 0, none⟩), .slice a data.length data.length] ∧ Tab P w bT ps ∧ RowP P w a (data.map (Value.int .u8)) ∧ Wf data
omit [Lo] in
theorem ATP.frame {P : Nat → Prop} {w w' : World} {b : Nat} {ps : List Part} {data : List Int} (h : ATP P w b ps data) (hb : Same P w w') : ATP P w' b ps data := by
  obtain ⟨h1, bT, a, h2, h3, h4, h5⟩ := h
  exact ⟨h1, bT, a, (hb b h1).trans h2, h3.frame hb, h4.frame hb, h5⟩
omit [Lo] in
theorem ATP.mono {P Q : Nat → Prop} {w : World} {b : Nat} {ps : List Part} {data : List Int} (h : ATP P w b ps data) (hq : ∀ b, P b → Q b) : ATP Q w b ps data := by
  obtain ⟨h1, bT, a, h2, h3, h4, h5⟩ := h
  exact ⟨hq _ h1, bT, a, h2, h3.mono hq, h4.mono hq, h5⟩
theorem AT.toP {N : Nat} {P Q : Nat → Prop} {w : World} {b : Nat} {ps : List Part} {data : List Int} (h : AT N P w b ps data) (hq : ∀ c, P c → Q c) (hs : ∀ c, Lo.lo ≤ c → c < N → Q c) : ATP Q w b ps data := by
  obtain ⟨h1, bT, a, h2, h3, h4⟩ := h
  exact ⟨hq _ h1, bT, a, h2, h3.mono hq, h4.rowP hs, h4.2⟩
end
theorem RowP.bts {N : Nat} {P : Nat → Prop} {w : World} {a : Option Addr} {l : List Int} (h : RowP P w a (l.map (Value.int .u8))) (hw : Wf l) (hs : ∀ c, P c → c < N) : Bts N w a l := by
  refine ⟨?_, hw⟩
  rcases h with h1 | ⟨b, o, ha, hb, hc⟩
  · exact .inl h1
  · exact .inr ⟨b, o, ha, ⟨Nat.zero_le _, hs b hb⟩, hc⟩
def AnkrReadPost (o : Option (List Part × List Int)) (w : World) (e : Ending) (w' : World) : Prop := match o with
  | some x => (∃ b, e = .returned (.tuple #[.pointer (some ⟨b, 0, none⟩), .int .i64 0]) ∧ ATP (New w w') w' b x.1 x.2 ∧ Kp w w')
  | none => e = .returned (.tuple #[.pointer none, .int .i64 2]) ∧ Kp w w'
set_option maxHeartbeats 4000000 in
theorem AnkrRead_any (N : Nat) (a : Option Addr) (l : List Int) (cap : Nat) (glyphs : Int) (w : World) (hb : Bts N w a l) (hN : N ≤ w.heap.size) (hc : l.length ≤ cap) (hm : cap ≤ 9223372036854775807) (hlen : l.length ≤ 1073741824) (hg1 : 1 ≤ glyphs) (hg2 : glyphs ≤ 65535) :
    Calls Try.prog 10 #[.slice a l.length cap, .int .i64 glyphs] w (AnkrReadPost (ankrTake l glyphs) w) := by
  have hk0 : Kp w ((w.alloc (.cells #[.int .i64 glyphs] 3)).alloc (.cells #[.pointer none] 27)) := ((Kp.refl w).alloc _).alloc _
  have hz0 : w.heap.size + 1 < ((w.alloc (.cells #[.int .i64 glyphs] 3)).alloc (.cells #[.pointer none] 27)).heap.size := by simp
  have hB0 : Blk ((w.alloc (.cells #[.int .i64 glyphs] 3)).alloc (.cells #[.pointer none] 27)) w.heap.size 3 #[.int .i64 glyphs] := (Blk.new w _ _).alloc _
  have hB1 : Blk ((w.alloc (.cells #[.int .i64 glyphs] 3)).alloc (.cells #[.pointer none] 27)) (w.heap.size + 1) 27 #[.pointer none] := by
    have h := Blk.new (w.alloc (.cells #[.int .i64 glyphs] 3)) 27 #[.pointer none]
    simpa only [World.size_alloc] using h
  have CO := Lib.hid Of_any
  have CB := Lib.hid (fun W (k : Kp ((w.alloc (.cells #[.int .i64 glyphs] 3)).alloc (.cells #[.pointer none] 27)) W) => @Bytes_any ⟨w.heap.size + 2⟩ N a l l.length cap W (hb.kp hN (hk0.trans k)) (Nat.le_trans hN (hk0.trans k).1.size) rfl hc hm (by omega) (by have := k.1.size; simp at this; exact this))
  have hcf : ∀ (args : Array Value) (w : World), (callFunc 38 args).run Try.prog w = .ok (.enter 38 args) w := fun _ _ => by kernel_rfl
  have Hcf := Lib.hid hcf
  clear hcf hb
  go_enter Try.func10, Try.ntmps10
  go_wp2_with fail
  refine (CO.out _ _ _ _).mono ?_
  rintro e w1 ⟨rfl, hK1⟩
  go_wp2_with fail
  refine (CB.out _ hK1).mono ?_
  rintro e w2 ⟨a2, c2, rfl, hc2, hm2, hown, hb2, hK2⟩
  clear hown
  go_wp2_with fail
  refine (CO.out _ _ _ _).mono ?_
  rintro e w3 ⟨rfl, hK3⟩
  have hk03 := hK1.trans (hK2.trans hK3)
  go_wp2_with fail
  have hk5 : Kp w3 ((w3.alloc (.cells #[.slice a2 l.length c2] 40)).alloc (.cells #[.bool false] 4)) := ((Kp.refl w3).alloc _).alloc _
  have hk05 := hk03.trans hk5
  have hf0 : ((w3.alloc (.cells #[.slice a2 l.length c2] 40)).alloc (.cells #[.bool false] 4)).cell? ⟨w3.heap.size + 1, 0, none⟩ = some (.bool false) := by
    have h := (Blk.new (w3.alloc (.cells #[.slice a2 l.length c2] 40)) 4 #[.bool false]).cell 0
    simp only [World.size_alloc] at h
    exact h
  have hf1 : ((w3.alloc (.cells #[.slice a2 l.length c2] 40)).alloc (.cells #[.bool false] 4)).frozen? ⟨w3.heap.size + 1, 0, none⟩ = false := by
    have h := (Blk.new (w3.alloc (.cells #[.slice a2 l.length c2] 40)) 4 #[.bool false]).frozen 0
    simpa only [World.size_alloc] using h
  have hmm2 : c2 ≤ 9223372036854775807 := by unfold maxLen at hm2; omega
  have hR := @AnkrRead1_any ⟨w.heap.size + 2⟩ w2.heap.size a2 l c2 glyphs w3.heap.size w.heap.size (w.heap.size + 1) _ (@Bts.kp ⟨w.heap.size + 2⟩ _ _ _ _ _ hb2 (Nat.le_refl _) (hK3.trans hk5)) (hK3.trans hk5).1.size hc2 hmm2 hlen ⟨hg1, by omega⟩
    (((Blk.new w3 40 #[.slice a2 l.length c2]).alloc _).cell 0) ((hB0.below hk05.1 hB0.lt).cell 0) ((hB1.below hk05.1 hB1.lt).cell 0) ((hB1.below hk05.1 hB1.lt).frozen 0) (Nat.lt_of_lt_of_le hz0 hk05.1.size)
  have hsz : w.heap.size + 1 < w3.heap.size := Nat.lt_of_lt_of_le hz0 hk03.1.size
  refine (Try_any 38 #[.pointer (some ⟨w3.heap.size, 0, none⟩), .pointer (some ⟨w.heap.size, 0, none⟩), .pointer (some ⟨w.heap.size + 1, 0, none⟩)]
    (fun W1 => ∃ x b w4, ankrTake l glyphs = some x ∧ @AT ⟨w.heap.size + 2⟩ w2.heap.size (New ((w3.alloc (.cells #[.slice a2 l.length c2] 40)).alloc (.cells #[.bool false] 4)) w4) w4 b x.1 x.2 ∧ Kp ((w3.alloc (.cells #[.slice a2 l.length c2] 40)).alloc (.cells #[.bool false] 4)) w4 ∧ W1 = w4.setCell ⟨w.heap.size + 1, 0, none⟩ (.pointer (some ⟨b, 0, none⟩)))
    (fun W1 => ankrTake l glyphs = none ∧ Kp ((w3.alloc (.cells #[.slice a2 l.length c2] 40)).alloc (.cells #[.bool false] 4)) W1) _ ?_ (fun w => Hcf.out _ w)).mono ?_
  · refine hR.mono ?_
    simp only [World.size_alloc] at hk5 hf0 hf1 ⊢
    rintro e W (⟨x, b, w4, hx, rfl, hA, hK, rfl⟩ | ⟨hx, rfl, hK⟩)
    · have h1 := (hK.2.1 (w3.heap.size + 1) 0 (by simp)).trans hf0
      have h2 := (hK.2.2.1 (w3.heap.size + 1) 0 (by simp)).trans hf1
      refine ⟨⟨(World.cell?_setCell_other _ _ _ _ (by simp; try omega)).trans h1, by rw [World.frozen?_setCell]; exact h2, ?_⟩, .inl ⟨⟨_, rfl⟩, x, b, w4, hx, hA, hK, rfl⟩⟩
      have := hK.1.size; simp at this ⊢; omega
    · exact ⟨⟨(hK.2.1 (w3.heap.size + 1) 0 (by simp)).trans hf0, (hK.2.2.1 (w3.heap.size + 1) 0 (by simp)).trans hf1, by have := hK.1.size; simp at this ⊢; omega⟩, .inr ⟨rfl, hx, hK⟩⟩
  clear hR
  rintro e W6 ⟨W5, (⟨rfl, ⟨x, b, w4, hx, hA, hK, rfl⟩, hW6⟩ | ⟨rfl, ⟨hx, hK⟩, hW6⟩)⟩
  · simp only [World.size_alloc] at hW6
    have hk4 : Kp w w4 := hk0.trans (hk05.trans hK)
    have hz4 : w3.heap.size + 2 ≤ w4.heap.size := by have := hK.1.size; simp at this; omega
    have hfin : AnkrReadPost (ankrTake l glyphs) w (.returned (.tuple #[.pointer (some ⟨b, 0, none⟩), .int .i64 0])) (W6.setCell ⟨w.heap.size + 1, 0, none⟩ (.pointer (some ⟨b, 0, none⟩))) := by
      rw [hx]
      subst hW6
      refine ⟨b, rfl, ?_, ((hk4.set (by simp; try omega) _).set (by simp; try omega) _).set (by simp; try omega) _⟩
      have h1 : ATP (fun c => w.heap.size + 2 ≤ c ∧ c < w4.heap.size ∧ c ≠ w3.heap.size + 1) w4 b x.1 x.2 := @AT.toP ⟨w.heap.size + 2⟩ _ _ _ _ _ _ _ hA (fun c hc => by have h1 := hc.1; have h2 := hc.2; simp at h1; omega) (fun c h1 h2 => by have := (hK3.trans hk5).1.size; have h3 : w.heap.size + 2 ≤ c := h1; have := hK3.1.size; omega)
      refine (h1.frame ?_).mono fun c hc => ⟨by omega, by simp; omega⟩
      exact ((Same.setCell (by omega)).trans (Same.setCell (by omega))).trans (Same.setCell (by omega))
    have h1 : W6.cell? ⟨w.heap.size + 1, 0, none⟩ = some (.pointer (some ⟨b, 0, none⟩)) := by
      subst hW6
      rw [World.cell?_setCell_other _ _ _ _ (by simp; try omega)]
      exact World.cell?_setCell_same' _ _ _ (by rw [(hk05.trans hK).2.1 _ 0 hz0, hB1.cell 0]; rfl)
    have h2 : W6.frozen? ⟨w.heap.size + 1, 0, none⟩ = false := by
      subst hW6
      rw [World.frozen?_setCell, World.frozen?_setCell, (hk05.trans hK).2.2.1 _ 0 hz0]
      exact hB1.frozen 0
    have h3 : (W6.setCell ⟨w.heap.size + 1, 0, none⟩ (.pointer (some ⟨b, 0, none⟩))).cell? ⟨w.heap.size + 1, 0, none⟩ = some (.pointer (some ⟨b, 0, none⟩)) := World.cell?_setCell_same' _ _ _ (by rw [h1]; rfl)
    have Hfin := Lib.hid hfin
    clear hfin hx hW6 hA hK hk4 hz4 hK1 hK2 hK3 hk03 hk05 hk5 hf0 hf1 hB0 hB1 hk0 hz0 hsz
    go_wp2_with fail
    exact bodyPost_ret (v := .tuple #[.pointer (some ⟨b, 0, none⟩), .int .i64 0]) (by simp [results, Try.results10, go_sem, h3]) rfl Hfin.out
  · simp only [World.size_alloc] at hW6
    have hk6 : Kp w W6 := by subst hW6; exact ((hk0.trans (hk05.trans hK)).set (by simp; try omega) _).alloc _
    have hc6 : W6.cell? ⟨w.heap.size + 1, 0, none⟩ = some (.pointer none) := by
      subst hW6
      rw [World.cell?_alloc_lt _ _ _ (by have := hK.1.size; simp at this ⊢; omega), World.cell?_setCell_other _ _ _ _ (by simp; try omega), (hk05.trans hK).2.1 _ 0 hz0]
      exact hB1.cell 0
    have hf6 : W6.frozen? ⟨w.heap.size + 1, 0, none⟩ = false := by
      subst hW6
      rw [((Kp.refl _).alloc _).2.2.1 _ 0 (by have := hK.1.size; simp at this ⊢; omega), World.frozen?_setCell, (hk05.trans hK).2.2.1 _ 0 hz0]
      exact hB1.frozen 0
    have h3 : (W6.setCell ⟨w.heap.size + 1, 0, none⟩ (.pointer none)).cell? ⟨w.heap.size + 1, 0, none⟩ = some (.pointer none) := World.cell?_setCell_same' _ _ _ (by rw [hc6]; rfl)
    have hfin : AnkrReadPost (ankrTake l glyphs) w (.returned (.tuple #[.pointer none, .int .i64 2])) (W6.setCell ⟨w.heap.size + 1, 0, none⟩ (.pointer none)) := by
      rw [hx]; exact ⟨rfl, hk6.set (by simp; try omega) _⟩
    have Hfin := Lib.hid hfin
    clear hfin hx hW6 hK hK1 hK2 hK3 hk03 hk05 hk5 hf0 hf1 hB0 hB1 hk0 hz0 hsz
    go_wp2_with fail
    exact bodyPost_ret (v := .tuple #[.pointer none, .int .i64 2]) (by simp [results, Try.results10, go_sem, h3]) rfl Hfin.out
end Go.Proofs.Ytidedlbieakagaa
