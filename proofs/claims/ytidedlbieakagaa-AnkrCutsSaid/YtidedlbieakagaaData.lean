/- SLICES OF WHATEVER: a row of equal pieces, each read by a relation. -/
import Derived.Test.YtidedlbieakagaaWords
import Derived.Test.YtidedlbieakagaaSpec2
import Derived.Lib.Hide
namespace Go.Proofs.Ytidedlbieakagaa
open Go.RowKit
variable [Lo]
/-- Cells xs are pieces of s cells each; the i-th reads as the i-th of ps. -/
def Flat {α : Type} (s : Nat) (R : List Value → α → Prop) (xs : List Value) (ps : List α) : Prop :=
  xs.length = s * ps.length ∧ ∀ i p, ps[i]? = some p → R ((xs.drop (s * i)).take s) p
omit [Lo] in
theorem Flat.nil {α : Type} (s : Nat) (R : List Value → α → Prop) : Flat s R [] [] := ⟨by simp, fun i p h => by simp at h⟩
omit [Lo] in
theorem Flat.mono {α : Type} {s : Nat} {R R' : List Value → α → Prop} {xs : List Value} {ps : List α} (h : Flat s R xs ps) (hR : ∀ cs p, R cs p → R' cs p) : Flat s R' xs ps :=
  ⟨h.1, fun i p hi => hR _ _ (h.2 i p hi)⟩
omit [Lo] in
theorem Flat.snoc {α : Type} {s : Nat} {R : List Value → α → Prop} {xs cs : List Value} {ps : List α} {p : α} (h : Flat s R xs ps) (hl : cs.length = s) (hp : R cs p) : Flat s R (xs ++ cs) (ps ++ [p]) := by
  refine ⟨by simp [h.1, hl, Nat.mul_add], fun i q hi => ?_⟩
  by_cases hlt : i < ps.length
  · rw [List.getElem?_append_left hlt] at hi
    have h1 : s * i + s ≤ xs.length := by
      rw [h.1, ← Nat.mul_succ]; exact Nat.mul_le_mul_left _ hlt
    rw [List.drop_append_of_le_length (by omega), List.take_append_of_le_length (by simp; omega)]
    exact h.2 i q hi
  · have hi' : i = ps.length := by
      have := (List.getElem?_eq_some_iff.1 hi).1
      simp at this; omega
    subst hi'
    simp at hi
    subst hi
    rw [← h.1, List.drop_left, ← hl, List.take_length]
    exact hp
omit [Lo] in
theorem Flat.one {α : Type} {R : List Value → α → Prop} {xs : List Value} {ps : List α} (h : Flat 1 R xs ps) {i : Nat} (hi : i < ps.length) : ∃ v, xs[i]? = some v ∧ R [v] ps[i] := by
  have hx : i < xs.length := by rw [h.1]; omega
  have := h.2 i _ (List.getElem?_eq_getElem hi)
  rw [Nat.one_mul] at this
  refine ⟨xs[i], List.getElem?_eq_getElem hx, ?_⟩
  rw [List.drop_eq_getElem_cons hx, List.take_succ_cons, List.take_zero] at this
  exact this
/-- One-cell values lie in a row from an address on, in a block of which P holds. -/
def RowP (P : Nat → Prop) (w : World) (a : Option Addr) (xs : List Value) : Prop :=
  xs = [] ∨ ∃ b o, a = some ⟨b, o, none⟩ ∧ P b ∧ ∀ i, i < xs.length → w.cell? ⟨b, o + i, none⟩ = xs[i]?
/-- Two worlds have the same blocks where P holds. -/
def Same (P : Nat → Prop) (w w' : World) : Prop := ∀ b, P b → w'.heap[b]? = w.heap[b]?
omit [Lo] in
theorem Same.of_below {N : Nat} {w w' : World} (h : Below N w w') : Same (· < N) w w' := fun b hb => h.block b hb
omit [Lo] in
theorem Same.trans {P : Nat → Prop} {w w' w'' : World} (h : Same P w w') (k : Same P w' w'') : Same P w w'' := fun b hb => (k b hb).trans (h b hb)
omit [Lo] in
theorem Same.mono {P Q : Nat → Prop} {w w' : World} (h : Same P w w') (hq : ∀ b, Q b → P b) : Same Q w w' := fun b hb => h b (hq b hb)
omit [Lo] in
theorem RowP.frame {P : Nat → Prop} {w w' : World} {a : Option Addr} {xs : List Value} (h : RowP P w a xs) (hb : Same P w w') : RowP P w' a xs := by
  rcases h with h | ⟨b, o, ha, hP, h⟩
  · exact .inl h
  · refine .inr ⟨b, o, ha, hP, fun i hi => ?_⟩
    rw [World.cell?_of_block (w := w) (a := ⟨b, o + i, none⟩) (hb b hP)]
    exact h i hi
omit [Lo] in
theorem RowP.mono {P Q : Nat → Prop} {w : World} {a : Option Addr} {xs : List Value} (h : RowP P w a xs) (hq : ∀ b, P b → Q b) : RowP Q w a xs := by
  rcases h with h | ⟨b, o, ha, hb, h⟩
  · exact .inl h
  · exact .inr ⟨b, o, ha, hq b hb, h⟩
omit [Lo] in
theorem RowP.at {P : Nat → Prop} {w : World} {a : Option Addr} {xs : List Value} (h : RowP P w a xs) {i : Nat} (hi : i < xs.length) :
    ∃ b o, a = some ⟨b, o, none⟩ ∧ P b ∧ ∀ i, i < xs.length → w.cell? ⟨b, o + i, none⟩ = xs[i]? := by
  rcases h with h | h
  · subst h; simp at hi
  · exact h
/-- A slice value of pieces. -/
def SliceOf {α : Type} (P : Nat → Prop) (w : World) (s : Nat) (R : List Value → α → Prop) (v : Value) (ps : List α) : Prop :=
  ∃ a c xs, v = .slice a ps.length c ∧ ps.length ≤ c ∧ c ≤ maxLen ∧ RowP P w a xs ∧ Flat s R xs ps
omit [Lo] in
theorem SliceOf.frame {α : Type} {P : Nat → Prop} {w w' : World} {s : Nat} {R R' : List Value → α → Prop} {v : Value} {ps : List α} (h : SliceOf P w s R v ps) (hb : Same P w w') (hR : ∀ cs p, R cs p → R' cs p) : SliceOf P w' s R' v ps := by
  obtain ⟨a, c, xs, hv, h1, h2, hr, hf⟩ := h
  exact ⟨a, c, xs, hv, h1, h2, hr.frame hb, hf.mono hR⟩
omit [Lo] in
theorem SliceOf.mono {α : Type} {P Q : Nat → Prop} {w : World} {s : Nat} {R R' : List Value → α → Prop} {v : Value} {ps : List α} (h : SliceOf P w s R v ps) (hq : ∀ b, P b → Q b) (hR : ∀ cs p, R cs p → R' cs p) : SliceOf Q w s R' v ps := by
  obtain ⟨a, c, xs, hv, h1, h2, hr, hf⟩ := h
  exact ⟨a, c, xs, hv, h1, h2, hr.mono hq, hf.mono hR⟩
omit [Lo] in
theorem RowP.of_own {P : Nat → Prop} {w : World} {base : Nat} {e : TypeId} {size n c : Nat} {A : Option Addr} {xs : List Value} (h : w.ownsRow base e size (.slice A n c) n xs) (hP : ∀ g, base ≤ g → g < w.heap.size → P g) : RowP P w A xs := by
  rcases Nat.eq_zero_or_pos n with h0 | h0
  · left
    have := h.1
    subst h0
    simpa using this
  · obtain ⟨g, cap, hv, hg, hlt⟩ := h.form h0
    have hA : A = some ⟨g, 0, none⟩ := by injection hv
    subst hA
    right
    refine ⟨g, 0, rfl, hP g hg hlt, fun i hi => ?_⟩
    have hc := h.cells (g := g) rfl i _ (List.getElem?_eq_getElem hi)
    rw [List.getElem?_eq_getElem hi, ← hc]
    by_cases hi0 : i = 0
    · subst hi0; simp [Addr.add]
    · simp [Addr.add, hi0]
omit [Lo] in
theorem SliceOf.of_own {α : Type} {P : Nat → Prop} {w : World} {base : Nat} {e : TypeId} {s : Nat} {R : List Value → α → Prop} {v : Value} {n : Nat} {xs : List Value} {ps : List α} (h : w.ownsRow base e s v n xs) (hf : Flat s R xs ps) (hn : ps.length = n) (hP : ∀ g, base ≤ g → g < w.heap.size → P g) : SliceOf P w s R v ps := by
  obtain ⟨A, c, rfl, h1, h2⟩ := own_slice h
  subst hn
  exact ⟨A, c, xs, rfl, h1, h2, .of_own h hP, hf⟩
omit [Lo] in
theorem SliceOf.of_blk {α : Type} {P : Nat → Prop} {w : World} {g : Nat} {e : TypeId} {s : Nat} {R : List Value → α → Prop} {c : Nat} {xs : List Value} {ps : List α} (h : Blk w g e xs.toArray) (hf : Flat s R xs ps) (h1 : ps.length ≤ c) (h2 : c ≤ maxLen) (hP : P g) : SliceOf P w s R (.slice (some ⟨g, 0, none⟩) ps.length c) ps :=
  ⟨_, c, xs, rfl, h1, h2, .inr ⟨g, 0, rfl, hP, fun i hi => by rw [Nat.zero_add, h.cell i]; simp⟩, hf⟩
omit [Lo] in
theorem SliceOf.nil {α : Type} (P : Nat → Prop) (w : World) (s : Nat) (R : List Value → α → Prop) : SliceOf P w s R (.slice none 0 0) [] :=
  ⟨none, 0, [], rfl, by simp, by simp [maxLen], .inl rfl, .nil _ _⟩
omit [Lo] in
theorem SliceOf.form {α : Type} {P : Nat → Prop} {w : World} {s : Nat} {R : List Value → α → Prop} {v : Value} {ps : List α} (h : SliceOf P w s R v ps) : ∃ a c, v = .slice a ps.length c ∧ ps.length ≤ c ∧ c ≤ maxLen := by
  obtain ⟨a, c, xs, hv, h1, h2, _⟩ := h
  exact ⟨a, c, hv, h1, h2⟩
omit [Lo] in
/-- The cells of a piece. -/
theorem SliceOf.at {α : Type} {P : Nat → Prop} {w : World} {s : Nat} {R : List Value → α → Prop} {v : Value} {ps : List α} (h : SliceOf P w s R v ps) (hs : 0 < s) {i : Nat} (hi : i < ps.length) :
    ∃ b o c, v = .slice (some ⟨b, o, none⟩) ps.length c ∧ ps.length ≤ c ∧ c ≤ maxLen ∧ P b ∧ ∃ f : Nat → List Value, ∀ i, (hi : i < ps.length) → R (f i) ps[i] ∧ (f i).length = s ∧ ∀ j, j < s → w.cell? ⟨b, o + (s * i + j), none⟩ = (f i)[j]? := by
  obtain ⟨a, c, xs, rfl, h1, h2, hr, hf⟩ := h
  have hx : s * i < xs.length := by rw [hf.1]; exact Nat.mul_lt_mul_of_pos_left hi hs
  obtain ⟨b, o, rfl, hb, hc⟩ := hr.at hx
  refine ⟨b, o, c, rfl, h1, h2, hb, fun i => (xs.drop (s * i)).take s, fun i hi => ⟨hf.2 i _ (List.getElem?_eq_getElem hi), ?_, fun j hj => ?_⟩⟩
  · have : s * i + s ≤ xs.length := by rw [hf.1, ← Nat.mul_succ]; exact Nat.mul_le_mul_left _ hi
    simp; omega
  · have : s * i + s ≤ xs.length := by rw [hf.1, ← Nat.mul_succ]; exact Nat.mul_le_mul_left _ hi
    rw [hc _ (by omega)]
    simp [List.getElem?_drop, hj]
omit [Lo] in
theorem Flat.take {α : Type} {s : Nat} {R : List Value → α → Prop} {xs : List Value} {ps : List α} (h : Flat s R xs ps) (n : Nat) (hn : n ≤ ps.length) : Flat s R (xs.take (s * n)) (ps.take n) := by
  have hx : s * n ≤ xs.length := by rw [h.1]; exact Nat.mul_le_mul_left _ hn
  refine ⟨by rw [List.length_take, List.length_take, Nat.min_eq_left hx, Nat.min_eq_left hn], fun i p hi => ?_⟩
  have hi' := (List.getElem?_eq_some_iff.1 hi).1
  rw [List.length_take] at hi'
  have hin : i < n := by omega
  rw [List.getElem?_take, if_pos hin] at hi
  have h2 := h.2 i p hi
  have h3 : s * i + s ≤ s * n := by rw [← Nat.mul_succ]; exact Nat.mul_le_mul_left _ hin
  have : (List.drop (s * i) (List.take (s * n) xs)).take s = (xs.drop (s * i)).take s := by
    rw [List.drop_take, List.take_take]
    congr 1
    omega
  rw [this]
  exact h2
omit [Lo] in
theorem RowP.take {P : Nat → Prop} {w : World} {a : Option Addr} {xs : List Value} (h : RowP P w a xs) (n : Nat) : RowP P w a (xs.take n) := by
  rcases h with h | ⟨b, o, ha, hb, h⟩
  · left; simp [h]
  · right
    refine ⟨b, o, ha, hb, fun i hi => ?_⟩
    rw [List.length_take] at hi
    rw [h i (by omega), List.getElem?_take, if_pos (by omega)]
omit [Lo] in
/-- A prefix of a slice. -/
theorem SliceOf.take {α : Type} {P : Nat → Prop} {w : World} {s : Nat} {R : List Value → α → Prop} {a : Option Addr} {n c : Nat} {ps : List α} (h : SliceOf P w s R (.slice a n c) ps) (k : Nat) (hk : k ≤ n) : SliceOf P w s R (.slice a k c) (ps.take k) := by
  obtain ⟨a', c', xs, hv, h1, h2, hr, hf⟩ := h
  injection hv with e1 e2 e3
  subst e1 e2 e3
  refine ⟨a, c, xs.take (s * k), by simp [Nat.min_eq_left hk], by simp; omega, h2, hr.take _, hf.take k hk⟩
/-- Integers. -/
def IntC (cs : List Value) (x : Int) : Prop := cs = [.int .i64 x]
def Ints (P : Nat → Prop) (w : World) (v : Value) (l : List Int) : Prop := SliceOf P w 1 IntC v l
omit [Lo] in
theorem Ints.frame {P : Nat → Prop} {w w' : World} {v : Value} {l : List Int} (h : Ints P w v l) (hb : Same P w w') : Ints P w' v l := SliceOf.frame h hb fun _ _ h => h
omit [Lo] in
theorem Ints.mono {P Q : Nat → Prop} {w : World} {v : Value} {l : List Int} (h : Ints P w v l) (hq : ∀ b, P b → Q b) : Ints Q w v l := SliceOf.mono h hq fun _ _ h => h
omit [Lo] in
theorem Ints.at {P : Nat → Prop} {w : World} {v : Value} {l : List Int} (h : Ints P w v l) (hl : 0 < l.length) :
    ∃ b o c, v = .slice (some ⟨b, o, none⟩) l.length c ∧ l.length ≤ c ∧ c ≤ maxLen ∧ P b ∧ ∀ i, i < l.length → w.cell? ⟨b, o + i, none⟩ = some (.int .i64 (l.getD i 0)) := by
  obtain ⟨b, o, c, hv, h1, h2, hb, f, hf⟩ := SliceOf.at h (by omega) hl
  refine ⟨b, o, c, hv, h1, h2, hb, fun i hi => ?_⟩
  obtain ⟨hR, hlen, hc⟩ := hf i hi
  have := hc 0 (by omega)
  rw [hR] at this
  simpa [List.getD, hi] using this
omit [Lo] in
theorem Ints.form {P : Nat → Prop} {w : World} {v : Value} {l : List Int} (h : Ints P w v l) : ∃ a c, v = .slice a l.length c ∧ l.length ≤ c ∧ c ≤ maxLen := SliceOf.form h
omit [Lo] in
theorem Flat.ints (l : List Int) : Flat 1 IntC (l.map (Value.int .i64)) l := by
  refine ⟨by simp, fun i p hi => ?_⟩
  have h := (List.getElem?_eq_some_iff.1 hi)
  obtain ⟨hi', rfl⟩ := h
  rw [Nat.one_mul, List.drop_eq_getElem_cons (by simpa using hi')]
  simp [IntC]
/-- Bytes, as one value. -/
def BtsV (N : Nat) (w : World) (v : Value) (l : List Int) : Prop := ∃ a c, v = .slice a l.length c ∧ l.length ≤ c ∧ c ≤ 9223372036854775807 ∧ Bts N w a l
theorem BtsV.frame {N : Nat} {w w' : World} {v : Value} {l : List Int} (h : BtsV N w v l) (hb : Below N w w') : BtsV N w' v l := by
  obtain ⟨a, c, hv, h1, h2, hr⟩ := h
  exact ⟨a, c, hv, h1, h2, hr.frame hb⟩
theorem BtsV.mono {N N' : Nat} {w : World} {v : Value} {l : List Int} (h : BtsV N w v l) (hN : N ≤ N') : BtsV N' w v l := by
  obtain ⟨a, c, hv, h1, h2, hr⟩ := h
  exact ⟨a, c, hv, h1, h2, hr.mono hN⟩
theorem Bts.v {N : Nat} {w : World} {a : Option Addr} {l : List Int} (h : Bts N w a l) (c : Nat) (h1 : l.length ≤ c) (h2 : c ≤ 9223372036854775807) : BtsV N w (.slice a l.length c) l := ⟨a, c, rfl, h1, h2, h⟩
def ViewC (N : Nat) (w : World) (cs : List Value) (l : List Int) : Prop := ∃ v, cs = [v] ∧ BtsV N w v l
theorem ViewC.frame {N : Nat} {w w' : World} {cs : List Value} {l : List Int} (h : ViewC N w cs l) (hb : Below N w w') : ViewC N w' cs l := by
  obtain ⟨v, hv, h⟩ := h
  exact ⟨v, hv, h.frame hb⟩
theorem ViewC.mono {N N' : Nat} {w : World} {cs : List Value} {l : List Int} (h : ViewC N w cs l) (hN : N ≤ N') : ViewC N' w cs l := by
  obtain ⟨v, hv, h⟩ := h
  exact ⟨v, hv, h.mono hN⟩
/-- A slice of Views. -/
def Views (N : Nat) (w : World) (v : Value) (ls : List (List Int)) : Prop := SliceOf (· < N) w 1 (ViewC N w) v ls
theorem Views.frame {N : Nat} {w w' : World} {v : Value} {ls : List (List Int)} (h : Views N w v ls) (hb : Below N w w') : Views N w' v ls := SliceOf.frame h (.of_below hb) fun _ _ h => h.frame hb
theorem Views.mono {N N' : Nat} {w : World} {v : Value} {ls : List (List Int)} (h : Views N w v ls) (hN : N ≤ N') : Views N' w v ls := SliceOf.mono h (fun _b hb => Nat.lt_of_lt_of_le hb hN) fun _ _ h => h.mono hN
theorem Views.at {N : Nat} {w : World} {v : Value} {ls : List (List Int)} (h : Views N w v ls) (hl : 0 < ls.length) :
    ∃ b o c, v = .slice (some ⟨b, o, none⟩) ls.length c ∧ ls.length ≤ c ∧ c ≤ maxLen ∧ b < N ∧ ∀ i, (hi : i < ls.length) → ∃ a' c', w.cell? ⟨b, o + i, none⟩ = some (.slice a' ls[i].length c') ∧ ls[i].length ≤ c' ∧ c' ≤ 9223372036854775807 ∧ Bts N w a' ls[i] := by
  obtain ⟨b, o, c, hv, h1, h2, hb, f, hf⟩ := SliceOf.at h (by omega) hl
  refine ⟨b, o, c, hv, h1, h2, hb, fun i hi => ?_⟩
  obtain ⟨⟨v', hR, a', c', rfl, h3, h4, h5⟩, hlen, hc⟩ := hf i hi
  have := hc 0 (by omega)
  rw [hR] at this
  exact ⟨a', c', by simpa using this, h3, h4, h5⟩
def PartC (P : Nat → Prop) (w : World) (cs : List Value) (p : Part) : Prop := ∃ v, cs = [.int .i64 p.first, .int .i64 p.last, v] ∧ Ints P w v p.values
omit [Lo] in
theorem PartC.frame {P : Nat → Prop} {w w' : World} {cs : List Value} {p : Part} (h : PartC P w cs p) (hb : Same P w w') : PartC P w' cs p := by
  obtain ⟨v, hv, h⟩ := h
  exact ⟨v, hv, h.frame hb⟩
omit [Lo] in
theorem PartC.mono {P Q : Nat → Prop} {w : World} {cs : List Value} {p : Part} (h : PartC P w cs p) (hq : ∀ b, P b → Q b) : PartC Q w cs p := by
  obtain ⟨v, hv, h⟩ := h
  exact ⟨v, hv, h.mono hq⟩
/-- A slice of parts. -/
def Parts (P : Nat → Prop) (w : World) (v : Value) (ps : List Part) : Prop := SliceOf P w 3 (PartC P w) v ps
omit [Lo] in
theorem Parts.frame {P : Nat → Prop} {w w' : World} {v : Value} {ps : List Part} (h : Parts P w v ps) (hb : Same P w w') : Parts P w' v ps := SliceOf.frame h hb fun _ _ h => h.frame hb
omit [Lo] in
theorem Parts.mono {P Q : Nat → Prop} {w : World} {v : Value} {ps : List Part} (h : Parts P w v ps) (hq : ∀ b, P b → Q b) : Parts Q w v ps := SliceOf.mono h hq fun _ _ h => h.mono hq
/-- The new blocks of a call. -/
def New (w w' : World) (b : Nat) : Prop := w.heap.size ≤ b ∧ b < w'.heap.size
end Go.Proofs.Ytidedlbieakagaa
