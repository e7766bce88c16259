/- AN ARGUMENT THAT IS A SLICE, as it came in: of pieces of whatever shape. -/
import Derived.Test.YtidedlbieakagaaData
import Derived.ProofKit
import Derived.OpenShut
import Derived.ShutString
import Derived.ChangeOld
import Derived.SizedLaws
import Derived.Deep.Slices
namespace Go.Proofs.Ytidedlbieakagaa
open Go.ChangeShapes Go.WideShapes Go.ChangeAt Go.RowKit
theorem SliceOf.all {α : Type} {P : Nat → Prop} {w : World} {s : Nat} {R : List Value → α → Prop} {v : Value} {ps : List α} (h : SliceOf P w s R v ps) : ∀ p ∈ ps, ∃ cs, R cs p := by
  intro p hp
  obtain ⟨a, c, xs, _, _, _, _, hf⟩ := h
  obtain ⟨i, hi, rfl⟩ := List.getElem_of_mem hp
  exact ⟨_, hf.2 i _ (List.getElem?_eq_getElem hi)⟩
theorem SliceOf.weaken {α : Type} {P : Nat → Prop} {w : World} {s : Nat} {R R' : List Value → α → Prop} {v : Value} {ps : List α} (h : SliceOf P w s R v ps) (hR : ∀ cs p, R cs p → R' cs p) : SliceOf P w s R' v ps :=
  SliceOf.mono h (fun _ h => h) hR
theorem choose_n {α : Type} {n : Nat} {q : Nat → α → Prop} (h : ∀ i, i < n → ∃ x, q i x) : ∃ l : List α, l.length = n ∧ ∀ i x, l[i]? = some x → q i x := by
  induction n with
  | zero => exact ⟨[], rfl, fun i x h => by simp at h⟩
  | succ n ih =>
    obtain ⟨l, hl, hq⟩ := ih fun i hi => h i (by omega)
    obtain ⟨x, hx⟩ := h n (by omega)
    refine ⟨l ++ [x], by simp [hl], fun i y hy => ?_⟩
    by_cases hi : i < n
    · rw [List.getElem?_append_left (by omega)] at hy
      exact hq i y hy
    · have hlt := (List.getElem?_eq_some_iff.1 hy).1
      simp at hlt
      obtain rfl : i = n := by omega
      rw [List.getElem?_append_right (by omega)] at hy
      simp [hl] at hy
      subst hy
      exact hx
/-- A slice that came in, opened: 'hel' opens its elements. -/
theorem open_of {α H : Type} {enc : TypeId × Value → H} {P : Program} {w : World} {base : Nat} {spare : Nat → Bool} {held : Bool} {fuel : Nat} {t e : TypeId} {s len cap : Nat} {a : Option Addr} {x : DataW H × List MemPlace} {R : List Value → α → Prop}
    (ht : P.underlying t = some (.slice e)) (hs : P.cellsOf e = s) (hs0 : 0 < s)
    (hel : ∀ n cs y, DataW.trod enc P w base spare held n e cs = some y → cs.length = s → ∃ p, R cs p)
    (h : DataW.trod enc P w base spare held fuel t [Value.slice a len cap] = some x) : ∃ ps : List α, ps.length = len ∧ SliceOf (· < w.heap.size) w s R (.slice a len cap) ps := by
  rcases Go.Deep.open_slice ht h with ⟨hcs, _⟩ | ⟨y, n, c, m, fu, D, Pl, hcs, _, hl, hm, hmm, _, hx⟩
  · injection hcs with hcs
    injection hcs with e1 e2 e3
    subst e1 e2 e3
    exact ⟨[], rfl, SliceOf.nil _ _ _ _⟩
  · injection hcs with hcs
    injection hcs with e1 e2 e3
    subst e1 e2 e3
    rw [hs] at hx
    have hlm : len ≤ m := by rw [hmm]; split <;> omega
    obtain ⟨ps, hpl, hps⟩ := choose_n (n := len) (q := fun i p => ∃ cs', (∀ r, r < s → w.cell? (y.add (i * s + r)) = cs'[r]?) ∧ cs'.length = s ∧ R cs' p) (fun i hi => by
      obtain ⟨cs', h1, h2⟩ := hx i (by omega)
      obtain ⟨_, h3, h4⟩ := World.cells?_some h1
      obtain ⟨p, hp⟩ := hel _ _ _ h2 h3
      exact ⟨p, cs', fun r hr => by rw [← h4 r hr, Go.Deep.add_add], h3, hp⟩)
    refine ⟨ps, hpl, ?_⟩
    rcases Nat.eq_zero_or_pos len with h0 | h0
    · subst h0
      obtain rfl : ps = [] := List.eq_nil_of_length_eq_zero hpl
      exact ⟨some y, cap, [], rfl, Nat.zero_le _, hm, .inl rfl, .nil _ _⟩
    · obtain ⟨cs0, hc0, hcl0, _⟩ := hps 0 _ (List.getElem?_eq_getElem (by omega))
      have hcell0 := hc0 0 hs0
      rw [List.getElem?_eq_getElem (by omega)] at hcell0
      simp only [Nat.zero_mul, Nat.zero_add] at hcell0
      obtain ⟨b, off, spot⟩ := y
      have hspot : spot = none := by simpa [Addr.add] using World.cell?_spot hcell0
      subst hspot
      have hadd : ∀ j : Nat, (⟨b, off, none⟩ : Addr).add j = ⟨b, off + j, none⟩ := fun j => by unfold Addr.add; split <;> simp_all
      have hblt : b < w.heap.size := by
        have := World.block_lt_of_cell? w _ hcell0
        rw [hadd] at this
        exact this
      obtain ⟨V, hV⟩ : ∃ V : Nat → Value, V = fun j => (w.cell? ⟨b, off + j, none⟩).getD undef := ⟨_, rfl⟩
      have hVc : ∀ i r, i < len → r < s → w.cell? ⟨b, off + (i * s + r), none⟩ = some (V (i * s + r)) := by
        intro i r hi hr
        obtain ⟨cs', h1, h2, _⟩ := hps i _ (List.getElem?_eq_getElem (by omega))
        have h3 := h1 r hr
        rw [hadd, List.getElem?_eq_getElem (by omega)] at h3
        rw [hV]
        simp only [h3, Option.getD_some]
      have hjr : ∀ j, j < s * len → j = j / s * s + j % s ∧ j / s < len ∧ j % s < s := fun j hj =>
        ⟨by rw [Nat.mul_comm]; exact (Nat.div_add_mod j s).symm, Nat.div_lt_of_lt_mul hj, Nat.mod_lt _ hs0⟩
      rw [← hpl] at hl ⊢
      refine ⟨some ⟨b, off, none⟩, cap, (List.range (s * len)).map V, rfl, hl, hm, .inr ⟨b, off, rfl, hblt, fun j hj => ?_⟩, by simp [hpl], fun i p hp => ?_⟩
      · simp at hj
        obtain ⟨h1, h2, h3⟩ := hjr j hj
        have h4 := hVc _ _ h2 h3
        rw [← h1] at h4
        rw [h4]
        simp [hj]
      · obtain ⟨cs', h1, h2, h3⟩ := hps i p hp
        have hi : i < len := by have := (List.getElem?_eq_some_iff.1 hp).1; omega
        have hb : s * i + s ≤ s * len := by rw [← Nat.mul_succ]; exact Nat.mul_le_mul_left _ hi
        have he : (((List.range (s * len)).map V).drop (s * i)).take s = cs' := by
          apply List.ext_getElem?
          intro r
          by_cases hr : r < s
          · have h4 := h1 r hr
            rw [hadd, hVc i r hi hr] at h4
            rw [← h4, List.getElem?_take, if_pos hr, List.getElem?_drop, Nat.mul_comm i s]
            simp [show s * i + r < s * len by omega]
          · rw [List.getElem?_eq_none (by simp; omega), List.getElem?_eq_none (by omega)]
        rw [he]
        exact h3
end Go.Proofs.Ytidedlbieakagaa
