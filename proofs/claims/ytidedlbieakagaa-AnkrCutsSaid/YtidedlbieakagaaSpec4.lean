/- PLAIN LAWS: the bounds of a lookup's numbers. No program in sight. -/
import Derived.Test.YtidedlbieakagaaSpec3
import Derived.Test.YtidedlbieakagaaAll
namespace Go.Proofs.Ytidedlbieakagaa
def VB (v : Int) : Prop := 0 ≤ v ∧ v ≤ 4294967295
theorem nv_VB {l : List Int} (hw : Wf l) (p size : Int) : VB (nv l p size) := by
  unfold nv VB
  have h0 := hw.B p
  have h1 := hw.B (p + 1)
  have h2 := hw.B (p + 2)
  have h3 := hw.B (p + 3)
  split
  · omega
  · split <;> omega
theorem num_VB {l : List Int} (hw : Wf l) {p size v : Int} (h : num l p size = some v) : VB v := by
  have h0 := hw.B p
  have h1 := hw.B (p + 1)
  have h2 := hw.B (p + 2)
  have h3 := hw.B (p + 3)
  unfold num u8 u16 u32 at h
  unfold VB
  split at h
  · split at h
    · cases h; omega
    · cases h
  · split at h
    · split at h
      · cases h; omega
      · cases h
    · split at h
      · cases h; omega
      · cases h
theorem list_VB {l : List Int} (hw : Wf l) {p n size : Int} {vs : List Int} (h : list l p n size = some vs) : ∀ v ∈ vs, VB v := by
  unfold list at h
  cases hr : rows l p n size with
  | none => rw [hr] at h; cases h
  | some r =>
    rw [hr] at h
    have hwr : Wf r := hw.pc (rows_some hr).2.2.2.2.2
    simp at h
    subst h
    intro v hv
    simp at hv
    obtain ⟨i, _, rfl⟩ := hv
    exact nv_VB hwr _ _
def PV (p : Part) : Prop := ∀ v ∈ p.values, VB v
theorem segment_pv {l row : List Int} {size : Int} {each : Bool} {p : Part} (hl : Wf l) (hr : Wf row) (h : segment l row size each = some p) : PV p := by
  unfold segment at h
  cases h1 : u16 row 2 with
  | none => rw [h1] at h; cases h
  | some first =>
    cases h2 : u16 row 0 with
    | none => rw [h1, h2] at h; cases h
    | some last =>
      rw [h1, h2] at h
      simp only at h
      split at h
      · split at h
        · cases h3 : u16 row 4 with
          | none => rw [h3] at h; cases h
          | some q =>
            rw [h3] at h
            dsimp only at h
            cases hq : list l q (last - first + 1) size with
            | none => rw [hq] at h; cases h
            | some vs =>
              rw [hq] at h
              simp at h
              subst h
              exact list_VB hl hq
        · cases hq : num row 4 size with
          | none => rw [hq] at h; cases h
          | some v =>
            rw [hq] at h
            simp at h
            subst h
            intro x hx
            simp at hx
            subst hx
            exact num_VB hr hq
      · cases h
theorem single1_pv {row : List Int} {size : Int} {p : Part} (hr : Wf row) (h : single1 row size = some p) : PV p := by
  unfold single1 at h
  cases h1 : u16 row 0 with
  | none => rw [h1] at h; cases h
  | some id =>
    cases h2 : num row 2 size with
    | none => rw [h1, h2] at h; cases h
    | some v =>
      rw [h1, h2] at h
      simp at h
      subst h
      intro x hx
      simp at hx
      subst hx
      exact num_VB hr h2
theorem trimmed_pv {l : List Int} {q size : Int} {ps : List Part} (hr : Wf l) (h : trimmed l q size = some ps) : ∀ p ∈ ps, PV p := by
  unfold trimmed at h
  cases h1 : u16 l q with
  | none => rw [h1] at h; cases h
  | some first =>
    cases h2 : u16 l (q + 2) with
    | none => rw [h1, h2] at h; cases h
    | some n =>
      rw [h1, h2] at h
      simp only at h
      split at h
      · cases hl : list l (q + 4) n size with
        | none => rw [hl] at h; cases h
        | some vs =>
          rw [hl] at h
          injection h with h
          subst h
          intro p hp
          split at hp
          · simp at hp
          · simp at hp
            subst hp
            exact list_VB hr hl
      · cases h
theorem lkTake_PV {l : List Int} {glyphs size : Int} {ps : List Part} (hw : Wf l) (h : lkTake l glyphs size = some ps) : ∀ p ∈ ps, PV p := by
  have hseg : ∀ each, segments l size each = some ps → ∀ p ∈ ps, PV p := by
    intro each h p hp
    unfold segments at h
    cases hs : seekTake l 2 (if each then 6 else 4 + size) 2 with
    | none => rw [hs] at h; cases h
    | some rs =>
      rw [hs] at h
      obtain ⟨row, hrow, hf⟩ := mapO_mem h hp
      exact segment_pv hw (seekTake_wf hw hs row hrow) hf
  have hsin : single l size = some ps → ∀ p ∈ ps, PV p := by
    intro h p hp
    unfold single at h
    cases hs : seekTake l 2 (2 + size) 1 with
    | none => rw [hs] at h; cases h
    | some rs =>
      rw [hs] at h
      obtain ⟨row, hrow, hf⟩ := mapO_mem h hp
      exact single1_pv (seekTake_wf hw hs row hrow) hf
  unfold lkTake at h
  cases hp : partsOf l glyphs size with
  | none => rw [hp] at h; cases h
  | some qs =>
    rw [hp] at h
    simp only at h
    split at h
    · injection h with h
      subst h
      rename_i hr
      clear hr
      unfold partsOf at hp
      cases h1 : u16 l 0 with
      | none => rw [h1] at hp; cases hp
      | some f =>
        rw [h1] at hp
        simp only at hp
        split at hp
        · cases hl : list l 2 glyphs size with
          | none => rw [hl] at hp; cases hp
          | some vs =>
            rw [hl] at hp
            simp at hp
            subst hp
            intro p hq
            simp at hq
            subst hq
            exact list_VB hw hl
        · split at hp
          · exact hseg _ hp
          · split at hp
            · exact hseg _ hp
            · split at hp
              · exact hsin hp
              · split at hp
                · exact trimmed_pv hw hp
                · split at hp
                  · cases h2 : u16 l 2 with
                    | none => rw [h2] at hp; cases hp
                    | some unit =>
                      rw [h2] at hp
                      simp only at hp
                      split at hp
                      · exact trimmed_pv hw hp
                      · cases hp
                  · cases hp
    · cases h
theorem atV_VB {p : Part} (h : PV p) (id : Int) : VB (atV p id) := by
  unfold atV
  rw [List.getD_eq_getElem?_getD]
  cases hv : p.values[(min (id - p.first) ((p.values.length : Int) - 1)).toNat]? with
  | none => simp [VB]
  | some v => simp; exact h v (List.mem_of_getElem? hv)
theorem allOf_VB {ps : List Part} (h : ∀ p ∈ ps, PV p) {i : Nat} {x : Int × Int} (hx : (allOf ps)[i]? = some x) : VB x.2 := by
  have hm := List.mem_of_getElem? hx
  unfold allOf at hm
  obtain ⟨p, hp, hq⟩ := List.mem_flatMap.1 hm
  unfold partL at hq
  simp at hq
  obtain ⟨j, _, rfl⟩ := hq
  exact atV_VB (h p hp) _
theorem allOf_len {ps : List Part} (h : PW ps) : (allOf ps).length ≤ ps.length * 131073 := by
  have h1 : ∀ qs : List Part, (∀ p ∈ qs, p ∈ ps) → (allOf qs).length ≤ qs.length * 131073 := by
    intro qs
    induction qs with
    | nil => intro _; simp [allOf]
    | cons q r ih =>
      intro hq
      have h2 := ih fun p hp => hq p (List.mem_cons_of_mem _ hp)
      have h3 := h.1 q (hq q List.mem_cons_self)
      have h4 : partN q ≤ 131073 := by unfold partN; omega
      have h5 : allOf (q :: r) = partL q ++ allOf r := by simp [allOf]
      rw [h5, List.length_append, partL_len, List.length_cons]
      omega
  exact h1 ps fun _ h => h
end Go.Proofs.Ytidedlbieakagaa
