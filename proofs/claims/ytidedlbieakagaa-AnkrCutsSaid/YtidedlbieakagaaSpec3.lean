/- PLAIN LAWS: the parts of a lookup are well formed. No program in sight. -/
import Derived.Test.YtidedlbieakagaaGet2
namespace Go.Proofs.Ytidedlbieakagaa
theorem mapO_mem {α β : Type} {f : α → Option β} {l : List α} {ys : List β} (h : mapO f l = some ys) {y : β} (hy : y ∈ ys) : ∃ x ∈ l, f x = some y := by
  induction l generalizing ys with
  | nil => simp [mapO] at h; subst h; simp at hy
  | cons z r ih =>
    simp only [mapO] at h
    cases hz : f z with
    | none => rw [hz] at h; cases h
    | some z' =>
      rw [hz] at h
      cases hr : mapO f r with
      | none => rw [hr] at h; cases h
      | some r' =>
        rw [hr] at h
        injection h with h
        subst h
        rcases List.mem_cons.1 hy with rfl | hy
        · exact ⟨z, List.mem_cons_self, hz⟩
        · obtain ⟨x, hx, hf⟩ := ih hr hy
          exact ⟨x, List.mem_cons_of_mem _ hx, hf⟩
theorem list_len {l : List Int} {p n size : Int} {vs : List Int} (h : list l p n size = some vs) : vs.length = n.toNat ∧ 0 ≤ n := by
  unfold list at h
  cases hr : rows l p n size with
  | none => rw [hr] at h; cases h
  | some r =>
    rw [hr] at h
    simp at h
    subst h
    exact ⟨by simp, (rows_some hr).1⟩
theorem seekTake_wf {l : List Int} {p need : Int} {keys : Nat} {rs : List (List Int)} (hw : Wf l) (h : seekTake l p need keys = some rs) : ∀ r ∈ rs, Wf r := by
  unfold seekTake at h
  cases h1 : u16 l p with
  | none => rw [h1] at h; cases h
  | some size =>
    cases h2 : u16 l (p + 2) with
    | none => rw [h1, h2] at h; cases h
    | some n =>
      rw [h1, h2] at h
      simp only at h
      split at h
      · cases hr : rows l (p + 10) n size with
        | none => rw [hr] at h; cases h
        | some r =>
          rw [hr] at h
          have hwr : Wf r := hw.pc (rows_some hr).2.2.2.2.2
          have hall : ∀ x ∈ (List.range n.toNat).map (fun (i : Nat) => sub r (size * i) size), Wf x := by
            intro x hx
            simp at hx
            obtain ⟨i, _, rfl⟩ := hx
            exact hwr.sub _ _
          injection h with h
          subst h
          intro x hx
          split at hx
          · exact hall x (List.dropLast_subset _ hx)
          · exact hall x hx
      · cases h
def PartOk (p : Part) : Prop := 0 ≤ p.first ∧ p.first ≤ p.last ∧ p.last ≤ 131072 ∧ 0 < p.values.length
theorem segment_ok {l row : List Int} {size : Int} {each : Bool} {p : Part} (hr : Wf row) (h : segment l row size each = some p) : PartOk p := by
  unfold segment at h
  cases h1 : u16 row 2 with
  | none => rw [h1] at h; cases h
  | some first =>
    cases h2 : u16 row 0 with
    | none => rw [h1, h2] at h; cases h
    | some last =>
      have := u16_lt hr h1
      have := u16_lt hr h2
      rw [h1, h2] at h
      simp only at h
      split at h
      · rename_i hle
        split at h
        · cases h3 : u16 row 4 with
          | none => rw [h3] at h; cases h
          | some q =>
            rw [h3] at h
            dsimp only at h
            cases hl : list l q (last - first + 1) size with
            | none => rw [hl] at h; cases h
            | some vs =>
              rw [hl] at h
              simp at h
              subst h
              have := list_len hl
              exact ⟨by simp; omega, by simp; omega, by simp; omega, by simp only; omega⟩
        · cases hl : num row 4 size with
          | none => rw [hl] at h; cases h
          | some v =>
            rw [hl] at h
            simp at h
            subst h
            exact ⟨by simp; omega, by simp; omega, by simp; omega, by simp⟩
      · cases h
theorem single1_ok {row : List Int} {size : Int} {p : Part} (hr : Wf row) (h : single1 row size = some p) : PartOk p := by
  unfold single1 at h
  cases h1 : u16 row 0 with
  | none => rw [h1] at h; cases h
  | some id =>
    cases h2 : num row 2 size with
    | none => rw [h1, h2] at h; cases h
    | some v =>
      have := u16_lt hr h1
      rw [h1, h2] at h
      simp at h
      subst h
      exact ⟨by simp; omega, by simp, by simp; omega, by simp⟩
theorem trimmed_ok {l : List Int} {q size : Int} {ps : List Part} (hr : Wf l) (h : trimmed l q size = some ps) : ∀ p ∈ ps, PartOk p := by
  unfold trimmed at h
  cases h1 : u16 l q with
  | none => rw [h1] at h; cases h
  | some first =>
    cases h2 : u16 l (q + 2) with
    | none => rw [h1, h2] at h; cases h
    | some n =>
      have := u16_lt hr h1
      have := u16_lt hr h2
      rw [h1, h2] at h
      simp only at h
      split at h
      · cases hl : list l (q + 4) n size with
        | none => rw [hl] at h; cases h
        | some vs =>
          rw [hl] at h
          injection h with h
          subst h
          have := list_len hl
          intro p hp
          split at hp
          · simp at hp
          · simp at hp
            subst hp
            exact ⟨by simp; omega, by simp; omega, by simp; omega, by simp only; omega⟩
      · cases h
theorem partsOf_ok {l : List Int} {glyphs size : Int} {ps : List Part} (hw : Wf l) (hg : 1 ≤ glyphs ∧ glyphs ≤ 65536) (h : partsOf l glyphs size = some ps) : ∀ p ∈ ps, PartOk p := by
  have hseg : ∀ each, segments l size each = some ps → ∀ p ∈ ps, PartOk p := by
    intro each h p hp
    unfold segments at h
    cases hs : seekTake l 2 (if each then 6 else 4 + size) 2 with
    | none => rw [hs] at h; cases h
    | some rs =>
      rw [hs] at h
      obtain ⟨row, hrow, hf⟩ := mapO_mem h hp
      exact segment_ok (seekTake_wf hw hs row hrow) hf
  have hsin : single l size = some ps → ∀ p ∈ ps, PartOk p := by
    intro h p hp
    unfold single at h
    cases hs : seekTake l 2 (2 + size) 1 with
    | none => rw [hs] at h; cases h
    | some rs =>
      rw [hs] at h
      obtain ⟨row, hrow, hf⟩ := mapO_mem h hp
      exact single1_ok (seekTake_wf hw hs row hrow) hf
  unfold partsOf at h
  cases h1 : u16 l 0 with
  | none => rw [h1] at h; cases h
  | some f =>
    rw [h1] at h
    simp only at h
    split at h
    · cases hl : list l 2 glyphs size with
      | none => rw [hl] at h; cases h
      | some vs =>
        rw [hl] at h
        simp at h
        subst h
        have := list_len hl
        intro p hp
        simp at hp
        subst hp
        exact ⟨by simp, by simp; omega, by simp; omega, by simp only; omega⟩
    · split at h
      · exact hseg _ h
      · split at h
        · exact hseg _ h
        · split at h
          · exact hsin h
          · split at h
            · exact trimmed_ok hw h
            · split at h
              · cases h2 : u16 l 2 with
                | none => rw [h2] at h; cases h
                | some unit =>
                  rw [h2] at h
                  simp only at h
                  split at h
                  · exact trimmed_ok hw h
                  · cases h
              · cases h
theorem partsOf_len {l : List Int} {glyphs size : Int} {ps : List Part} (hw : Wf l) (h : partsOf l glyphs size = some ps) : ps.length ≤ 65536 := by
  have hseg : ∀ each, segments l size each = some ps → ps.length ≤ 65536 := by
    intro each h
    unfold segments at h
    cases hs : seekTake l 2 (if each then 6 else 4 + size) 2 with
    | none => rw [hs] at h; cases h
    | some rs => rw [hs] at h; rw [mapO_len h]; exact seekTake_len hw hs
  have hsin : single l size = some ps → ps.length ≤ 65536 := by
    intro h
    unfold single at h
    cases hs : seekTake l 2 (2 + size) 1 with
    | none => rw [hs] at h; cases h
    | some rs => rw [hs] at h; rw [mapO_len h]; exact seekTake_len hw hs
  have htr : ∀ p s, trimmed l p s = some ps → ps.length ≤ 65536 := by
    intro p s h
    unfold trimmed at h
    split at h
    · split at h
      · split at h
        · injection h with h; subst h; split <;> simp
        · cases h
      · cases h
    · cases h
  unfold partsOf at h
  cases h1 : u16 l 0 with
  | none => rw [h1] at h; cases h
  | some f =>
    rw [h1] at h
    simp only at h
    split at h
    · cases hl : list l 2 glyphs size with
      | none => rw [hl] at h; cases h
      | some vs => rw [hl] at h; simp at h; subst h; simp
    · split at h
      · exact hseg _ h
      · split at h
        · exact hseg _ h
        · split at h
          · exact hsin h
          · split at h
            · exact htr _ _ h
            · split at h
              · cases h2 : u16 l 2 with
                | none => rw [h2] at h; cases h
                | some unit =>
                  rw [h2] at h
                  simp only at h
                  split at h
                  · exact htr _ _ h
                  · cases h
              · cases h
theorem lkTake_len {l : List Int} {glyphs size : Int} {ps : List Part} (hw : Wf l) (h : lkTake l glyphs size = some ps) : ps.length ≤ 65536 := by
  unfold lkTake at h
  cases hp : partsOf l glyphs size with
  | none => rw [hp] at h; cases h
  | some qs =>
    rw [hp] at h
    simp only at h
    split at h
    · injection h with h; subst h; exact partsOf_len hw hp
    · cases h
theorem lkTake_PW {l : List Int} {glyphs size : Int} {ps : List Part} (hw : Wf l) (hg : 1 ≤ glyphs ∧ glyphs ≤ 65536) (h : lkTake l glyphs size = some ps) : PW ps := by
  unfold lkTake at h
  cases hp : partsOf l glyphs size with
  | none => rw [hp] at h; cases h
  | some qs =>
    rw [hp] at h
    simp only at h
    split at h
    · rename_i hr
      injection h with h
      subst h
      exact ⟨partsOf_ok hw hg hp, hr⟩
    · cases h
end Go.Proofs.Ytidedlbieakagaa
