/- PLAIN LAWS: points of a table. No program in sight. -/
import Derived.Test.YtidedlbieakagaaAnkrI
namespace Go.Proofs.Ytidedlbieakagaa
theorem lkGet_mem {ps : List Part} {id v : Int} (hw : PW ps) (h : lkGet ps id = some v) : (id, v) ∈ allOf ps := by
  unfold lkGet at h
  cases hf : ps.find? (fun p => decide (id ≤ p.last)) with
  | none => rw [hf] at h; cases h
  | some p =>
    rw [hf] at h
    simp only at h
    split at h
    · rename_i h1
      injection h with h
      have hm := List.mem_of_find?_eq_some hf
      have hl : id ≤ p.last := by simpa using List.find?_some hf
      have hp := hw.1 p hm
      refine List.mem_flatMap.2 ⟨p, hm, ?_⟩
      unfold partL partN
      refine List.mem_map.2 ⟨(id - p.first).toNat, by simp; omega, ?_⟩
      have e : p.first + ((id - p.first).toNat : Int) = id := by omega
      rw [e, h]
    · cases h
/-- Where a glyph's points are counted. -/
def okTab (x : List Part × List Int) : Bool := (allOf x.1).all fun y => okAt x.2 y.2
theorem ankrTake_ok {l : List Int} {g : Int} {x : List Part × List Int} (h : ankrTake l g = some x) : okTab x = true := by
  rw [ankrTake_head] at h
  cases hh : ankrHead l g with
  | none => rw [hh] at h; cases h
  | some y =>
    rw [hh] at h
    simp only [Option.bind_some] at h
    split at h
    · rename_i h1; injection h with h; subst h; exact h1
    · cases h
def ankrCount (x : List Part × List Int) (id : Int) : Int := match lkGet x.1 id with | some p => nv x.2 p 4 | none => 0
def ankrPt (data : List Int) (p i : Int) : Int × Int := (s16 (nv data (p + 4 + 4 * i) 2), s16 (nv data (p + 6 + 4 * i) 2))
def ankrGet (x : List Part × List Int) (id i : Int) : Option (Int × Int) :=
  match lkGet x.1 id with | some p => if 0 ≤ i ∧ i < nv x.2 p 4 then some (ankrPt x.2 p i) else none | none => none
theorem okAt_of {x : List Part × List Int} (ho : okTab x = true) (hw : PW x.1) {id p : Int} (h : lkGet x.1 id = some p) : okAt x.2 p = true :=
  List.all_eq_true.1 ho _ (lkGet_mem hw h)
theorem okAt_spec {data : List Int} {p : Int} (h : okAt data p = true) : u32 data p = some (nv data p 4) ∧ 0 ≤ nv data p 4 ∧ 0 ≤ p ∧ p + 4 + nv data p 4 * 4 ≤ data.length := by
  unfold okAt at h
  cases hu : u32 data p with
  | none => rw [hu] at h; cases h
  | some n =>
    rw [hu] at h
    have hn : n = nv data p 4 := by
      unfold u32 at hu
      split at hu
      · injection hu with hu; rw [← hu]; simp [nv]
      · cases hu
    have hp : 0 ≤ p := by
      unfold u32 at hu
      split at hu
      · rename_i h1; exact h1.1
      · cases hu
    obtain ⟨r, hr⟩ := Option.isSome_iff_exists.1 h
    obtain ⟨h1, h2, h3, h4, h5, h6⟩ := rows_some hr
    obtain ⟨h7, h8⟩ := pc_sub h6
    obtain ⟨g1, g2, g3, g4⟩ := h7
    subst hn
    exact ⟨rfl, h1, hp, by omega⟩
theorem i16_of {l : List Int} {p : Int} (h0 : 0 ≤ p) (h : p + 2 ≤ l.length) : i16 l p = some (s16 (nv l p 2)) := by
  have hp : pcOk l.length p 2 := ⟨h0, by omega, by omega, by omega⟩
  simp [i16, u16, hp, nv]
end Go.Proofs.Ytidedlbieakagaa
