/- PLAIN DEFINITIONS, SECOND PART: lookups. No program in sight. -/
import Derived.Test.YtidedlbieakagaaSpec
namespace Go.Proofs.Ytidedlbieakagaa
/-- A number of so many bytes (1, 2, else 4). -/
def num (l : List Int) (p size : Int) : Option Int := if size = 1 then u8 l p else if size = 2 then u16 l p else u32 l p
/-- Its value, where it is there. -/
def nv (l : List Int) (p size : Int) : Int := if size = 1 then B l p else if size = 2 then 256 * B l p + B l (p + 1) else 16777216 * B l p + 65536 * B l (p + 1) + 256 * B l (p + 2) + B l (p + 3)
theorem num_eq {l : List Int} {p size : Int} (hs : size = 1 ∨ size = 2 ∨ size = 4) (h : pcOk l.length p size) : num l p size = some (nv l p size) := by
  rcases hs with rfl | rfl | rfl <;> simp [num, nv, u8, u16, u32, h]
/-- So many numbers of so many bytes. -/
def list (l : List Int) (p n size : Int) : Option (List Int) := (rows l p n size).map fun r => (List.range n.toNat).map fun (i : Nat) => nv r (size * i) size
theorem rows_some {l r : List Int} {p n size : Int} (h : rows l p n size = some r) : 0 ≤ n ∧ 0 ≤ size ∧ (size = 0 ∨ n ≤ l.length / size) ∧ r.length = (n * size).toNat ∧ r.length ≤ l.length ∧ pc l p (n * size) = some r := by
  unfold rows at h; split at h
  · rename_i ho
    obtain ⟨h1, h2, h3⟩ := pc_length h
    exact ⟨ho.1, ho.2.1, ho.2.2, h1, h3, h⟩
  · cases h
theorem pc_none {l : List Int} {p n : Int} (h : pc l p n = none) : ¬ pcOk l.length p n := by
  unfold pc at h; split at h
  · cases h
  · assumption
theorem pc_sub {l m : List Int} {p n : Int} (h : pc l p n = some m) : pcOk l.length p n ∧ m = sub l p n := by
  unfold pc at h; split at h
  · rename_i ho; cases h; exact ⟨ho, rfl⟩
  · cases h
/-- Do so many words of two bytes all read 0xFFFF? -/
def noneB (l : List Int) (keys : Nat) : Bool := (List.range keys).all fun (i : Nat) => nv l (2 * i) 2 == 65535
theorem noneB_true {l : List Int} {keys : Nat} (h : ∀ i : Nat, i < keys → nv l (2 * i) 2 = 65535) : noneB l keys = true := by
  simp only [noneB, List.all_eq_true, List.mem_range, beq_iff_eq]; exact h
theorem noneB_false {l : List Int} {keys : Nat} (i : Nat) (h : i < keys) (hn : nv l (2 * i) 2 ≠ 65535) : noneB l keys = false := by
  rw [Bool.eq_false_iff]
  simp only [noneB, ne_eq, List.all_eq_true, List.mem_range, beq_iff_eq]
  exact fun hh => hn (hh i h)
/-- The rows behind a header. -/
def seekTake (l : List Int) (p need : Int) (keys : Nat) : Option (List (List Int)) :=
  match u16 l p, u16 l (p + 2) with
  | some size, some n =>
    if pcOk l.length p 10 ∧ need ≤ size then
      match rows l (p + 10) n size with
      | some r =>
        let out := (List.range n.toNat).map fun (i : Nat) => sub r (size * i) size
        some (if 0 < n ∧ noneB (sub r (size * (n - 1)) size) keys = true then out.dropLast else out)
      | none => none
    else none
  | _, _ => none
/-- Glyphs in a row, and their numbers. -/
structure Part where
  first : Int
  last : Int
  values : List Int
/-- Numbers of some glyphs in a row. -/
def trimmed (l : List Int) (p size : Int) : Option (List Part) :=
  match u16 l p, u16 l (p + 2) with
  | some first, some n =>
    if first + n ≤ 65536 then
      match list l (p + 4) n size with
      | some vs => some (if n = 0 then [] else [⟨first, first + n - 1, vs⟩])
      | none => none
    else none
  | _, _ => none
/-- All of a list, or none. -/
def mapO {α β : Type} (f : α → Option β) : List α → Option (List β)
  | [] => some []
  | x :: r => match f x, mapO f r with | some y, some ys => some (y :: ys) | _, _ => none
theorem mapO_none {α β : Type} {f : α → Option β} {l : List α} {i : Nat} {x : α} (h : l[i]? = some x) (hf : f x = none) : mapO f l = none := by
  induction l generalizing i with
  | nil => simp at h
  | cons y r ih =>
    cases i with
    | zero => simp at h; subst h; simp [mapO, hf]
    | succ i =>
      have := ih (i := i) (by simpa using h)
      simp only [mapO, this]
      cases f y <;> rfl
theorem mapO_snoc {α β : Type} {f : α → Option β} {l : List α} {ys : List β} {x : α} {y : β} (h : mapO f l = some ys) (hx : f x = some y) : mapO f (l ++ [x]) = some (ys ++ [y]) := by
  induction l generalizing ys with
  | nil => simp [mapO] at h; subst h; simp [mapO, hx]
  | cons z r ih =>
    simp only [mapO] at h
    cases hz : f z with
    | none => rw [hz] at h; cases h
    | some z' =>
      rw [hz] at h
      cases hr : mapO f r with
      | none => rw [hr] at h; cases h
      | some r' =>
        rw [hr] at h
        injection h with h
        subst h
        simp [mapO, hz, ih hr]
theorem mapO_len {α β : Type} {f : α → Option β} {l : List α} {ys : List β} (h : mapO f l = some ys) : ys.length = l.length := by
  induction l generalizing ys with
  | nil => simp [mapO] at h; subst h; rfl
  | cons z r ih =>
    simp only [mapO] at h
    cases hz : f z with
    | none => rw [hz] at h; cases h
    | some z' =>
      rw [hz] at h
      cases hr : mapO f r with
      | none => rw [hr] at h; cases h
      | some r' => rw [hr] at h; injection h with h; subst h; simp [ih hr]
/-- One segment. -/
def segment (l row : List Int) (size : Int) (each : Bool) : Option Part :=
  match u16 row 2, u16 row 0 with
  | some first, some last =>
    if first ≤ last then
      if each then
        match u16 row 4 with
        | some p => (list l p (last - first + 1) size).map fun vs => ⟨first, last, vs⟩
        | none => none
      else (num row 4 size).map fun v => ⟨first, last, [v]⟩
    else none
  | _, _ => none
def segments (l : List Int) (size : Int) (each : Bool) : Option (List Part) :=
  match seekTake l 2 (if each then 6 else 4 + size) 2 with
  | some rs => mapO (fun row => segment l row size each) rs
  | none => none
def single1 (row : List Int) (size : Int) : Option Part :=
  match u16 row 0, num row 2 size with
  | some id, some v => some ⟨id, id, [v]⟩
  | _, _ => none
def single (l : List Int) (size : Int) : Option (List Part) :=
  match seekTake l 2 (2 + size) 1 with
  | some rs => mapO (fun row => single1 row size) rs
  | none => none
/-- Do the parts rise? -/
def risen : List Part → Bool
  | p :: q :: r => decide (p.last < q.first) && risen (q :: r)
  | _ => true
def partsOf (l : List Int) (glyphs size : Int) : Option (List Part) :=
  match u16 l 0 with
  | some f =>
    if f = 0 then (list l 2 glyphs size).map fun vs => [⟨0, glyphs - 1, vs⟩]
    else if f = 2 then segments l size false
    else if f = 4 then segments l size true
    else if f = 6 then single l size
    else if f = 8 then trimmed l 2 size
    else if f = 10 then
      match u16 l 2 with
      | some unit => if unit = 1 ∨ unit = 2 ∨ unit = 4 then trimmed l 4 unit else none
      | none => none
    else none
  | none => none
/-- The table that bytes begin with. -/
def lkTake (l : List Int) (glyphs size : Int) : Option (List Part) :=
  match partsOf l glyphs size with
  | some ps => if risen ps then some ps else none
  | none => none
end Go.Proofs.Ytidedlbieakagaa
