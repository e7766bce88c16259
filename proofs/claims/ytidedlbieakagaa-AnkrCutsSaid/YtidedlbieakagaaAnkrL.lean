/- PLAIN LAWS: a table of points that was written is read as it was written; one that lacks its end is none. -/
import Derived.Test.YtidedlbieakagaaAnkrS0
namespace Go.Proofs.Ytidedlbieakagaa
theorem getD_app (A X : List Int) (j : Nat) : (A ++ X).getD (A.length + j) 0 = X.getD j 0 := by
  simp [List.getD, List.getElem?_append_right]
theorem B_app (A X : List Int) (p : Int) (j : Nat) (hp : p = (A.length : Int) + j) : B (A ++ X) p = X.getD j 0 := by
  subst hp
  unfold B
  rw [show ((A.length : Int) + (j : Int)).toNat = A.length + j by omega, getD_app]
theorem be2 (n : Int) : be n 2 = [n / 256 % 256, n % 256] := by simp [be, dv]
theorem be4 (n : Int) : be n 4 = [n / 16777216 % 256, n / 65536 % 256, n / 256 % 256, n % 256] := by simp [be, dv]
theorem u16_be (A C : List Int) (n p : Int) (h0 : 0 ≤ n) (hp : p = A.length) : u16 (A ++ (be n 2 ++ C)) p = some (n % 65536) := by
  have hok : pcOk (A ++ (be n 2 ++ C)).length p 2 := by
    refine ⟨by omega, by omega, ?_, ?_⟩ <;> simp [be_len] <;> omega
  have h1 := B_app A (be n 2 ++ C) p 0 (by omega)
  have h2 := B_app A (be n 2 ++ C) (p + 1) 1 (by omega)
  rw [be2] at h1 h2 hok ⊢
  simp at h1 h2
  rw [u16, if_pos hok]
  simp only [List.cons_append, List.nil_append, Option.some.injEq] at *
  rw [h1, h2]
  omega
theorem u32_be (A C : List Int) (n p : Int) (h0 : 0 ≤ n) (hp : p = A.length) : u32 (A ++ (be n 4 ++ C)) p = some (n % 4294967296) := by
  have hok : pcOk (A ++ (be n 4 ++ C)).length p 4 := by
    refine ⟨by omega, by omega, ?_, ?_⟩ <;> simp [be_len] <;> omega
  have h1 := B_app A (be n 4 ++ C) p 0 (by omega)
  have h2 := B_app A (be n 4 ++ C) (p + 1) 1 (by omega)
  have h3 := B_app A (be n 4 ++ C) (p + 2) 2 (by omega)
  have h4 := B_app A (be n 4 ++ C) (p + 3) 3 (by omega)
  rw [be4] at h1 h2 h3 h4 hok ⊢
  simp at h1 h2 h3 h4
  rw [u32, if_pos hok]
  simp only [List.cons_append, List.nil_append, Option.some.injEq] at *
  rw [h1, h2, h3, h4]
  omega
/-- Reading a beginning is reading the whole. -/
theorem pcOk_take {l : List Int} {m : Nat} {p n : Int} (h : pcOk (l.take m).length p n) : pcOk l.length p n ∧ (p + n ≤ m) := by
  obtain ⟨h1, h2, h3, h4⟩ := h
  simp at h3 h4
  refine ⟨⟨h1, h2, by omega, by omega⟩, by omega⟩
theorem B_take {l : List Int} {m : Nat} {p : Int} (h : p < m) (h0 : 0 ≤ p) : B (l.take m) p = B l p := by
  unfold B
  simp [List.getD, List.getElem?_take]
  rw [if_pos (by omega)]
theorem u16_take {l : List Int} {m : Nat} {p x : Int} (h : u16 (l.take m) p = some x) : u16 l p = some x ∧ 0 ≤ p ∧ p + 2 ≤ m ∧ p + 2 ≤ (l.take m).length := by
  unfold u16 at h ⊢
  split at h
  · rename_i ho
    obtain ⟨h1, h2⟩ := pcOk_take ho
    have h0 := h1.1
    rw [if_pos h1, ← h, B_take (by omega) (by omega), B_take (by omega) (by omega)]
    exact ⟨rfl, h0, by omega, by have := ho.2.2.2; omega⟩
  · cases h
theorem u32_take {l : List Int} {m : Nat} {p x : Int} (h : u32 (l.take m) p = some x) : u32 l p = some x ∧ 0 ≤ p ∧ p + 4 ≤ m ∧ p + 4 ≤ (l.take m).length := by
  unfold u32 at h ⊢
  split at h
  · rename_i ho
    obtain ⟨h1, h2⟩ := pcOk_take ho
    have h0 := h1.1
    rw [if_pos h1, ← h, B_take (by omega) (by omega), B_take (by omega) (by omega), B_take (by omega) (by omega), B_take (by omega) (by omega)]
    exact ⟨rfl, h0, by omega, by have := ho.2.2.2; omega⟩
  · cases h
theorem rest_eq {l : List Int} {p : Int} (h0 : 0 ≤ p) (h1 : p ≤ l.length) : rest l p = some (l.drop p.toNat) := by
  unfold rest pc
  rw [if_pos ⟨by omega, by omega, by omega, by omega⟩]
  unfold sub
  rw [List.take_of_length_le]
  simp; omega
theorem rest_spec {l m : List Int} {p : Int} (h : rest l p = some m) : 0 ≤ p ∧ p ≤ l.length ∧ m = l.drop p.toNat := by
  unfold rest at h
  obtain ⟨h1, h2⟩ := pc_sub h
  obtain ⟨g1, g2, g3, g4⟩ := h1
  refine ⟨g1, g3, ?_⟩
  rw [h2]
  unfold sub
  rw [List.take_of_length_le]
  simp; omega
theorem sub_take {l : List Int} {m : Nat} {p n : Int} (h0 : 0 ≤ p) (h1 : 0 ≤ n) (h : p + n ≤ m) : sub (l.take m) p n = sub l p n := by
  unfold sub
  rw [List.drop_take, List.take_take, Nat.min_eq_left (by omega)]
theorem rows_take {l r : List Int} {m : Nat} {p n size : Int} (h : rows (l.take m) p n size = some r) : rows l p n size = some r := by
  obtain ⟨h1, h2, h3, h4, h5, h6⟩ := rows_some h
  obtain ⟨h7, h8⟩ := pc_sub h6
  obtain ⟨h9, h10⟩ := pcOk_take h7
  unfold rows
  have hle : ((l.take m).length : Int) ≤ l.length := by simp; omega
  rw [if_pos]
  · unfold pc
    rw [if_pos h9, h8, sub_take h9.1 h9.2.1 h10]
  · refine ⟨h1, h2, ?_⟩
    rcases Int.lt_or_eq_of_le h2 with g | g
    · exact h3.imp id fun h => Int.le_trans h (Int.ediv_le_ediv g hle)
    · exact .inl g.symm
theorem list_take {l vs : List Int} {m : Nat} {p n size : Int} (h : list (l.take m) p n size = some vs) : list l p n size = some vs := by
  unfold list at h ⊢
  cases hr : rows (l.take m) p n size with
  | none => rw [hr] at h; cases h
  | some r => rw [hr] at h; rw [rows_take hr]; exact h
theorem trimmed_take {l : List Int} {m : Nat} {p size : Int} {ps : List Part} (h : trimmed (l.take m) p size = some ps) : trimmed l p size = some ps := by
  unfold trimmed at h ⊢
  cases h1 : u16 (l.take m) p with
  | none => rw [h1] at h; cases h
  | some first =>
    cases h2 : u16 (l.take m) (p + 2) with
    | none => rw [h1, h2] at h; cases h
    | some n =>
      rw [h1, h2] at h
      rw [(u16_take h1).1, (u16_take h2).1]
      simp only at h ⊢
      split at h
      · rename_i h3
        rw [if_pos h3]
        cases h4 : list (l.take m) (p + 4) n size with
        | none => rw [h4] at h; cases h
        | some vs => rw [h4] at h; rw [list_take h4]; exact h
      · cases h
/-- Numbers of two bytes, in a row. -/
def row2 (f : Nat → Int) (n : Nat) : List Int := (List.range n).flatMap fun i => be (f i) 2
theorem row2_succ (f : Nat → Int) (n : Nat) : row2 f (n + 1) = row2 f n ++ be (f n) 2 := by
  unfold row2
  rw [List.range_succ, List.flatMap_append]
  simp
theorem row2_len (f : Nat → Int) (n : Nat) : (row2 f n).length = 2 * n := by
  induction n with
  | zero => rfl
  | succ n ih => rw [row2_succ, List.length_append, ih, be_len]; omega
theorem row2_at (f : Nat → Int) (h : ∀ i, 0 ≤ f i) (n i : Nat) (hi : i < n) : nv (row2 f n) (2 * (i : Int)) 2 = f i % 65536 := by
  induction n with
  | zero => omega
  | succ n ih =>
    rw [row2_succ]
    have hl := row2_len f n
    by_cases hin : i = n
    · subst hin
      have h1 := B_app (row2 f i) (be (f i) 2) (2 * (i : Int)) 0 (by omega)
      have h2 := B_app (row2 f i) (be (f i) 2) (2 * (i : Int) + 1) 1 (by omega)
      simp only [nv]
      rw [if_neg (by omega), if_pos trivial, h1, h2, be2]
      have := h i
      simp
      omega
    · have hx := ih (by omega)
      rw [← hx]
      have hb : ∀ j : Int, 0 ≤ j → j < 2 * n → B (row2 f n ++ be (f n) 2) j = B (row2 f n) j := by
        intro j h0 h1
        unfold B
        rw [List.getD_eq_getElem?_getD, List.getD_eq_getElem?_getD, List.getElem?_append_left (by omega)]
      simp only [nv]
      rw [if_neg (by omega), if_pos trivial, if_neg (by omega), if_pos trivial, hb _ (by omega) (by omega), hb _ (by omega) (by omega)]
def offs (ls : List (List (Int × Int))) (i : Nat) : Int := ((dataB (ls.take i)).length : Int)
def wparts (ls : List (List (Int × Int))) : List Part := if (ls.length : Int) = 0 then [] else [⟨0, 0 + (ls.length : Int) - 1, (List.range ls.length).map fun i => offs ls i % 65536⟩]
theorem offB_eq (ls : List (List (Int × Int))) (k : Nat) : offB ls k = be 8 2 ++ be 0 2 ++ be ls.length 2 ++ row2 (offs ls) k := rfl
theorem tr_write (ls : List (List (Int × Int))) (D : List Int) (h : ls.length ≤ 30) : u16 (offB ls ls.length ++ D) 0 = some 8 ∧ trimmed (offB ls ls.length ++ D) 2 2 = some (wparts ls) := by
  have hof := offB_len ls ls.length
  have hrl := row2_len (offs ls) ls.length
  have e0 : offB ls ls.length ++ D = [] ++ (be 8 2 ++ (be 0 2 ++ be ls.length 2 ++ row2 (offs ls) ls.length ++ D)) := by rw [offB_eq]; simp
  have e1 : offB ls ls.length ++ D = be 8 2 ++ (be 0 2 ++ (be ls.length 2 ++ row2 (offs ls) ls.length ++ D)) := by rw [offB_eq]; simp
  have e2 : offB ls ls.length ++ D = (be 8 2 ++ be 0 2) ++ (be ls.length 2 ++ (row2 (offs ls) ls.length ++ D)) := by rw [offB_eq]; simp
  have e3 : offB ls ls.length ++ D = (be 8 2 ++ be 0 2 ++ be ls.length 2) ++ (row2 (offs ls) ls.length ++ D) := by rw [offB_eq]; simp
  have u0 : u16 (offB ls ls.length ++ D) 0 = some 8 := by rw [e0]; exact u16_be [] _ 8 0 (by omega) rfl
  have u1 : u16 (offB ls ls.length ++ D) 2 = some 0 := by rw [e1]; exact u16_be _ _ 0 2 (by omega) (by simp [be_len])
  have u2 : u16 (offB ls ls.length ++ D) (2 + 2) = some (ls.length : Int) := by
    rw [e2]
    have := u16_be (be 8 2 ++ be 0 2) (row2 (offs ls) ls.length ++ D) ls.length (2 + 2) (by omega) (by simp [be_len])
    rw [this, Int.emod_eq_of_lt (by omega) (by omega)]
  have hll : (offB ls ls.length ++ D).length = 6 + 2 * ls.length + D.length := by rw [List.length_append, hof]
  have hrows : rows (offB ls ls.length ++ D) (2 + 4) ls.length 2 = some (row2 (offs ls) ls.length) := by
    unfold rows
    rw [if_pos ⟨by omega, by omega, .inr (by rw [hll]; omega)⟩]
    unfold pc
    rw [if_pos ⟨by omega, by omega, by rw [hll]; omega, by rw [hll]; omega⟩]
    unfold sub
    rw [e3, show ((2 : Int) + 4).toNat = (be 8 2 ++ be 0 2 ++ be (ls.length : Int) 2).length by simp [be_len], List.drop_left,
      show ((ls.length : Int) * 2).toNat = (row2 (offs ls) ls.length).length by rw [hrl]; omega, List.take_left]
  have hlist : list (offB ls ls.length ++ D) (2 + 4) ls.length 2 = some ((List.range ls.length).map fun i => offs ls i % 65536) := by
    unfold list
    rw [hrows]
    simp only [Option.map_some, Int.toNat_natCast, Option.some.injEq]
    refine List.map_congr_left fun i hi => ?_
    exact row2_at _ (fun i => by unfold offs; omega) _ _ (List.mem_range.1 hi)
  have htr : trimmed (offB ls ls.length ++ D) 2 2 = some (wparts ls) := by
    unfold trimmed
    rw [u1, u2]
    simp only
    rw [if_pos (by omega), hlist]
    rfl
  exact ⟨u0, htr⟩
theorem lk_write (ls : List (List (Int × Int))) (D : List Int) (h : ls.length ≤ 30) : lkTake (offB ls ls.length ++ D) 60 2 = some (wparts ls) := by
  obtain ⟨u0, htr⟩ := tr_write ls D h
  unfold lkTake
  have hpo : partsOf (offB ls ls.length ++ D) 60 2 = some (wparts ls) := by
    unfold partsOf
    rw [u0]
    simp only
    rw [if_neg (by omega), if_neg (by omega), if_neg (by omega), if_neg (by omega), if_pos trivial]
    exact htr
  rw [hpo]
  simp only
  rw [if_pos]
  unfold wparts
  split <;> rfl
theorem data_split {ls : List (List (Int × Int))} {i : Nat} {l : List (Int × Int)} (h : ls[i]? = some l) : dataB ls = dataB (ls.take i) ++ (be l.length 4 ++ (l.flatMap ptB ++ dataB (ls.drop (i + 1)))) := by
  have h1 : dataB ls = dataB (ls.take (i + 1)) ++ dataB (ls.drop (i + 1)) := by
    unfold dataB
    rw [← List.flatMap_append, List.take_append_drop]
  rw [h1, dataB_succ h]
  simp
theorem dataB_le {ls : List (List (Int × Int))} (h : ∀ l ∈ ls, l.length ≤ 30) : (dataB ls).length ≤ 124 * ls.length := by
  induction ls with
  | nil => simp [dataB]
  | cons l r ih =>
    have h1 := ih fun x hx => h x (List.mem_cons_of_mem _ hx)
    have h2 := h l List.mem_cons_self
    have h3 : dataB (l :: r) = ptsB l ++ dataB r := by simp [dataB]
    rw [h3, List.length_append, ptsB, List.length_append, be_len, pts_len, List.length_cons]
    omega
def Small (ls : List (List (Int × Int))) : Prop := ls.length ≤ 30 ∧ ∀ l ∈ ls, l.length ≤ 30
theorem Small.data {ls : List (List (Int × Int))} (h : Small ls) : (dataB ls).length ≤ 3720 := by have := dataB_le h.2; have := h.1; omega
theorem off_bd {ls : List (List (Int × Int))} {i : Nat} {l : List (Int × Int)} (h : ls[i]? = some l) : 0 ≤ offs ls i ∧ offs ls i + 4 + 4 * l.length + (dataB (ls.drop (i + 1))).length = (dataB ls).length := by
  have h1 := data_split h
  refine ⟨by unfold offs; omega, ?_⟩
  rw [h1]
  simp only [List.length_append, be_len, pts_len, offs]
  omega
theorem u32_nv {l : List Int} {p x : Int} (h : u32 l p = some x) : nv l p 4 = x := by
  unfold u32 at h
  split at h
  · cases h; rfl
  · cases h
theorem cnt_at {ls : List (List (Int × Int))} {i : Nat} {l : List (Int × Int)} (h : ls[i]? = some l) (hl : l.length ≤ 30) : u32 (dataB ls) (offs ls i) = some (l.length : Int) := by
  rw [data_split h, u32_be _ _ _ (offs ls i) (by omega) rfl, Int.emod_eq_of_lt (by omega) (by omega)]
theorem okAt_write {ls : List (List (Int × Int))} {i : Nat} {l : List (Int × Int)} (h : ls[i]? = some l) (hl : l.length ≤ 30) : okAt (dataB ls) (offs ls i) = true := by
  have hb := off_bd h
  unfold okAt
  rw [cnt_at h hl]
  simp only
  unfold rows
  rw [if_pos ⟨by omega, by omega, .inr (by omega)⟩]
  unfold pc
  rw [if_pos ⟨by omega, by omega, by omega, by omega⟩]
  rfl
theorem off_mod {ls : List (List (Int × Int))} (hs : Small ls) {i : Nat} {l : List (Int × Int)} (h : ls[i]? = some l) : offs ls i % 65536 = offs ls i := by
  have hb := off_bd h
  have := hs.data
  exact Int.emod_eq_of_lt hb.1 (by omega)
theorem wparts_at {ls : List (List (Int × Int))} {i : Nat} (h : i < ls.length) : atV ⟨0, 0 + (ls.length : Int) - 1, (List.range ls.length).map fun i => offs ls i % 65536⟩ (i : Int) = offs ls i % 65536 := by
  unfold atV
  simp only [List.length_map, List.length_range]
  rw [show (min ((i : Int) - 0) ((ls.length : Int) - 1)).toNat = i by omega]
  simp [List.getD, h]
theorem okTab_write {ls : List (List (Int × Int))} (hs : Small ls) : okTab (wparts ls, dataB ls) = true := by
  unfold okTab
  rw [List.all_eq_true]
  intro x hx
  unfold wparts at hx
  split at hx
  · simp [allOf] at hx
  · simp only [allOf, List.flatMap_cons, List.flatMap_nil, List.append_nil, partL, partN, List.mem_map, List.mem_range] at hx
    obtain ⟨i, hi, rfl⟩ := hx
    have hi' : i < ls.length := by omega
    have hg : ls[i]? = some ls[i] := List.getElem?_eq_getElem hi'
    simp only
    rw [show (0 : Int) + (i : Int) = (i : Int) by omega, wparts_at hi', off_mod hs hg]
    exact okAt_write hg (hs.2 _ (List.mem_of_getElem? hg))
theorem heads_write {ls : List (List (Int × Int))} (hs : Small ls) : (writeA ls).length = 12 + (offB ls ls.length).length + (dataB ls).length ∧ u16 (writeA ls) 0 = some 0 ∧ u32 (writeA ls) 4 = some 12 ∧ u32 (writeA ls) 8 = some (12 + ((offB ls ls.length).length : Int)) ∧ (writeA ls).drop 12 = offB ls ls.length ++ dataB ls ∧ (writeA ls).drop (12 + (offB ls ls.length).length) = dataB ls := by
  have hof := offB_len ls ls.length
  have hn := hs.1
  have e1 : writeA ls = [0, 0, 0, 0, 0, 0, 0, 12] ++ (be (12 + ((offB ls ls.length).length : Int)) 4 ++ (offB ls ls.length ++ dataB ls)) := by unfold writeA; simp
  have e2 : writeA ls = ([0, 0, 0, 0, 0, 0, 0, 12] ++ be (12 + ((offB ls ls.length).length : Int)) 4) ++ (offB ls ls.length ++ dataB ls) := by unfold writeA; simp
  have e3 : writeA ls = ([0, 0, 0, 0, 0, 0, 0, 12] ++ be (12 + ((offB ls ls.length).length : Int)) 4 ++ offB ls ls.length) ++ dataB ls := by unfold writeA; simp
  have hwl : (writeA ls).length = 12 + (offB ls ls.length).length + (dataB ls).length := by unfold writeA; simp [be_len]; omega
  have u0 : u16 (writeA ls) 0 = some 0 := by
    have h := u16_be [] ([0, 0, 0, 0, 0, 12] ++ (be (12 + ((offB ls ls.length).length : Int)) 4 ++ (offB ls ls.length ++ dataB ls))) 0 0 (by omega) rfl
    rw [e1]
    exact h
  have u4 : u32 (writeA ls) 4 = some 12 := by
    have h := u32_be [0, 0, 0, 0] (be (12 + ((offB ls ls.length).length : Int)) 4 ++ (offB ls ls.length ++ dataB ls)) 12 4 (by omega) rfl
    rw [e1]
    exact h
  have u8' : u32 (writeA ls) 8 = some (12 + ((offB ls ls.length).length : Int)) := by
    rw [e1, u32_be _ _ _ 8 (by omega) rfl, Int.emod_eq_of_lt (by omega) (by omega)]
  have r1 : (writeA ls).drop 12 = offB ls ls.length ++ dataB ls := by
    rw [e2, show 12 = ([0, 0, 0, 0, 0, 0, 0, 12] ++ be (12 + ((offB ls ls.length).length : Int)) 4).length by simp [be_len], List.drop_left]
  have r2 : (writeA ls).drop (12 + (offB ls ls.length).length) = dataB ls := by
    have hlen : 12 + (offB ls ls.length).length = ([0, 0, 0, 0, 0, 0, 0, 12] ++ be (12 + ((offB ls ls.length).length : Int)) 4 ++ offB ls ls.length).length := by simp [be_len]; omega
    rw [hlen, e3, List.drop_left]
  exact ⟨hwl, u0, u4, u8', r1, r2⟩
theorem take_write {ls : List (List (Int × Int))} (hs : Small ls) : ankrTake (writeA ls) 60 = some (wparts ls, dataB ls) := by
  obtain ⟨hwl, u0, u4, u8', d1, d2⟩ := heads_write hs
  have r1 : rest (writeA ls) 12 = some (offB ls ls.length ++ dataB ls) := by
    rw [rest_eq (by omega) (by rw [hwl]; omega), show (12 : Int).toNat = 12 from rfl, d1]
  have r2 : rest (writeA ls) (12 + ((offB ls ls.length).length : Int)) = some (dataB ls) := by
    rw [rest_eq (by omega) (by rw [hwl]; omega), show (12 + ((offB ls ls.length).length : Int)).toNat = 12 + (offB ls ls.length).length by omega, d2]
  rw [ankrTake_head, ankrHead_y u0 rfl u4 r1 (lk_write ls (dataB ls) hs.1) u8' r2]
  simp only [Option.bind_some]
  rw [if_pos]
  exact okTab_write hs
theorem cut_none {ls : List (List (Int × Int))} (hs : Small ls) (hne : 0 < ls.length) {m : Nat} (hm : m < (writeA ls).length) : ankrTake ((writeA ls).take m) 60 = none := by
  obtain ⟨hwl, w0, w4, w8, d1, d2⟩ := heads_write hs
  cases ht : ankrTake ((writeA ls).take m) 60 with
  | none => rfl
  | some x =>
    exfalso
    rw [ankrTake_head] at ht
    cases hh : ankrHead ((writeA ls).take m) 60 with
    | none => rw [hh] at ht; cases ht
    | some y =>
      rw [hh] at ht
      simp only [Option.bind_some] at ht
      split at ht
      · rename_i hall
        unfold ankrHead at hh
        cases h1 : u16 ((writeA ls).take m) 0 with
        | none => rw [h1] at hh; cases hh
        | some k =>
          cases h2 : u32 ((writeA ls).take m) 4 with
          | none => rw [h1, h2] at hh; cases hh
          | some p =>
            rw [h1, h2] at hh
            simp only at hh
            split at hh
            · have hp : p = 12 := by have := (u32_take h2).1.symm.trans w4; injection this
              subst hp
              cases h3 : rest ((writeA ls).take m) 12 with
              | none => rw [h3] at hh; cases hh
              | some mm =>
                rw [h3] at hh
                simp only at hh
                cases h4 : lkTake mm 60 2 with
                | none => rw [h4] at hh; cases hh
                | some ps =>
                  cases h5 : u32 ((writeA ls).take m) 8 with
                  | none => rw [h4, h5] at hh; cases hh
                  | some q =>
                    have hq : q = 12 + ((offB ls ls.length).length : Int) := by have := (u32_take h5).1.symm.trans w8; injection this
                    subst hq
                    rw [h4, h5] at hh
                    simp only at hh
                    cases h6 : rest ((writeA ls).take m) (12 + ((offB ls ls.length).length : Int)) with
                    | none => rw [h6] at hh; cases hh
                    | some data =>
                      rw [h6] at hh
                      injection hh with hh
                      subst hh
                      obtain ⟨_, _, hmm⟩ := rest_spec h3
                      obtain ⟨_, hq2, hdd⟩ := rest_spec h6
                      rw [show (12 : Int).toNat = 12 from rfl, List.drop_take, d1] at hmm
                      rw [show (12 + ((offB ls ls.length).length : Int)).toNat = 12 + (offB ls ls.length).length by omega, List.drop_take, d2] at hdd
                      obtain ⟨u0, htr⟩ := tr_write ls (dataB ls) hs.1
                      have hps : ps = wparts ls := by
                        unfold lkTake at h4
                        cases hpo : partsOf mm 60 2 with
                        | none => rw [hpo] at h4; cases h4
                        | some qs =>
                          rw [hpo] at h4
                          simp only at h4
                          split at h4
                          · injection h4 with h4
                            subst h4
                            cases hf : u16 mm 0 with
                            | none => rw [partsOf_n hf] at hpo; cases hpo
                            | some f =>
                              have hf8 : f = 8 := by
                                rw [hmm] at hf
                                have := (u16_take hf).1.symm.trans u0
                                injection this
                              subst hf8
                              rw [partsOf_8 hf, hmm] at hpo
                              have := (trimmed_take hpo).symm.trans htr
                              injection this
                          · cases h4
                      subst hps
                      have hi : ls.length - 1 < ls.length := by omega
                      have hg : ls[ls.length - 1]? = some ls[ls.length - 1] := List.getElem?_eq_getElem hi
                      generalize ls[ls.length - 1] = l at hg
                      have hmem : (((ls.length - 1 : Nat) : Int), offs ls (ls.length - 1)) ∈ allOf (wparts ls) := by
                        unfold wparts
                        rw [if_neg (by omega)]
                        simp only [allOf, List.flatMap_cons, List.flatMap_nil, List.append_nil, partL, partN, List.mem_map, List.mem_range]
                        refine ⟨ls.length - 1, by omega, ?_⟩
                        rw [show (0 : Int) + ((ls.length - 1 : Nat) : Int) = ((ls.length - 1 : Nat) : Int) by omega, wparts_at hi, off_mod hs hg]
                      have hok := List.all_eq_true.1 hall _ hmem
                      simp only at hok
                      obtain ⟨o1, o2, o3, o4⟩ := okAt_spec hok
                      have hl30 := hs.2 _ (List.mem_of_getElem? hg)
                      have hc : nv data (offs ls (ls.length - 1)) 4 = (l.length : Int) := by
                        rw [hdd] at o1
                        have := (u32_take o1).1.symm.trans (cnt_at hg hl30)
                        injection this with this
                        rw [hdd]; exact this
                      have hb := (off_bd hg).2
                      rw [show ls.length - 1 + 1 = ls.length by omega, List.drop_length] at hb
                      have hdl : data.length ≤ m - (12 + (offB ls ls.length).length) := by rw [hdd]; simp; omega
                      have hd0 : (dataB []).length = 0 := rfl
                      rw [hd0] at hb
                      rw [hc] at o4
                      simp only [List.length_take] at hq2
                      omega
            · cases hh
      · cases ht
theorem lkGet_write {ls : List (List (Int × Int))} (hs : Small ls) {i : Nat} {l : List (Int × Int)} (h : ls[i]? = some l) : lkGet (wparts ls) (i : Int) = some (offs ls i) := by
  have hi := (List.getElem?_eq_some_iff.1 h).1
  unfold lkGet wparts
  rw [if_neg (by omega)]
  rw [List.find?_cons_of_pos (by simp; omega)]
  simp only
  rw [if_pos (by omega), wparts_at hi, off_mod hs h]
theorem lkGet_past (ls : List (List (Int × Int))) : lkGet (wparts ls) (ls.length : Int) = none := by
  by_cases h : (ls.length : Int) = 0
  · rw [wparts, if_pos h]; rfl
  · rw [wparts, if_neg h]
    unfold lkGet
    rw [List.find?_cons_of_neg (by simp; try omega)]
    rfl
theorem count_write {ls : List (List (Int × Int))} (hs : Small ls) {i : Nat} {l : List (Int × Int)} (h : ls[i]? = some l) : ankrCount (wparts ls, dataB ls) i = l.length := by
  unfold ankrCount
  simp only
  rw [lkGet_write hs h]
  exact u32_nv (cnt_at h (hs.2 _ (List.mem_of_getElem? h)))
theorem count_past (ls : List (List (Int × Int))) : ankrCount (wparts ls, dataB ls) ls.length = 0 := by
  unfold ankrCount
  simp only
  rw [lkGet_past]
theorem nv2_of {l : List Int} {p x : Int} (h : u16 l p = some x) : nv l p 2 = x := by
  unfold u16 at h
  split at h
  · cases h; rfl
  · cases h
theorem s16_mod {x : Int} (h : -32768 ≤ x ∧ x ≤ 32767) : s16 (x % 65536 % 65536) = x := by
  unfold s16
  split <;> omega
theorem get_write {ls : List (List (Int × Int))} (hs : Small ls) {i j : Nat} {l : List (Int × Int)} {p : Int × Int} (h : ls[i]? = some l) (hj : l[j]? = some p) (h1 : -32768 ≤ p.1 ∧ p.1 ≤ 32767) (h2 : -32768 ≤ p.2 ∧ p.2 ≤ 32767) : ankrGet (wparts ls, dataB ls) i j = some p := by
  have hj' := (List.getElem?_eq_some_iff.1 hj).1
  have hc := u32_nv (cnt_at h (hs.2 _ (List.mem_of_getElem? h)))
  have hsp : l.flatMap ptB = (l.take j).flatMap ptB ++ (be (p.1 % 65536) 2 ++ (be (p.2 % 65536) 2 ++ (l.drop (j + 1)).flatMap ptB)) := by
    have h3 : l.flatMap ptB = (l.take (j + 1)).flatMap ptB ++ (l.drop (j + 1)).flatMap ptB := by rw [← List.flatMap_append, List.take_append_drop]
    rw [h3, take_flat hj]
    simp
  have hlt : ((l.take j).flatMap ptB).length = 4 * j := by rw [pts_len]; simp; omega
  have e1 : dataB ls = (dataB (ls.take i) ++ be l.length 4 ++ (l.take j).flatMap ptB) ++ (be (p.1 % 65536) 2 ++ (be (p.2 % 65536) 2 ++ (l.drop (j + 1)).flatMap ptB ++ dataB (ls.drop (i + 1)))) := by
    rw [data_split h, hsp]; simp
  have e2 : dataB ls = (dataB (ls.take i) ++ be l.length 4 ++ (l.take j).flatMap ptB ++ be (p.1 % 65536) 2) ++ (be (p.2 % 65536) 2 ++ ((l.drop (j + 1)).flatMap ptB ++ dataB (ls.drop (i + 1)))) := by
    rw [data_split h, hsp]; simp
  have x1 : u16 (dataB ls) (offs ls i + 4 + 4 * (j : Int)) = some (p.1 % 65536 % 65536) := by
    rw [e1]
    exact u16_be _ _ _ _ (by omega) (by simp only [List.length_append, be_len, hlt, offs]; omega)
  have x2 : u16 (dataB ls) (offs ls i + 6 + 4 * (j : Int)) = some (p.2 % 65536 % 65536) := by
    rw [e2]
    exact u16_be _ _ _ _ (by omega) (by simp only [List.length_append, be_len, hlt, offs]; omega)
  unfold ankrGet
  simp only
  rw [lkGet_write hs h]
  simp only
  rw [if_pos ⟨by omega, by omega⟩]
  unfold ankrPt
  rw [nv2_of x1, nv2_of x2, s16_mod h1, s16_mod h2]
theorem get_past {ls : List (List (Int × Int))} (hs : Small ls) {i : Nat} {l : List (Int × Int)} (h : ls[i]? = some l) : ankrGet (wparts ls, dataB ls) i l.length = none := by
  have hc := u32_nv (cnt_at h (hs.2 _ (List.mem_of_getElem? h)))
  unfold ankrGet
  simp only
  rw [lkGet_write hs h]
  simp only
  rw [if_neg (by omega)]
end Go.Proofs.Ytidedlbieakagaa
