/- PLAIN DEFINITIONS: what the program's small readers compute, on lists of bytes as integers. No program in sight. -/
namespace Go.Proofs.Ytidedlbieakagaa
/-- The byte at a place (0 beside the list). -/
def B (l : List Int) (i : Int) : Int := l.getD i.toNat 0
def sub (l : List Int) (p n : Int) : List Int := (l.drop p.toNat).take n.toNat
def pcOk (len p n : Int) : Prop := 0 ≤ p ∧ 0 ≤ n ∧ p ≤ len ∧ n ≤ len - p
instance (len p n : Int) : Decidable (pcOk len p n) := by unfold pcOk; infer_instance
def pc (l : List Int) (p n : Int) : Option (List Int) := if pcOk l.length p n then some (sub l p n) else none
def u8 (l : List Int) (p : Int) : Option Int := if pcOk l.length p 1 then some (B l p) else none
def u16 (l : List Int) (p : Int) : Option Int := if pcOk l.length p 2 then some (256 * B l p + B l (p + 1)) else none
def u32 (l : List Int) (p : Int) : Option Int := if pcOk l.length p 4 then some (16777216 * B l p + 65536 * B l (p + 1) + 256 * B l (p + 2) + B l (p + 3)) else none
def s16 (x : Int) : Int := if x < 32768 then x else x - 65536
def s32 (x : Int) : Int := if x < 2147483648 then x else x - 4294967296
def i16 (l : List Int) (p : Int) : Option Int := (u16 l p).map s16
def i32 (l : List Int) (p : Int) : Option Int := (u32 l p).map s32
def rest (l : List Int) (p : Int) : Option (List Int) := pc l p (max (l.length - p) 0)
def rowsOk (len n size : Int) : Prop := 0 ≤ n ∧ 0 ≤ size ∧ (size = 0 ∨ n ≤ len / size)
instance (len n size : Int) : Decidable (rowsOk len n size) := by unfold rowsOk; infer_instance
def rows (l : List Int) (p n size : Int) : Option (List Int) := if rowsOk l.length n size then pc l p (n * size) else none
/-- Every entry is a byte. -/
def Wf (l : List Int) : Prop := ∀ x ∈ l, 0 ≤ x ∧ x < 256
theorem Wf.getD {l : List Int} (h : Wf l) (i : Nat) : 0 ≤ l.getD i 0 ∧ l.getD i 0 < 256 := by
  by_cases hi : i < l.length
  · have := h l[i] (List.getElem_mem hi)
    simpa [List.getD, hi] using this
  · simp [List.getD, hi]
theorem Wf.B {l : List Int} (h : Wf l) (i : Int) : 0 ≤ B l i ∧ B l i < 256 := h.getD _
theorem Wf.sub {l : List Int} (h : Wf l) (p n : Int) : Wf (sub l p n) := fun x hx => h x (List.mem_of_mem_drop (List.mem_of_mem_take hx))
theorem Wf.pc {l m : List Int} {p n : Int} (h : Wf l) (hm : pc l p n = some m) : Wf m := by
  unfold Go.Proofs.Ytidedlbieakagaa.pc at hm; split at hm
  · cases hm; exact h.sub _ _
  · cases hm
theorem sub_length {l : List Int} {p n : Int} (h : pcOk l.length p n) : (sub l p n).length = n.toNat := by
  obtain ⟨h0, h1, h2, h3⟩ := h
  simp [sub]; omega
theorem pc_length {l m : List Int} {p n : Int} (h : pc l p n = some m) : m.length = n.toNat ∧ 0 ≤ n ∧ m.length ≤ l.length := by
  unfold pc at h; split at h
  · rename_i ho; cases h; refine ⟨sub_length ho, ho.2.1, ?_⟩; rw [sub_length ho]; obtain ⟨h0, h1, h2, h3⟩ := ho; omega
  · cases h
end Go.Proofs.Ytidedlbieakagaa
