/- SEVERAL ROWS OF BYTES OF ONE's OWN, apart from each other. -/
import Derived.Test.YtidedlbieakagaaPut
namespace Go.Proofs.Ytidedlbieakagaa
open Go.RowKit
/-- Two values lie in different blocks. -/
def Apart (u v : Value) : Prop := ∀ k, u.ownBlock = some k → v.ownBlock ≠ some k
theorem Apart.symm {u v : Value} (h : Apart u v) : Apart v u := fun k h1 h2 => h k h2 h1
theorem Apart.nil (u : Value) : Apart u (.slice none 0 0) := fun k _ h => by simp [Value.ownBlock] at h
theorem Apart.nil' (u : Value) : Apart (.slice none 0 0) u := fun k h => by simp [Value.ownBlock] at h
theorem Apart.lt {base k : Nat} {w : World} {v : Value} {l : List Int} {_a : Option Nat} {n c : Nat} (h : OB base w v l) (hk : w.heap.size ≤ k) : Apart (.slice (some ⟨k, 0, none⟩) n c) v := fun j h1 h2 => by
  have := World.ownsRow.lt h j h2
  simp [Value.ownBlock] at h1
  omega
theorem OB.grow {base : Nat} {w w' : World} {u u' v : Value} {l : List Int} (h : OB base w v l) (g : GB w w' u u') (ha : Apart u v) : OB base w' v l ∧ Apart u' v := by
  refine ⟨World.ownsRow.kept h g.1 ?_, fun k h1 h2 => ?_⟩
  · cases hv : v.ownBlock with
    | none => exact .inl rfl
    | some k => exact .inr fun e => ha k (e ▸ hv ▸ rfl) hv
  · rcases g.2 with h3 | h3
    · rw [h3] at h1; exact ha k h1 h2
    · have := h3 k h1
      have := World.ownsRow.lt h k h2
      omega
theorem Kp.grow {w0 w w' : World} {u u' : Value} {l : List Int} (k : Kp w0 w) (h : OB w0.heap.size w u l) (g : GB w w' u u') : Kp w0 w' :=
  .of (k.1.grown g.1 k.1.size fun j hj => (World.ownsRow.lt h j hj).1)
theorem Blk.gb {w w' : World} {g : Nat} {t : TypeId} {cs : Array Value} {v v' : Value} (h : Blk w g t cs) (k : GB w w' v v') (hne : v.ownBlock ≠ some g) : Blk w' g t cs := h.grown k.1 (Ne.symm hne)
theorem OB.ne_ {base g : Nat} {w : World} {v : Value} {l : List Int} (h : OB base w v l) (hg : w.heap.size ≤ g) : v.ownBlock ≠ some g := fun e => by have := World.ownsRow.lt h g e; omega
theorem GB.ne_ {w w' : World} {v v' : Value} {g : Nat} (k : GB w w' v v') (hne : v.ownBlock ≠ some g) (hg : g < w.heap.size) : v'.ownBlock ≠ some g := by
  rcases k.2 with h | h
  · rw [h]; exact hne
  · intro e; have := h _ e; omega
theorem GB.app {w w' : World} {v v' : Value} (hg : w.grownBy w' v.ownBlock) (hv : v'.ownBlock = v.ownBlock ∨ v'.ownBlock = some w.heap.size) : GB w w' v v' := GB.push (Kp.refl w) hg hv
/-- Three rows. -/
structure R3 (base : Nat) (w : World) (a b c : Value) (x y z : List Int) : Prop where
  ra : OB base w a x
  rb : OB base w b y
  rc : OB base w c z
  ab : Apart a b
  ac : Apart a c
  bc : Apart b c
theorem R3.kp {base : Nat} {w w' : World} {a b c : Value} {x y z : List Int} (h : R3 base w a b c x y z) (k : Kp w w') : R3 base w' a b c x y z := ⟨h.ra.kp k, h.rb.kp k, h.rc.kp k, h.ab, h.ac, h.bc⟩
theorem R3.growA {base : Nat} {w w' : World} {a a' b c : Value} {x x' y z : List Int} (h : R3 base w a b c x y z) (g : GB w w' a a') (h' : OB base w' a' x') : R3 base w' a' b c x' y z :=
  ⟨h', (h.rb.grow g h.ab).1, (h.rc.grow g h.ac).1, (h.rb.grow g h.ab).2, (h.rc.grow g h.ac).2, h.bc⟩
theorem R3.growB {base : Nat} {w w' : World} {a b b' c : Value} {x y y' z : List Int} (h : R3 base w a b c x y z) (g : GB w w' b b') (h' : OB base w' b' y') : R3 base w' a b' c x y' z :=
  ⟨(h.ra.grow g h.ab.symm).1, h', (h.rc.grow g h.bc).1, (h.ra.grow g h.ab.symm).2.symm, h.ac, (h.rc.grow g h.bc).2⟩
theorem R3.growC {base : Nat} {w w' : World} {a b c c' : Value} {x y z z' : List Int} (h : R3 base w a b c x y z) (g : GB w w' c c') (h' : OB base w' c' z') : R3 base w' a b c' x y z' :=
  ⟨(h.ra.grow g h.ac.symm).1, (h.rb.grow g h.bc.symm).1, h', h.ab, (h.ra.grow g h.ac.symm).2.symm, (h.rb.grow g h.bc.symm).2.symm⟩
/-- A row, read. -/
theorem OB.reads {base : Nat} {w : World} {A : Option Addr} {c : Nat} {l : List Int} (h : OB base w (.slice A l.length c) l) : Reads w w.heap.size 1 A l.length (l.map (Value.int .u8)) := Reads.of_own h
theorem OB.form {base : Nat} {w : World} {v : Value} {l : List Int} (h : OB base w v l) : ∃ A c, v = .slice A l.length c ∧ l.length ≤ c ∧ c ≤ maxLen := own_slice h
theorem OB.bts [Lo] {base : Nat} {w : World} {A : Option Addr} {c : Nat} {l : List Int} (h : OB base w (.slice A l.length c) l) (hw : Wf l) (hlo : Lo.lo ≤ base) : Bts w.heap.size w A l := ⟨.of_own h hlo, hw⟩
theorem bytes_one {l : List Int} : ∀ u ∈ l.map (Value.int .u8), u.oneCell' = true := by
  intro u hu
  simp at hu
  obtain ⟨x, _, rfl⟩ := hu
  rfl
end Go.Proofs.Ytidedlbieakagaa
