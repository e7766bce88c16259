/- HOW DATA LIES IN MEMORY, as predicates that stay under 'Below'; the shapes of what a call gives. No program in sight. -/
import Derived.Test.YtidedlbieakagaaSpec
import Derived.WalkKit
import Derived.Below
namespace Go.Proofs.Ytidedlbieakagaa
open Go.RowKit
/-- What a call leaves of old cells and marks, as the walk reads it. -/
theorem bcell {W w1 : World} (hb : Below W.heap.size W w1) : (∀ b o, b < W.heap.size → w1.cell? ⟨b, o, none⟩ = W.cell? ⟨b, o, none⟩) ∧ (∀ b o, b < W.heap.size → w1.frozen? ⟨b, o, none⟩ = W.frozen? ⟨b, o, none⟩) :=
  ⟨fun b o h => hb.cell (p := ⟨b, o, none⟩) h, fun b o h => hb.frozen (p := ⟨b, o, none⟩) h⟩
/-- Nothing that lay is turned, said as the walk reads it. -/
def Kp (w w1 : World) : Prop := Below w.heap.size w w1 ∧ (∀ b o, b < w.heap.size → w1.cell? ⟨b, o, none⟩ = w.cell? ⟨b, o, none⟩) ∧ (∀ b o, b < w.heap.size → w1.frozen? ⟨b, o, none⟩ = w.frozen? ⟨b, o, none⟩) ∧ w.heap.size ≤ w1.heap.size
theorem Kp.of {w w1 : World} (h : Below w.heap.size w w1) : Kp w w1 := ⟨h, (bcell h).1, (bcell h).2, h.size⟩
theorem Kp.below {w w1 : World} (h : Kp w w1) : Below w.heap.size w w1 := h.1
theorem Kp.refl (w : World) : Kp w w := .of (Below.refl _ _)
theorem Kp.trans {w w1 w2 : World} (h : Kp w w1) (k : Kp w1 w2) : Kp w w2 := .of (h.1.trans (k.1.mono h.1.size))
theorem Kp.via {w W w1 : World} (h : Kp w W) (k : Below W.heap.size W w1) : Kp w w1 := h.trans (.of k)
theorem Kp.alloc {w w1 : World} (h : Kp w w1) (o : Obj) : Kp w (w1.alloc o) := .of (h.1.alloc h.1.size _)
theorem Kp.drew {w w1 : World} (h : Kp w w1) : Kp w w1.drew := .of h.1.drew
theorem Kp.set {w w1 : World} (h : Kp w w1) {p : Addr} (hp : w.heap.size ≤ p.block) (v : Value) : Kp w (w1.setCell p v) := .of (h.1.setCell hp v)
/-- A bound from below for the blocks in which bytes lie (0 where nobody asks). -/
class Lo where
  lo : Nat
instance (priority := low) lo0 : Lo := ⟨0⟩
variable [Lo]
/-- One-cell values lie in a row from an address on, in a block below N. -/
def Row (N : Nat) (w : World) (a : Option Addr) (xs : List Value) : Prop :=
  xs = [] ∨ ∃ b o, a = some ⟨b, o, none⟩ ∧ (Lo.lo ≤ b ∧ b < N) ∧ ∀ i, i < xs.length → w.cell? ⟨b, o + i, none⟩ = xs[i]?
theorem Row.frame {N : Nat} {w w' : World} {a : Option Addr} {xs : List Value} (h : Row N w a xs) (hb : Below N w w') : Row N w' a xs := by
  rcases h with h | ⟨b, o, ha, hN, h⟩
  · exact .inl h
  · refine .inr ⟨b, o, ha, hN, fun i hi => ?_⟩
    rw [hb.cell (p := ⟨b, o + i, none⟩) hN.2]
    exact h i hi
theorem Row.mono {N N' : Nat} {w : World} {a : Option Addr} {xs : List Value} (h : Row N w a xs) (hN : N ≤ N') : Row N' w a xs := by
  rcases h with h | ⟨b, o, ha, hb, h⟩
  · exact .inl h
  · exact .inr ⟨b, o, ha, ⟨hb.1, by omega⟩, h⟩
theorem Row.at {N : Nat} {w : World} {a : Option Addr} {xs : List Value} (h : Row N w a xs) {i : Nat} (hi : i < xs.length) :
    ∃ b o, a = some ⟨b, o, none⟩ ∧ (Lo.lo ≤ b ∧ b < N) ∧ ∀ i, i < xs.length → w.cell? ⟨b, o + i, none⟩ = xs[i]? := by
  rcases h with h | h
  · subst h; simp at hi
  · exact h
/-- A part of a row, as a slice expression with three bounds leaves it. -/
theorem Row.part {N : Nat} {w : World} {a : Option Addr} {xs : List Value} (h : Row N w a xs) (p n : Nat) (hp : p + n ≤ xs.length) :
    Row N w (if n = 0 then a else a.map (·.add p)) ((xs.drop p).take n) := by
  by_cases hn : n = 0
  · left; simp [hn]
  · rw [if_neg hn]
    obtain ⟨b, o, ha, hb, h⟩ := h.at (i := p) (by omega)
    right
    refine ⟨b, o + p, ?_, hb, fun i hi => ?_⟩
    · subst ha
      by_cases h0 : p = 0 <;> simp [Addr.add, h0]
    · have hi' : i < n := by simp at hi; omega
      have := h (p + i) (by omega)
      rw [Nat.add_assoc, this]
      simp [List.getElem?_drop, hi']
/-- Bytes lie from an address on. -/
def Bts (N : Nat) (w : World) (a : Option Addr) (l : List Int) : Prop := Row N w a (l.map (Value.int .u8)) ∧ Wf l
theorem Bts.frame {N : Nat} {w w' : World} {a : Option Addr} {l : List Int} (h : Bts N w a l) (hb : Below N w w') : Bts N w' a l := ⟨h.1.frame hb, h.2⟩
theorem Bts.kp {N : Nat} {w w' : World} {a : Option Addr} {l : List Int} (h : Bts N w a l) (hN : N ≤ w.heap.size) (hb : Kp w w') : Bts N w' a l := h.frame (hb.1.mono hN)
theorem Bts.al {N : Nat} {w : World} {a : Option Addr} {l : List Int} (h : Bts N w a l) (hN : N ≤ w.heap.size) (o : Obj) : Bts N (w.alloc o) a l := h.kp hN ((Kp.refl w).alloc o)
theorem Bts.al2 {N : Nat} {w : World} {a : Option Addr} {l : List Int} (h : Bts N w a l) (hN : N ≤ w.heap.size) (o o' : Obj) : Bts N ((w.alloc o).alloc o') a l := h.kp hN (((Kp.refl w).alloc o).alloc o')
theorem Bts.mono {N N' : Nat} {w : World} {a : Option Addr} {l : List Int} (h : Bts N w a l) (hN : N ≤ N') : Bts N' w a l := ⟨h.1.mono hN, h.2⟩
theorem Bts.part {N : Nat} {w : World} {a : Option Addr} {l : List Int} (h : Bts N w a l) {p n : Int} (hp : pcOk l.length p n) :
    Bts N w (if n.toNat = 0 then a else a.map (·.add p.toNat)) (sub l p n) := by
  refine ⟨?_, h.2.sub _ _⟩
  have := h.1.part p.toNat n.toNat (by obtain ⟨h0, h1, h2, h3⟩ := hp; simp; omega)
  simpa [sub, List.map_take, List.map_drop] using this
theorem Bts.at {N : Nat} {w : World} {a : Option Addr} {l : List Int} (h : Bts N w a l) (hn : 0 < l.length) :
    ∃ b o, a = some ⟨b, o, none⟩ ∧ (Lo.lo ≤ b ∧ b < N) ∧ ∀ i, i < l.length → w.cell? ⟨b, o + i, none⟩ = some (.int .u8 (l.getD i 0)) := by
  obtain ⟨b, o, ha, hb, hc⟩ := h.1.at (i := 0) (by simpa using hn)
  refine ⟨b, o, ha, hb, fun i hi => ?_⟩
  rw [hc i (by simpa using hi)]
  simp [List.getD, hi]
/-- The panic of 'view.Fail'. -/
def Short : List PanicEntry := [{ v := .iface 109 (.agg #[]), recovered := false }]
/-- A call that fails as 'view.Fail' does; nothing that lay is turned. -/
def Fails (w : World) (e : Ending) (w' : World) : Prop := e = .panicked Short ∧ Kp w w'
/-- A call that gives a value; nothing that lay is turned. -/
def Gives (v : Value) (w : World) (e : Ending) (w' : World) : Prop := e = .returned v ∧ Kp w w'
/-- An integer, or the failure. -/
def GivesInt (o : Option Int) (w : World) (e : Ending) (w' : World) : Prop := match o with | some x => Gives (.int .i64 x) w e w' | none => Fails w e w'
/-- A slice of just these bytes. -/
def RetBts (N : Nat) (l : List Int) (w : World) (e : Ending) (w' : World) : Prop := ∃ a, e = .returned (.slice a l.length l.length) ∧ Bts N w' a l ∧ Kp w w'
def GivesBts (N : Nat) (o : Option (List Int)) (w : World) (e : Ending) (w' : World) : Prop := match o with | some l => RetBts N l w e w' | none => Fails w e w'
/-- A View of just these bytes. -/
def RetView (N : Nat) (l : List Int) (w : World) (e : Ending) (w' : World) : Prop := ∃ a, e = .returned (.agg #[.slice a l.length l.length]) ∧ Bts N w' a l ∧ Kp w w'
def GivesView (N : Nat) (o : Option (List Int)) (w : World) (e : Ending) (w' : World) : Prop := match o with | some l => RetView N l w e w' | none => Fails w e w'
end Go.Proofs.Ytidedlbieakagaa
