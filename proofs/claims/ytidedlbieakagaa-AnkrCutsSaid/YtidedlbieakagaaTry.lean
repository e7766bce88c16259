/- THE WALKS of view.Try. -/
import Derived.Test.YtidedlbieakagaaView2
import Derived.Defers
import Derived.Recover
import Derived.Laws.Pointers
namespace Go.Proofs.Ytidedlbieakagaa
open Go.RowKit
theorem assert_short (w : World) : (Instr.typeAssert (.iface 109 (.agg #[])) 20 109 true).run Try.prog w = .ok (.tuple #[.agg #[], .bool true]) w := by kernel_rfl
set_option maxRecDepth 100000 in
theorem catch_short (b : Nat) (older : List PanicEntry) (w : World) (hc : w.cell? ⟨b, 0, none⟩ = some (.bool false)) (hf : w.frozen? ⟨b, 0, none⟩ = false) (hb : b < w.heap.size) :
    CallsD Try.prog 42 #[.pointer (some ⟨b, 0, none⟩)] (.panicking ({ v := .iface 109 (.agg #[]), recovered := false } :: older)) w fun e u' w' =>
      e = .returned (.tuple #[]) ∧ u' = .panicking ({ v := .iface 109 (.agg #[]), recovered := true } :: older) ∧ w' = (w.setCell ⟨b, 0, none⟩ (.bool false)).alloc (.cells #[] 109) := by
  refine callsD_of_wpS Try.func42 rfl fun c₀ cs hu => ?_
  apply wpS_seq
  apply wpS_region
  simp [wpOpsS, go_sem, recoverD, hu, Try.ntmps42, Exit.thenS]
  refine wpS_of_wp ?_
  have happ : (#[Value.pointer (some ⟨b, 0, none⟩)] ++ (Array.replicate 9 undef).setIfInBounds 3 (Value.iface 109 (Value.agg #[])) : Array Value) = #[Value.pointer (some ⟨b, 0, none⟩), undef, undef, undef, Value.iface 109 (Value.agg #[]), undef, undef, undef, undef, undef] := rfl
  rw [happ]
  clear happ hu
  have hta := assert_short
  go_wp2
  exact ⟨rfl, _, rfl, _, by simp [results, Try.results42], rfl, rfl, rfl⟩
set_option maxRecDepth 100000 in
theorem catch_idle (b : Nat) (w : World) :
    CallsD Try.prog 42 #[.pointer (some ⟨b, 0, none⟩)] .returning w fun e u' w' => e = .returned (.tuple #[]) ∧ u' = .returning ∧ w' = w := by
  refine callsD_of_wpS Try.func42 rfl fun c₀ cs hu => ?_
  apply wpS_seq
  apply wpS_region
  simp [wpOpsS, go_sem, recoverD, hu, Try.ntmps42, Exit.thenS]
  refine wpS_of_wp ?_
  have happ : (#[Value.pointer (some ⟨b, 0, none⟩)] ++ (Array.replicate 9 undef).setIfInBounds 3 Value.nilIface : Array Value) = #[Value.pointer (some ⟨b, 0, none⟩), undef, undef, undef, Value.nilIface, undef, undef, undef, undef, undef] := rfl
  rw [happ]
  have hcs : c₀ :: cs = { c₀ with mode := .returning } :: cs := by cases c₀; simp_all
  rw [hcs]
  clear happ hu hcs
  go_wp2
  exact ⟨rfl, _, rfl, _, by simp [results, Try.results42], rfl, rfl, rfl⟩
/-- 'Try': by what the function does in a world with one variable more. -/
theorem Try_any (g : Nat) (caps : Array Value) (A B : World → Prop) (w : World)
    (h : Calls Try.prog g caps (w.alloc (.cells #[.bool false] 4)) fun e w1 => (w1.cell? ⟨w.heap.size, 0, none⟩ = some (.bool false) ∧ w1.frozen? ⟨w.heap.size, 0, none⟩ = false ∧ w.heap.size < w1.heap.size) ∧ (((∃ v, e = .returned v) ∧ A w1) ∨ (e = .panicked Short ∧ B w1)))
    (hg : ∀ (w : World), (callFunc g caps).run Try.prog w = .ok (.enter g caps) w) :
    Calls Try.prog 13 #[.func (.func g) #[] caps] w fun e w2 => ∃ w1, (e = .returned (.bool true) ∧ A w1 ∧ w2 = w1.setCell ⟨w.heap.size, 0, none⟩ (.bool true)) ∨
      (e = .returned (.bool false) ∧ B w1 ∧ w2 = (w1.setCell ⟨w.heap.size, 0, none⟩ (.bool false)).alloc (.cells #[] 109)) := by
  have hmf : ∀ (fn : Fn) (first cap : Array Value) (w : World), (Instr.makeFunc fn first cap).run Try.prog w = .ok (.func fn first cap) w := fun _ _ _ _ => rfl
  go_enter_defers Try.func13, Try.ntmps13
  go_wp2_with fail
  refine h.mono ?_
  clear h hg
  rintro e w1 ⟨⟨hc, hf, hz⟩, ⟨⟨v, rfl⟩, hA⟩ | ⟨rfl, hB⟩⟩
  · go_wp2
    refine leaves_cons (f := 42) (args := #[.pointer (some ⟨w.heap.size, 0, none⟩)]) (by simp) (by simp [go_sem]) ?_
    refine (catch_idle _ _).mono ?_
    rintro e u' w'' ⟨rfl, rfl, rfl⟩
    refine ⟨.bool true, by simp [results, Try.results13, go_sem, hc], w1, .inl ⟨rfl, hA, rfl⟩⟩
  · refine leaves_cons (f := 42) (args := #[.pointer (some ⟨w.heap.size, 0, none⟩)]) (by simp) (by simp [go_sem]) ?_
    refine (catch_short _ [] _ hc hf hz).mono ?_
    rintro e u' w'' ⟨rfl, rfl, rfl⟩
    have hcc : ((w1.setCell ⟨w.heap.size, 0, none⟩ (.bool false)).alloc (.cells #[] 109)).cell? ⟨w.heap.size, 0, none⟩ = some (.bool false) := by
      rw [World.cell?_alloc_past _ _ _ (by simpa using hz)]
      exact World.cell?_setCell_same' _ _ _ (by rw [hc]; rfl)
    simp only [settle]
    refine ⟨.bool false, by simp [results, Try.results13, go_sem, hcc], w1, .inr ⟨rfl, hB, rfl⟩⟩
end Go.Proofs.Ytidedlbieakagaa
