/- THE WALKS of package view: Bytes, Try. -/
import Derived.Test.YtidedlbieakagaaView
import Derived.Test.YtidedlbieakagaaWords
namespace Go.Proofs.Ytidedlbieakagaa
open Go.RowKit
theorem reads0 {N : Nat} {a : Option Addr} {l : List Int} {w : World} (hb : Bts N w a l) (hN : N ≤ w.heap.size) (o o' : Obj) : Reads ((w.alloc o).alloc o') N 1 a l.length (l.map (Value.int .u8)) := (hb.al2 hN _ _).1.reads (by simp) (by omega)
variable [Lo]
omit [Lo] in
theorem Try.infoU8 : (Try.prog.info? 5).map (fun i => (i.zero, i.size, i.bytes)) = some (some (.int .u8 0), 1, 1) := by kernel_rfl
/-- New bytes: a slice of the call's own. -/
def NewBts (l : List Int) (w : World) (e : Ending) (w' : World) : Prop := ∃ a c, e = .returned (.slice a l.length c) ∧ l.length ≤ c ∧ c ≤ maxLen ∧ w'.ownsRow w.heap.size 5 1 (.slice a l.length c) l.length (l.map (Value.int .u8)) ∧ Bts w'.heap.size w' a l ∧ Kp w w'
set_option maxRecDepth 100000 in
theorem Bytes_any (N : Nat) (a : Option Addr) (l : List Int) (len cap : Nat) (w : World) (hb : @Bts lo0 N w a l) (hN : N ≤ w.heap.size) (hl : l.length = len) (hc : len ≤ cap) (_hm : cap ≤ 9223372036854775807) (hlen : len ≤ 140737488355328) (hlo : Lo.lo ≤ w.heap.size) :
    Calls Try.prog 37 #[.agg #[.slice a len cap]] w (NewBts l w) := by
  obtain ⟨i0, hi0, hz0, hz1, hz2⟩ := info_parts Try.infoU8
  subst hl
  have hr : Reads (((w.alloc (.cells #[.slice a l.length cap] 40)).alloc (.cells #[] 5))) N 1 a l.length (l.map (Value.int .u8)) := reads0 hb hN _ _
  have hone : ∀ u ∈ l.map (Value.int .u8), u.oneCell' = true := by
    intro u hu
    simp at hu
    obtain ⟨x, _, rfl⟩ := hu
    rfl
  have hwf := hb.2
  clear hb
  have hown : ((w.alloc (.cells #[.slice a l.length cap] 40)).alloc (.cells #[] 5)).ownsRow w.heap.size 5 1 (.slice (some ⟨w.heap.size + 1, 0, none⟩) 0 0) 0 [] :=
    ⟨rfl, .inr ⟨_, 0, #[], rfl, by omega, heap_alloc2_new _ _ _, by omega, by simp [maxLen], rfl, rfl⟩⟩
  have hk2 : Kp w ((w.alloc (.cells #[.slice a l.length cap] 40)).alloc (.cells #[] 5)) := ((Kp.refl w).alloc _).alloc _
  go_enter Try.func37, Try.ntmps37
  go_wp2_with (at_builtin; refine wpList_append_any _ rfl (.tmp 3) (.tmp 5) _ rfl w.heap.size 5 i0 _ 1 1 Try.underlying25 hi0 hz0 hz1 hz2 rfl (by omega) (.slice (some ⟨w.heap.size + 1, 0, none⟩) 0 0) 0 [] rfl hown N a l.length cap (l.map (Value.int .u8)) rfl hr hone (by simp only [maxLen]; omega) (by omega) (by simp; omega) ?_; intro v1 w1 hown1 hg1 hat1)
  go_ret
  rw [Nat.zero_add] at hown1
  rw [List.nil_append] at hown1
  obtain ⟨A, c, rfl, h1, h2⟩ := own_slice hown1
  refine ⟨A, c, rfl, h1, h2, hown1, ⟨.of_own hown1 hlo, hwf⟩, .of (hk2.1.grown hg1 hk2.1.size ?_)⟩
  intro k hk
  simp [Value.ownBlock] at hk
  omega
end Go.Proofs.Ytidedlbieakagaa
