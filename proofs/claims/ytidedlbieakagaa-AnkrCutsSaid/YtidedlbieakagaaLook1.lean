/- THE WALKS of package lookup: number, list. -/
import Derived.Test.YtidedlbieakagaaView2
import Derived.Test.YtidedlbieakagaaData
import Derived.Test.YtidedlbieakagaaSpec2
namespace Go.Proofs.Ytidedlbieakagaa
open Go.RowKit
variable [Lo]
theorem number_any (N : Nat) (a : Option Addr) (l : List Int) (len cap : Nat) (p size : Int) (w : World) (hb : Bts N w a l) (hN : N ≤ w.heap.size) (hl : l.length = len) (hc : len ≤ cap) (hm : cap ≤ 9223372036854775807) :
    Calls Try.prog 111 #[.agg #[.slice a len cap], .int .i64 p, .int .i64 size] w (GivesInt (num l p size) w) := by
  have hk := (Kp.refl w).alloc (.cells #[.slice a len cap] 40)
  have C8 := U8_any N a l len cap p _ (hb.al hN (.cells #[.slice a len cap] 40)) (by simp; omega) hl hc hm
  have C16 := U16_any N a l len cap p _ (hb.al hN (.cells #[.slice a len cap] 40)) (by simp; omega) hl hc hm
  have C32 := U32_any N a l len cap p _ (hb.al hN (.cells #[.slice a len cap] 40)) (by simp; omega) hl hc hm
  clear hb hl
  by_cases h1 : size = 1
  · have e : num l p size = u8 l p := by simp [num, h1]
    rw [e]
    have h1' : (size == 1) = true := by simpa using h1
    clear C16 C32 e h1
    cases hq : u8 l p with
    | some x =>
      rw [hq] at C8
      clear hq
      go_enter Try.func111, Try.ntmps111
      go_wp2_with (go_at_call 122; refine C8.mono ?_; rintro e w1 ⟨rfl, hK⟩; clear C8)
      go_ret
      exact ⟨rfl, hk.trans hK⟩
    | none =>
      rw [hq] at C8
      clear hq
      go_enter Try.func111, Try.ntmps111
      go_wp2_with (go_at_call 122; refine C8.mono ?_; rintro e w1 ⟨rfl, hK⟩; clear C8)
      exact ⟨rfl, rfl, hk.trans hK⟩
  · have h1' : (size == 1) = false := by simpa using h1
    by_cases h2 : size = 2
    · have e : num l p size = u16 l p := by simp [num, h2]
      rw [e]
      have h2' : (size == 2) = true := by simpa using h2
      clear C8 C32 e h1 h2
      cases hq : u16 l p with
      | some x =>
        rw [hq] at C16
        clear hq
        go_enter Try.func111, Try.ntmps111
        go_wp2_with (go_at_call 44; refine C16.mono ?_; rintro e w1 ⟨rfl, hK⟩; clear C16)
        go_ret
        exact ⟨rfl, hk.trans hK⟩
      | none =>
        rw [hq] at C16
        clear hq
        go_enter Try.func111, Try.ntmps111
        go_wp2_with (go_at_call 44; refine C16.mono ?_; rintro e w1 ⟨rfl, hK⟩; clear C16)
        exact ⟨rfl, rfl, hk.trans hK⟩
    · have h2' : (size == 2) = false := by simpa using h2
      have e : num l p size = u32 l p := by simp [num, h1, h2]
      rw [e]
      clear C8 C16 e h1 h2
      cases hq : u32 l p with
      | some x =>
        rw [hq] at C32
        clear hq
        go_enter Try.func111, Try.ntmps111
        go_wp2_with (go_at_call 40; refine C32.mono ?_; rintro e w1 ⟨rfl, hK⟩; clear C32)
        go_ret
        exact ⟨rfl, hk.trans hK⟩
      | none =>
        rw [hq] at C32
        clear hq
        go_enter Try.func111, Try.ntmps111
        go_wp2_with (go_at_call 40; refine C32.mono ?_; rintro e w1 ⟨rfl, hK⟩; clear C32)
        exact ⟨rfl, rfl, hk.trans hK⟩
end Go.Proofs.Ytidedlbieakagaa
