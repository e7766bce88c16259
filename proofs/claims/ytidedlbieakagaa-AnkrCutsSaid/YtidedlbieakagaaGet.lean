/- THE WALKS of package lookup: at, Get; package seek: First. -/
import Derived.Test.YtidedlbieakagaaLook6
namespace Go.Proofs.Ytidedlbieakagaa
open Go.RowKit
variable [Lo]
/-- A glyph's number of a part's. -/
def atV (p : Part) (id : Int) : Int := p.values.getD (min (id - p.first) ((p.values.length : Int) - 1)).toNat 0
omit [Lo] in
set_option maxRecDepth 100000 in
set_option maxHeartbeats 2000000 in
theorem at_any (N : Nat) (p : Part) (A : Option Addr) (n c : Nat) (id : Int) (w : World) (hi : Ints (· < N) w (.slice A n c) p.values) (hn : p.values.length = n) (hN : N ≤ w.heap.size) (h0 : 0 < n) (h1 : p.first ≤ id) (h2 : 0 ≤ p.first ∧ id ≤ 9000000000) :
    Calls Try.prog 82 #[.agg #[.int .i64 p.first, .int .i64 p.last, .slice A n c], .int .i64 id] w (fun e w' => e = .returned (.int .i64 (atV p id)) ∧ Kp w w') := by
  obtain ⟨b, o, c', hv, h3, h4, hb, hat⟩ := Ints.at hi (by omega)
  injection hv with e1 e2 e3
  subst e1 e3
  obtain ⟨k, hk⟩ := Int.eq_ofNat_of_zero_le (show 0 ≤ min (id - p.first) ((n : Int) - 1) by omega)
  have hkn : k < n := by omega
  have hck := hat k (by omega)
  have hv : p.values.getD k 0 = atV p id := by
    unfold atV
    rw [hn, hk]
    simp
  rw [hv] at hck
  have hnm : n ≤ 9223372036854775807 := by simp only [maxLen] at h4; omega
  have hck2 : (w.alloc (.cells #[.int .i64 p.first, .int .i64 p.last, .slice (some ⟨b, o, none⟩) n c] 180)).cell? ⟨b, o + k, none⟩ = some (.int .i64 (atV p id)) := by
    rw [World.cell?_alloc_lt _ _ _ (by simp; omega)]; exact hck
  have hc0 : (w.alloc (.cells #[.int .i64 p.first, .int .i64 p.last, .slice (some ⟨b, o, none⟩) n c] 180)).cell? ⟨w.heap.size, 0, none⟩ = some (.int .i64 p.first) := (Blk.new _ _ _).cell 0
  have hc2 : (w.alloc (.cells #[.int .i64 p.first, .int .i64 p.last, .slice (some ⟨b, o, none⟩) n c] 180)).cell? ⟨w.heap.size, 2, none⟩ = some (.slice (some ⟨b, o, none⟩) n c) := (Blk.new _ _ _).cell 2
  have hw1 := IntWalk.i64_in (id - p.first) (by omega)
  have hw2 := IntWalk.i64_in ((n : Int) - 1) (by omega)
  clear hat hi hv hck h3 h4 e2 hn
  generalize atV p id = x at *
  by_cases hle : id - p.first ≤ (n : Int) - 1
  · have hk2 : id - p.first = (k : Int) := by omega
    clear hk
    go_enter Try.func82, Try.ntmps82
    go_wp2_with fail
    go_ret
    exact ⟨rfl, (Kp.refl w).alloc _⟩
  · have hk2 : k = n - 1 := by omega
    subst hk2
    clear hk
    go_enter Try.func82, Try.ntmps82
    go_wp2_with fail
    go_ret
    exact ⟨rfl, (Kp.refl w).alloc _⟩
end Go.Proofs.Ytidedlbieakagaa
