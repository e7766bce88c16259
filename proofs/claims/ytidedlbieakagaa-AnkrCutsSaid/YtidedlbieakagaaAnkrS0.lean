/- A TABLE OF TWO GLYPHS, reckoned. -/
import Derived.Test.YtidedlbieakagaaAnkrW
import Derived.Test.YtidedlbieakagaaAnkrG
namespace Go.Proofs.Ytidedlbieakagaa
open Go.RowKit
def sLs : List (List (Int × Int)) := [[], [(3, -4)]]
theorem sTake : ankrTake (writeA sLs) 9 = some ([⟨0, 1, [0, 4]⟩], dataB sLs) := by kernel_rfl
theorem sOk : ATok ([⟨0, 1, [0, 4]⟩], dataB sLs) := by
  have hl : (dataB sLs).length = 12 := by kernel_rfl
  refine ⟨⟨fun p hp => ?_, by kernel_rfl⟩, by simp, by simp only [hl]; omega, by kernel_rfl, fun p hp => ?_⟩
  · simp at hp; subst hp; simp
  · simp at hp; subst hp; intro v hv; simp at hv; rcases hv with rfl | rfl <;> simp [VB]
theorem sGet : ankrGet ([⟨0, 1, [0, 4]⟩], dataB sLs) 1 0 = some (3, -4) := by kernel_rfl
theorem sCount1 : ankrCount ([⟨0, 1, [0, 4]⟩], dataB sLs) 1 = 1 := by kernel_rfl
theorem sCount0 : ankrCount ([⟨0, 1, [0, 4]⟩], dataB sLs) 0 = 0 := by kernel_rfl
theorem sLen : (dataB sLs).length ≤ 1000000 := by
  have hl : (dataB sLs).length = 12 := by kernel_rfl
  omega
theorem sLenW : (writeA sLs).length ≤ 1000 := by
  have hl : (writeA sLs).length = 34 := by kernel_rfl
  omega
theorem sMem (P : Nat → Prop) (w : World) (a b c : Nat) (hb : Blk w b 33 #[.int .i16 3, .int .i16 (-4)]) (hc : Blk w c 24 #[.slice (some ⟨a, 0, none⟩) 0 0, .slice (some ⟨b, 0, none⟩) 1 1]) (hP : P b) (hQ : P c) :
    PtsV P w (.slice (some ⟨c, 0, none⟩) 2 2) sLs := by
  show SliceOf P w 1 (PtsC P w) (.slice (some ⟨c, 0, none⟩) sLs.length 2) sLs
  refine SliceOf.of_blk (s := 1) (R := PtsC P w) (c := 2) (ps := sLs) (xs := [.slice (some ⟨a, 0, none⟩) 0 0, .slice (some ⟨b, 0, none⟩) 1 1]) hc ⟨rfl, ?_⟩ (by simp [sLs]) (by simp [maxLen]) hQ
  intro i p hp
  match i with
  | 0 =>
    simp [sLs] at hp
    subst hp
    exact ⟨_, rfl, _, 0, [], rfl, by simp, by simp [maxLen], .inl rfl, .nil _ _⟩
  | 1 =>
    simp [sLs] at hp
    subst hp
    refine ⟨_, rfl, SliceOf.of_blk (s := 2) (R := PtC) (c := 1) (ps := [(3, -4)]) (xs := [.int .i16 3, .int .i16 (-4)]) hb ⟨rfl, ?_⟩ (by simp) (by simp [maxLen]) hP⟩
    intro i p hp
    match i with
    | 0 => simp at hp; subst hp; rfl
    | j + 1 => simp at hp
  | j + 2 => simp [sLs] at hp
end Go.Proofs.Ytidedlbieakagaa
