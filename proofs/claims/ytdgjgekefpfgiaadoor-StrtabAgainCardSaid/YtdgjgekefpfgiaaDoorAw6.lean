/- The table's awake. -/
import Derived.Test.YtdgjgekefpfgiaaDoorLa6
namespace Go.Proofs.YtdgjgekefpfgiaaDoor
open Go.RowKit

def tA : ByteArray := ⟨#[97]⟩
def tB : ByteArray := ⟨#[98]⟩
theorem aw_get : getT ⟨#[2, 1, 97, 1, 98]⟩ 9 9 = ([tA, tB], 0) := by decide
theorem aw_twice : (getT ⟨#[2, 1, 97, 1, 97]⟩ 9 9).2 = 17 := by decide
theorem aw_put : putT [tA, tB] = [2, 1, 97, 1, 98] := by
  have v2 : vput 2 = [2] := by rw [vput]; rfl
  have v1 : vput 1 = [1] := by rw [vput]; rfl
  show vput 2 ++ (vput 1 ++ [97] ++ (vput 1 ++ [98] ++ [])) = _
  rw [v2, v1]
  rfl
set_option maxRecDepth 100000 in
set_option maxHeartbeats 4000000 in
theorem awake6_any (w : World) (hT : Lib.Utf8Tabs 0 1 w) : Calls Tryd.prog 30 #[] w fun e w' => e = .returned (.bool true) ∧ Below w.heap.size w w' := by
  have i1 : internT [] tA = [tA] := rfl
  have i2 : internT [tA] tB = [tA, tB] := by decide
  have i3 : internT [tA, tB] tA = [tA, tB] := by decide
  have n1 : numT [] tA = 0 := rfl
  have n2 : numT [tA] tB = 1 := by decide
  have n3 : numT [tA, tB] tA = 0 := by decide
  have tot : totalT [tA, tB] = 2 := rfl
  have hat : atT [tA, tB] 1 = some ⟨#[98]⟩ := rfl
  have m1 : Small [tA] := small_of (by decide)
  have m2 : Small [tA, tB] := small_of (by decide)
  have I1 := fun S g w (h : Tab S w g []) => tabIntern_any S g [] tA w h (by decide) (by rw [i1]; exact m1)
  have I2 := fun S g w (h : Tab S w g [tA]) => tabIntern_any S g [tA] tB w h (by decide) (by rw [i2]; exact m2)
  have I3 := fun S g w (h : Tab S w g [tA, tB]) => tabIntern_any S g [tA, tB] tA w h (by decide) (by rw [i3]; exact m2)
  have A1 := fun S g w (h : Tab S w g [tA, tB]) => tabAt_any S g [tA, tB] 1 w h
  have L1 := fun S g w (h : Tab S w g [tA, tB]) => tabLen_any S g [tA, tB] w h
  have B1 := fun S g w (h : Tab S w g [tA, tB]) => tabBytes_any S g [tA, tB] w h
  have P1 := fun S g w (h : Tab S w g [tA, tB]) => tabPut_any S g [tA, tB] w h
  rw [i1, n1] at I1
  rw [i2, n2] at I2
  rw [i3, n3] at I3
  rw [hat] at A1
  rw [tot] at B1
  rw [aw_put] at P1
  replace P1 : ∀ (S : Nat → Prop) (g : Nat) (w : World), Tab S w g [tA, tB] → Calls Tryd.prog 41 #[.pointer (some ⟨g, 0, none⟩)] w fun e w' => e = .returned (.string ⟨#[2, 1, 97, 1, 98]⟩) ∧ Below w.heap.size w w' := P1
  have q1 := seq (x := ⟨#[98]⟩) rfl
  have q2 := seq (x := ⟨#[2, 1, 97, 1, 98]⟩) rfl
  have G1 := fun w (hT : Lib.Utf8Tabs 0 1 w) => tabGet_any ⟨#[2, 1, 97, 1, 98]⟩ 9 9 w (by decide) (by decide) (by decide) hT
  have G2 := fun w (hT : Lib.Utf8Tabs 0 1 w) => tabGet_any ⟨#[2, 1, 97, 1, 97]⟩ 9 9 w (by decide) (by decide) (by decide) hT
  rw [aw_get] at G1
  have G2e := Lib.hid aw_twice
  clear i1 i2 i3 n1 n2 n3 tot hat m1 m2
  go_enter Tryd.func30, Tryd.ntmps30
  go_wp2_with fail
  refine (tabNew_any _).mono ?_
  rintro e w1 ⟨g, rfl, ⟨S1, t1, hS1⟩, b1⟩
  go_wp2_with fail
  refine (I1 _ _ _ t1).mono ?_
  rintro e w2 ⟨rfl, S2, t2, g2⟩
  have hS2 : ∀ k, S2 k → w.heap.size ≤ k := fun k hk => by rcases g2.2 k hk with h | h; exact hS1 k h; have := b1.size; omega
  have b2 : Below w.heap.size w w2 := b1.trans (g2.1.below b1.size hS1)
  clear t1 b1 g2
  go_wp2_with fail
  refine (I2 _ _ _ t2).mono ?_
  rintro e w3 ⟨rfl, S3, t3, g3⟩
  have hS3 : ∀ k, S3 k → w.heap.size ≤ k := fun k hk => by rcases g3.2 k hk with h | h; exact hS2 k h; have := b2.size; omega
  have b3 : Below w.heap.size w w3 := b2.trans (g3.1.below b2.size hS2)
  clear t2 b2 g3
  go_wp2_with fail
  refine (I3 _ _ _ t3).mono ?_
  rintro e w4 ⟨rfl, S4, t4, g4⟩
  have hS4 : ∀ k, S4 k → w.heap.size ≤ k := fun k hk => by rcases g4.2 k hk with h | h; exact hS3 k h; have := b3.size; omega
  have b4 : Below w.heap.size w w4 := b3.trans (g4.1.below b3.size hS3)
  clear t3 b3 g4
  go_wp2_with fail
  refine (G1 _ (Utf8Tabs_below hT b4)).mono ?_
  rintro e w5 ⟨b5, ⟨-, gu, SU, rfl, u5, hU5⟩ | ⟨h, -⟩⟩
  case inr => exact absurd rfl h
  have t5 := t4.later b5
  have b05 := below2 b4 b5
  clear t4 b4 b5
  go_wp2_with fail
  refine (G2 _ (Utf8Tabs_below hT b05)).mono ?_
  rintro e w6 ⟨b6, ⟨h, -⟩ | ⟨-, rfl⟩⟩
  case inl => rw [G2e.out] at h; cases h
  rw [G2e.out]
  have t6 := t5.later b6
  have u6 := u5.later b6
  have b06 := below2 b05 b6
  clear t5 u5 b05 b6
  go_wp2_with fail
  refine (A1 _ _ _ u6).mono ?_
  rintro e w7 ⟨rfl, rfl⟩
  go_wp2_with fail
  refine (L1 _ _ _ t6).mono ?_
  rintro e w7 ⟨rfl, rfl⟩
  go_wp2_with fail
  refine (B1 _ _ _ t6).mono ?_
  rintro e w7 ⟨rfl, rfl⟩
  go_wp2_with fail
  refine (P1 _ _ _ t6).mono ?_
  rintro e w7 ⟨rfl, b7⟩
  go_wp2
  go_ret
  exact ⟨rfl, below2 b06 b7⟩
end Go.Proofs.YtdgjgekefpfgiaaDoor
