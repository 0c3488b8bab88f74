/- StrtabGets: the walk. -/
import Derived.Test.YtdgjgekefpfgiaaDoorBak
import Derived.Test.YtdgjgekefpfgiaaDoorRg6
namespace Go.Proofs.YtdgjgekefpfgiaaDoor
open Go.RowKit

set_option maxRecDepth 100000 in
set_option maxHeartbeats 1000000 in
theorem gets_any (b : ByteArray) (texts bytes : Int) (w : World) (hb : b.size ≤ 9223372036854775807) (ht : I64 texts) (hy : I64 bytes) (hT : Lib.Utf8Tabs 0 1 w) :
    Calls Tryd.prog 5 #[.string b, .int .i64 texts, .int .i64 bytes] w fun e w' => e = .returned (.bool true) ∧ Below w.heap.size w w' := by
  by_cases hbl : 1500 < b.size
  · have hbi : (1500 : Int) < (b.size : Int) := by omega
    go_enter Tryd.func5, Tryd.ntmps5
    go_wp2_with fail
    refine (awake6_any _ hT).mono ?_
    rintro e w1 ⟨rfl, b1⟩
    go_wp2_with fail
    refine (awake6_any _ (Utf8Tabs_below hT b1)).mono ?_
    rintro e w2 ⟨rfl, b2⟩
    go_wp2
    go_ret
    exact ⟨rfl, below2 b1 b2⟩
  have hbi : ¬ (1500 : Int) < (b.size : Int) := by omega
  have hget := fun w (hT : Lib.Utf8Tabs 0 1 w) => tabGet_any b texts bytes w (by omega) ht hy hT
  have hrget := fun w => refGetT_any b texts bytes w (by omega) ht hy
  have hput := fun l (h : getT b texts bytes = (l, 0)) => getT_put h
  generalize getT b texts bytes = r at *
  obtain ⟨l, er⟩ := r
  by_cases her : er = 0
  · subst her
    obtain ⟨hbd, hnd, -, -⟩ := hput l rfl
    clear hput
    have hlen : l.length + totalT l ≤ 1500 := by
      have h1 := putL_ge l
      have h2 : b.data.toList.length = b.size := by rw [Array.length_toList]; rfl
      rw [hbd, putT, List.length_append] at h2
      omega
    have hsms : ∀ x ∈ l, x.size ≤ 1000000 := (small_of (l := l) (by omega)).2.1
    clear hbd
    go_enter Tryd.func5, Tryd.ntmps5
    go_wp2_with fail
    refine (awake6_any _ hT).mono ?_
    rintro e w1 ⟨rfl, b1⟩
    go_wp2_with fail
    refine (hget _ (Utf8Tabs_below hT b1)).mono ?_
    rintro e w2 ⟨b2, ⟨-, g, S, rfl, t2, -⟩ | ⟨h, -⟩⟩
    case inr => exact absurd rfl h
    have b02 := below2 b1 b2
    clear b1 b2
    go_wp2_with fail
    refine (hrget _).mono ?_
    rintro e w3 ⟨b3, ⟨-, A, c, rfl, hl3⟩ | ⟨h, -⟩⟩
    case inr => exact absurd rfl h
    have t3 := t2.later b3
    have b03 := below2 b02 b3
    clear t2 b02 b3
    go_wp2_with fail
    refine (all_any _ _ _ _ t3 (by show l.length ≤ 5000; omega)).mono ?_
    rintro e w4 ⟨A4, c4, rfl, r4, b4⟩
    have hr4 := row_rs r4 (by show l.length ≤ 1000000; omega) hsms
    have t4 := t3.later b4
    have hl4 := hl3.later b4
    have b04 := below2 b03 b4
    clear t3 hl3 b03 b4 r4
    go_wp2_with fail
    refine (refSame_any _ _ _ _ _ hr4 hl4).mono ?_
    rw [show decide ((l, (0 : Int)).1 = (l, (0 : Int)).1) = true from by simp]
    rintro e w5 ⟨rfl, n5, rfl⟩
    have b05 := below_drewN' b04 n5
    have t5 : Tab S (w4.drewN n5) g l := t4.later (below_drewN' (Below.refl _ _) n5)
    have hl5 : RS Any (w4.drewN n5) _ l := hl4.later (below_drewN' (Below.refl _ _) n5)
    clear t4 hl4 hr4 b04
    go_wp2_with fail
    refine (tabBytes_any _ _ _ _ t5).mono ?_
    rintro e w6 ⟨rfl, rfl⟩
    go_wp2_with fail
    refine (refTotal_any _ _ _ hl5 (by omega)).mono ?_
    rintro e w6 ⟨rfl, rfl⟩
    go_wp2
    go_ret
    exact ⟨rfl, b05⟩
  · clear hput
    have heb : ((er : Int) == 0) = false := by simpa using her
    go_enter Tryd.func5, Tryd.ntmps5
    go_wp2_with fail
    refine (awake6_any _ hT).mono ?_
    rintro e w1 ⟨rfl, b1⟩
    go_wp2_with fail
    refine (hget _ (Utf8Tabs_below hT b1)).mono ?_
    rintro e w2 ⟨b2, ⟨h, -⟩ | ⟨-, rfl⟩⟩
    case inl => exact absurd h her
    go_wp2_with fail
    refine (hrget _).mono ?_
    rintro e w3 ⟨b3, ⟨h, -⟩ | ⟨-, rfl⟩⟩
    case inl => exact absurd h her
    go_wp2
    go_ret
    exact ⟨rfl, below2 (below2 b1 b2) b3⟩
end Go.Proofs.YtdgjgekefpfgiaaDoor
