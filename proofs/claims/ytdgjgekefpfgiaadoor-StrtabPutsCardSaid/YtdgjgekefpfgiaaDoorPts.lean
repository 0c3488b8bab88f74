/- StrtabPuts: the walk. -/
import Derived.Test.YtdgjgekefpfgiaaDoorBak
import Derived.Test.YtdgjgekefpfgiaaDoorRp6
namespace Go.Proofs.YtdgjgekefpfgiaaDoor
open Go.RowKit

set_option maxRecDepth 100000 in
set_option maxHeartbeats 1000000 in
theorem puts_any (v : Value) (l : List ByteArray) (ask : Int) (w : World) (h : RS Any w v l) (hask : I64 ask) (hT : Lib.Utf8Tabs 0 1 w) :
    Calls Tryd.prog 4 #[v, .int .i64 ask] w fun e w' => e = .returned (.bool true) ∧ Below w.heap.size w w' := by
  obtain ⟨A, c, rfl, hc, hm⟩ := h.form
  cases hg : greatB l with
  | true =>
    go_enter Tryd.func4, Tryd.ntmps4
    go_wp2_with fail
    refine (awake6_any _ hT).mono ?_
    rintro e w1 ⟨rfl, b1⟩
    go_wp2_with fail
    refine (refGreat_any _ l _ (h.later b1)).mono ?_
    rw [hg]
    rintro e w2 ⟨rfl, rfl⟩
    go_wp2_with fail
    refine (awake6_any _ (Utf8Tabs_below hT b1)).mono ?_
    rintro e w2 ⟨rfl, b2⟩
    go_wp2
    go_ret
    exact ⟨rfl, below2 b1 b2⟩
  | false =>
    have hsz := (greatB_not hg).2
    have hlen := (greatB_not hg).1
    have hG := Lib.hid hg
    go_enter Tryd.func4, Tryd.ntmps4
    go_wp2_with fail
    refine (awake6_any _ hT).mono ?_
    rintro e w1 ⟨rfl, b1⟩
    go_wp2_with fail
    refine (refGreat_any _ l _ (h.later b1)).mono ?_
    rw [hG.out]
    rintro e w2 ⟨rfl, rfl⟩
    clear hg
    go_wp2_with fail
    refine (tabNew_any _).mono ?_
    rintro e w2 ⟨g, rfl, ⟨S, t2, hS⟩, b2⟩
    have b02 := below2 b1 b2
    replace hS : ∀ k, S k → w.heap.size ≤ k := fun k hk => by have := hS k hk; have := b1.size; omega
    clear b1 b2
    go_wp2
    go_loopw [6, 24] (fun want i wr => ∃ (k : Nat) (S : Nat → Prop), k ≤ l.length ∧ i = .int .i64 k ∧ Tab S wr g (internL (l.take k)) ∧ RS (fun b => ¬ S b) wr want (internL (l.take k)) ∧ (∀ k, S k → w.heap.size ≤ k) ∧ Below w.heap.size w wr) (fun _ i _ => l.length - (intOf i).toNat)
    case atStart => exact ⟨0, S, Nat.zero_le _, rfl, t2, Sl.nil _ _ _ _ _, hS, b02⟩
    case round =>
      clear t2 hS b02 S
      obtain ⟨k, S, hk, rfl, t2, hwant, hS, b2⟩ := hrel
      by_cases hlt : k < l.length
      · obtain ⟨bb, o, e, -, hcl, hx⟩ := (h.later b2).at k hlt
        subst e
        have hsmall := small_one hG.out hlt
        have hxs := hsz _ (List.getElem_mem hlt)
        have hq := (small_take hG.out k).1
        have hint := fun w h => tabIntern_any S g (internL (l.take k)) l[k] w h (by omega) hsmall
        have hrin := fun want w h => refIntern_any (fun b => ¬ S b) want (internL (l.take k)) l[k] w h hx (by omega)
        have hnx := Lib.hid (internL_take hlt)
        go_wp2_with fail
        refine (hrin _ _ hwant).mono ?_
        rintro e w3 ⟨u, rfl, hu, b3⟩
        have t3 := t2.later b3
        have b03 := below2 b2 b3
        replace hu : RS (fun b => ¬ S b ∧ b < w3.heap.size) w3 u _ := hu.mono fun b hb h => by
          refine ⟨?_, hb⟩
          rcases h with h | h
          · exact h
          · intro hs
            have := t2.2.1 b hs
            omega
        clear t2 b2 b3
        go_wp2_with fail
        refine (hint _ t3).mono ?_
        rintro e w4 ⟨rfl, S4, t4, g4⟩
        have hu4 := (hu.keeps (g4.1.keeps.mono fun b h => h.1)).mono (T := fun b => ¬ S4 b) fun b hb hn hs => by
          rcases g4.2 b hs with h | h
          · exact hn.1 h
          · have := hn.2
            omega
        rw [← hnx.out] at t4 hu4
        go_wp2
        go_roundw
        case rel => exact ⟨k + 1, S4, by omega, by go_num, t4, hu4, fun j hj => (by rcases g4.2 j hj with h | h; exact hS j h; have := b03.size; omega), b03.trans (g4.1.below b03.size hS)⟩
        case measure => simp [intOf]; omega
      · obtain rfl : k = l.length := by omega
        obtain ⟨q1, q2⟩ := small_take hG.out l.length
        rw [List.take_length] at t2 q1 q2 hwant
        have hsms := t2.2.2.2.1
        generalize internL l = L at *
        obtain ⟨A2, c2, rfl, -, -⟩ := hwant.form
        have hqq : (putT L == putT L) = true := by simp
        by_cases h0 : ask < 0
        · have hat := tabAt_any S g L ask _ t2
          rw [show atT L ask = none from if_neg (by omega)] at hat
          go_wp2_with fail
          refine hat.mono ?_
          rintro e w3 ⟨rfl, rfl⟩
          go_wp2_with fail
          refine (tabLen_any _ _ _ _ t2).mono ?_
          rintro e w3 ⟨rfl, rfl⟩
          go_wp2_with fail
          refine (tabBytes_any _ _ _ _ t2).mono ?_
          rintro e w3 ⟨rfl, rfl⟩
          go_wp2_with fail
          refine (refTotal_any _ _ _ hwant.any (by omega)).mono ?_
          rintro e w3 ⟨rfl, rfl⟩
          go_wp2_with fail
          refine (all_any _ _ _ _ t2 (by omega)).mono ?_
          rintro e w3 ⟨A3, c3, rfl, r3, b3⟩
          have hr3 := row_rs r3 (by omega) hsms.2.1
          have t3 := t2.later b3
          have hw3 := hwant.any.later b3
          have b03 := below2 b2 b3
          clear t2 b2 b3 r3
          go_wp2_with fail
          refine (refSame_any _ _ _ _ _ hr3 hw3).mono ?_
          rw [show decide (L = L) = true from by simp]
          rintro e w4 ⟨rfl, n4, rfl⟩
          have b04 := below_drewN' b03 n4
          have t4 : Tab S (w3.drewN n4) g L := t3.later (below_drewN' (Below.refl _ _) n4)
          have hw4 : RS Any (w3.drewN n4) _ L := hw3.later (below_drewN' (Below.refl _ _) n4)
          clear t3 hw3 hr3 b03
          go_wp2_with fail
          refine (tabPut_any _ _ _ _ t4).mono ?_
          rintro e w5 ⟨rfl, b5⟩
          have b05 := below2 b04 b5
          go_wp2_with fail
          refine (refPutT_any _ _ _ (hw4.later b5) hsms).mono ?_
          rintro e w6 ⟨rfl, b6⟩
          go_wp2
          go_ret
          exact ⟨rfl, below2 b05 b6⟩
        · obtain ⟨n, rfl⟩ := Int.eq_ofNat_of_zero_le (show 0 ≤ ask by omega)
          have hat := tabAt_any S g L n _ t2
          rw [show atT L n = L[n]? from by rw [atT, if_pos (by omega), Int.toNat_natCast]] at hat
          have h00 : (0 : Int) ≤ (n : Int) := by omega
          clear h0
          by_cases hn : n < L.length
          · rw [List.getElem?_eq_getElem hn] at hat
            obtain ⟨bw, ow, ew, -, hcw, -⟩ := hwant.at n hn
            subst ew
            have hnn : (n : Int) < (L.length : Int) := by omega
            have hseq := seq (x := L[n]) rfl
            go_wp2_with fail
            refine hat.mono ?_
            rintro e w3 ⟨rfl, rfl⟩
            go_wp2_with fail
            refine (tabLen_any _ _ _ _ t2).mono ?_
            rintro e w3 ⟨rfl, rfl⟩
            go_wp2_with fail
            refine (tabBytes_any _ _ _ _ t2).mono ?_
            rintro e w3 ⟨rfl, rfl⟩
            go_wp2_with fail
            refine (refTotal_any _ _ _ hwant.any (by omega)).mono ?_
            rintro e w3 ⟨rfl, rfl⟩
            go_wp2_with fail
            refine (all_any _ _ _ _ t2 (by omega)).mono ?_
            rintro e w3 ⟨A3, c3, rfl, r3, b3⟩
            have hr3 := row_rs r3 (by omega) hsms.2.1
            have t3 := t2.later b3
            have hw3 := hwant.any.later b3
            have b03 := below2 b2 b3
            clear t2 b2 b3 r3
            go_wp2_with fail
            refine (refSame_any _ _ _ _ _ hr3 hw3).mono ?_
            rw [show decide (L = L) = true from by simp]
            rintro e w4 ⟨rfl, n4, rfl⟩
            have b04 := below_drewN' b03 n4
            have t4 : Tab S (w3.drewN n4) g L := t3.later (below_drewN' (Below.refl _ _) n4)
            have hw4 : RS Any (w3.drewN n4) _ L := hw3.later (below_drewN' (Below.refl _ _) n4)
            clear t3 hw3 hr3 b03
            go_wp2_with fail
            refine (tabPut_any _ _ _ _ t4).mono ?_
            rintro e w5 ⟨rfl, b5⟩
            have b05 := below2 b04 b5
            go_wp2_with fail
            refine (refPutT_any _ _ _ (hw4.later b5) hsms).mono ?_
            rintro e w6 ⟨rfl, b6⟩
            go_wp2
            go_ret
            exact ⟨rfl, below2 b05 b6⟩
          · rw [List.getElem?_eq_none (by omega)] at hat
            have hnn : ¬ (n : Int) < (L.length : Int) := by omega
            go_wp2_with fail
            refine hat.mono ?_
            rintro e w3 ⟨rfl, rfl⟩
            go_wp2_with fail
            refine (tabLen_any _ _ _ _ t2).mono ?_
            rintro e w3 ⟨rfl, rfl⟩
            go_wp2_with fail
            refine (tabBytes_any _ _ _ _ t2).mono ?_
            rintro e w3 ⟨rfl, rfl⟩
            go_wp2_with fail
            refine (refTotal_any _ _ _ hwant.any (by omega)).mono ?_
            rintro e w3 ⟨rfl, rfl⟩
            go_wp2_with fail
            refine (all_any _ _ _ _ t2 (by omega)).mono ?_
            rintro e w3 ⟨A3, c3, rfl, r3, b3⟩
            have hr3 := row_rs r3 (by omega) hsms.2.1
            have t3 := t2.later b3
            have hw3 := hwant.any.later b3
            have b03 := below2 b2 b3
            clear t2 b2 b3 r3
            go_wp2_with fail
            refine (refSame_any _ _ _ _ _ hr3 hw3).mono ?_
            rw [show decide (L = L) = true from by simp]
            rintro e w4 ⟨rfl, n4, rfl⟩
            have b04 := below_drewN' b03 n4
            have t4 : Tab S (w3.drewN n4) g L := t3.later (below_drewN' (Below.refl _ _) n4)
            have hw4 : RS Any (w3.drewN n4) _ L := hw3.later (below_drewN' (Below.refl _ _) n4)
            clear t3 hw3 hr3 b03
            go_wp2_with fail
            refine (tabPut_any _ _ _ _ t4).mono ?_
            rintro e w5 ⟨rfl, b5⟩
            have b05 := below2 b04 b5
            go_wp2_with fail
            refine (refPutT_any _ _ _ (hw4.later b5) hsms).mono ?_
            rintro e w6 ⟨rfl, b6⟩
            go_wp2
            go_ret
            exact ⟨rfl, below2 b05 b6⟩
end Go.Proofs.YtdgjgekefpfgiaaDoor
