/- The table whose bytes these are. -/
import Derived.Test.YtdgjgekefpfgiaaDoorTpt
import Derived.Test.YtdgjgekefpfgiaaDoorCu2
import Derived.Test.YtdgjgekefpfgiaaDoorUtf
namespace Go.Proofs.YtdgjgekefpfgiaaDoor
open Go.RowKit

theorem cuText_size (s : ByteArray) (c : Cu) (m : Int) : (cuText s c m).1.size ≤ s.size := by
  have hb : ∀ c n, (cuBytes s c n).1.size ≤ s.size := by
    intro c n
    unfold cuBytes
    repeat' split
    all_goals simp [ByteArray.size_extract]
    all_goals first | omega | exact Nat.zero_le _
  simp only [cuText]
  split
  · exact hb _ _
  · exact Nat.zero_le _
def GetTRet (r : List ByteArray × Int) (w : World) (e : Ending) (w' : World) : Prop :=
  Below w.heap.size w w' ∧ ((r.2 = 0 ∧ ∃ g S, e = .returned (.tuple #[.pointer (some ⟨g, 0, none⟩), .int .i64 0]) ∧ Tab S w' g r.1 ∧ ∀ k, S k → w.heap.size ≤ k) ∨ (r.2 ≠ 0 ∧ e = .returned (.tuple #[.pointer none, .int .i64 r.2])))
def finT (n : Nat) (R : Cu × List ByteArray) : List ByteArray × Int := if R.1.e = 0 then (if R.1.at_ < n then ([], 8) else (R.2, 0)) else ([], R.1.e)
theorem numT_total {l : List ByteArray} {x : ByteArray} (h : x ∉ l) : totalT (internT l x) = totalT l + x.size ∧ (internT l x).length = l.length + 1 := by
  rw [internT, if_neg h, totalT_snoc, List.length_append]
  exact ⟨rfl, rfl⟩
theorem mem_total {l : List ByteArray} {x : ByteArray} (h : x ∈ l) : x.size ≤ totalT l := by
  induction l with
  | nil => cases h
  | cons a l ih =>
    rw [totalT_cons]
    rcases List.mem_cons.1 h with rfl | h
    · omega
    · have := ih h
      omega
theorem small_of {l : List ByteArray} (h : l.length + totalT l ≤ 1000000) : Small l := ⟨by omega, fun s hs => by have := mem_total hs; omega, by omega⟩
set_option maxRecDepth 100000 in
set_option maxHeartbeats 4000000 in
theorem tabGet_any (s : ByteArray) (texts bytes : Int) (w : World) (hs : s.size ≤ 1000000) (ht : I64 texts) (hby : I64 bytes) (hT : Lib.Utf8Tabs 0 1 w) :
    Calls Tryd.prog 43 #[.string s, .int .i64 texts, .int .i64 bytes] w (GetTRet (getT s texts bytes) w) := by
  obtain ⟨tx, hx, htx, htl⟩ : ∃ m : Nat, max texts 0 = (m : Int) ∧ texts.toNat = m ∧ (m : Int) ≤ 9223372036854775807 := ⟨texts.toNat, by omega, rfl, by have := ht.2; omega⟩
  obtain ⟨mb, hx2, hmb, hml⟩ : ∃ m : Nat, max bytes 0 = (m : Int) ∧ bytes.toNat = m ∧ (m : Int) ≤ 9223372036854775807 := ⟨bytes.toNat, by omega, rfl, by have := hby.2; omega⟩
  have hU : U64 tx := by show tx < 18446744073709551616; omega
  have hget : getT s texts bytes = finT s.size (tgo s mb (cuUint s ⟨0, 0⟩ tx).1 (cuUint s ⟨0, 0⟩ tx).2 []) := by
    rw [← htx, ← hmb]
    rfl
  have hun : ∀ g w, CurAt w g s ⟨0, 0⟩ → Calls Tryd.prog 95 #[.pointer (some ⟨g, 0, none⟩), .int .u64 tx] w (CuRet (.int .i64 (cuUint s ⟨0, 0⟩ tx).1) g s (cuUint s ⟨0, 0⟩ tx).2 w) := fun g w h => curUint_any g s _ tx w h hU
  have hnle := cuUint_le (s := s) (c := ⟨0, 0⟩) (most := tx)
  generalize cuUint s ⟨0, 0⟩ tx = u at *
  obtain ⟨n0, cu0⟩ := u
  simp only at hun hget hnle
  generalize hR : tgo s mb n0 cu0 [] = R at *
  rw [hget]
  replace hR := Lib.hid hR
  clear hget
  replace htx := Lib.hid htx
  replace hmb := Lib.hid hmb
  go_enter Tryd.func43, Tryd.ntmps43
  go_wp2_with fail
  refine (curNew_any s _ hs).mono ?_
  rintro e w1 ⟨rfl, hc1, hb1, hsz1⟩
  replace hsz1 := Lib.hid hsz1
  go_wp2_with fail
  refine (tabNew_any _).mono ?_
  rintro e w2 ⟨gt, rfl, ⟨S2, hT2, hS2⟩, hb2⟩
  have hc2 : CurAt w2 w.heap.size s ⟨0, 0⟩ := hc1.touch (S := fun _ => False) (Touch.of_below hb2) fun h => h
  have hb02 := below2 hb1 hb2
  have hS2c : ∀ k, S2 k → w.heap.size < k := fun k hk => by have := hS2 k hk; have := hsz1.out; omega
  clear hc1 hb1 hb2 hS2
  go_wp2_with fail
  refine (hun _ _ hc2).mono ?_
  rintro e w3 ⟨rfl, hc3, ht3⟩
  have hT3 := hT2.touch ht3 fun k hk e => by have := hS2c k hk; omega
  have hb3 : Below w.heap.size w w3 := hb02.trans (ht3.below hb02.size fun k hk => by omega)
  clear hc2 hT2 ht3 hb02 hun
  go_wp2
  go_loopw [10] (fun x wr => ∃ (m : Nat) (cu : Cu) (l : List ByteArray) (S : Nat → Prop), m ≤ 16777216 ∧ x = .int .i64 m ∧ CurAt wr w.heap.size s cu ∧ Tab S wr gt l ∧ (∀ k, S k → w.heap.size < k) ∧ tgo s mb m cu l = R ∧ (cu.e = 0 → l.length + totalT l ≤ cu.at_) ∧ Below w.heap.size w wr) (fun x _ => (intOf x).toNat)
  case atStart => exact ⟨n0, cu0, [], S2, hnle, rfl, hc3, hT3, hS2c, hR.out, fun _ => Nat.zero_le _, hb3⟩
  case round =>
    clear hc3 hT3 hS2c hb3 S2 hR
    obtain ⟨m, cu, l, S, hm16, rfl, hc, hTab, hS, hgo, hinv, hbw⟩ := hrel
    by_cases hce : cu.e = 0
    · have hHC := Lib.hid hce
      replace hinv := hinv hce
      have hat := hc.2.1
      have hle : totalT l ≤ 1000000 := by omega
      by_cases hm0 : m = 0
      · subst hm0
        have hRf : Hid (R = (cu, l)) := Lib.hid (by rw [← hgo]; rfl)
        clear hgo hce
        have hm0 : ¬ ((0 : Int) < 0) := by decide
        go_wp2_with fail
        refine (curLeft_any _ s cu _ hc).mono ?_
        rintro e w4 ⟨rfl, k4, rfl⟩
        by_cases hatl : cu.at_ < s.size
        · have hb : (0 : Int) < (s.size : Int) - cu.at_ := by omega
          have hfin : Hid (finT s.size R = ([], 8)) := Lib.hid (by rw [hRf.out, finT, if_pos hHC.out, if_pos hatl])
          go_wp2_with fail
          refine (curFail_any _ s cu 8 _ (hc.drewN k4) (by decide)).mono ?_
          rw [show cuFail cu 8 = ⟨cu.at_, 8⟩ from if_pos hHC.out]
          rintro e w5 ⟨rfl, hc5, ht5⟩
          go_wp2_with fail
          refine (curErr_any _ s _ _ hc5).mono ?_
          rintro e w6 ⟨rfl, rfl⟩
          go_wp2
          go_ret2
          rw [hfin.out]
          exact ⟨(below_drewN' hbw k4).trans (ht5.below (below_drewN' hbw k4).size fun k hk => by omega), .inr ⟨by decide, rfl⟩⟩
        · have hb : ¬ ((0 : Int) < (s.size : Int) - cu.at_) := by omega
          have hfin : Hid (finT s.size R = (l, 0)) := Lib.hid (by rw [hRf.out, finT, if_pos hHC.out, if_neg hatl])
          go_wp2_with fail
          refine (curErr_any _ s _ _ (hc.drewN k4)).mono ?_
          rw [hHC.out]
          rintro e w6 ⟨rfl, rfl⟩
          go_wp2
          go_ret2
          rw [hfin.out]
          exact ⟨below_drewN' hbw k4, .inl ⟨rfl, gt, S, rfl, hTab, fun k hk => by have := hS k hk; omega⟩⟩
      · obtain ⟨m, rfl⟩ : ∃ m', m = m' + 1 := ⟨m - 1, by omega⟩
        have hm1 : (0 : Int) < ((m + 1 : Nat) : Int) := by omega
        rw [tgo, if_pos hce] at hgo
        have hxs := cuText_size s cu ((mb : Int) - totalT l)
        have hI : I64 ((mb : Int) - totalT l) := by constructor <;> omega
        have htx2 := fun w h => curText_any w.heap.size s cu ((mb : Int) - totalT l) w h hI
        clear htx2
        have htxt : ∀ gg u, CurAt u gg s cu → Calls Tryd.prog 96 #[.pointer (some ⟨gg, 0, none⟩), .int .i64 ((mb : Int) - totalT l)] u (CuRet (.string (cuText s cu ((mb : Int) - totalT l)).1) gg s (cuText s cu ((mb : Int) - totalT l)).2 u) := fun gg u h => curText_any gg s cu _ u h hI
        have hgt := fun x c' (h : cuText s cu ((mb : Int) - totalT l) = (x, c')) (h1 : c'.e = 0) => cuText_get h hce h1
        generalize cuText s cu ((mb : Int) - totalT l) = X at *
        obtain ⟨x, cx⟩ := X
        simp only at hgo htxt hxs
        have htot := fun (h : cx.e = 0) => hgt x cx rfl h
        clear hgt hce hm0
        have c2 := hTab
        obtain ⟨-, -, -, -, A, c, mm, nn, -, hgb, -, -, -, -⟩ := c2
        have t2 := blk_cell hgb 2
        go_wp2_with fail
        refine (curErr_any _ s cu _ hc).mono ?_
        rw [hHC.out]
        rintro e w4 ⟨rfl, rfl⟩
        go_wp2_with fail
        refine (htxt _ _ hc).mono ?_
        rintro e w5 ⟨rfl, hc5, ht5⟩
        have hTab5 := hTab.touch ht5 fun k hk e => by have := hS k hk; omega
        have hb5 : Below w.heap.size w w5 := hbw.trans (ht5.below hbw.size fun k hk => by omega)
        clear hTab hc hgb t2 ht5 htxt
        by_cases hxe : cx.e = 0
        · obtain ⟨-, hx16, -, hcx, hxat⟩ := htot hxe
          rw [if_pos hxe] at hgo
          have hXE := Lib.hid hxe
          have hv1 := vput_pos x.size
          have hatx : cu.at_ + 1 + x.size ≤ cx.at_ := by
            rw [hcx]
            simp only [List.length_append]
            have : x.data.toList.length = x.size := by rw [Array.length_toList]; rfl
            omega
          replace hcx := Lib.hid hcx
          clear hxe htot
          go_wp2_with fail
          refine (curErr_any _ s cx _ hc5).mono ?_
          rw [hXE.out]
          rintro e w6 ⟨rfl, rfl⟩
          go_wp2_with fail
          refine (first_any x _ (by omega) (Utf8Tabs_below hT hb5)).mono ?_
          rintro e w6 ⟨rfl, hb6⟩
          have hc6 : CurAt w6 w.heap.size s cx := hc5.touch (S := fun _ => False) (Touch.of_below hb6) fun h => h
          have hTab6 := hTab5.later hb6
          have hb6' := below2 hb5 hb6
          clear hc5 hTab5 hb6 hb5 hbw
          by_cases hr : rightS x = true
          · rw [if_pos hr] at hgo
            have hneg : firstS x < 0 := by simpa [rightS] using hr
            have hnegb : ¬ (0 ≤ firstS x) := by omega
            go_wp2_with fail
            refine (tabHas_any S gt l x _ hTab6 (by omega)).mono ?_
            rintro e w7 ⟨rfl, hb7⟩
            have hc7 : CurAt w7 w.heap.size s cx := hc6.touch (S := fun _ => False) (Touch.of_below hb7) fun h => h
            have hTab7 := hTab6.later hb7
            have hb7' := below2 hb6' hb7
            clear hc6 hTab6 hb7 hb6'
            by_cases hmem : x ∈ l
            · rw [if_pos hmem] at hgo
              have hd : decide (x ∈ l) = true := decide_eq_true hmem
              go_wp2_with fail
              refine (curFail_any _ s cx 17 _ hc7 (by decide)).mono ?_
              rw [show cuFail cx 17 = ⟨cx.at_, 17⟩ from if_pos hXE.out]
              rintro e w8 ⟨rfl, hc8, ht8⟩
              have hTab8 := hTab7.touch ht8 fun k hk e => by have := hS k hk; omega
              have hb8 := hb7'.trans (ht8.below hb7'.size fun k hk => by omega)
              replace hgo := Lib.hid hgo
              clear hd hmem hr
              go_wp2
              go_roundw
              case rel => exact ⟨m, ⟨cx.at_, 17⟩, l, S, by omega, by go_num, hc8, hTab8, hS, by rw [tgo_err (by show (17 : Int) ≠ 0; decide)]; exact hgo.out, fun h => absurd h (by show (17 : Int) ≠ 0; decide), hb8⟩
              case measure => simp [intOf]
            · rw [if_neg hmem] at hgo
              have hd : decide (x ∈ l) = false := decide_eq_false hmem
              obtain ⟨q1, q2⟩ := numT_total hmem
              have hsm : Small (internT l x) := small_of (by omega)
              have hint : internT l x = l ++ [x] := if_neg hmem
              replace q1 := Lib.hid q1
              replace q2 := Lib.hid q2
              replace hint := Lib.hid hint
              replace hgo := Lib.hid hgo
              go_wp2_with fail
              refine (tabIntern_any S gt l x _ hTab7 (by omega) hsm).mono ?_
              rintro e w8 ⟨rfl, S8, hTab8, ht8⟩
              have hcn : ∀ k, S k → w.heap.size < k := hS
              have hc8 := hc7.touch ht8.1 fun h => by have := hS _ h; omega
              have hb8 := hb7'.trans (ht8.1.below hb7'.size fun k hk => by have := hS k hk; omega)
              have hlt7 := hc7.lt
              have hS8 : ∀ k, S8 k → w.heap.size < k := fun k hk => by
                rcases ht8.2 k hk with h | h
                · exact hS k h
                · omega
              clear hd hmem hr hTab7 hc7 hb7'
              go_wp2
              go_roundw
              case rel => exact ⟨m, cx, internT l x, S8, by omega, by go_num, hc8, hTab8, hS8, by rw [hint.out]; exact hgo.out, fun _ => by rw [q1.out, q2.out]; omega, hb8⟩
              case measure => simp [intOf]
          · rw [if_neg hr] at hgo
            have hneg : 0 ≤ firstS x := by
              have : rightS x = false := by simpa using hr
              simpa [rightS] using this
            go_wp2_with fail
            refine (curFail_any _ s cx 11 _ hc6 (by decide)).mono ?_
            rw [show cuFail cx 11 = ⟨cx.at_, 11⟩ from if_pos hXE.out]
            rintro e w8 ⟨rfl, hc8, ht8⟩
            have hTab8 := hTab6.touch ht8 fun k hk e => by have := hS k hk; omega
            have hb8 := hb6'.trans (ht8.below hb6'.size fun k hk => by omega)
            replace hgo := Lib.hid hgo
            go_wp2
            go_roundw
            case rel => exact ⟨m, ⟨cx.at_, 11⟩, l, S, by omega, by go_num, hc8, hTab8, hS, by rw [tgo_err (by show (11 : Int) ≠ 0; decide)]; exact hgo.out, fun h => absurd h (by show (11 : Int) ≠ 0; decide), hb8⟩
            case measure => simp [intOf]
        · rw [if_neg hxe] at hgo
          have hxb : ((cx.e : Int) != 0) = true := by simpa using hxe
          go_wp2_with fail
          refine (curErr_any _ s cx _ hc5).mono ?_
          rintro e w6 ⟨rfl, rfl⟩
          replace hgo := Lib.hid hgo
          go_wp2
          go_roundw
          case rel => exact ⟨m, cx, l, S, by omega, by go_num, hc5, hTab5, hS, by rw [tgo_err hxe]; exact hgo.out, fun h => absurd h hxe, hb5⟩
          case measure => simp [intOf]
    · have hRf : Hid (R = (cu, l)) := Lib.hid (by rw [← hgo, tgo_err hce])
      have hfin : Hid (finT s.size R = ([], cu.e)) := Lib.hid (by rw [hRf.out, finT, if_neg hce])
      have hcb : ((cu.e : Int) == 0) = false := by simpa using hce
      have hcb2 : ((cu.e : Int) != 0) = true := by simpa using hce
      have hfl : cuFail cu 8 = cu := if_neg hce
      have hFL := Lib.hid hfl
      clear hgo hfl
      have hat := hc.2.1
      by_cases hm0 : m = 0
      · subst hm0
        have hm0 : ¬ ((0 : Int) < 0) := by decide
        go_wp2_with fail
        refine (curLeft_any _ s cu _ hc).mono ?_
        rintro e w4 ⟨rfl, k4, rfl⟩
        by_cases hatl : cu.at_ < s.size
        · have hb : (0 : Int) < (s.size : Int) - cu.at_ := by omega
          go_wp2_with fail
          refine (curFail_any _ s cu 8 _ (hc.drewN k4) (by decide)).mono ?_
          rw [hFL.out]
          rintro e w5 ⟨rfl, hc5, ht5⟩
          go_wp2_with fail
          refine (curErr_any _ s _ _ hc5).mono ?_
          rintro e w6 ⟨rfl, rfl⟩
          go_wp2
          go_ret2
          rw [hfin.out]
          exact ⟨(below_drewN' hbw k4).trans (ht5.below (below_drewN' hbw k4).size fun k hk => by omega), .inr ⟨hce, rfl⟩⟩
        · have hb : ¬ ((0 : Int) < (s.size : Int) - cu.at_) := by omega
          go_wp2_with fail
          refine (curErr_any _ s _ _ (hc.drewN k4)).mono ?_
          rintro e w6 ⟨rfl, rfl⟩
          go_wp2
          go_ret2
          rw [hfin.out]
          exact ⟨below_drewN' hbw k4, .inr ⟨hce, rfl⟩⟩
      · have hm1 : (0 : Int) < (m : Int) := by omega
        go_wp2_with fail
        refine (curErr_any _ s cu _ hc).mono ?_
        rintro e w3' ⟨rfl, rfl⟩
        go_wp2_with fail
        refine (curLeft_any _ s cu _ hc).mono ?_
        rintro e w4 ⟨rfl, k4, rfl⟩
        by_cases hatl : cu.at_ < s.size
        · have hb : (0 : Int) < (s.size : Int) - cu.at_ := by omega
          go_wp2_with fail
          refine (curFail_any _ s cu 8 _ (hc.drewN k4) (by decide)).mono ?_
          rw [hFL.out]
          rintro e w5 ⟨rfl, hc5, ht5⟩
          go_wp2_with fail
          refine (curErr_any _ s _ _ hc5).mono ?_
          rintro e w6 ⟨rfl, rfl⟩
          go_wp2
          go_ret2
          rw [hfin.out]
          exact ⟨(below_drewN' hbw k4).trans (ht5.below (below_drewN' hbw k4).size fun k hk => by omega), .inr ⟨hce, rfl⟩⟩
        · have hb : ¬ ((0 : Int) < (s.size : Int) - cu.at_) := by omega
          go_wp2_with fail
          refine (curErr_any _ s _ _ (hc.drewN k4)).mono ?_
          rintro e w6 ⟨rfl, rfl⟩
          go_wp2
          go_ret2
          rw [hfin.out]
          exact ⟨below_drewN' hbw k4, .inr ⟨hce, rfl⟩⟩
end Go.Proofs.YtdgjgekefpfgiaaDoor
