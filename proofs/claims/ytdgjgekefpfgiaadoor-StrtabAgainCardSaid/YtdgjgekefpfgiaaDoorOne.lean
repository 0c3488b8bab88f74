/- StrtabOne: the walk. -/
import Derived.Test.YtdgjgekefpfgiaaDoorAw6
namespace Go.Proofs.YtdgjgekefpfgiaaDoor
open Go.RowKit

theorem putL_ge (l : List ByteArray) : l.length + totalT l ≤ (putL l).length := by
  induction l with
  | nil => simp [putL, totalT]
  | cons a l ih =>
    have h1 := vput_pos a.size
    have h4 : a.data.toList.length = a.size := by rw [Array.length_toList]; rfl
    rw [putL, totalT_cons]
    simp only [List.length_append, List.length_cons]
    omega
/-- A text that the table has. -/
theorem tabAgain_any (S : Nat → Prop) (g : Nat) (l : List ByteArray) (x : ByteArray) (w : World) (h : Tab S w g l) (hx : x ∈ l) :
    Calls Tryd.prog 34 #[.pointer (some ⟨g, 0, none⟩), .string x] w (TabRet (.int .i64 (numT l x)) S g l w) := by
  have e : internT l x = l := if_pos hx
  have hs := h.2.2.2.1
  have := tabIntern_any S g l x w h (hs.2.1 x hx) (by rw [e]; exact hs)
  rwa [e] at this
/-- What the law says of a table that was got, and of a text. -/
theorem one_place {l : List ByteArray} {s : ByteArray} : (numT l s : Int) = if findT l s < 0 then (l.length : Int) else findT l s := by
  unfold findT
  by_cases h : s ∈ l
  · rw [if_pos h, if_neg (by omega)]
  · rw [if_neg h, if_pos (by decide), numT_not h]
set_option maxRecDepth 100000 in
set_option maxHeartbeats 4000000 in
theorem one_any (b s : ByteArray) (w : World) (hb : b.size ≤ 9223372036854775807) (hs : s.size ≤ 9223372036854775807) (hT : Lib.Utf8Tabs 0 1 w) :
    Calls Tryd.prog 7 #[.string b, .string s] w fun e w' => e = .returned (.bool true) ∧ Below w.heap.size w w' := by
  by_cases hbl : 1500 < b.size
  · have hbi : (1500 : Int) < (b.size : Int) := by omega
    go_enter Tryd.func7, Tryd.ntmps7
    go_wp2_with fail
    refine (awake6_any _ hT).mono ?_
    rintro e w1 ⟨rfl, b1⟩
    go_wp2_with fail
    refine (awake6_any _ (Utf8Tabs_below hT b1)).mono ?_
    rintro e w2 ⟨rfl, b2⟩
    go_wp2
    go_ret
    exact ⟨rfl, below2 b1 b2⟩
  have hbi : ¬ (1500 : Int) < (b.size : Int) := by omega
  by_cases hsl : 500 < s.size
  · have hsi : (500 : Int) < (s.size : Int) := by omega
    go_enter Tryd.func7, Tryd.ntmps7
    go_wp2_with fail
    refine (awake6_any _ hT).mono ?_
    rintro e w1 ⟨rfl, b1⟩
    go_wp2_with fail
    refine (awake6_any _ (Utf8Tabs_below hT b1)).mono ?_
    rintro e w2 ⟨rfl, b2⟩
    go_wp2
    go_ret
    exact ⟨rfl, below2 b1 b2⟩
  have hsi : ¬ (500 : Int) < (s.size : Int) := by omega
  have hget := fun w (hT : Lib.Utf8Tabs 0 1 w) => tabGet_any b 1048576 1048576 w (by omega) (by decide) (by decide) hT
  have hput := fun l (h : getT b 1048576 1048576 = (l, 0)) => getT_put h
  generalize getT b 1048576 1048576 = r at *
  obtain ⟨l, er⟩ := r
  by_cases her : er = 0
  · subst her
    obtain ⟨hbd, hnd, -, -⟩ := hput l rfl
    clear hput
    have hlen : l.length + totalT l ≤ 1500 := by
      have h1 := putL_ge l
      have h2 : b.data.toList.length = b.size := by rw [Array.length_toList]; rfl
      rw [hbd, putT, List.length_append] at h2
      omega
    have hbe : b = ⟨(putT l).toArray⟩ := ByteArray.ext (by rw [← hbd])
    have hsm : Small (internT l s) := by
      unfold internT
      split
      · exact small_of (by omega)
      · exact small_of (by rw [List.length_append, totalT_snoc]; simp only [List.length_cons, List.length_nil]; omega)
    have hsms : ∀ x ∈ l, x.size ≤ 1000000 := (small_of (l := l) (by omega)).2.1
    have hq : (putT l == b.toList) = true := by rw [ByteArray.toList_eq, hbd]; simp
    have hend := Lib.hid (one_place (l := l) (s := s))
    replace hbe := Lib.hid hbe
    clear hbd
    go_enter Tryd.func7, Tryd.ntmps7
    go_wp2_with fail
    refine (awake6_any _ hT).mono ?_
    rintro e w1 ⟨rfl, b1⟩
    go_wp2_with fail
    refine (hget _ (Utf8Tabs_below hT b1)).mono ?_
    rintro e w2 ⟨b2, ⟨-, g, S, rfl, t2, hS⟩ | ⟨h, -⟩⟩
    case inr => exact absurd rfl h
    have b02 := below2 b1 b2
    have hS2 : ∀ k, S k → w.heap.size ≤ k := fun k hk => by have := hS k hk; have := b1.size; omega
    clear b1 b2 hS
    go_wp2_with fail
    refine (tabPut_any _ _ _ _ t2).mono ?_
    rintro e w3 ⟨rfl, b3⟩
    have t3 := t2.later b3
    have b03 := below2 b02 b3
    clear t2 b02 b3
    go_wp2_with fail
    refine (all_any _ _ _ _ t3 (by omega)).mono ?_
    rintro e w4 ⟨A, c, rfl, r4, b4⟩
    have t4 := t3.later b4
    have b04 := below2 b03 b4
    have n4 : ∀ k, blk (.slice A l.length c) = some k → ¬ S k := fun k hk h => by
      have h1 := (r4.typed k hk).1
      have h2 := t3.2.1 k h
      omega
    clear t3 b03 b4
    replace r4 := r4.lower (Nat.zero_le _)
    go_wp2
    go_loopw [49] (fun i wr => ∃ (k : Nat) (S : Nat → Prop), k ≤ l.length ∧ i = .int .i64 k ∧ Tab S wr g l ∧ (∀ k, S k → w.heap.size ≤ k) ∧ Row wr 0 9 1 (.slice A l.length c) (strs l) ∧ (∀ k, blk (.slice A l.length c) = some k → ¬ S k) ∧ Below w.heap.size w wr) (fun i _ => l.length - (intOf i).toNat)
    case atStart => exact ⟨0, S, Nat.zero_le _, rfl, t4, hS2, r4, n4, b04⟩
    case round =>
      clear t4 hS2 r4 n4 b04
      obtain ⟨k, S, hk, rfl, t4, hS, r4, n4, b4⟩ := hrel
      have hrs := row_rs r4 (by omega) hsms
      by_cases hlt : k < l.length
      · have hnum := Lib.hid (numT_get hnd k hlt)
        obtain ⟨bb, o, e, -, hc, -⟩ := hrs.at k hlt
        have hag := tabAgain_any S g l l[k] wr t4 (List.getElem_mem hlt)
        rw [hnum.out] at hag
        obtain ⟨bb, o, rfl⟩ : ∃ bb o, A = some ⟨bb, o, none⟩ := ⟨bb, o, e⟩
        injection e with e
        injection e with e1 e2 e3
        subst e1
        subst e2
        clear e3
        go_wp2_with fail
        refine hag.mono ?_
        rintro e w5 ⟨rfl, S5, t5, g5⟩
        go_wp2
        go_roundw
        case rel => exact ⟨k + 1, S5, by omega, by go_num, t5, fun j hj => (by rcases g5.2 j hj with h | h; exact hS j h; have := b4.size; omega), r4.touch g5.1 n4, fun j hj h => (by rcases g5.2 j h with h | h; exact n4 j hj h; have := (r4.typed j hj).2.1; omega), b4.trans (g5.1.below b4.size hS)⟩
        case measure => simp [intOf]; omega
      · obtain rfl : k = l.length := by omega
        go_wp2_with fail
        refine (refFind_any _ l s _ hrs hs).mono ?_
        rintro e w5 ⟨rfl, rfl⟩
        have hint := tabIntern_any S g l s wr t4 (by omega) hsm
        rw [hend.out] at hint
        by_cases hf : findT l s < 0
        · rw [if_pos hf] at hint
          go_wp2_with fail
          refine hint.mono ?_
          rintro e w6 ⟨rfl, S6, t6, g6⟩
          go_wp2
          go_ret
          exact ⟨rfl, b4.trans (g6.1.below b4.size hS)⟩
        · rw [if_neg hf] at hint
          go_wp2_with fail
          refine hint.mono ?_
          rintro e w6 ⟨rfl, S6, t6, g6⟩
          go_wp2
          go_ret
          exact ⟨rfl, b4.trans (g6.1.below b4.size hS)⟩
  · clear hput
    have heb : ((er : Int) != 0) = true := by simpa using her
    go_enter Tryd.func7, Tryd.ntmps7
    go_wp2_with fail
    refine (awake6_any _ hT).mono ?_
    rintro e w1 ⟨rfl, b1⟩
    go_wp2_with fail
    refine (hget _ (Utf8Tabs_below hT b1)).mono ?_
    rintro e w2 ⟨b2, ⟨h, -⟩ | ⟨-, rfl⟩⟩
    case inl => exact absurd h her
    go_wp2
    go_ret
    exact ⟨rfl, below2 b1 b2⟩
end Go.Proofs.YtdgjgekefpfgiaaDoor
