/- The program's cursor: numbers, texts. -/
import Derived.Test.YtdgjgekefpfgiaaDoorCur
namespace Go.Proofs.YtdgjgekefpfgiaaDoor
open Go.RowKit

theorem vgo_range (s : ByteArray) (p : Nat) : ∀ (f i acc : Nat), p ≤ s.size → 0 ≤ (vgo s p f i acc).2.2 ∧ (vgo s p f i acc).2.2 ≤ 3 ∧ (vgo s p f i acc).2.1 ≤ s.size ∧ ((vgo s p f i acc).2.2 ≠ 0 → (vgo s p f i acc).1 = 0 ∧ (vgo s p f i acc).2.1 = 0)
  | 0, _, _, _ => by simp [vgo]
  | f + 1, i, acc, hp => by
    rw [vgo]
    split
    · split
      · simp
      · split
        · refine ⟨by simp, by simp, by simp only []; omega, fun h => absurd rfl h⟩
        · exact vgo_range s p f _ _ hp
    · simp
theorem vget_range (s : ByteArray) (p : Nat) (hp : p ≤ s.size) : 0 ≤ (vget s p).2.2 ∧ (vget s p).2.2 ≤ 3 ∧ (vget s p).2.1 ≤ s.size ∧ U64 (vget s p).1 ∧ ((vget s p).2.2 ≠ 0 → (vget s p).1 = 0 ∧ (vget s p).2.1 = 0) := by
  have hv : vget s p = vgo s p 10 0 0 := by rw [vget, if_neg (by omega), Int.toNat_natCast]
  obtain ⟨h1, h2, h3, h4⟩ := vgo_range s p 10 0 0 hp
  rw [← hv] at h1 h2 h3 h4
  refine ⟨h1, h2, h3, ?_, h4⟩
  by_cases he : (vget s p).2.2 = 0
  · have : vget s p = ((vget s p).1, (vget s p).2.1, 0) := by rw [← he]
    exact (vget_get this).1
  · rw [(h4 he).1]
    show (0 : Nat) < _
    decide
def cuNum (s : ByteArray) (c : Cu) : Nat × Nat × Cu := if c.e = 0 then ((vget s c.at_).1, (vget s c.at_).2.1, cuFail c (vget s c.at_).2.2) else (0, c.at_, c)
set_option maxRecDepth 100000 in
set_option maxHeartbeats 1000000 in
theorem curNumber_any (g : Nat) (s : ByteArray) (c : Cu) (w : World) (h : CurAt w g s c) : Calls Tryd.prog 139 #[.pointer (some ⟨g, 0, none⟩)] w (CuRet (.tuple #[.int .u64 (cuNum s c).1, .int .i64 (cuNum s c).2.1]) g s (cuNum s c).2.2 w) := by
  have c0 := h.c0
  have c1 := h.c1
  have c2 := h.c2
  have hs := h.2.2.1
  have hat := h.2.1
  by_cases hc : c.e = 0
  · have hr : cuNum s c = ((vget s c.at_).1, (vget s c.at_).2.1, cuFail c (vget s c.at_).2.2) := if_pos hc
    have hw : errW c.e = .nilIface := if_pos hc
    obtain ⟨r1, r2, r3, r4, -⟩ := vget_range s c.at_ hat
    rw [hr]
    rw [hw] at c2
    have hI : I64 (c.at_ : Int) := by constructor <;> omega
    have HC := Lib.hid hc
    clear hr hw hc
    have hg : ∀ n, Calls Tryd.prog 157 #[.string s, .int .i64 c.at_] (w.drewN n) fun e w' => e = .returned (.tuple #[.int .u64 (vget s c.at_).1, .int .i64 (vget s c.at_).2.1, .int .i64 (vget s c.at_).2.2]) ∧ w' = w.drewN n := fun n =>
      (vget_any s c.at_ _ hs hI).mono fun _ _ ⟨h1, h2⟩ => ⟨h1, h2.symm⟩
    generalize hR : vget s c.at_ = R at *
    clear hR
    go_enter Tryd.func139, Tryd.ntmps139
    go_wp2
    go_quiet ((go_at_call 157; exact Calls.quiet_of_same (hg _)))
    go_wp2_with fail
    refine (curFail_any g s c R.2.2 _ (h.drewN nq) ⟨by omega, by omega⟩).mono ?_
    rintro x w1 ⟨rfl, h1, ht⟩
    go_wp2
    go_ret2
    exact ⟨rfl, h1, (touch_drewN _ w nq).trans ht fun i hi => .inl hi⟩
  · have hr : cuNum s c = (0, c.at_, c) := if_neg hc
    have hw : errW c.e = .iface 150 (.int .i64 c.e) := if_neg hc
    rw [hr]
    rw [hw] at c2
    clear hr hw
    go_enter Tryd.func139, Tryd.ntmps139
    go_wp2
    go_quiet (fail)
    go_wp2
    go_ret2
    exact ⟨rfl, h, touch_drewN _ _ _⟩

theorem cuNum_err {s : ByteArray} {c : Cu} (h : c.e ≠ 0) : cuNum s c = (0, c.at_, c) := if_neg h
theorem cuNum_bad {s : ByteArray} {c : Cu} (h : c.e = 0) (he : (vget s c.at_).2.2 ≠ 0) (hp : c.at_ ≤ s.size) : cuNum s c = (0, 0, ⟨c.at_, (vget s c.at_).2.2⟩) := by
  obtain ⟨-, -, -, -, h5⟩ := vget_range s c.at_ hp
  rw [cuNum, if_pos h, cuFail, if_pos h, (h5 he).1, (h5 he).2]
theorem cuNum_ok {s : ByteArray} {c : Cu} (h : c.e = 0) (he : (vget s c.at_).2.2 = 0) : cuNum s c = ((vget s c.at_).1, (vget s c.at_).2.1, c) := by
  rw [cuNum, if_pos h, cuFail, if_pos h, he, ← h]
set_option maxRecDepth 100000 in
set_option maxHeartbeats 2000000 in
theorem curUint_any (g : Nat) (s : ByteArray) (c : Cu) (most : Nat) (w : World) (h : CurAt w g s c) (hm : U64 most) :
    Calls Tryd.prog 95 #[.pointer (some ⟨g, 0, none⟩), .int .u64 most] w (CuRet (.int .i64 (cuUint s c most).1) g s (cuUint s c most).2 w) := by
  have hn := curNumber_any g s c w h
  by_cases hc : c.e = 0
  · by_cases he : (vget s c.at_).2.2 = 0
    · rw [cuNum_ok hc he] at hn
      obtain ⟨-, -, r3, r4, -⟩ := vget_range s c.at_ h.2.1
      have hr : cuUint s c most = if (vget s c.at_).1 ≤ most ∧ (vget s c.at_).1 ≤ 16777216 then ((vget s c.at_).1, ⟨(vget s c.at_).2.1, 0⟩) else (0, ⟨c.at_, 19⟩) := by rw [cuUint, if_pos hc, if_pos he]
      rw [hr]
      clear hr he
      generalize hR : vget s c.at_ = R at *
      clear hR
      have hHC := Lib.hid hc
      by_cases hle : R.1 ≤ most ∧ R.1 ≤ 16777216
      · rw [if_pos hle]
        obtain ⟨l1, l2⟩ := hle
        clear hc
        have hmin : decide (min (most : Int) 16777216 < (R.1 : Int)) = false := by rw [decide_eq_false_iff_not]; omega
        go_enter Tryd.func95, Tryd.ntmps95
        go_wp2_with fail
        refine hn.mono ?_
        rintro x w1 ⟨rfl, h1, ht⟩
        have c2 := h1.c2
        rw [hHC.out] at c2
        have c2' : w1.cell? ⟨g, 2, none⟩ = some .nilIface := c2
        have c1 := h1.c1
        have f1 := h1.f 1
        have hl := h1.lt
        clear c2
        go_wp2
        go_ret
        refine ⟨rfl, ?_, ht.trans (touch_set _ _ _ _) fun i hi => .inl hi⟩
        have := h1.setAt R.2.1 r3
        rwa [hHC.out] at this
      · rw [if_neg hle]
        clear hc
        have hmin : decide (min (most : Int) 16777216 < (R.1 : Int)) = true := by rw [decide_eq_true_eq]; omega
        go_enter Tryd.func95, Tryd.ntmps95
        go_wp2_with fail
        refine hn.mono ?_
        rintro x w1 ⟨rfl, h1, ht⟩
        have c2 := h1.c2
        rw [hHC.out] at c2
        have c2' : w1.cell? ⟨g, 2, none⟩ = some .nilIface := c2
        clear c2
        go_wp2_with fail
        refine (curFail_any g s c 19 _ h1 (by decide)).mono ?_
        have hf : cuFail c 19 = ⟨c.at_, 19⟩ := if_pos hHC.out
        rw [hf]
        clear hf
        rintro x w2 ⟨rfl, h2, ht2⟩
        have d2 : w2.cell? ⟨g, 2, none⟩ = some (.iface 150 (.int .i64 19)) := h2.c2
        go_wp2
        go_ret
        exact ⟨rfl, h2, ht.trans ht2 fun i hi => .inl hi⟩
    · rw [cuNum_bad hc he h.2.1] at hn
      have hr : cuUint s c most = (0, ⟨c.at_, (vget s c.at_).2.2⟩) := by rw [cuUint, if_pos hc, if_neg he]
      rw [hr]
      clear hr hc
      generalize hR : (vget s c.at_).2.2 = R at *
      clear hR
      go_enter Tryd.func95, Tryd.ntmps95
      go_wp2_with fail
      refine hn.mono ?_
      rintro x w1 ⟨rfl, h1, ht⟩
      have c2 := h1.c2
      rw [show errW R = .iface 150 (.int .i64 R) from if_neg he] at c2
      go_wp2
      go_ret
      exact ⟨rfl, h1, ht⟩
  · rw [cuNum_err hc] at hn
    rw [cuUint_err hc]
    go_enter Tryd.func95, Tryd.ntmps95
    go_wp2_with fail
    refine hn.mono ?_
    rintro x w1 ⟨rfl, h1, ht⟩
    have c2 := h1.c2
    rw [show errW c.e = .iface 150 (.int .i64 c.e) from if_neg hc] at c2
    go_wp2
    go_ret
    exact ⟨rfl, h1, ht⟩

theorem cuBytes_err {s : ByteArray} {c : Cu} {n : Int} (h : c.e ≠ 0) : cuBytes s c n = (⟨#[]⟩, c) := if_neg h
set_option maxRecDepth 100000 in
set_option maxHeartbeats 2000000 in
theorem curBytes_any (g : Nat) (s : ByteArray) (c : Cu) (n : Int) (w : World) (h : CurAt w g s c) (hn : I64 n) :
    Calls Tryd.prog 140 #[.pointer (some ⟨g, 0, none⟩), .int .i64 n] w (CuRet (.string (cuBytes s c n).1) g s (cuBytes s c n).2 w) := by
  have c2 := h.c2
  by_cases hc : c.e = 0
  · have hHC := Lib.hid hc
    rw [hc] at c2
    have c2' : w.cell? ⟨g, 2, none⟩ = some .nilIface := c2
    clear c2
    by_cases h0 : n < 0
    · have hr : cuBytes s c n = (⟨#[]⟩, ⟨c.at_, 1⟩) := by rw [cuBytes, if_pos hc, if_pos h0]
      rw [hr]
      clear hr hc
      go_enter Tryd.func140, Tryd.ntmps140
      go_wp2_with fail
      refine (curFail_any g s c 1 _ h (by decide)).mono ?_
      rw [show cuFail c 1 = ⟨c.at_, 1⟩ from if_pos hHC.out]
      rintro x w1 ⟨rfl, h1, ht⟩
      go_wp2
      go_ret
      exact ⟨rfl, h1, ht⟩
    · by_cases hl : (s.size : Int) - c.at_ < n
      · have hr : cuBytes s c n = (⟨#[]⟩, ⟨c.at_, 2⟩) := by rw [cuBytes, if_pos hc, if_neg h0, if_pos hl]
        rw [hr]
        clear hr hc
        go_enter Tryd.func140, Tryd.ntmps140
        go_wp2_with fail
        refine (curLeft_any g s c _ h).mono ?_
        rintro x w1 ⟨rfl, k, rfl⟩
        go_wp2_with fail
        refine (curFail_any g s c 2 _ (h.drewN k) (by decide)).mono ?_
        rw [show cuFail c 2 = ⟨c.at_, 2⟩ from if_pos hHC.out]
        rintro x w1 ⟨rfl, h1, ht⟩
        go_wp2
        go_ret
        exact ⟨rfl, h1, (touch_drewN _ w k).trans ht fun i hi => .inl hi⟩
      · obtain ⟨m, rfl⟩ := Int.eq_ofNat_of_zero_le (show 0 ≤ n by omega)
        have hr : cuBytes s c m = (s.extract c.at_ (c.at_ + m), ⟨c.at_ + m, 0⟩) := by rw [cuBytes, if_pos hc, if_neg h0, if_neg hl, Int.toNat_natCast]
        rw [hr]
        clear hr hc
        have c0 := h.c0
        have c1 := h.c1
        have f1 := h.f 1
        have hlt := h.lt
        have hs := h.2.2.1
        have hat := h.2.1
        have hm : c.at_ + m ≤ s.size := by omega
        go_enter Tryd.func140, Tryd.ntmps140
        go_wp2_with fail
        refine (curLeft_any g s c _ h).mono ?_
        rintro x w1 ⟨rfl, k, rfl⟩
        go_wp2
        go_quiet (fail)
        go_wp2
        go_ret
        have h2 := ((h.drewN k).drewN nq).setAt (c.at_ + m) hm
        rw [hHC.out] at h2
        exact ⟨rfl, h2, (touch_drewN _ w (k + nq)).trans (touch_set _ _ _ _) fun i hi => .inl hi⟩
  · rw [cuBytes_err hc]
    rw [show errW c.e = .iface 150 (.int .i64 c.e) from if_neg hc] at c2
    go_enter Tryd.func140, Tryd.ntmps140
    go_wp2
    go_ret
    exact ⟨rfl, h, Touch.refl _ _⟩
theorem cuUint_le {s : ByteArray} {c : Cu} {most : Nat} : (cuUint s c most).1 ≤ 16777216 := by
  unfold cuUint
  repeat' split
  all_goals simp_all
set_option maxRecDepth 100000 in
set_option maxHeartbeats 2000000 in
theorem curText_any (g : Nat) (s : ByteArray) (c : Cu) (most : Int) (w : World) (h : CurAt w g s c) (hm : I64 most) :
    Calls Tryd.prog 96 #[.pointer (some ⟨g, 0, none⟩), .int .i64 most] w (CuRet (.string (cuText s c most).1) g s (cuText s c most).2 w) := by
  obtain ⟨m, hx, hmt, hle⟩ : ∃ m : Nat, max most 0 = (m : Int) ∧ most.toNat = m ∧ (m : Int) ≤ 9223372036854775807 := ⟨most.toNat, by omega, rfl, by have := hm.2; omega⟩
  have hU : U64 m := by
    show m < 18446744073709551616
    omega
  have hu : cuText s c most = if (cuBytes s (cuUint s c m).2 (cuUint s c m).1).2.e = 0 then cuBytes s (cuUint s c m).2 (cuUint s c m).1 else (⟨#[]⟩, ⟨c.at_, (cuBytes s (cuUint s c m).2 (cuUint s c m).1).2.e⟩) := by
    rw [← hmt]
    rfl
  rw [hu]
  clear hu
  have HM := Lib.hid hmt
  clear hmt
  have hlu := cuUint_le (s := s) (c := c) (most := m)
  have hun : ∀ w, CurAt w g s c → Calls Tryd.prog 95 #[.pointer (some ⟨g, 0, none⟩), .int .u64 m] w (CuRet (.int .i64 (cuUint s c m).1) g s (cuUint s c m).2 w) := fun w h => curUint_any g s c m w h hU
  generalize cuUint s c m = u at *
  obtain ⟨n, c'⟩ := u
  simp only at hlu ⊢
  have hby : ∀ w, CurAt w g s c' → Calls Tryd.prog 140 #[.pointer (some ⟨g, 0, none⟩), .int .i64 n] w (CuRet (.string (cuBytes s c' n).1) g s (cuBytes s c' n).2 w) := fun w h => curBytes_any g s c' n w h ⟨by omega, by omega⟩
  generalize cuBytes s c' n = v at *
  obtain ⟨x, c2⟩ := v
  simp only at hby ⊢
  have c1 := h.c1
  have hat := h.2.1
  have hfin : ∀ (w1 w2 : World), Touch (fun k => k = g) w w1 → Touch (fun k => k = g) w1 w2 → Touch (fun k => k = g) w w2 := fun _ _ h1 h2 => h1.trans h2 fun i hi => .inl hi
  by_cases he : c2.e = 0
  · rw [if_pos he]
    have hew : errW c2.e = .nilIface := if_pos he
    replace he := Lib.hid he
    have HW := Lib.hid hew
    clear hew
    go_enter Tryd.func96, Tryd.ntmps96
    go_wp2_with fail
    refine (hun _ h).mono ?_
    rintro e w1 ⟨rfl, h1, t1⟩
    go_wp2_with fail
    refine (hby _ h1).mono ?_
    rintro e w2 ⟨rfl, h2, t2⟩
    have d2 := h2.c2
    rw [HW.out] at d2
    go_wp2
    go_ret
    exact ⟨rfl, h2, hfin _ _ t1 t2⟩
  · rw [if_neg he]
    have hew : errW c2.e = .iface 150 (.int .i64 c2.e) := if_neg he
    have HW := Lib.hid hew
    clear hew
    go_enter Tryd.func96, Tryd.ntmps96
    go_wp2_with fail
    refine (hun _ h).mono ?_
    rintro e w1 ⟨rfl, h1, t1⟩
    go_wp2_with fail
    refine (hby _ h1).mono ?_
    rintro e w2 ⟨rfl, h2, t2⟩
    have d2 := h2.c2
    rw [HW.out] at d2
    have d1 := h2.c1
    have f1 := h2.f 1
    have hl := h2.lt
    go_wp2
    go_ret
    exact ⟨rfl, h2.setAt c.at_ hat, (hfin _ _ t1 t2).trans (touch_set _ _ _ _) fun i hi => .inl hi⟩
set_option maxRecDepth 100000 in
set_option maxHeartbeats 2000000 in
theorem curInt_any (g : Nat) (s : ByteArray) (c : Cu) (w : World) (h : CurAt w g s c) (hz : ∀ (n : Nat) (w : World), U64 n → Calls Tryd.prog 160 #[.int .u64 n] w fun e w' => e = .returned (.int .i64 (zag n)) ∧ w = w') :
    Calls Tryd.prog 145 #[.pointer (some ⟨g, 0, none⟩)] w (CuRet (.int .i64 (cuInt s c).1) g s (cuInt s c).2 w) := by
  have hn := curNumber_any g s c w h
  by_cases hc : c.e = 0
  · by_cases he : (vget s c.at_).2.2 = 0
    · rw [cuNum_ok hc he] at hn
      obtain ⟨-, -, r3, r4, -⟩ := vget_range s c.at_ h.2.1
      have hr : cuInt s c = (zag (vget s c.at_).1, ⟨(vget s c.at_).2.1, 0⟩) := by rw [cuInt, if_pos hc, if_pos he]
      rw [hr]
      clear hr he
      generalize hR : vget s c.at_ = R at *
      clear hR
      have hHC := Lib.hid hc
      clear hc
      go_enter Tryd.func145, Tryd.ntmps145
      go_wp2_with fail
      refine hn.mono ?_
      rintro x w1 ⟨rfl, h1, ht⟩
      have c2 := h1.c2
      rw [hHC.out] at c2
      have c2' : w1.cell? ⟨g, 2, none⟩ = some .nilIface := c2
      have c1 := h1.c1
      have f1 := h1.f 1
      have hl := h1.lt
      clear c2
      go_wp2_with fail
      refine (hz R.1 _ r4).mono ?_
      rintro x w2 ⟨rfl, rfl⟩
      go_wp2
      go_ret
      refine ⟨rfl, ?_, ht.trans (touch_set _ _ _ _) fun i hi => .inl hi⟩
      have := h1.setAt R.2.1 r3
      rwa [hHC.out] at this
    · rw [cuNum_bad hc he h.2.1] at hn
      have hr : cuInt s c = (0, ⟨c.at_, (vget s c.at_).2.2⟩) := by rw [cuInt, if_pos hc, if_neg he]
      rw [hr]
      clear hr hc
      generalize hR : (vget s c.at_).2.2 = R at *
      clear hR
      go_enter Tryd.func145, Tryd.ntmps145
      go_wp2_with fail
      refine hn.mono ?_
      rintro x w1 ⟨rfl, h1, ht⟩
      have c2 := h1.c2
      rw [show errW R = .iface 150 (.int .i64 R) from if_neg he] at c2
      go_wp2
      go_ret
      exact ⟨rfl, h1, ht⟩
  · rw [cuNum_err hc] at hn
    have hr : cuInt s c = (0, c) := if_neg hc
    rw [hr]
    clear hr
    go_enter Tryd.func145, Tryd.ntmps145
    go_wp2_with fail
    refine hn.mono ?_
    rintro x w1 ⟨rfl, h1, ht⟩
    have c2 := h1.c2
    rw [show errW c.e = .iface 150 (.int .i64 c.e) from if_neg hc] at c2
    go_wp2
    go_ret
    exact ⟨rfl, h1, ht⟩
end Go.Proofs.YtdgjgekefpfgiaaDoor
