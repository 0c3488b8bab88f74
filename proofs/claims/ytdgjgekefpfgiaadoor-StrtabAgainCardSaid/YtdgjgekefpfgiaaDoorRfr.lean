/- The reference's: is a text UTF-8? -/
import Derived.Test.YtdgjgekefpfgiaaDoorRfa
import Derived.Test.YtdgjgekefpfgiaaDoorUtf
namespace Go.Proofs.YtdgjgekefpfgiaaDoor
open Go.RowKit

theorem refAt_width (s : ByteArray) (p : Nat) : ∀ f size, 1 ≤ size → (refAt s p f size).2 = 0 ∨ (∃ k : Nat, (refAt s p f size).2 = k ∧ 1 ≤ k ∧ p + k ≤ s.size ∧ 0 ≤ (refAt s p f size).1 ∧ (refAt s p f size).1 ≤ 1114111)
  | 0, _, _ => .inl rfl
  | f + 1, size, h => by
    rw [refAt]
    split
    · rename_i hle
      split
      · rename_i hf
        rw [fitsAt, decide_eq_true_eq] at hf
        exact .inr ⟨size, rfl, h, hle, hf.1, hf.2.1⟩
      · exact refAt_width s p f (size + 1) (by omega)
    · exact .inl rfl
theorem info_i32 : (Tryd.prog.info? 21).map (fun i => (i.zero, i.size, i.bytes)) = some (some (.int .i32 0), 1, 4) := by kernel_rfl
def RdRet (s : ByteArray) (w : World) (e : Ending) (w' : World) : Prop := ∃ v : Value, ∃ n : Int, e = .returned (.tuple #[v, .int .i64 n]) ∧ decide (n = s.size) = rightS s ∧ Below w.heap.size w w'
set_option maxRecDepth 100000 in
set_option maxHeartbeats 2000000 in
theorem refRead_any (s : ByteArray) (w : World) (hs : s.size ≤ 1000000) : Calls Tryd.prog 102 #[.string s] w (RdRet s w) := by
  go_enter Tryd.func102, Tryd.ntmps102
  go_wp2
  go_loopw [4, 5] (fun o x wr => ∃ (p f n c : Nat) (A : Option Addr) (xs : List Value), x = .int .i64 p ∧ o = .slice A n c ∧ p ≤ s.size ∧ s.size ≤ p + f ∧ firstF s f p = firstS s ∧ n ≤ p ∧ Row wr w.heap.size 21 1 (.slice A n c) xs ∧ Below w.heap.size w wr) (fun _ x _ => s.size - (intOf x).toNat)
  case atStart => exact ⟨0, s.size, 0, 0, _, [], rfl, rfl, by omega, by omega, rfl, by omega, Row.lit w w.heap.size 21 #[] (Nat.le_refl _) (by decide), below_alloc' (Below.refl _ _) _⟩
  case round =>
    obtain ⟨p, f, n, c, A, xs, rfl, rfl, hp, hf, hfirst, hnp, hr, hb⟩ := hrel
    by_cases hlt : p < s.size
    · obtain ⟨f, rfl⟩ : ∃ f', f = f' + 1 := ⟨f - 1, by omega⟩
      rw [firstF, if_pos hlt] at hfirst
      have hat := fun u => refAt_any s p u hs hlt
      have heq := refAt_eq s p hlt
      have hwd := refAt_width s p 4 1 (by decide)
      generalize refAt s p 4 1 = R at *
      cases hbad : badAt s p with
      | true =>
        rw [hbad] at heq hfirst
        simp only [if_true] at heq hfirst
        subst heq
        have hright : Hid (decide ((p : Int) = s.size) = rightS s) := Lib.hid (by
          have h1 : decide ((p : Int) = s.size) = false := by rw [decide_eq_false_iff_not]; omega
          rw [h1, rightS, ← hfirst]
          symm
          rw [decide_eq_false_iff_not]
          omega)
        clear hfirst hbad hwd
        go_wp2_with fail
        refine (hat _).mono ?_
        rintro e w1 ⟨rfl, hb1⟩
        go_wp2
        go_ret2
        exact ⟨_, _, rfl, hright.out, below2 hb hb1⟩
      | false =>
        rw [hbad] at heq hfirst
        simp only [Bool.false_eq_true, if_false] at heq hfirst
        rcases hwd with h0 | ⟨k, hk, hk1, hk2, hr0, hr1⟩
        · exfalso
          have := width_pos s p hlt
          rw [heq] at h0
          simp only at h0
          omega
        · obtain ⟨R1, R2⟩ := R
          simp only at hk hr0 hr1
          subst hk
          have hw2 : (Utf8.decode s p).2 = k := by
            have := congrArg Prod.snd heq
            simp only at this
            omega
          rw [hw2] at hfirst
          clear heq hw2 hbad
          replace hfirst := Lib.hid hfirst
          obtain ⟨B, m, d, e1, hxl, -, hmx⟩ := hr.form
          cases e1
          have hkb : ((k : Int) == 0) = false := by simp; omega
          go_wp2_with fail
          refine (hat _).mono ?_
          rintro e w1 ⟨rfl, hb1⟩
          have hr1' := hr.later hb1
          go_wp2_with (at_builtin; refine append_ev rfl _ _ 132 21 (.int .i32 0) 1 4 rfl Tryd.underlying132 info_i32 rfl (by decide) w.heap.size A n c xs rfl (hr1'.later (below_alloc' (Below.refl _ _) _)) _ 1 1 [.int .i32 R1] rfl rfl (Cells.one _ _ _) (by intro u hu; simp at hu; subst hu; rfl) ?c1 ?c2 ?c3 ?_)
          case c1 => omega
          case c2 => omega
          case c3 => have := (below2 hb hb1).size; simp; omega
          intro A1 c1 w2 hr2 hg2 hw2
          have hb2 : Below w.heap.size w w2 := below_grown (below_alloc' (below2 hb hb1) _) hg2 fun g hg => (hr.typed g hg).1
          clear hg2 hw2 hr hr1' hat
          go_wp2
          exact ⟨⟨p + k, f, n + 1, c1, A1, _, by go_num, rfl, by omega, by omega, hfirst.out, by omega, hr2, hb2⟩, by simp [intOf]; omega⟩
    · obtain rfl : p = s.size := by omega
      have hright : Hid (decide ((s.size : Int) = s.size) = rightS s) := Lib.hid (by
        have : firstF s f s.size = -1 := by
          cases f with
          | zero => rfl
          | succ f => rw [firstF, if_neg (Nat.lt_irrefl _)]
        rw [rightS, ← hfirst, this]
        simp)
      clear hfirst
      go_wp2
      go_ret2
      exact ⟨_, _, rfl, by rw [← hright.out]; simp, hb⟩
set_option maxRecDepth 100000 in
set_option maxHeartbeats 1000000 in
theorem refRight_any (s : ByteArray) (w : World) (hs : s.size ≤ 1000000) : Calls Tryd.prog 45 #[.string s] w fun e w' => e = .returned (.bool (rightS s)) ∧ Below w.heap.size w w' := by
  go_enter Tryd.func45, Tryd.ntmps45
  go_wp2_with fail
  refine (refRead_any s _ hs).mono ?_
  rintro e w1 ⟨v, n, rfl, hn, hb⟩
  replace hn := Lib.hid hn
  go_wp2
  go_ret
  refine ⟨ret_bool ?_, hb⟩
  rw [← hn.out, Bool.eq_iff_iff]
  simp
end Go.Proofs.YtdgjgekefpfgiaaDoor
