/- The reference's cursor. -/
import Derived.Test.YtdgjgekefpfgiaaDoorCu2
import Derived.Test.YtdgjgekefpfgiaaDoorVgr
namespace Go.Proofs.YtdgjgekefpfgiaaDoor
open Go.RowKit

def rcuCells (s : ByteArray) (c : Cu) : Array Value := #[.string s, .int .i64 c.at_, .int .i64 c.e]
/-- A cursor of the reference in block g. -/
def RcuAt (w : World) (g : Nat) (s : ByteArray) (c : Cu) : Prop := w.heap[g]? = some (.cells (rcuCells s c) 96 (0, 0)) ∧ c.at_ ≤ s.size ∧ s.size ≤ 1000000 ∧ I64 c.e
section
variable {w w' : World} {g : Nat} {s : ByteArray} {c : Cu}
theorem RcuAt.c0 (h : RcuAt w g s c) : w.cell? ⟨g, 0, none⟩ = some (.string s) := blk_cell h.1 0
theorem RcuAt.c1 (h : RcuAt w g s c) : w.cell? ⟨g, 1, none⟩ = some (.int .i64 c.at_) := blk_cell h.1 1
theorem RcuAt.c2 (h : RcuAt w g s c) : w.cell? ⟨g, 2, none⟩ = some (.int .i64 c.e) := blk_cell h.1 2
theorem RcuAt.f (h : RcuAt w g s c) (i : Nat) : w.frozen? ⟨g, i, none⟩ = false := blk_frozen h.1 i
theorem RcuAt.lt (h : RcuAt w g s c) : g < w.heap.size := blk_lt h.1
theorem RcuAt.setAt (h : RcuAt w g s c) (p : Nat) (hp : p ≤ s.size) : RcuAt (w.setCell ⟨g, 1, none⟩ (.int .i64 p)) g s ⟨p, c.e⟩ := ⟨blk_set h.1 1 _, hp, h.2.2⟩
theorem RcuAt.setErr (h : RcuAt w g s c) (e : Int) (hI : I64 e) : RcuAt (w.setCell ⟨g, 2, none⟩ (.int .i64 e)) g s ⟨c.at_, e⟩ := ⟨blk_set h.1 2 _, h.2.1, h.2.2.1, hI⟩
theorem RcuAt.drewN (h : RcuAt w g s c) (n : Nat) : RcuAt (w.drewN n) g s c := h
theorem RcuAt.touch {S : Nat → Prop} (h : RcuAt w g s c) (ht : Touch S w w') (hn : ¬ S g) : RcuAt w' g s c := ⟨ht.blk h.1 hn, h.2⟩
end
def RcRet (v : Value) (g : Nat) (s : ByteArray) (c : Cu) (w : World) (e : Ending) (w' : World) : Prop := e = .returned v ∧ RcuAt w' g s c ∧ Touch (fun k => k = g) w w'

set_option maxRecDepth 100000 in
set_option maxHeartbeats 2000000 in
theorem refUint_any (g : Nat) (s : ByteArray) (c : Cu) (most : Nat) (w : World) (h : RcuAt w g s c) :
    Calls Tryd.prog 100 #[.pointer (some ⟨g, 0, none⟩), .int .u64 most] w (RcRet (.int .i64 (cuUint s c most).1) g s (cuUint s c most).2 w) := by
  have c0 := h.c0
  have c1 := h.c1
  have c2 := h.c2
  have hs := h.2.2.1
  have hat := h.2.1
  have f1 := h.f 1
  have f2 := h.f 2
  have hl := h.lt
  by_cases hc : c.e = 0
  · have hI : I64 (c.at_ : Int) := by constructor <;> omega
    have hg : ∀ n, Calls Tryd.prog 142 #[.string s, .int .i64 c.at_] (w.drewN n) fun e w' => e = .returned (.tuple #[.int .u64 (vget s c.at_).1, .int .i64 (vget s c.at_).2.1, .int .i64 (vget s c.at_).2.2]) ∧ w' = w.drewN n := fun n =>
      (refVget_any s c.at_ _ hs hI).mono fun _ _ ⟨h1, h2⟩ => ⟨h1, h2.symm⟩
    obtain ⟨r1, r2, r3, r4, -⟩ := vget_range s c.at_ hat
    have HC := Lib.hid hc
    rw [hc] at c2
    by_cases he : (vget s c.at_).2.2 = 0
    · have hr : cuUint s c most = if (vget s c.at_).1 ≤ most ∧ (vget s c.at_).1 ≤ 16777216 then ((vget s c.at_).1, ⟨(vget s c.at_).2.1, 0⟩) else (0, ⟨c.at_, 19⟩) := by rw [cuUint, if_pos hc, if_pos he]
      rw [hr]
      rw [he] at hg
      clear hr hc
      generalize hR : vget s c.at_ = R at *
      clear hR
      replace he := Lib.hid he
      by_cases hm : R.1 ≤ most
      · by_cases hx : R.1 ≤ 16777216
        · rw [if_pos ⟨hm, hx⟩]
          have hb1 : ¬ ((most : Int) < (R.1 : Int)) := by omega
          have hb2 : ¬ ((16777216 : Int) < (R.1 : Int)) := by omega
          go_enter Tryd.func100, Tryd.ntmps100
          go_wp2
          go_quiet ((go_at_call 142; exact Calls.quiet_of_same (hg _)))
          go_wp2
          go_ret
          have h2 := (h.drewN nq).setAt R.2.1 r3
          rw [HC.out] at h2
          exact ⟨rfl, h2, (touch_drewN _ w nq).trans (touch_set _ _ _ _) fun i hi => .inl hi⟩
        · rw [if_neg fun h => hx h.2]
          have hb1 : ¬ ((most : Int) < (R.1 : Int)) := by omega
          have hb2 : (16777216 : Int) < (R.1 : Int) := by omega
          go_enter Tryd.func100, Tryd.ntmps100
          go_wp2
          go_quiet ((go_at_call 142; exact Calls.quiet_of_same (hg _)))
          go_wp2
          go_ret
          exact ⟨rfl, (h.drewN nq).setErr 19 (by decide), (touch_drewN _ w nq).trans (touch_set _ _ _ _) fun i hi => .inl hi⟩
      · rw [if_neg fun h => hm h.1]
        have hb1 : (most : Int) < (R.1 : Int) := by omega
        go_enter Tryd.func100, Tryd.ntmps100
        go_wp2
        go_quiet ((go_at_call 142; exact Calls.quiet_of_same (hg _)))
        go_wp2
        go_ret
        exact ⟨rfl, (h.drewN nq).setErr 19 (by decide), (touch_drewN _ w nq).trans (touch_set _ _ _ _) fun i hi => .inl hi⟩
    · have hr : cuUint s c most = (0, ⟨c.at_, (vget s c.at_).2.2⟩) := by rw [cuUint, if_pos hc, if_neg he]
      rw [hr]
      clear hr hc
      generalize hR : vget s c.at_ = R at *
      clear hR
      have hb : ((R.2.2 : Int) == 0) = false := by simpa using he
      have hb2 : ((R.2.2 : Int) != 0) = true := by simpa using he
      go_enter Tryd.func100, Tryd.ntmps100
      go_wp2
      go_quiet ((go_at_call 142; exact Calls.quiet_of_same (hg _)))
      go_wp2
      go_ret
      exact ⟨rfl, (h.drewN nq).setErr R.2.2 ⟨by omega, by omega⟩, (touch_drewN _ w nq).trans (touch_set _ _ _ _) fun i hi => .inl hi⟩
  · rw [cuUint_err hc]
    have hb : ((c.e : Int) != 0) = true := by simpa using hc
    go_enter Tryd.func100, Tryd.ntmps100
    go_wp2
    go_ret
    exact ⟨rfl, h, Touch.refl _ _⟩
set_option maxRecDepth 100000 in
set_option maxHeartbeats 2000000 in
theorem refBytes_any (g : Nat) (s : ByteArray) (c : Cu) (n : Int) (w : World) (h : RcuAt w g s c) :
    Calls Tryd.prog 143 #[.pointer (some ⟨g, 0, none⟩), .int .i64 n] w (RcRet (.string (cuBytes s c n).1) g s (cuBytes s c n).2 w) := by
  have c0 := h.c0
  have c1 := h.c1
  have c2 := h.c2
  have hs := h.2.2.1
  have hat := h.2.1
  have f1 := h.f 1
  have f2 := h.f 2
  have hl := h.lt
  by_cases hc : c.e = 0
  · have HC := Lib.hid hc
    rw [hc] at c2
    by_cases h0 : n < 0
    · have hr : cuBytes s c n = (⟨#[]⟩, ⟨c.at_, 1⟩) := by rw [cuBytes, if_pos hc, if_pos h0]
      rw [hr]
      clear hr hc
      go_enter Tryd.func143, Tryd.ntmps143
      go_wp2
      go_ret
      exact ⟨rfl, h.setErr 1 (by decide), touch_set _ _ _ _⟩
    · by_cases hlt : (s.size : Int) - c.at_ < n
      · have hr : cuBytes s c n = (⟨#[]⟩, ⟨c.at_, 2⟩) := by rw [cuBytes, if_pos hc, if_neg h0, if_pos hlt]
        rw [hr]
        clear hr hc
        go_enter Tryd.func143, Tryd.ntmps143
        go_wp2
        go_quiet (fail)
        go_wp2
        go_ret
        exact ⟨rfl, (h.drewN nq).setErr 2 (by decide), (touch_drewN _ w nq).trans (touch_set _ _ _ _) fun i hi => .inl hi⟩
      · obtain ⟨m, rfl⟩ := Int.eq_ofNat_of_zero_le (show 0 ≤ n by omega)
        have hr : cuBytes s c m = (s.extract c.at_ (c.at_ + m), ⟨c.at_ + m, 0⟩) := by rw [cuBytes, if_pos hc, if_neg h0, if_neg hlt, Int.toNat_natCast]
        rw [hr]
        clear hr hc
        have hm : c.at_ + m ≤ s.size := by omega
        go_enter Tryd.func143, Tryd.ntmps143
        go_wp2
        go_quiet (fail)
        go_wp2
        go_quiet (fail)
        go_wp2
        go_ret
        refine ⟨rfl, ?_, ((touch_drewN _ w _).trans (touch_set _ _ _ _) fun i hi => .inl hi).drewN nq⟩
        have h2 := (h.drewN nq).setAt (c.at_ + m) hm
        rw [HC.out] at h2
        exact h2
  · rw [cuBytes_err hc]
    have hb : ((c.e : Int) != 0) = true := by simpa using hc
    go_enter Tryd.func143, Tryd.ntmps143
    go_wp2
    go_ret
    exact ⟨rfl, h, Touch.refl _ _⟩

set_option maxRecDepth 100000 in
set_option maxHeartbeats 1000000 in
theorem refFail_any (g : Nat) (s : ByteArray) (c : Cu) (e : Int) (w : World) (h : RcuAt w g s c) (he : I64 e) : Calls Tryd.prog 113 #[.pointer (some ⟨g, 0, none⟩), .int .i64 e] w (RcRet (.tuple #[]) g s (cuFail c e) w) := by
  have c2 := h.c2
  have f2 := h.f 2
  have hl := h.lt
  by_cases hc : c.e = 0
  · have HC := Lib.hid hc
    rw [hc] at c2
    rw [show cuFail c e = ⟨c.at_, e⟩ from if_pos hc]
    clear hc
    go_enter Tryd.func113, Tryd.ntmps113
    go_wp2
    go_end0
    exact ⟨rfl, h.setErr e he, touch_set _ _ _ _⟩
  · rw [show cuFail c e = c from if_neg hc]
    have hb : ((c.e : Int) == 0) = false := by simpa using hc
    go_enter Tryd.func113, Tryd.ntmps113
    go_wp2
    go_end0
    exact ⟨rfl, h, Touch.refl _ _⟩
set_option maxRecDepth 100000 in
set_option maxHeartbeats 1000000 in
theorem refInt_any (g : Nat) (s : ByteArray) (c : Cu) (w : World) (h : RcuAt w g s c) (hz : ∀ (n : Nat) (w : World), U64 n → Calls Tryd.prog 147 #[.int .u64 n] w fun e w' => e = .returned (.int .i64 (zag n)) ∧ w = w') :
    Calls Tryd.prog 114 #[.pointer (some ⟨g, 0, none⟩)] w (RcRet (.int .i64 (cuInt s c).1) g s (cuInt s c).2 w) := by
  have c0 := h.c0
  have c1 := h.c1
  have c2 := h.c2
  have hs := h.2.2.1
  have hat := h.2.1
  have f1 := h.f 1
  have f2 := h.f 2
  have hl := h.lt
  by_cases hc : c.e = 0
  · have hI : I64 (c.at_ : Int) := by constructor <;> omega
    have hg : ∀ n, Calls Tryd.prog 142 #[.string s, .int .i64 c.at_] (w.drewN n) fun e w' => e = .returned (.tuple #[.int .u64 (vget s c.at_).1, .int .i64 (vget s c.at_).2.1, .int .i64 (vget s c.at_).2.2]) ∧ w' = w.drewN n := fun n =>
      (refVget_any s c.at_ _ hs hI).mono fun _ _ ⟨h1, h2⟩ => ⟨h1, h2.symm⟩
    obtain ⟨r1, r2, r3, r4, -⟩ := vget_range s c.at_ hat
    have HC := Lib.hid hc
    rw [hc] at c2
    by_cases he : (vget s c.at_).2.2 = 0
    · have hr : cuInt s c = (zag (vget s c.at_).1, ⟨(vget s c.at_).2.1, 0⟩) := by rw [cuInt, if_pos hc, if_pos he]
      rw [hr]
      rw [he] at hg
      clear hr hc
      generalize hR : vget s c.at_ = R at *
      clear hR
      replace he := Lib.hid he
      go_enter Tryd.func114, Tryd.ntmps114
      go_wp2
      go_quiet ((go_at_call 142; exact Calls.quiet_of_same (hg _)))
      go_wp2_with fail
      refine (hz R.1 _ r4).mono ?_
      rintro x w2 ⟨rfl, rfl⟩
      go_wp2
      go_ret
      have h2 := (h.drewN nq).setAt R.2.1 r3
      rw [HC.out] at h2
      exact ⟨rfl, h2, (touch_drewN _ w nq).trans (touch_set _ _ _ _) fun i hi => .inl hi⟩
    · have hr : cuInt s c = (0, ⟨c.at_, (vget s c.at_).2.2⟩) := by rw [cuInt, if_pos hc, if_neg he]
      rw [hr]
      clear hr hc
      generalize hR : vget s c.at_ = R at *
      clear hR
      have hb2 : ((R.2.2 : Int) != 0) = true := by simpa using he
      go_enter Tryd.func114, Tryd.ntmps114
      go_wp2
      go_quiet ((go_at_call 142; exact Calls.quiet_of_same (hg _)))
      go_wp2
      go_ret
      exact ⟨rfl, (h.drewN nq).setErr R.2.2 ⟨by omega, by omega⟩, (touch_drewN _ w nq).trans (touch_set _ _ _ _) fun i hi => .inl hi⟩
  · have hr : cuInt s c = (0, c) := if_neg hc
    rw [hr]
    clear hr
    have hb : ((c.e : Int) != 0) = true := by simpa using hc
    go_enter Tryd.func114, Tryd.ntmps114
    go_wp2
    go_ret
    exact ⟨rfl, h, Touch.refl _ _⟩
end Go.Proofs.YtdgjgekefpfgiaaDoor
