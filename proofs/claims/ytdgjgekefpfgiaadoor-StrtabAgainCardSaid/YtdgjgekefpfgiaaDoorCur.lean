/- The program's cursor. -/
import Derived.Test.YtdgjgekefpfgiaaDoorVgt
import Derived.Test.YtdgjgekefpfgiaaDoorTab
import Derived.BigQuiet
namespace Go.Proofs.YtdgjgekefpfgiaaDoor
open Go.RowKit

def errW (e : Int) : Value := if e = 0 then .nilIface else .iface 150 (.int .i64 e)
def curCells (s : ByteArray) (c : Cu) : Array Value := #[.string s, .int .i64 c.at_, errW c.e]
/-- A cursor in block g. -/
def CurAt (w : World) (g : Nat) (s : ByteArray) (c : Cu) : Prop := w.heap[g]? = some (.cells (curCells s c) 144 (0, 0)) ∧ c.at_ ≤ s.size ∧ s.size ≤ 1000000 ∧ I64 c.e
section
variable {w w' : World} {g : Nat} {s : ByteArray} {c : Cu}
theorem CurAt.c0 (h : CurAt w g s c) : w.cell? ⟨g, 0, none⟩ = some (.string s) := blk_cell h.1 0
theorem CurAt.c1 (h : CurAt w g s c) : w.cell? ⟨g, 1, none⟩ = some (.int .i64 c.at_) := blk_cell h.1 1
theorem CurAt.c2 (h : CurAt w g s c) : w.cell? ⟨g, 2, none⟩ = some (errW c.e) := blk_cell h.1 2
theorem CurAt.f (h : CurAt w g s c) (i : Nat) : w.frozen? ⟨g, i, none⟩ = false := blk_frozen h.1 i
theorem CurAt.lt (h : CurAt w g s c) : g < w.heap.size := blk_lt h.1
theorem CurAt.setAt (h : CurAt w g s c) (p : Nat) (hp : p ≤ s.size) : CurAt (w.setCell ⟨g, 1, none⟩ (.int .i64 p)) g s ⟨p, c.e⟩ := ⟨blk_set h.1 1 _, hp, h.2.2⟩
theorem CurAt.setErr (h : CurAt w g s c) {e : Int} (he : e ≠ 0) (hI : I64 e) : CurAt (w.setCell ⟨g, 2, none⟩ (.iface 150 (.int .i64 e))) g s ⟨c.at_, e⟩ := by
  refine ⟨?_, h.2.1, h.2.2.1, hI⟩
  have := blk_set h.1 2 (.iface 150 (.int .i64 e))
  rw [this]
  simp [curCells, errW, he]
theorem CurAt.drewN (h : CurAt w g s c) (n : Nat) : CurAt (w.drewN n) g s c := h
theorem CurAt.touch {S : Nat → Prop} (h : CurAt w g s c) (ht : Touch S w w') (hn : ¬ S g) : CurAt w' g s c := ⟨ht.blk h.1 hn, h.2⟩
end
theorem cell_drewN (w : World) (n : Nat) (p : Addr) : (w.drewN n).cell? p = w.cell? p := rfl
/-- What a call leaves: its value, the cursor. -/
def CuRet (v : Value) (g : Nat) (s : ByteArray) (c : Cu) (w : World) (e : Ending) (w' : World) : Prop := e = .returned v ∧ CurAt w' g s c ∧ Touch (fun k => k = g) w w'
theorem touch_drewN (S : Nat → Prop) (w : World) (n : Nat) : Touch S w (w.drewN n) := ⟨rfl, rfl, rfl, Nat.le_refl _, fun _ _ _ => rfl⟩
theorem touch_set (g i : Nat) (w : World) (u : Value) : Touch (fun k => k = g) w (w.setCell ⟨g, i, none⟩ u) := Touch.of_set w ⟨g, i, none⟩ u

set_option maxHeartbeats 1000000 in
theorem curFail_any (g : Nat) (s : ByteArray) (c : Cu) (e : Int) (w : World) (h : CurAt w g s c) (he : I64 e) : Calls Tryd.prog 98 #[.pointer (some ⟨g, 0, none⟩), .int .i64 e] w (CuRet (.tuple #[]) g s (cuFail c e) w) := by
  have c2 := h.c2
  have f2 := h.f 2
  have hl := h.lt
  by_cases hc : c.e = 0
  · have hw : errW c.e = .nilIface := if_pos hc
    rw [hw] at c2
    by_cases h0 : e = 0
    · have hr : cuFail c e = c := by rw [cuFail, if_pos hc, h0, ← hc]
      rw [hr]
      clear hr hw
      subst h0
      have HC := Lib.hid hc
      clear hc
      go_enter Tryd.func98, Tryd.ntmps98
      go_wp2
      go_end0
      exact ⟨rfl, h, Touch.refl _ _⟩
    · have hr : cuFail c e = ⟨c.at_, e⟩ := by rw [cuFail, if_pos hc]
      rw [hr]
      have hne : ((e : Int) != 0) = true := by simpa using h0
      clear hr hw hc
      go_enter Tryd.func98, Tryd.ntmps98
      go_wp2
      go_end0
      exact ⟨rfl, h.setErr h0 he, touch_set _ _ _ _⟩
  · have hw : errW c.e = .iface 150 (.int .i64 c.e) := if_neg hc
    rw [hw] at c2
    have hr : cuFail c e = c := if_neg hc
    rw [hr]
    clear hr hw
    go_enter Tryd.func98, Tryd.ntmps98
    go_wp2
    go_end0
    exact ⟨rfl, h, Touch.refl _ _⟩
theorem assert_nil (w : World) : (Instr.typeAssert .nilIface 124 150 true).run Tryd.prog w = .ok (.tuple #[.int .i64 0, .bool false]) w := by kernel_rfl
theorem assert_fault (e : Int) (w : World) : (Instr.typeAssert (.iface 150 (.int .i64 e)) 124 150 true).run Tryd.prog w = .ok (.tuple #[.int .i64 e, .bool true]) w := by kernel_rfl
set_option maxRecDepth 100000 in
set_option maxHeartbeats 1000000 in
theorem curErr_any (g : Nat) (s : ByteArray) (c : Cu) (w : World) (h : CurAt w g s c) : Calls Tryd.prog 70 #[.pointer (some ⟨g, 0, none⟩)] w fun e w' => e = .returned (.int .i64 c.e) ∧ w = w' := by
  have c2 := h.c2
  have ta := assert_nil w
  have tb := assert_fault c.e w
  by_cases hc : c.e = 0
  · rw [hc] at c2 ⊢
    have c2' : w.cell? ⟨g, 2, none⟩ = some .nilIface := c2
    clear c2 hc h
    go_enter Tryd.func70, Tryd.ntmps70
    go_wp2
    go_ret
    exact ⟨rfl, rfl⟩
  · have hw : errW c.e = .iface 150 (.int .i64 c.e) := if_neg hc
    rw [hw] at c2
    clear hw
    go_enter Tryd.func70, Tryd.ntmps70
    go_wp2
    go_ret
    exact ⟨rfl, rfl⟩
set_option maxHeartbeats 1000000 in
theorem curLeft_any (g : Nat) (s : ByteArray) (c : Cu) (w : World) (h : CurAt w g s c) : Calls Tryd.prog 71 #[.pointer (some ⟨g, 0, none⟩)] w fun e w' => e = .returned (.int .i64 ((s.size : Int) - c.at_)) ∧ ∃ n, w' = w.drewN n := by
  have c0 := h.c0
  have c1 := h.c1
  obtain ⟨-, h1, h2, -⟩ := h
  go_enter Tryd.func71, Tryd.ntmps71
  go_wp2
  go_quiet (fail)
  go_wp2
  go_ret
  exact ⟨rfl, _, rfl⟩
set_option maxHeartbeats 1000000 in
theorem curNew_any (s : ByteArray) (w : World) (hs : s.size ≤ 1000000) : Calls Tryd.prog 66 #[.string s] w fun e w' => e = .returned (.pointer (some ⟨w.heap.size, 0, none⟩)) ∧ CurAt w' w.heap.size s ⟨0, 0⟩ ∧ Below w.heap.size w w' ∧ w'.heap.size = w.heap.size + 1 := by
  go_enter Tryd.func66, Tryd.ntmps66
  go_wp2
  go_ret
  exact ⟨rfl, ⟨blk_new _ _, Nat.zero_le _, hs, by decide⟩, below_alloc' (Below.refl _ _) _, by simp⟩
end Go.Proofs.YtdgjgekefpfgiaaDoor
