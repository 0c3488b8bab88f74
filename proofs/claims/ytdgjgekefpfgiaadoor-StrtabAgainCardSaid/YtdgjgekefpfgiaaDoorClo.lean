/- slices.Clone: what is handed back is the call's own. -/
import Derived.Test.YtdgjgekefpfgiaaDoorProg
import Derived.Test.YtdgjgekefpfgiaaDoorDat
namespace Go.Proofs.YtdgjgekefpfgiaaDoor
open Go.RowKit

theorem info_int : (Tryd.prog.info? 3).map (fun i => (i.zero, i.size, i.bytes)) = some (some (.int .i64 0), 1, 8) := by kernel_rfl
theorem info_i64 : (Tryd.prog.info? 2).map (fun i => (i.zero, i.size, i.bytes)) = some (some (.int .i64 0), 1, 8) := by kernel_rfl
theorem info_str : (Tryd.prog.info? 9).map (fun i => (i.zero, i.size, i.bytes)) = some (some (.string ⟨#[]⟩), 1, 16) := by kernel_rfl

/-- A result that is a row of the call's own. -/
def OwnRet (w : World) (e : TypeId) (xs : List Value) (x : Ending) (w' : World) : Prop := ∃ A c, x = .returned (.slice A xs.length c) ∧ Row w' w.heap.size e 1 (.slice A xs.length c) xs ∧ Below w.heap.size w w'

set_option maxHeartbeats 400000 in
theorem clone_int (v : Value) (xs : List Int) (w : World) (h : RI Any w v xs) : Calls Tryd.prog 130 #[v] w (OwnRet w 3 (ints xs)) := by
  obtain ⟨A, c, rfl, hc, hb⟩ := h.form
  have q := fun (w : World) (a : Option Addr) (n c n' c' : Nat) => Lib.run_eql_slice_nil (P := Tryd.prog) w _ _ a n c n' c' Tryd.underlying24
  cases A with
  | none =>
    obtain rfl : xs = [] := by
      cases xs with
      | nil => rfl
      | cons x xs => obtain ⟨b, o, h, _⟩ := h.at 0 (by simp); cases h
    go_enter Tryd.func130, Tryd.ntmps130
    go_wp2
    go_ret
    exact ⟨_, _, rfl, Row.empty _ _ _ _ _, Below.refl _ _⟩
  | some ad =>
    have hcs := h.cells.later (Below.alloc (Below.refl w.heap.size w) (Nat.le_refl _) (.cells #[] 3))
    go_enter Tryd.func130, Tryd.ntmps130
    go_wp2_with (at_builtin; refine append_ev rfl _ _ 24 3 _ _ _ rfl Tryd.underlying24 info_int rfl (by decide) w.heap.size _ 0 0 [] rfl (Row.empty _ _ _ _ _) _ _ _ (ints xs) rfl ?h2 ?h3 (ints_one xs) ?h4 ?h5 ?h6 ?_)
    case h2 => simp
    case h3 => exact hcs
    case h4 => omega
    case h5 => omega
    case h6 => simp
    intro A1 c1 w' hown hg hat
    go_wp2
    go_ret
    refine ⟨A1, c1, by simp, by simpa using hown, ?_⟩
    exact below_grown ((Below.refl w.heap.size w).alloc (Nat.le_refl _) _) hg (fun k hk => by simp [blk] at hk)

set_option maxHeartbeats 400000 in
theorem clone_i64 (v : Value) (xs : List Int) (w : World) (h : RI Any w v xs) : Calls Tryd.prog 136 #[v] w (OwnRet w 2 (ints xs)) := by
  obtain ⟨A, c, rfl, hc, hb⟩ := h.form
  have q := fun (w : World) (a : Option Addr) (n c n' c' : Nat) => Lib.run_eql_slice_nil (P := Tryd.prog) w _ _ a n c n' c' Tryd.underlying22
  cases A with
  | none =>
    obtain rfl : xs = [] := by
      cases xs with
      | nil => rfl
      | cons x xs => obtain ⟨b, o, h, _⟩ := h.at 0 (by simp); cases h
    go_enter Tryd.func136, Tryd.ntmps136
    go_wp2
    go_ret
    exact ⟨_, _, rfl, Row.empty _ _ _ _ _, Below.refl _ _⟩
  | some ad =>
    have hcs := h.cells.later (Below.alloc (Below.refl w.heap.size w) (Nat.le_refl _) (.cells #[] 2))
    go_enter Tryd.func136, Tryd.ntmps136
    go_wp2_with (at_builtin; refine append_ev rfl _ _ 22 2 _ _ _ rfl Tryd.underlying22 info_i64 rfl (by decide) w.heap.size _ 0 0 [] rfl (Row.empty _ _ _ _ _) _ _ _ (ints xs) rfl ?h2 ?h3 (ints_one xs) ?h4 ?h5 ?h6 ?_)
    case h2 => simp
    case h3 => exact hcs
    case h4 => omega
    case h5 => omega
    case h6 => simp
    intro A1 c1 w' hown hg hat
    go_wp2
    go_ret
    refine ⟨A1, c1, by simp, by simpa using hown, ?_⟩
    exact below_grown ((Below.refl w.heap.size w).alloc (Nat.le_refl _) _) hg (fun k hk => by simp [blk] at hk)

set_option maxHeartbeats 400000 in
theorem clone_str (v : Value) (xs : List ByteArray) (w : World) (h : RS Any w v xs) : Calls Tryd.prog 137 #[v] w (OwnRet w 9 (strs xs)) := by
  obtain ⟨A, c, rfl, hc, hb⟩ := h.form
  have q := fun (w : World) (a : Option Addr) (n c n' c' : Nat) => Lib.run_eql_slice_nil (P := Tryd.prog) w _ _ a n c n' c' Tryd.underlying23
  cases A with
  | none =>
    obtain rfl : xs = [] := by
      cases xs with
      | nil => rfl
      | cons x xs => obtain ⟨b, o, h, _⟩ := h.at 0 (by simp); cases h
    go_enter Tryd.func137, Tryd.ntmps137
    go_wp2
    go_ret
    exact ⟨_, _, rfl, Row.empty _ _ _ _ _, Below.refl _ _⟩
  | some ad =>
    have hcs := h.cells.later (Below.alloc (Below.refl w.heap.size w) (Nat.le_refl _) (.cells #[] 9))
    go_enter Tryd.func137, Tryd.ntmps137
    go_wp2_with (at_builtin; refine append_ev rfl _ _ 23 9 _ _ _ rfl Tryd.underlying23 info_str rfl (by decide) w.heap.size _ 0 0 [] rfl (Row.empty _ _ _ _ _) _ _ _ (strs xs) rfl ?h2 ?h3 (strs_one xs) ?h4 ?h5 ?h6 ?_)
    case h2 => simp
    case h3 => exact hcs
    case h4 => omega
    case h5 => omega
    case h6 => simp
    intro A1 c1 w' hown hg hat
    go_wp2
    go_ret
    refine ⟨A1, c1, by simp, by simpa using hown, ?_⟩
    exact below_grown ((Below.refl w.heap.size w).alloc (Nat.le_refl _) _) hg (fun k hk => by simp [blk] at hk)

end Go.Proofs.YtdgjgekefpfgiaaDoor
