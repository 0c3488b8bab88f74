/- The table's law: all, awake. -/
import Derived.Test.YtdgjgekefpfgiaaDoorRs1
namespace Go.Proofs.YtdgjgekefpfgiaaDoor
open Go.RowKit

/-- The texts of a table, as a row of the call's own. -/
def AllRet (l : List ByteArray) (w : World) (e : Ending) (w' : World) : Prop := ∃ A c, e = .returned (.slice A l.length c) ∧ Row w' w.heap.size 9 1 (.slice A l.length c) (strs l) ∧ Below w.heap.size w w'
theorem row_rs {w : World} {base : Nat} {v : Value} {l : List ByteArray} (h : Row w base 9 1 v (strs l)) (h1 : l.length ≤ 1000000) (h2 : ∀ s ∈ l, s.size ≤ 1000000) : RS Any w v l :=
  RS.of_row h (by omega) (fun _ _ => trivial) fun s hs => by have := h2 s hs; omega
set_option maxRecDepth 100000 in
set_option maxHeartbeats 1000000 in
theorem all_any (S : Nat → Prop) (g : Nat) (l : List ByteArray) (w : World) (h : Tab S w g l) (hl : l.length ≤ 5000) : Calls Tryd.prog 40 #[.pointer (some ⟨g, 0, none⟩)] w (AllRet l w) := by
  have hx : max (l.length : Int) 0 = (l.length : Int) := by omega
  have hn : min (l.length : Int) 5000 = (l.length : Int) := by omega
  go_enter Tryd.func40, Tryd.ntmps40
  go_wp2_with fail
  refine (tabLen_any S g l _ h).mono ?_
  rintro e w1 ⟨rfl, rfl⟩
  go_wp2
  go_loopw [3, 11] (fun v i wr => ∃ (k : Nat) (A : Option Addr) (c : Nat), k ≤ l.length ∧ i = .int .i64 k ∧ v = .slice A k c ∧ Row wr w.heap.size 9 1 (.slice A k c) (strs (l.take k)) ∧ Below w.heap.size w wr) (fun _ i _ => l.length - (intOf i).toNat)
  case atStart => exact ⟨0, none, 0, by omega, rfl, rfl, Row.empty _ _ _ _ _, Below.refl _ _⟩
  case round =>
    obtain ⟨k, A, c, hk, rfl, rfl, hrow, hbw⟩ := hrel
    by_cases hlt : k < l.length
    · have hat := tabAt_any S g l k _ (h.later hbw)
      have ha : atT l k = some l[k] := by rw [atT, if_pos (by omega), Int.toNat_natCast, List.getElem?_eq_getElem hlt]
      rw [ha] at hat
      simp only [Option.getD_some, Option.isSome_some] at hat
      have e1 : strs (l.take (k + 1)) = strs (l.take k) ++ [.string l[k]] := by rw [List.take_succ_eq_append_getElem hlt]; simp only [strs, List.map_append, List.map_cons, List.map_nil]
      replace e1 := Lib.hid e1
      replace ha := Lib.hid ha
      go_wp2_with fail
      refine hat.mono ?_
      rintro e w2 ⟨rfl, rfl⟩
      go_wp2_with (at_builtin; refine append_ev rfl _ _ 23 9 (.string ⟨#[]⟩) 1 16 rfl Tryd.underlying23 info_str rfl (by decide) w.heap.size A k c (strs (l.take k)) rfl (hrow.later (below_alloc' (Below.refl _ _) _)) _ 1 1 [.string l[k]] rfl rfl (Cells.one _ _ _) (by intro u hu; simp at hu; subst hu; rfl) ?c1 ?c2 ?c3 ?_)
      case c1 => omega
      case c2 => omega
      case c3 => have := hbw.size; simp; omega
      intro A1 k1 w2 hr2 hg2 hw2
      rw [← e1.out] at hr2
      have hb2 : Below w.heap.size w w2 := below_grown (below_alloc' hbw _) hg2 fun b hb' => by
        have := (hrow.typed b hb').1
        omega
      go_wp2
      go_roundw
      case rel => exact ⟨k + 1, A1, k1, by omega, by go_num, rfl, hr2, hb2⟩
      case measure => simp [intOf]; omega
    · obtain rfl : k = l.length := by omega
      rw [List.take_length] at hrow
      go_wp2
      go_ret
      exact ⟨A, c, rfl, hrow, hbw⟩
end Go.Proofs.YtdgjgekefpfgiaaDoor
