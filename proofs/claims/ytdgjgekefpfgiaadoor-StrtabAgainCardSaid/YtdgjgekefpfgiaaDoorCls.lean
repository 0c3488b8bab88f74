/- Classes of numbers. -/
import Derived.Test.YtdgjgekefpfgiaaDoorProg
import Derived.Test.YtdgjgekefpfgiaaDoorDat
namespace Go.Proofs.YtdgjgekefpfgiaaDoor
open Go.RowKit

/-- Is a number of a class? -/
def inClass (c n : Int) : Bool :=
  if c = 1 then true else if c = 2 then decide (-140737488355328 ≤ n ∧ n ≤ 140737488355328) else if c = 3 then decide (0 ≤ n ∧ n ≤ 140737488355328)
  else if c = 4 then decide (0 ≤ n ∧ n ≤ 255) else if c = 5 then decide (n = 0 ∨ n = 1) else false

theorem ret_bool {a b : Bool} (h : a = b) : Ending.returned (.bool a) = .returned (.bool b) := by rw [h]

set_option maxHeartbeats 1000000 in
theorem in_any (c n : Int) (w : World) : Calls Tryd.prog 146 #[.int .i64 c, .int .i64 n] w fun e w' => e = .returned (.bool (inClass c n)) ∧ w = w' := by
  by_cases h1 : c = 1
  · subst h1
    go_enter Tryd.func146, Tryd.ntmps146
    go_wp2
    all_goals (go_ret; exact ⟨ret_bool (by rw [Bool.eq_iff_iff]; simp [inClass] <;> omega), rfl⟩)
  by_cases h2 : c = 2
  · subst h2
    go_enter Tryd.func146, Tryd.ntmps146
    go_wp2
    all_goals (go_ret; exact ⟨ret_bool (by rw [Bool.eq_iff_iff]; simp [inClass] <;> omega), rfl⟩)
  by_cases h3 : c = 3
  · subst h3
    go_enter Tryd.func146, Tryd.ntmps146
    go_wp2
    all_goals (go_ret; exact ⟨ret_bool (by rw [Bool.eq_iff_iff]; simp [inClass] <;> omega), rfl⟩)
  by_cases h4 : c = 4
  · subst h4
    go_enter Tryd.func146, Tryd.ntmps146
    go_wp2
    all_goals (go_ret; exact ⟨ret_bool (by rw [Bool.eq_iff_iff]; simp [inClass] <;> omega), rfl⟩)
  by_cases h5 : c = 5
  · subst h5
    go_enter Tryd.func146, Tryd.ntmps146
    go_wp2
    all_goals (go_ret; exact ⟨ret_bool (by rw [Bool.eq_iff_iff]; simp [inClass] <;> omega), rfl⟩)
  go_enter Tryd.func146, Tryd.ntmps146
  go_wp2
  go_ret
  exact ⟨ret_bool (by simp [inClass, h1, h2, h3, h4, h5]), rfl⟩

set_option maxHeartbeats 1000000 in
theorem refIn_any (c n : Int) (w : World) : Calls Tryd.prog 115 #[.int .i64 c, .int .i64 n] w fun e w' => e = .returned (.bool (inClass c n)) ∧ w = w' := by
  by_cases h1 : c = 1
  · subst h1
    go_enter Tryd.func115, Tryd.ntmps115
    go_wp2
    all_goals (go_ret; exact ⟨ret_bool (by rw [Bool.eq_iff_iff]; simp [inClass] <;> omega), rfl⟩)
  by_cases h2 : c = 2
  · subst h2
    go_enter Tryd.func115, Tryd.ntmps115
    go_wp2
    all_goals (go_ret; exact ⟨ret_bool (by rw [Bool.eq_iff_iff]; simp [inClass] <;> omega), rfl⟩)
  by_cases h3 : c = 3
  · subst h3
    go_enter Tryd.func115, Tryd.ntmps115
    go_wp2
    all_goals (go_ret; exact ⟨ret_bool (by rw [Bool.eq_iff_iff]; simp [inClass] <;> omega), rfl⟩)
  by_cases h4 : c = 4
  · subst h4
    go_enter Tryd.func115, Tryd.ntmps115
    go_wp2
    all_goals (go_ret; exact ⟨ret_bool (by rw [Bool.eq_iff_iff]; simp [inClass] <;> omega), rfl⟩)
  by_cases h5 : c = 5
  · subst h5
    by_cases n0 : n = 0
    · subst n0
      go_enter Tryd.func115, Tryd.ntmps115
      go_wp2
      go_ret
      exact ⟨rfl, rfl⟩
    by_cases n1 : n = 1
    · subst n1
      go_enter Tryd.func115, Tryd.ntmps115
      go_wp2
      go_ret
      exact ⟨rfl, rfl⟩
    have hf : inClass 5 n = false := by simp [inClass, n0, n1]
    rw [hf]
    clear hf
    go_enter Tryd.func115, Tryd.ntmps115
    go_wp2
    all_goals (go_ret; exact ⟨ret_bool (by first | rfl | (simp; omega)), rfl⟩)
  go_enter Tryd.func115, Tryd.ntmps115
  go_wp2
  go_ret
  exact ⟨ret_bool (by simp [inClass, h1, h2, h3, h4, h5]), rfl⟩

/-- Are numbers of these classes? -/
def numsB (xs cs : List Int) : Bool := decide (xs.length = cs.length ∧ ∀ i, i < xs.length → inClass (cs.getD i 0) (xs.getD i 0) = true)

set_option maxHeartbeats 1000000 in
theorem numbers_any (v u : Value) (xs cs : List Int) (w : World) (h : RI Any w v xs) (g : RI Any w u cs) : Calls Tryd.prog 133 #[v, u] w fun e w' => e = .returned (.bool (numsB xs cs)) ∧ w = w' := by
  obtain ⟨A, c, rfl, hc, hm⟩ := h.form
  obtain ⟨B, d, rfl, hd, hn⟩ := g.form
  by_cases hl : xs.length = cs.length
  · have hlb : ((xs.length : Int) != (cs.length : Int)) = false := by rw [hl]; simp
    have hlb2 : (xs.length != cs.length) = false := by rw [hl]; simp
    have e1 : xs.length ≤ cs.length := by omega
    have e2 : cs.length ≤ xs.length := by omega
    have HL := Lib.hid hl
    clear hl
    go_enter Tryd.func133, Tryd.ntmps133
    go_wp2
    go_loop [14] (fun i => ∃ k : Nat, k ≤ xs.length ∧ i = .int .i64 k ∧ ∀ j, j < k → inClass (cs.getD j 0) (xs.getD j 0) = true) (fun i => xs.length - (intOf i).toNat)
    case atStart => exact ⟨0, by omega, rfl, by intros; omega⟩
    case round =>
      obtain ⟨k, hk, rfl, hall⟩ := hrel
      by_cases hlt : k < xs.length
      · obtain ⟨b, o, rfl, hb, hx, -⟩ := h.at k hlt
        obtain ⟨b', o', rfl, hb', hy, -⟩ := g.at k (by omega)
        have hin : inClass cs[k] xs[k] = inClass (cs.getD k 0) (xs.getD k 0) := by simp [List.getElem?_eq_getElem, hlt, show k < cs.length from by omega]
        have hin' := Lib.hid hin
        clear hin
        by_cases hi : inClass cs[k] xs[k] = true
        · go_wp2_with (go_at_call 146; refine (in_any _ _ _).mono ?_; rintro e w' ⟨rfl, rfl⟩)
          go_round
          case rel => exact ⟨k + 1, by omega, by go_num, fun j hj => (by by_cases e : j = k; (subst e; rw [← hin'.out]; exact hi); exact hall j (by omega))⟩
          case measure => simp [intOf]; omega
        · have hi' : inClass cs[k] xs[k] = false := by simpa using hi
          clear hi
          go_wp2_with (go_at_call 146; refine (in_any _ _ _).mono ?_; rintro e w' ⟨rfl, rfl⟩)
          go_ret
          refine ⟨ret_bool ?_, rfl⟩
          symm
          rw [numsB, decide_eq_false_iff_not]
          rintro ⟨-, h2⟩
          have := h2 k hlt
          rw [← hin'.out, hi'] at this
          cases this
      · go_wp2
        go_ret
        obtain rfl : k = xs.length := by omega
        exact ⟨ret_bool (by symm; rw [numsB, decide_eq_true_eq]; exact ⟨HL.out, hall⟩), rfl⟩
  · have hlb : ((xs.length : Int) != (cs.length : Int)) = true := by simp; omega
    have hlb2 : (xs.length != cs.length) = true := by simp; omega
    go_enter Tryd.func133, Tryd.ntmps133
    go_wp2
    go_ret
    exact ⟨ret_bool (by simp [numsB, hl]), rfl⟩
end Go.Proofs.YtdgjgekefpfgiaaDoor
