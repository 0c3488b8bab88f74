/- slices.Repeat as the schema calls it; the schema's tables. -/
import Derived.Test.YtdgjgekefpfgiaaDoorClo
import Derived.Test.YtdgjgekefpfgiaaDoorRel
import Derived.Laws.CopyOwn
import Derived.Deep.OwnRows
import Derived.Deep.RegionHeld3
import Derived.Deep.DeepMust
namespace Go.Proofs.YtdgjgekefpfgiaaDoor
open Go.RowKit

theorem size_int : (Tryd.prog.info? 3).map (·.size) = some 1 := by kernel_rfl

/-- bits.Mul of 1 and n, for what the schema asks. -/
def Mul1 (n : Nat) : Prop := ∀ w : World, Calls Tryd.prog 162 #[.int .u64 1, .int .u64 n] w fun e w' => e = .returned (.tuple #[.int .u64 0, .int .u64 n]) ∧ w = w'
theorem mul_1 : Mul1 1 := by
  intro w
  go_enter Tryd.func162, Tryd.ntmps162
  go_wp2
  go_ret2
  exact ⟨rfl, rfl⟩
theorem mul_3 : Mul1 3 := by
  intro w
  go_enter Tryd.func162, Tryd.ntmps162
  go_wp2
  go_ret2
  exact ⟨rfl, rfl⟩
theorem mul_4 : Mul1 4 := by
  intro w
  go_enter Tryd.func162, Tryd.ntmps162
  go_wp2
  go_ret2
  exact ⟨rfl, rfl⟩

/-- The new row, k of its n numbers laid. -/
def part (n k : Nat) (cl : Int) : List Value := List.replicate k (.int .i64 cl) ++ List.replicate (n - k) (.int .i64 0)
theorem part_length (n k : Nat) (cl : Int) (h : k ≤ n) : (part n k cl).length = n := by simp [part]; omega

theorem part_zero (n : Nat) (cl : Int) : (madeCells #[.int .i64 0] n) = (part n 0 cl).toArray := by
  apply Array.ext
  · simp [part, madeCells]
  · intro i h1 h2
    simp [part, madeCells, Nat.mod_one]
theorem part_splice (n k m : Nat) (cl : Int) (h : k + m ≤ n) : splice (part n k cl) k (List.replicate m (.int .i64 cl)) = part n (k + m) cl := by
  apply List.ext_getElem
  · simp [splice, part]; omega
  · intro i h1 h2
    simp only [splice, part, List.length_replicate, List.getElem_append, List.getElem_take, List.getElem_drop, List.length_take, List.length_append, List.getElem_replicate]
    simp only [splice, part, List.length_append, List.length_take, List.length_replicate, List.length_drop] at h1
    repeat' split
    all_goals first | rfl | omega

theorem part_read {n k m : Nat} {cl : Int} {u : World} {b : Nat} {t : TypeId} (h : u.heap[b]? = some (.cells (part n k cl).toArray t (0, 0))) (hm : m ≤ k) {j : Nat} {v : Value}
    (hj : (List.replicate m (Value.int .i64 cl))[j]? = some v) : u.cell? ((⟨b, 0, none⟩ : Addr).add j) = some v := by
  obtain ⟨hlt, rfl⟩ := List.getElem?_eq_some_iff.1 hj
  rw [List.length_replicate] at hlt
  rw [Addr.add_lit, blk_cell h]
  simp [part, List.getElem?_append, show j < k from by omega]

set_option maxRecDepth 100000 in
set_option maxHeartbeats 1000000 in
theorem repeat_any (n : Nat) (h1 : 1 ≤ n) (hn : n ≤ 1000) (hm : Mul1 n) (g : Nat) (cl : Int) (w : World) (h : w.cell? ⟨g, 0, none⟩ = some (.int .i64 cl)) :
    Calls Tryd.prog 154 #[.slice (some ⟨g, 0, none⟩) 1 1, .int .i64 n] w (OwnRet w 3 (ints (List.replicate n cl))) := by
  have hg : g < w.heap.size := World.block_lt_of_cell? _ _ h
  have hmk : ∀ W : World, (Instr.makeSlice 24 (.int .i64 (n : Int)) (.int .i64 (n : Int))).run Tryd.prog W = .ok (.slice (some ⟨W.heap.size, 0, none⟩) n n) (W.alloc (.cells (part n 0 cl).toArray 3)) :=
    fun W => by rw [← part_zero]; exact run_make_row' 24 3 (.int .i64 0) 8 Tryd.underlying24 info_int rfl .i64 .i64 n (by omega) (by omega) W
  have hl0 := part_length n 0 cl (by omega)
  go_enter Tryd.func154, Tryd.ntmps154
  go_wp2_with (first
    | (go_at_call 162; refine (hm _).mono ?_; rintro e w' ⟨rfl, rfl⟩))
  have hr := run_copy_row (P := Tryd.prog) (w.alloc (.cells (part n 0 cl).toArray 3)) 24 24 3 3 w.heap.size 0 n n ⟨g, 0, none⟩ 1 1 (part n 0 cl).toArray 3 [.int .i64 cl] Tryd.underlying24 size_int (blk_new _ _) (by simp [Nat.min_eq_left h1])
    (fun j v hj => by (match j, hj with | 0, hj => (simp at hj; subst hj; exact cell_later' (below_alloc' (Below.refl _ _) _) (by simpa [Addr.add] using h)))) (by simp; omega) (by simp [Value.oneCell'])
  rw [hr]
  obtain ⟨W, hW, hrow, hbW⟩ : ∃ W, World.setRow (w.alloc (.cells (part n 0 cl).toArray 3)) w.heap.size ((part n 0 cl).toArray.toList.take 0 ++ [Value.int .i64 cl] ++ (part n 0 cl).toArray.toList.drop (0 + [Value.int .i64 cl].length)).toArray = W ∧
      W.heap[w.heap.size]? = some (.cells (part n 1 cl).toArray 3 (0, 0)) ∧ Below w.heap.size w W := by
    refine ⟨_, rfl, ?_, below_setRow (below_alloc' (Below.refl _ _) _) (Nat.le_refl _) _⟩
    have e := part_splice n 0 1 cl (by omega)
    rw [Nat.zero_add] at e
    rw [setRow_heap _ _ _ _ _ _ (blk_new w _), ← e]
    simp [splice]
  rw [hW]
  clear hW hr hmk hl0
  go_wp2
  go_loopw [8] (fun v wr => ∃ k : Nat, 1 ≤ k ∧ k ≤ n ∧ v = .int .i64 k ∧ wr.heap[w.heap.size]? = some (.cells (part n k cl).toArray 3 (0, 0)) ∧ Below w.heap.size w wr) (fun v _ => n - (intOf v).toNat)
  case atStart => exact ⟨1, Nat.le_refl _, h1, rfl, hrow, hbW⟩
  case round =>
    clear hrow hbW W
    obtain ⟨k, hk1, hkn, rfl, hrow, hbw⟩ := hrel
    by_cases hlt : k < n
    · have hl := part_length n k cl hkn
      have hlti : (k : Int) < (n : Int) := by omega
      have hk0 : (0 : Int) ≤ (k : Int) := by omega
      have hkn' : (k : Int) ≤ (n : Int) := by omega
      obtain ⟨m, hm1, hm2, hm3, hm4⟩ : ∃ m, m = Nat.min k (n - k) ∧ 1 ≤ m ∧ k + m ≤ n ∧ m ≤ k := ⟨_, rfl, by simp only [Nat.min_def]; split <;> omega, by simp only [Nat.min_def]; split <;> omega, Nat.min_le_left _ _⟩
      have hM := Lib.hid hm1
      clear hm1
      go_wp2
      go_region_held3 (fun _ => True) (trivial)
        ((refine step_copy_splice rfl (.tmp 41) (.tmp 44) 24 24 rfl 3 Tryd.underlying24 size_int _ _ (n - k) (n - k) k n rfl rfl w.heap.size k (part n k cl) 3 hrow (List.replicate m (.int .i64 cl)) ?_ ?_ ?_ ?_ w.heap.size w hbw.drew (Nat.le_refl _) ?_; (next => simpa using hM.out); (next => exact fun _ => ⟨by rw [if_neg (by omega)], _, rfl, fun j v hj => part_read hrow hm4 hj⟩); (next => simp; omega); (next => (intro v hv; obtain ⟨_, rfl⟩ := List.mem_replicate.1 hv; rfl)); intro W hW hbW))
      rw [part_splice n k m cl hm3] at hW
      have hw : IntKind.i64.wrap ((k : Int) + (m : Int)) = ((k + m : Nat) : Int) := by
        rw [IntWalk.i64_in _ (by omega)]
        omega
      rw [hw]
      clear hM hw
      go_wp2
      first
        | exact ⟨⟨k + m, by omega, hm3, rfl, hW.out, hbW⟩, by simp [intOf]; omega⟩
        | (go_roundw; case rel => exact ⟨k + m, by omega, hm3, rfl, hW.out, hbW⟩; case measure => simp [intOf]; omega)
    · obtain rfl : k = n := by omega
      go_wp2
      go_ret
      refine ⟨some ⟨w.heap.size, 0, none⟩, k, by simp, ?_, hbw⟩
      have e : part k k cl = ints (List.replicate k cl) := by simp [part, ints]
      rw [e] at hrow
      refine Row.of_own (n := k) ⟨by simp, .inr ⟨w.heap.size, k, _, by simp, Nat.le_refl _, hrow, Nat.le_refl _, by simp only [maxLen]; omega, by simp, List.take_of_length_le (by simp)⟩⟩

set_option maxHeartbeats 400000 in
theorem ints_any (n : Nat) (h1 : 1 ≤ n) (hn : n ≤ 1000) (hm : Mul1 n) (cl : Int) (w : World) :
    Calls Tryd.prog 132 #[.int .i64 n, .int .i64 cl] w (OwnRet w 3 (ints (List.replicate n cl))) := by
  go_enter Tryd.func132, Tryd.ntmps132
  go_wp2_with (go_at_call 154; refine (repeat_any n h1 hn hm _ cl _ (blk_cell (blk_new _ _) 0)).mono ?_; rintro x w1 ⟨A, c, rfl, ho, hb⟩)
  go_ret
  refine ⟨A, c, by simp, by simpa using ho.lower (by simp), below2 (below_alloc' (Below.refl _ _) _) hb⟩
theorem ints_1 (cl : Int) (w : World) : Calls Tryd.prog 132 #[.int .i64 1, .int .i64 cl] w (OwnRet w 3 (ints [cl])) := ints_any 1 (by omega) (by omega) mul_1 cl w
theorem ints_3 (cl : Int) (w : World) : Calls Tryd.prog 132 #[.int .i64 3, .int .i64 cl] w (OwnRet w 3 (ints [cl, cl, cl])) := ints_any 3 (by omega) (by omega) mul_3 cl w
theorem ints_4 (cl : Int) (w : World) : Calls Tryd.prog 132 #[.int .i64 4, .int .i64 cl] w (OwnRet w 3 (ints [cl, cl, cl, cl])) := ints_any 4 (by omega) (by omega) mul_4 cl w
end Go.Proofs.YtdgjgekefpfgiaaDoor
