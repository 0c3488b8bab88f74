/- The schema's tables: schema.find, New, Old; the reference's Spec. -/
import Derived.Test.YtdgjgekefpfgiaaDoorSch
namespace Go.Proofs.YtdgjgekefpfgiaaDoor
open Go.RowKit

set_option maxHeartbeats 1000000 in
theorem find_any (S : Nat → Prop) (v : Value) (l : List Sp) (k : Int) (w : World) (h : RSp S w v l) : Calls Tryd.prog 131 #[v, .int .i64 k] w (SpRet S w (findSp l k)) := by
  obtain ⟨A, c, rfl, hc, hb⟩ := h.form
  by_cases hk : 1 ≤ k ∧ k < l.length
  · obtain ⟨h1, h2⟩ := hk
    obtain ⟨i, rfl⟩ := Int.eq_ofNat_of_zero_le (show 0 ≤ k by omega)
    have hi : i < l.length := by omega
    obtain ⟨b, o, vi, rfl, hbl, c0, c1, c2, c3, hr⟩ := h.at i hi
    obtain ⟨Ai, ci, rfl, -, -⟩ := hr.form
    have e : findSp l (i : Int) = some l[i] := by simp [findSp, h1, hi]
    rw [e]
    go_enter Tryd.func131, Tryd.ntmps131
    go_wp2
    refine bodyPost_ret (v := .tuple #[.agg #[.slice Ai l[i].ints.length ci, .int .i64 l[i].texts, .int .i64 l[i].least, .int .i64 l[i].most], .bool true]) (by simp [results, Tryd.results131, go_sem]) rfl ⟨Ai, ci, rfl, ?_, ?_⟩
    · exact hr.later (below_alloc' (Below.refl _ _) _)
    · exact below_alloc' (Below.refl _ _) _
  · have e : findSp l k = none := by simp only [findSp, if_neg hk]
    rw [e]
    by_cases h1 : k < 1
    · go_enter Tryd.func131, Tryd.ntmps131
      go_wp2
      refine bodyPost_ret (v := .tuple #[.agg #[.slice none 0 0, .int .i64 0, .int .i64 0, .int .i64 0], .bool false]) (by simp [results, Tryd.results131, go_sem]) rfl ⟨none, 0, rfl, Sl.nil _ _ _ _ _, ?_⟩
      exact below_alloc' (Below.refl _ _) _
    · have h2 : (l.length : Int) ≤ k := by omega
      go_enter Tryd.func131, Tryd.ntmps131
      go_wp2
      refine bodyPost_ret (v := .tuple #[.agg #[.slice none 0 0, .int .i64 0, .int .i64 0, .int .i64 0], .bool false]) (by simp [results, Tryd.results131, go_sem]) rfl ⟨none, 0, rfl, Sl.nil _ _ _ _ _, ?_⟩
      exact below_alloc' (Below.refl _ _) _

set_option maxHeartbeats 2000000 in
theorem new_any (k : Int) (w : World) : Calls Tryd.prog 87 #[.int .i64 k] w (SpRet Any w (findSp sp2 k)) := by
  go_enter Tryd.func87, Tryd.ntmps87
  go_wp2_with fail
  refine (ints_3 2 _).mono ?_
  rintro x w1 ⟨A1, c1, rfl, o1, b1⟩
  go_wp2_with fail
  refine (ints_3 3 _).mono ?_
  rintro x w2 ⟨A2, c2, rfl, o2, b2⟩
  go_wp2_with fail
  refine (ints_1 3 _).mono ?_
  rintro x w3 ⟨A3, c3, rfl, o3, b3⟩
  go_wp2_with fail
  refine (ints_1 3 _).mono ?_
  rintro x w4 ⟨A4, c4, rfl, o4, b4⟩
  go_wp2_with fail
  refine (ints_1 1 _).mono ?_
  rintro x w5 ⟨A5, c5, rfl, o5, b5⟩
  go_wp2_with fail
  refine (ints_3 4 _).mono ?_
  rintro x w6 ⟨A6, c6, rfl, o6, b6⟩
  go_wp2_with (at_builtin; refine append_ev rfl _ _ 24 3 _ _ _ rfl Tryd.underlying24 info_int rfl (by decide) w5.heap.size _ 3 _ (ints [4, 4, 4]) rfl (o6.later (below_alloc' (Below.refl _ _) _)) _ 1 1 (ints [5]) rfl rfl (Cells.one _ _ _) (ints_one _) (by decide) (by decide) ?_ ?_; (next => (have := b6.size; simp; omega)); intro A7 c7 w7 o7 g7 hat7)
  have b7 : Below w5.heap.size w5 w7 := below_grown (below_alloc' b6 _) g7 fun g hg => (o6.typed g hg).1
  clear g7 hat7
  go_wp2_with fail
  refine (ints_3 2 _).mono ?_
  rintro x w8 ⟨A8, c8, rfl, o8, b8⟩
  go_wp2_with fail
  have z1 := b1.size
  have z2 := b2.size
  have z3 := b3.size
  have z4 := b4.size
  have z5 := b5.size
  have z7 := b7.size
  have z8 := b8.size
  simp only [World.size_alloc] at z1
  have s1 : RI (fun b => w.heap.size < b) w8 (.slice A1 3 c1) [2, 2, 2] := ((((((RI.of_row o1 (by decide) (fun b hb => by have := (o1.typed b hb).1; (try simp at this); omega) (by decide)).later b2).later b3).later b4).later b5).later b7).later b8
  have s2 : RI (fun b => w.heap.size < b) w8 (.slice A2 3 c2) [3, 3, 3] := (((((RI.of_row o2 (by decide) (fun b hb => by have := (o2.typed b hb).1; (try simp at this); omega) (by decide)).later b3).later b4).later b5).later b7).later b8
  have s3 : RI (fun b => w.heap.size < b) w8 (.slice A3 1 c3) [3] := ((((RI.of_row o3 (by decide) (fun b hb => by have := (o3.typed b hb).1; (try simp at this); omega) (by decide)).later b4).later b5).later b7).later b8
  have s4 : RI (fun b => w.heap.size < b) w8 (.slice A4 1 c4) [3] := (((RI.of_row o4 (by decide) (fun b hb => by have := (o4.typed b hb).1; (try simp at this); omega) (by decide)).later b5).later b7).later b8
  have s5 : RI (fun b => w.heap.size < b) w8 (.slice A5 1 c5) [1] := ((RI.of_row o5 (by decide) (fun b hb => by have := (o5.typed b hb).1; (try simp at this); omega) (by decide)).later b7).later b8
  have s7 : RI (fun b => w.heap.size < b) w8 (.slice A7 4 c7) [4, 4, 4, 5] := (RI.of_row (xs := [4, 4, 4, 5]) o7 (by decide) (fun b hb => by have := (o7.typed b hb).1; omega) (by decide)).later b8
  have s8 : RI (fun b => w.heap.size < b) w8 (.slice A8 3 c8) [2, 2, 2] := RI.of_row o8 (by decide) (fun b hb => by have := (o8.typed b hb).1; (try simp at this); omega) (by decide)
  have hl := RSp.lit (fun b => w.heap.size < b) w8 [(⟨[], 0, 0, 0⟩, .slice none 0 0), (⟨[], 1, 0, -1⟩, .slice none 0 0), (⟨[2, 2, 2], 0, 1, 1⟩, .slice A1 3 c1), (⟨[3, 3, 3], 1, 0, 0⟩, .slice A2 3 c2), (⟨[3], 1, 0, 0⟩, .slice A3 1 c3), (⟨[3], 2, 0, 0⟩, .slice A4 1 c4), (⟨[1], 0, 0, -1⟩, .slice A5 1 c5), (⟨[4, 4, 4, 5], 0, 0, 0⟩, .slice A7 4 c7), (⟨[2, 2, 2], 0, 1, 1⟩, .slice A8 3 c8)] 110 (by omega)
    (by simp only [List.forall_mem_cons]; exact ⟨Sl.nil _ _ _ _ _, Sl.nil _ _ _ _ _, s1, s2, s3, s4, s5, s7, s8, by simp⟩) (by simp)
  have b0 := below2 (below2 (below2 (below2 (below2 (below2 b1 b2) b3) b4) b5) b7) b8
  clear s1 s2 s3 s4 s5 s7 s8 o1 o2 o3 o4 o5 o6 o7 o8 b1 b2 b3 b4 b5 b6 b7 b8 z1 z2 z3 z4 z5 z7
  refine (find_any _ _ sp2 k _ hl).mono ?_
  rintro x w9 ⟨A9, c9, rfl, r9, b9⟩
  have b10 := below2 (below_alloc' b0 _) b9
  have t0 := blk_cell (blk_later b10 (blk_new _ _))
  have f0 := blk_frozen (blk_later b10 (blk_new _ _))
  clear hl b0 b9
  go_wp2_with fail
  refine bodyPost_ret (v := .tuple #[.agg #[.slice A9 ((findSp sp2 k).getD default).ints.length c9, .int .i64 ((findSp sp2 k).getD default).texts, .int .i64 ((findSp sp2 k).getD default).least, .int .i64 ((findSp sp2 k).getD default).most], .bool (findSp sp2 k).isSome])
    (by simp [results, Tryd.results87, go_sem, t0]) rfl ⟨A9, c9, rfl, ?_, ?_⟩
  · exact ((((r9.keeps (Keeps.mono (Keeps.of_setCell _ _) (fun b hb => by simp; omega))).keeps (Keeps.mono (Keeps.of_setCell _ _) (fun b hb => by simp; omega))).keeps (Keeps.mono (Keeps.of_setCell _ _) (fun b hb => by simp; omega))).keeps (Keeps.mono (Keeps.of_setCell _ _) (fun b hb => by simp; omega))).any
  · exact below_set (below_set (below_set (below_set (below2 (below_alloc' (Below.refl _ _) _) b10) (Nat.le_refl _) _) (Nat.le_refl _) _) (Nat.le_refl _) _) (Nat.le_refl _) _
end Go.Proofs.YtdgjgekefpfgiaaDoor
