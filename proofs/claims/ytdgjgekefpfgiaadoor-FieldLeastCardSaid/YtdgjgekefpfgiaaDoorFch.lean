/- field.Check. -/
import Derived.Test.YtdgjgekefpfgiaaDoorUtf
import Derived.Test.YtdgjgekefpfgiaaDoorCpy
namespace Go.Proofs.YtdgjgekefpfgiaaDoor
open Go.RowKit

/-- What a node has, by what its kind has. -/
def checkN (n : Nd) (s : Sp) : Int :=
  if numsB n.ints s.ints = false then 10 else if (n.texts.length : Int) ≠ s.texts ∨ n.texts.all rightS = false then 11
  else if (n.kids.length : Int) < s.least ∨ (0 ≤ s.most ∧ s.most < n.kids.length) then 12 else 0

set_option maxRecDepth 100000 in
set_option maxHeartbeats 2000000 in
theorem check_any (n : Nd) (s : Sp) (vi vt vk si : Value) (w : World) (h : NdV Any w n vi vt vk) (hs : RI Any w si s.ints) (hT : Lib.Utf8Tabs 0 1 w) :
    Calls Tryd.prog 88 #[.agg #[.int .i64 n.kind, vi, vt, vk], .agg #[si, .int .i64 s.texts, .int .i64 s.least, .int .i64 s.most]] w fun e w' => e = .returned (.int .i64 (checkN n s)) ∧ Below w.heap.size w w' := by
  obtain ⟨A1, p1, rfl, -, L1⟩ := h.2.1.form
  obtain ⟨A2, p2, rfl, -, L2⟩ := h.2.2.1.form
  obtain ⟨A3, p3, rfl, -, L3⟩ := h.2.2.2.form
  obtain ⟨W, hW, hbx, hby, hbW⟩ := two_boxes w #[.int .i64 n.kind, .slice A1 n.ints.length p1, .slice A2 n.texts.length p2, .slice A3 n.kids.length p3] #[si, .int .i64 s.texts, .int .i64 s.least, .int .i64 s.most] 26 110
  go_enter Tryd.func88, Tryd.ntmps88
  go_wp2_with fail
  rw [← hW]
  clear hW
  have n0 := blk_cell hbx
  have s0 := blk_cell hby
  refine (numbers_any _ _ _ _ _ (h.2.1.later hbW) (hs.later hbW)).mono ?_
  rintro x w1 ⟨rfl, rfl⟩
  have q2 : w.heap.size < W.heap.size := by have := blk_lt hby; omega
  have q3 := blk_lt hby
  have hret : Hid (∀ x : Int, checkN n s = x → Ending.returned (Value.int .i64 x) = .returned (.int .i64 (checkN n s))) := Lib.hid fun x e => by rw [e]
  cases hn : numsB n.ints s.ints with
  | false =>
    have e : Hid (checkN n s = 10) := Lib.hid (by rw [checkN, if_pos hn])
    go_wp2
    go_ret
    exact ⟨hret.out _ e.out, hbW⟩
  | true =>
    by_cases hl : (n.texts.length : Int) = s.texts
    · have hl0 : ((n.texts.length : Int) != s.texts) = false := by rw [hl]; simp
      replace hl := Lib.hid hl
      go_wp2_with fail
      refine (containsWrong_any _ n.texts _ (h.2.2.1.later hbW) (Utf8Tabs_below hT hbW)).mono ?_
      rintro x w2 ⟨rfl, hb2⟩
      have hB := below2 hbW hb2
      have n0' := blk_cell (blk_later hb2 hbx)
      have s0' := blk_cell (blk_later hb2 hby)
      clear n0 s0
      cases ha : n.texts.all rightS with
      | false =>
        have e : Hid (checkN n s = 11) := Lib.hid (by rw [checkN, if_neg (by rw [hn]; decide), if_pos (.inr ha)])
        go_wp2
        go_ret
        exact ⟨hret.out _ e.out, hB⟩
      | true =>
        by_cases hk1 : (n.kids.length : Int) < s.least
        · have e : Hid (checkN n s = 12) := Lib.hid (by rw [checkN, if_neg (by rw [hn]; decide), if_neg (by rw [ha]; simp [hl.out]), if_pos (.inl hk1)])
          go_wp2
          go_ret
          exact ⟨hret.out _ e.out, hB⟩
        by_cases hk2 : 0 ≤ s.most
        · by_cases hk3 : s.most < n.kids.length
          · have e : Hid (checkN n s = 12) := Lib.hid (by rw [checkN, if_neg (by rw [hn]; decide), if_neg (by rw [ha]; simp [hl.out]), if_pos (.inr ⟨hk2, hk3⟩)])
            go_wp2
            go_ret
            exact ⟨hret.out _ e.out, hB⟩
          · have e : Hid (checkN n s = 0) := Lib.hid (by rw [checkN, if_neg (by rw [hn]; decide), if_neg (by rw [ha]; simp [hl.out]), if_neg (by omega)])
            go_wp2
            go_ret
            exact ⟨hret.out _ e.out, hB⟩
        · have e : Hid (checkN n s = 0) := Lib.hid (by rw [checkN, if_neg (by rw [hn]; decide), if_neg (by rw [ha]; simp [hl.out]), if_neg (by omega)])
          go_wp2
          go_ret
          exact ⟨hret.out _ e.out, hB⟩
    · have hl0 : ((n.texts.length : Int) != s.texts) = true := by simpa using hl
      have e : Hid (checkN n s = 11) := Lib.hid (by rw [checkN, if_neg (by rw [hn]; decide), if_pos (.inl hl)])
      go_wp2
      go_ret
      exact ⟨hret.out _ e.out, hbW⟩
end Go.Proofs.YtdgjgekefpfgiaaDoor
