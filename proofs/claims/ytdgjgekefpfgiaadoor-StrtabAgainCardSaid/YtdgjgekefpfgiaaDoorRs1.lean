/- The reference's tables: what only reads. -/
import Derived.Test.YtdgjgekefpfgiaaDoorTgt
import Derived.Test.YtdgjgekefpfgiaaDoorCls
import Derived.BigQuiet
namespace Go.Proofs.YtdgjgekefpfgiaaDoor
open Go.RowKit

/-- More texts, longer ones, than are played. -/
def greatB (l : List ByteArray) : Bool := decide (200 < l.length) || l.any fun s => decide (500 < s.size)
theorem greatB_not {l : List ByteArray} (h : greatB l = false) : l.length ≤ 200 ∧ ∀ s ∈ l, s.size ≤ 500 := by
  simp only [greatB, Bool.or_eq_false_iff, decide_eq_false_iff_not, List.any_eq_false, decide_eq_true_eq] at h
  exact ⟨by omega, fun s hs => by have := h.2 s hs; omega⟩
theorem greatB_of {l : List ByteArray} (h1 : l.length ≤ 200) (h2 : ∀ s ∈ l, s.size ≤ 500) : greatB l = false := by
  simp only [greatB, Bool.or_eq_false_iff, decide_eq_false_iff_not, List.any_eq_false, decide_eq_true_eq]
  exact ⟨by omega, fun s hs => by have := h2 s hs; omega⟩
theorem greatB_one {l : List ByteArray} {s : ByteArray} (h : s ∈ l) (h2 : 500 < s.size) : greatB l = true := by
  simp only [greatB, Bool.or_eq_true, List.any_eq_true, decide_eq_true_eq]
  exact .inr ⟨s, h, h2⟩
set_option maxHeartbeats 1000000 in
theorem refGreat_any (v : Value) (l : List ByteArray) (w : World) (h : RS Any w v l) : Calls Tryd.prog 31 #[v] w fun e w' => e = .returned (.bool (greatB l)) ∧ w = w' := by
  obtain ⟨A, c, rfl, hc, hm⟩ := h.form
  by_cases hl : 200 < l.length
  · have e : greatB l = true := by simp [greatB, hl]
    rw [e]
    clear e
    have hl2 : (200 : Int) < (l.length : Int) := by omega
    go_enter Tryd.func31, Tryd.ntmps31
    go_wp2
    go_ret
    exact ⟨rfl, rfl⟩
  · have hl2 : ¬ (200 : Int) < (l.length : Int) := by omega
    go_enter Tryd.func31, Tryd.ntmps31
    go_wp2
    go_loop [3] (fun i => ∃ k : Nat, k ≤ l.length ∧ i = .int .i64 k ∧ ∀ s ∈ l.take k, s.size ≤ 500) (fun i => l.length - (intOf i).toNat)
    case atStart => exact ⟨0, by omega, rfl, by simp⟩
    case round =>
      obtain ⟨k, hk, rfl, hall⟩ := hrel
      by_cases hlt : k < l.length
      · obtain ⟨b, o, rfl, hb, hx, hxs⟩ := h.at k hlt
        by_cases hg : 500 < l[k].size
        · have hgi : (500 : Int) < (l[k].size : Int) := by omega
          have HG := Lib.hid (greatB_one (List.getElem_mem hlt) hg)
          clear hg
          go_wp2
          go_ret
          rw [HG.out]
          exact ⟨rfl, rfl⟩
        · have hgi : ¬ (500 : Int) < (l[k].size : Int) := by omega
          go_wp2
          go_round
          case rel => exact ⟨k + 1, by omega, by go_num, fun s hs => by
            rw [List.take_succ_eq_append_getElem hlt, List.mem_append] at hs
            rcases hs with hs | hs
            · exact hall s hs
            · rw [List.mem_singleton] at hs
              subst hs
              omega⟩
          case measure => simp [intOf]; omega
      · obtain rfl : k = l.length := by omega
        rw [List.take_length] at hall
        have HG := Lib.hid (greatB_of (by omega) hall)
        go_wp2
        go_ret
        rw [HG.out]
        exact ⟨rfl, rfl⟩
/-- A text's place, -1: it has none. -/
def findT (l : List ByteArray) (s : ByteArray) : Int := if s ∈ l then (numT l s : Nat) else -1
theorem findT_at {l : List ByteArray} {s : ByteArray} {k : Nat} (hk : k < l.length) (he : l[k] = s) (hn : s ∉ l.take k) : findT l s = k := by
  subst he
  rw [findT, if_pos (List.getElem_mem hk)]
  have e : l = l.take k ++ l[k] :: l.drop (k + 1) := by
    rw [← List.drop_eq_getElem_cons hk, List.take_append_drop]
  have : ∀ (p q : List ByteArray) (s : ByteArray), s ∉ p → numT (p ++ s :: q) s = p.length := by
    intro p q s hp
    induction p with
    | nil => simp [numT]
    | cons a p ih =>
      rw [List.mem_cons, not_or] at hp
      rw [List.cons_append, numT, if_neg fun e => hp.1 e.symm, ih hp.2]
      rfl
  have h2 := this (l.take k) (l.drop (k + 1)) l[k] hn
  rw [← e, List.length_take, Nat.min_eq_left (by omega)] at h2
  rw [h2]
set_option maxHeartbeats 1000000 in
theorem refFind_any (v : Value) (l : List ByteArray) (s : ByteArray) (w : World) (h : RS Any w v l) (hs : s.size ≤ 9223372036854775807) : Calls Tryd.prog 46 #[v, .string s] w fun e w' => e = .returned (.int .i64 (findT l s)) ∧ w = w' := by
  obtain ⟨A, c, rfl, hc, hm⟩ := h.form
  go_enter Tryd.func46, Tryd.ntmps46
  go_wp2
  go_loop [5] (fun i => ∃ k : Nat, k ≤ l.length ∧ i = .int .i64 k ∧ s ∉ l.take k) (fun i => l.length - (intOf i).toNat)
  case atStart => exact ⟨0, by omega, rfl, by simp⟩
  case round =>
    obtain ⟨k, hk, rfl, hall⟩ := hrel
    by_cases hlt : k < l.length
    · obtain ⟨b, o, rfl, hb, hx, hxs⟩ := h.at k hlt
      by_cases hg : l[k] = s
      · have HG := Lib.hid (findT_at hlt hg hall)
        have hgb := seq hg
        clear hg
        go_wp2
        go_ret
        rw [HG.out]
        exact ⟨rfl, rfl⟩
      · have hgb := sne hg
        replace hg := Lib.hid hg
        go_wp2
        go_round
        case rel => exact ⟨k + 1, by omega, by go_num, fun hs => by
          rw [List.take_succ_eq_append_getElem hlt, List.mem_append] at hs
          rcases hs with hs | hs
          · exact hall hs
          · rw [List.mem_singleton] at hs
            exact hg.out hs.symm⟩
        case measure => simp [intOf]; omega
    · obtain rfl : k = l.length := by omega
      rw [List.take_length] at hall
      have HG : Hid (findT l s = -1) := Lib.hid (if_neg hall)
      go_wp2
      go_ret
      rw [HG.out]
      exact ⟨rfl, rfl⟩
set_option maxHeartbeats 1000000 in
theorem refTotal_any (v : Value) (l : List ByteArray) (w : World) (h : RS Any w v l) (ht : totalT l ≤ 1000000000000) : Calls Tryd.prog 38 #[v] w fun e w' => e = .returned (.int .i64 (totalT l)) ∧ w = w' := by
  obtain ⟨A, c, rfl, hc, hm⟩ := h.form
  go_enter Tryd.func38, Tryd.ntmps38
  go_wp2
  go_loop [3, 4] (fun n i => ∃ k : Nat, k ≤ l.length ∧ i = .int .i64 k ∧ n = .int .i64 (totalT (l.take k))) (fun _ i => l.length - (intOf i).toNat)
  case atStart => exact ⟨0, by omega, rfl, rfl⟩
  case round =>
    obtain ⟨k, hk, rfl, rfl⟩ := hrel
    by_cases hlt : k < l.length
    · obtain ⟨b, o, rfl, hb, hx, hxs⟩ := h.at k hlt
      have h2 : totalT (l.take (k + 1)) = totalT (l.take k) + l[k].size := by rw [List.take_succ_eq_append_getElem hlt, totalT_snoc]
      have h3 := totalT_take l (k + 1)
      have h4 : totalT (l.take k) + l[k].size ≤ 1000000000000 := by omega
      replace h2 := Lib.hid h2
      clear h3
      go_wp2
      go_round
      case rel => exact ⟨k + 1, by omega, by go_num, by rw [h2.out]; go_num⟩
      case measure => simp [intOf]; omega
    · obtain rfl : k = l.length := by omega
      rw [List.take_length]
      go_wp2
      go_ret
      exact ⟨rfl, rfl⟩
set_option maxRecDepth 100000 in
set_option maxHeartbeats 1000000 in
theorem refSame_any (v u : Value) (l m : List ByteArray) (w : World) (h : RS Any w v l) (g : RS Any w u m) : Calls Tryd.prog 39 #[v, u] w fun e w' => e = .returned (.bool (decide (l = m))) ∧ ∃ n, w' = w.drewN n := by
  obtain ⟨A, c, rfl, hc, hm⟩ := h.form
  obtain ⟨B, d, rfl, hd, hn⟩ := g.form
  by_cases hl : l.length = m.length
  · have hlb : ((l.length : Int) != (m.length : Int)) = false := by rw [hl]; simp
    have hlb2 : (l.length != m.length) = false := by rw [hl]; simp
    have e1 : l.length ≤ m.length := by omega
    have e2 : m.length ≤ l.length := by omega
    have HL := Lib.hid hl
    clear hl
    go_enter Tryd.func39, Tryd.ntmps39
    go_wp2
    go_loopw [5] (fun i wr => ∃ k q : Nat, k ≤ l.length ∧ i = .int .i64 k ∧ l.take k = m.take k ∧ wr = w.drewN q) (fun i _ => l.length - (intOf i).toNat)
    case atStart => exact ⟨0, 0, by omega, rfl, by simp, rfl⟩
    case round =>
      obtain ⟨k, q, hk, rfl, hall, rfl⟩ := hrel
      by_cases hlt : k < l.length
      · obtain ⟨b, o, rfl, hb, hx, -⟩ := h.at k hlt
        obtain ⟨b', o', rfl, hb', hy, -⟩ := g.at k (by omega)
        by_cases hi : l[k] = m[k]
        · have HI := Lib.hid hi
          have hib := seq hi
          clear hi
          go_wp2
          go_quiet (fail)
          go_wp2
          go_roundw
          case rel => exact ⟨k + 1, _, by omega, by go_num, by rw [List.take_succ_eq_append_getElem hlt, List.take_succ_eq_append_getElem (by omega), hall, HI.out], rfl⟩
          case measure => simp [intOf]; omega
        · have HI := Lib.hid hi
          have hib := sne hi
          clear hi
          go_wp2
          go_quiet (fail)
          go_wp2
          go_ret
          refine ⟨ret_bool ?_, _, World.drewN_drewN _ _ _⟩
          symm
          rw [decide_eq_false_iff_not]
          rintro rfl
          exact HI.out rfl
      · go_wp2
        go_ret
        obtain rfl : k = l.length := by omega
        refine ⟨ret_bool ?_, _, rfl⟩
        symm
        rw [decide_eq_true_eq]
        rw [List.take_length, HL.out, List.take_length] at hall
        exact hall
  · have hlb : ((l.length : Int) != (m.length : Int)) = true := by simp; omega
    have hlb2 : (l.length != m.length) = true := by simp; omega
    go_enter Tryd.func39, Tryd.ntmps39
    go_wp2
    go_ret
    exact ⟨ret_bool (by symm; rw [decide_eq_false_iff_not]; rintro rfl; exact hl rfl), 0, rfl⟩
end Go.Proofs.YtdgjgekefpfgiaaDoor
