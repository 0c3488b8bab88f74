/- utf.First; slices.ContainsFunc with field.Check's function. -/
import Derived.Test.YtdgjgekefpfgiaaDoorShl
import Derived.Test.YtdgjgekefpfgiaaDoorCls
import Derived.Test.YtdgjgekefpfgiaaDoorRut
import Derived.Lib.OthersKept
import Derived.Laws.RangeAny
import Derived.Lib.RuneCountTail
namespace Go.Proofs.YtdgjgekefpfgiaaDoor
open Go.RowKit

theorem width_pos (s : ByteArray) (pos : Nat) (h : pos < s.size) : 1 ≤ (Utf8.decode s pos).2 := by
  by_cases ha : (s[pos]'h).toNat < 128
  · rw [decode_ascii s pos h ha]
    exact Nat.le_refl _
  · exact (decode_high s pos h (by omega)).2
theorem tail_go (s : ByteArray) (pos : Nat) (h : pos < s.size) : Lib.decodeGo (s.extract pos s.size) = Utf8.decode s pos := by
  unfold Lib.decodeGo
  rw [if_neg (by rw [ByteArray.size_extract]; omega), Lib.tail_decode, Nat.add_zero]

theorem iterAt_below {w wr : World} {k : Nat} (h : Below w.heap.size w wr) (hk : w.heap.size ≤ k) (s : ByteArray) (p : Nat) : Below w.heap.size w (wr.iterAt k s p) := by
  refine ⟨h.os, h.tape, h.output, by simpa [World.iterAt] using h.size, fun b hb => ?_⟩
  rw [← h.block b hb]
  simp only [World.iterAt, Array.getElem?_setIfInBounds]
  rw [if_neg (by omega)]
theorem iterAt_heap {w : World} {k : Nat} {s : ByteArray} {p q : Nat} (h : w.heap[k]? = some (.stringIter s p)) : (w.iterAt k s q).heap[k]? = some (.stringIter s q) := by
  have := blk_lt h
  simp [World.iterAt, this]
theorem next_end {P : Program} (w : World) (k : Nat) (s : ByteArray) (pos : Nat) (ty : TypeId) (hk : w.heap[k]? = some (.stringIter s pos)) (h : ¬ pos < s.size) :
    (Instr.next (.pointer (some ⟨k, 0, none⟩)) true ty).run P w = .ok (.tuple #[.bool false]) w := by
  simp [Instr.next, getObj, Sem.run, hk, h]

theorem utf8call (s : ByteArray) (w : World) (hT : Lib.Utf8Tabs 0 1 w) : Calls Tryd.prog 141 #[.string s] w fun e w' => e = .returned (.tuple #[.int .i32 (Lib.decodeGo s).1, .int .i64 (Lib.decodeGo s).2]) ∧ Below w.heap.size w w' :=
  Tryd.utf8_DecodeRuneInString s w hT
set_option maxRecDepth 100000 in
set_option maxHeartbeats 1000000 in
theorem first_any (s : ByteArray) (w : World) (hs : s.size ≤ 9223372036854775807) (hT : Lib.Utf8Tabs 0 1 w) : Calls Tryd.prog 97 #[.string s] w fun e w' => e = .returned (.int .i64 (firstS s)) ∧ Below w.heap.size w w' := by
  go_enter Tryd.func97, Tryd.ntmps97
  go_wp2
  go_loopw [3] (fun _ wr => ∃ (p f : Nat), wr.heap[w.heap.size]? = some (.stringIter s p) ∧ s.size ≤ p + f ∧ firstF s f p = firstS s ∧ Below w.heap.size w wr) (fun _ wr => s.size - wr.iterPos w.heap.size)
  case atStart => exact ⟨0, s.size, World.iter_heap _ _ _, by omega, rfl, below_alloc' (Below.refl _ _) _⟩
  case round =>
    obtain ⟨p, f, hit, hf, hfirst, hbr⟩ := hrel
    by_cases hp : p < s.size
    · have hnx : ∀ ty, (Instr.next (.pointer (some ⟨w.heap.size, 0, none⟩)) true ty).run Tryd.prog wr = _ := fun ty => Lib.run_next_any_at wr w.heap.size s p ty hit hp
      cases f with
      | zero => omega
      | succ f =>
        have hwd := width_pos s p hp
        rw [firstF, if_pos hp] at hfirst
        have hgo := tail_go s p hp
        have hTr := Utf8Tabs_below hT hbr
        by_cases hr : (Utf8.decode s p).1 = 65533
        · have hr1 : (((Utf8.decode s p).1 : Int) != 65533) = false := by rw [hr]; rfl
          have hbi := iterAt_below hbr (Nat.le_refl w.heap.size) s (p + (Utf8.decode s p).2)
          have hi := iterAt_heap (q := p + (Utf8.decode s p).2) hit
          have hTi := Utf8Tabs_below hT hbi
          have hcall := utf8call (s.extract p s.size) _ hTi
          rw [hgo] at hcall
          clear hgo
          by_cases hw : (Utf8.decode s p).2 ≤ 1
          · rw [if_pos (by rw [badAt, decide_eq_true_eq]; exact ⟨hr, hw⟩)] at hfirst
            replace hfirst := Lib.hid hfirst
            clear hr
            go_wp2_with fail
            refine hcall.mono ?_
            rintro x w1 ⟨rfl, hb1⟩
            go_wp2
            go_ret
            exact ⟨by rw [← hfirst.out]; rfl, below2 hbi hb1⟩
          · rw [if_neg (by rw [badAt, decide_eq_true_eq]; exact fun h => hw h.2)] at hfirst
            replace hfirst := Lib.hid hfirst
            clear hr
            go_wp2_with fail
            refine hcall.mono ?_
            rintro x w1 ⟨rfl, hb1⟩
            have hi1 := blk_later hb1 hi
            go_wp2
            go_roundw
            case rel => exact ⟨_, f, hi1, by omega, hfirst.out, below2 hbi hb1⟩
            case measure => simp [World.iterPos, hi1, hit]; omega
        · have hr1 : (((Utf8.decode s p).1 : Int) != 65533) = true := by simp; omega
          have hbi := iterAt_below hbr (Nat.le_refl w.heap.size) s (p + (Utf8.decode s p).2)
          have hi := iterAt_heap (q := p + (Utf8.decode s p).2) hit
          rw [if_neg (by rw [badAt, decide_eq_true_eq]; exact fun h => hr h.1)] at hfirst
          replace hfirst := Lib.hid hfirst
          go_wp2
          go_roundw
          case rel => exact ⟨_, f, hi, by omega, hfirst.out, hbi⟩
          case measure => simp [World.iterPos, hi, hit]; omega
    · have hnx : ∀ ty, (Instr.next (.pointer (some ⟨w.heap.size, 0, none⟩)) true ty).run Tryd.prog wr = _ := fun ty => next_end wr w.heap.size s p ty hit hp
      go_wp2
      go_ret
      refine ⟨?_, hbr⟩
      rw [← hfirst]
      cases f with
      | zero => rfl
      | succ f => rw [firstF, if_neg hp]; rfl

/-- The function that field.Check hands over. -/
def wrongFn : Value := .func (.func 135) #[] #[]

set_option maxHeartbeats 1000000 in
theorem wrong_any (s : ByteArray) (w : World) (hs : s.size ≤ 9223372036854775807) (hT : Lib.Utf8Tabs 0 1 w) : Calls Tryd.prog 135 #[.string s] w fun e w' => e = .returned (.bool (!rightS s)) ∧ Below w.heap.size w w' := by
  go_enter Tryd.func135, Tryd.ntmps135
  go_wp2_with fail
  refine (first_any s _ hs hT).mono ?_
  rintro x w1 ⟨rfl, hb1⟩
  go_wp2
  go_ret
  exact ⟨ret_bool (by rw [Bool.eq_iff_iff]; simp [rightS]), hb1⟩

set_option maxRecDepth 100000 in
set_option maxHeartbeats 1000000 in
theorem indexWrong_any (v : Value) (xs : List ByteArray) (w : World) (h : RS Any w v xs) (hT : Lib.Utf8Tabs 0 1 w) : Calls Tryd.prog 155 #[v, wrongFn] w fun e w' => ∃ r : Int, e = .returned (.int .i64 r) ∧ (0 ≤ r ↔ ∃ x ∈ xs, rightS x = false) ∧ Below w.heap.size w w' := by
  obtain ⟨A, c, rfl, -, L⟩ := h.form
  unfold wrongFn
  go_enter Tryd.func155, Tryd.ntmps155
  go_wp2
  go_loopw [8] (fun i wr => ∃ k : Nat, k ≤ xs.length ∧ i = .int .i64 k ∧ (∀ j s, j < k → xs[j]? = some s → rightS s = true) ∧ Below w.heap.size w wr) (fun i _ => xs.length - (intOf i).toNat)
  case atStart => exact ⟨0, by omega, rfl, by intros; omega, Below.refl _ _⟩
  case round =>
    obtain ⟨k, hk, rfl, hall, hbr⟩ := hrel
    by_cases hlt : k < xs.length
    · obtain ⟨b, o, rfl, hb, u, hs⟩ := (h.later hbr).at k hlt
      have hw := wrong_any xs[k] wr hs (Utf8Tabs_below hT hbr)
      cases hr : rightS xs[k] with
      | true =>
        rw [hr] at hw
        go_wp2_with fail
        refine hw.mono ?_
        rintro x w1 ⟨rfl, hb1⟩
        go_wp2
        go_roundw
        case rel => exact ⟨k + 1, by omega, by go_num, fun j s hj hs' => (by by_cases e : j = k; (subst e; rw [List.getElem?_eq_getElem hlt] at hs'; cases hs'; exact hr); exact hall j s (by omega) hs'), below2 hbr hb1⟩
        case measure => simp [intOf]; omega
      | false =>
        rw [hr] at hw
        go_wp2_with fail
        refine hw.mono ?_
        rintro x w1 ⟨rfl, hb1⟩
        go_wp2
        go_ret
        exact ⟨k, rfl, ⟨fun _ => ⟨_, List.getElem_mem hlt, hr⟩, fun _ => by omega⟩, below2 hbr hb1⟩
    · go_wp2
      go_ret
      refine ⟨-1, rfl, ⟨fun h => by omega, ?_⟩, hbr⟩
      rintro ⟨x, hx, hf⟩
      obtain ⟨j, hj, rfl⟩ := List.getElem_of_mem hx
      rw [hall j _ (by omega) (List.getElem?_eq_getElem hj)] at hf
      cases hf
set_option maxHeartbeats 1000000 in
theorem containsWrong_any (v : Value) (xs : List ByteArray) (w : World) (h : RS Any w v xs) (hT : Lib.Utf8Tabs 0 1 w) : Calls Tryd.prog 134 #[v, wrongFn] w fun e w' => e = .returned (.bool (!xs.all rightS)) ∧ Below w.heap.size w w' := by
  have hi := indexWrong_any v xs w h hT
  unfold wrongFn at hi ⊢
  go_enter Tryd.func134, Tryd.ntmps134
  go_wp2_with fail
  refine hi.mono ?_
  rintro x w1 ⟨r, rfl, hr, hb1⟩
  go_wp2
  go_ret
  refine ⟨ret_bool ?_, hb1⟩
  rw [Bool.eq_iff_iff]
  simp only [decide_eq_true_eq, hr, Bool.not_eq_true', List.all_eq_false, Bool.not_eq_true]
end Go.Proofs.YtdgjgekefpfgiaaDoor
