/- The table's bytes. -/
import Derived.Test.YtdgjgekefpfgiaaDoorTbl
namespace Go.Proofs.YtdgjgekefpfgiaaDoor
open Go.RowKit

theorem vput_len10 {n : Nat} (h : U64 n) : (vput n).length ≤ 10 := vput_len 10 n (Nat.lt_of_lt_of_le h (by decide)) (by decide)
theorem putL_snoc (l : List ByteArray) (s : ByteArray) : putL (l ++ [s]) = putL l ++ (vput s.size ++ s.data.toList) := by
  induction l with
  | nil => simp [putL]
  | cons a l ih => rw [List.cons_append, putL, putL, ih]; simp
theorem putL_take {l : List ByteArray} {k : Nat} (hk : k < l.length) : putL (l.take (k + 1)) = putL (l.take k) ++ (vput l[k].size ++ l[k].data.toList) := by
  rw [List.take_succ_eq_append_getElem hk, putL_snoc]
theorem putL_le (l : List ByteArray) (h : ∀ s ∈ l, s.size ≤ 1000000) : (putL l).length ≤ 10 * l.length + totalT l := by
  induction l with
  | nil => simp [putL]
  | cons a l ih =>
    have h1 := ih fun s hs => h s (List.mem_cons_of_mem _ hs)
    have h2 := h a (List.mem_cons_self ..)
    have h3 : (vput a.size).length ≤ 10 := vput_len10 (show a.size < 18446744073709551616 by omega)
    have h4 : a.data.toList.length = a.size := by rw [Array.length_toList]; rfl
    rw [putL, totalT_cons]
    simp only [List.length_append, List.length_cons]
    omega
theorem totalT_take (l : List ByteArray) (k : Nat) : totalT (l.take k) ≤ totalT l := by
  have : l = l.take k ++ l.drop k := (List.take_append_drop k l).symm
  have h2 := totalT_append (l.take k) (l.drop k)
  rw [← this] at h2
  omega
set_option maxRecDepth 100000 in
set_option maxHeartbeats 800000 in
theorem tabPut_any (S : Nat → Prop) (g : Nat) (l : List ByteArray) (w : World) (h : Tab S w g l) : Calls Tryd.prog 41 #[.pointer (some ⟨g, 0, none⟩)] w fun e w' => e = .returned (.string ⟨(putT l).toArray⟩) ∧ Below w.heap.size w w' := by
  obtain ⟨-, -, -, hsm, A, c, m, n, -, hg, hr, -, -, -⟩ := h
  obtain ⟨l1, l2, l3⟩ := hsm
  have hU : U64 l.length := by show l.length < 18446744073709551616; omega
  have hv10 := vput_len10 hU
  have hB := Bld.new w
  have hb0 : Below w.heap.size w (w.alloc (.cells #[.pointer none, .slice none 0 0] 122)) := below_alloc' (Below.refl _ _) _
  have c0 := blk_cell hg 0
  have hgl := blk_lt hg
  have hpl := putL_le l l2
  have hne0 : vput l.length ≠ [] := fun e => by have := vput_pos l.length; rw [e] at this; simp at this
  have hne : ∀ m, vput l.length ++ m ≠ [] := fun m e => hne0 (List.append_eq_nil_iff.1 e).1
  go_enter Tryd.func41, Tryd.ntmps41
  go_wp2_with fail
  refine (vput_any l.length _ hU).mono ?_
  rintro e w1 ⟨rfl, hb1⟩
  have hB1 := hB.touch (T := fun _ => False) (Touch.of_below hb1) fun _ _ h => h
  go_wp2_with fail
  refine (writeString_any _ _ _ ⟨(vput l.length).toArray⟩ _ hB1 (by simp [ByteArray.size]; omega)).mono ?_
  rintro e w2 ⟨rfl, S2, hB2, ht2⟩
  rw [List.nil_append] at hB2
  have hS2 : ∀ k, S2 k → w.heap.size ≤ k := fun k hk => by
    rcases ht2.2 k hk with h | h
    · omega
    · have := (below2 hb0 hb1).size
      omega
  have hbw2 : Below w.heap.size w w2 := (below2 hb0 hb1).trans (ht2.1.below (below2 hb0 hb1).size fun k hk => by omega)
  have hg2 := blk_later hbw2 hg
  have d0 := blk_cell hg2 0
  clear hB hB1 hb0 hb1 ht2
  go_wp2
  go_loopw [19] (fun i wr => ∃ (k : Nat) (S : Nat → Prop), k ≤ l.length ∧ i = .int .i64 k ∧ Bld S wr w.heap.size (vput l.length ++ putL (l.take k)) ∧ (∀ k, S k → w.heap.size ≤ k) ∧ Below w.heap.size w wr) (fun i _ => l.length - (intOf i).toNat)
  case atStart => exact ⟨0, S2, Nat.zero_le _, rfl, by simpa [putL] using hB2, hS2, hbw2⟩
  case round =>
    clear hB2 hS2 hbw2 hg2 d0 S2
    obtain ⟨k, S2, hk, rfl, hB, hS, hbw⟩ := hrel
    by_cases hlt : k < l.length
    · obtain ⟨b, n', c', e, -, hc, -⟩ := (hr.later hbw).cell k (by simpa using hlt)
      injection e with eA e1 e2
      subst eA
      clear e1 e2
      simp only [strs, List.getElem_map] at hc
      have hsz := l2 l[k] (List.getElem_mem hlt)
      have hUk : U64 l[k].size := by show l[k].size < 18446744073709551616; omega
      have hk10 := vput_len10 hUk
      have hcat : ¬ (9223372036854775807 < (vput l[k].size).length + l[k].size) := by omega
      have hlk : (putL (l.take k)).length ≤ 10 * l.length + totalT l := by
        have h1 := putL_le (l.take k) fun s hs => l2 s (List.mem_of_mem_take hs)
        have h2 := totalT_take l k
        have h3 := List.length_take_le k l
        omega
      have hws : (vput l.length ++ putL (l.take k)).length + ((⟨(vput l[k].size).toArray⟩ : ByteArray) ++ l[k]).size ≤ 140737488355328 := by
        rw [ByteArray.size_append, List.length_append]
        have : (⟨(vput l[k].size).toArray⟩ : ByteArray).size = (vput l[k].size).length := rfl
        omega
      replace hws := Lib.hid hws
      go_wp2_with fail
      refine (vput_any l[k].size _ hUk).mono ?_
      rintro e w3 ⟨rfl, hb3⟩
      have hB3 := hB.touch (T := fun _ => False) (Touch.of_below hb3) fun _ _ h => h
      go_wp2_with fail
      refine (writeString_any S2 w.heap.size _ ((⟨(vput l[k].size).toArray⟩ : ByteArray) ++ l[k]) w3 hB3 hws.out).mono ?_
      rintro e w4 ⟨rfl, S4, hB4, ht4⟩
      go_wp2
      have hz3 := (below2 hbw hb3).size
      go_roundw
      case rel =>
        refine ⟨k + 1, S4, by omega, by go_num, ?_, fun j hj => ?_, (below2 hbw hb3).trans (ht4.1.below hz3 hS)⟩
        · rw [putL_take hlt, ← List.append_assoc]
          have e : (⟨(vput l[k].size).toArray⟩ ++ l[k] : ByteArray).data.toList = vput l[k].size ++ l[k].data.toList := by
            rw [ByteArray.data_append, Array.toList_append]
          rw [e] at hB4
          exact hB4
        · rcases ht4.2 j hj with h | h
          · exact hS j h
          · omega
      case measure => simp [intOf]; omega
    · obtain rfl : k = l.length := by omega
      rw [List.take_length] at hB
      go_wp2_with fail
      refine (string_any _ _ _ _ hB (hne _)).mono ?_
      rintro e w3 ⟨rfl, ht⟩
      go_wp2
      go_ret
      exact ⟨rfl, hbw.trans (ht.below hbw.size hS)⟩
end Go.Proofs.YtdgjgekefpfgiaaDoor
