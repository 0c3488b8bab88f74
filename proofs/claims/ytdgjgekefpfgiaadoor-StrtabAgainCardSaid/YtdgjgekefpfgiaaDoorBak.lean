/- StrtabBack: the walk. -/
import Derived.Test.YtdgjgekefpfgiaaDoorOne
import Derived.Test.YtdgjgekefpfgiaaDoorRfr
namespace Go.Proofs.YtdgjgekefpfgiaaDoor
open Go.RowKit

/-- The table of these texts. -/
def internL (l : List ByteArray) : List ByteArray := l.foldl internT []
theorem internL_snoc (l : List ByteArray) (s : ByteArray) : internL (l ++ [s]) = internT (internL l) s := by rw [internL, List.foldl_append]; rfl
theorem internL_take {l : List ByteArray} {k : Nat} (hk : k < l.length) : internL (l.take (k + 1)) = internT (internL (l.take k)) l[k] := by rw [List.take_succ_eq_append_getElem hk, internL_snoc]
theorem internT_mem {l : List ByteArray} {s x : ByteArray} : x ∈ internT l s ↔ x ∈ l ∨ x = s := by
  unfold internT
  split
  · rename_i h
    exact ⟨.inl, fun h' => h'.elim id fun e => e ▸ h⟩
  · simp
theorem internT_bound {l : List ByteArray} {s : ByteArray} : (internT l s).length ≤ l.length + 1 ∧ totalT (internT l s) ≤ totalT l + s.size := by
  unfold internT
  split
  · exact ⟨by omega, by omega⟩
  · rw [totalT_snoc, List.length_append]
    exact ⟨Nat.le_refl _, Nat.le_refl _⟩
theorem internF_mem {x : ByteArray} : ∀ (l m : List ByteArray), x ∈ l.foldl internT m ↔ x ∈ m ∨ x ∈ l
  | [], m => by simp
  | s :: l, m => by
    rw [List.foldl_cons, internF_mem l, internT_mem, List.mem_cons, or_assoc]
theorem internL_mem {l : List ByteArray} {x : ByteArray} : x ∈ internL l ↔ x ∈ l := by rw [internL, internF_mem]; simp
theorem internF_bound : ∀ (l m : List ByteArray), (l.foldl internT m).length ≤ m.length + l.length ∧ totalT (l.foldl internT m) ≤ totalT m + totalT l
  | [], m => ⟨by simp, by simp [totalT]⟩
  | s :: l, m => by
    have h1 := internF_bound l (internT m s)
    have h2 := internT_bound (l := m) (s := s)
    rw [List.foldl_cons, List.length_cons, totalT_cons]
    omega
theorem internL_bound (l : List ByteArray) : (internL l).length ≤ l.length ∧ totalT (internL l) ≤ totalT l := by
  have := internF_bound l []
  simp only [List.length_nil, Nat.zero_add] at this
  exact ⟨this.1, by have h0 : totalT [] = 0 := rfl; have := this.2; rw [h0] at this; simpa [internL] using this⟩
theorem totalT_most {l : List ByteArray} {m : Nat} (h : ∀ s ∈ l, s.size ≤ m) : totalT l ≤ l.length * m := by
  induction l with
  | nil => simp [totalT]
  | cons a l ih =>
    have h1 := ih fun s hs => h s (List.mem_cons_of_mem _ hs)
    have h2 := h a (List.mem_cons_self ..)
    rw [totalT_cons, List.length_cons, Nat.succ_mul]
    omega
/-- Few texts, short ones. -/
theorem small_take {l : List ByteArray} (h : greatB l = false) (k : Nat) : (internL (l.take k)).length ≤ 200 ∧ totalT (internL (l.take k)) ≤ 100000 := by
  obtain ⟨h1, h2⟩ := greatB_not h
  have h3 := internL_bound (l.take k)
  have h4 := totalT_most (l := l.take k) (m := 500) fun s hs => h2 s (List.mem_of_mem_take hs)
  have h5 : (l.take k).length ≤ 200 := by rw [List.length_take]; omega
  have h6 : (l.take k).length * 500 ≤ 200 * 500 := Nat.mul_le_mul_right _ h5
  omega
theorem small_one {l : List ByteArray} (h : greatB l = false) {k : Nat} (hk : k < l.length) : Small (internT (internL (l.take k)) l[k]) := by
  rw [← internL_take hk]
  have := small_take h (k + 1)
  exact small_of (by omega)
theorem put_size {l : List ByteArray} (h1 : l.length ≤ 200) (h2 : totalT l ≤ 100000) : (⟨(putT l).toArray⟩ : ByteArray).size ≤ 1000000 := by
  have h3 := putL_le l (small_of (by omega)).2.1
  have h4 := vput_len10 (show l.length < 18446744073709551616 by omega)
  show (putT l).length ≤ 1000000
  rw [putT, List.length_append]
  omega
theorem tabGet_code (s : ByteArray) (texts bytes : Int) (w : World) (hs : s.size ≤ 1000000) (ht : I64 texts) (hby : I64 bytes) (hT : Lib.Utf8Tabs 0 1 w) :
    Calls Tryd.prog 43 #[.string s, .int .i64 texts, .int .i64 bytes] w fun e w' => (∃ p, e = .returned (.tuple #[.pointer p, .int .i64 (getT s texts bytes).2])) ∧ Below w.heap.size w w' := by
  refine (tabGet_any s texts bytes w hs ht hby hT).mono ?_
  rintro e w' ⟨hb, ⟨h0, g, S, rfl, -, -⟩ | ⟨h0, rfl⟩⟩
  · exact ⟨⟨_, by rw [h0]⟩, hb⟩
  · exact ⟨⟨_, rfl⟩, hb⟩
/-- What the law says of the numbers. -/
theorem back_law {L : List ByteArray} (hd : L.Nodup) (hr : ∀ x ∈ L, rightS x = true ∧ x.size ≤ 16777216) (hn : L.length ≤ 16777216) :
    getT ⟨(putT L).toArray⟩ L.length (totalT L) = (L, 0) ∧ (((L.length : Int) == 0) || ((getT ⟨(putT L).toArray⟩ ((L.length : Int) - 1) (totalT L)).2 == 19)) = true ∧ (((totalT L : Int) == 0) || ((getT ⟨(putT L).toArray⟩ L.length ((totalT L : Int) - 1)).2 == 19)) = true := by
  rw [putT_get hd hr hn, putT_get hd hr hn, putT_get hd hr hn]
  refine ⟨if_pos ⟨by omega, by omega⟩, ?_, ?_⟩
  · by_cases h : L.length = 0
    · simp [h]
    · rw [if_neg (by omega)]
      simp
  · by_cases h : totalT L = 0
    · simp [h]
    · rw [if_neg (by omega)]
      simp
set_option maxRecDepth 100000 in
set_option maxHeartbeats 4000000 in
theorem back_any (v : Value) (l : List ByteArray) (w : World) (h : RS Any w v l) (hT : Lib.Utf8Tabs 0 1 w) :
    Calls Tryd.prog 6 #[v] w fun e w' => e = .returned (.bool true) ∧ Below w.heap.size w w' := by
  obtain ⟨A, c, rfl, hc, hm⟩ := h.form
  cases hg : greatB l with
  | true =>
    go_enter Tryd.func6, Tryd.ntmps6
    go_wp2_with fail
    refine (awake6_any _ hT).mono ?_
    rintro e w1 ⟨rfl, b1⟩
    go_wp2_with fail
    refine (refGreat_any _ l _ (h.later b1)).mono ?_
    rw [hg]
    rintro e w2 ⟨rfl, rfl⟩
    go_wp2_with fail
    refine (awake6_any _ (Utf8Tabs_below hT b1)).mono ?_
    rintro e w2 ⟨rfl, b2⟩
    go_wp2
    go_ret
    exact ⟨rfl, below2 b1 b2⟩
  | false =>
    have hsz := (greatB_not hg).2
    have hG := Lib.hid hg
    go_enter Tryd.func6, Tryd.ntmps6
    go_wp2_with fail
    refine (awake6_any _ hT).mono ?_
    rintro e w1 ⟨rfl, b1⟩
    go_wp2_with fail
    refine (refGreat_any _ l _ (h.later b1)).mono ?_
    rw [hG.out]
    rintro e w2 ⟨rfl, rfl⟩
    clear hg
    go_wp2_with fail
    refine (tabNew_any _).mono ?_
    rintro e w2 ⟨g, rfl, ⟨S, t2, hS⟩, b2⟩
    have b02 := below2 b1 b2
    replace hS : ∀ k, S k → w.heap.size ≤ k := fun k hk => by have := hS k hk; have := b1.size; omega
    clear b1 b2
    go_wp2
    go_loopw [27] (fun i wr => ∃ (k : Nat) (S : Nat → Prop), k ≤ l.length ∧ i = .int .i64 k ∧ Tab S wr g (internL (l.take k)) ∧ (∀ k, S k → w.heap.size ≤ k) ∧ (∀ x ∈ l.take k, rightS x = true) ∧ Below w.heap.size w wr) (fun i _ => l.length - (intOf i).toNat)
    case atStart => exact ⟨0, S, Nat.zero_le _, rfl, t2, hS, by simp, b02⟩
    case round =>
      clear t2 hS b02 S
      obtain ⟨k, S, hk, rfl, t2, hS, hR, b2⟩ := hrel
      by_cases hlt : k < l.length
      · obtain ⟨bb, o, e, -, hcl, hx⟩ := (h.later b2).at k hlt
        subst e
        have hsmall := small_one hG.out hlt
        have hxs := hsz _ (List.getElem_mem hlt)
        have hint := fun w h => tabIntern_any S g (internL (l.take k)) l[k] w h (by omega) hsmall
        cases hr : rightS l[k] with
        | false =>
          replace hr := Lib.hid hr
          go_wp2_with fail
          refine (refRight_any _ _ (by omega)).mono ?_
          rw [hr.out]
          rintro e w3 ⟨rfl, b3⟩
          go_wp2
          go_ret
          exact ⟨rfl, below2 b2 b3⟩
        | true =>
          replace hr := Lib.hid hr
          go_wp2_with fail
          refine (refRight_any _ _ (by omega)).mono ?_
          rw [hr.out]
          rintro e w3 ⟨rfl, b3⟩
          have t3 := t2.later b3
          have b03 := below2 b2 b3
          go_wp2_with fail
          refine (hint _ t3).mono ?_
          rintro e w4 ⟨rfl, S4, t4, g4⟩
          rw [← internL_take hlt] at t4
          go_wp2
          go_roundw
          case rel => exact ⟨k + 1, S4, by omega, by go_num, t4, fun j hj => (by rcases g4.2 j hj with h | h; exact hS j h; have := b03.size; omega), fun x hx => (by
            rw [List.take_succ_eq_append_getElem hlt, List.mem_append, List.mem_singleton] at hx
            rcases hx with hx | rfl
            · exact hR x hx
            · exact hr.out), b03.trans (g4.1.below b03.size hS)⟩
          case measure => simp [intOf]; omega
      · obtain rfl : k = l.length := by omega
        obtain ⟨q1, q2⟩ := small_take hG.out l.length
        rw [List.take_length] at t2 hR q1 q2
        have hrs : ∀ x ∈ internL l, rightS x = true ∧ x.size ≤ 16777216 := fun x hx => by
          rw [internL_mem] at hx
          have := hsz x hx
          exact ⟨hR x hx, by omega⟩
        obtain ⟨e1, e2, e3⟩ := back_law t2.2.2.1 hrs (by omega)
        have hps := put_size q1 q2
        have hsms := t2.2.2.2.1
        generalize internL l = L at *
        have G1 := fun w hT => tabGet_any ⟨(putT L).toArray⟩ L.length (totalT L) w hps (by constructor <;> omega) (by constructor <;> omega) hT
        have G2 := fun w hT => tabGet_code ⟨(putT L).toArray⟩ ((L.length : Int) - 1) (totalT L) w hps (by constructor <;> omega) (by constructor <;> omega) hT
        have G3 := fun w hT => tabGet_code ⟨(putT L).toArray⟩ L.length ((totalT L : Int) - 1) w hps (by constructor <;> omega) (by constructor <;> omega) hT
        rw [e1] at G1
        generalize (getT ⟨(putT L).toArray⟩ ((L.length : Int) - 1) (totalT L)).2 = f2 at G2 e2
        generalize (getT ⟨(putT L).toArray⟩ L.length ((totalT L : Int) - 1)).2 = f3 at G3 e3
        replace e2 := Lib.hid e2
        replace e3 := Lib.hid e3
        clear e1 hrs hR hG hps
        go_wp2_with fail
        refine (tabPut_any _ _ _ _ t2).mono ?_
        rintro e w3 ⟨rfl, b3⟩
        have t3 := t2.later b3
        have b03 := below2 b2 b3
        clear t2 b2 b3
        go_wp2_with fail
        refine (tabLen_any _ _ _ _ t3).mono ?_
        rintro e w4 ⟨rfl, rfl⟩
        go_wp2_with fail
        refine (tabBytes_any _ _ _ _ t3).mono ?_
        rintro e w4 ⟨rfl, rfl⟩
        go_wp2_with fail
        refine (G1 _ (Utf8Tabs_below hT b03)).mono ?_
        rintro e w4 ⟨b4, ⟨-, gu, SU, rfl, u4, -⟩ | ⟨h, -⟩⟩
        case inr => exact absurd rfl h
        have t4 := t3.later b4
        have b04 := below2 b03 b4
        clear t3 b03 b4
        go_wp2_with fail
        refine (all_any _ _ _ _ u4 (by show L.length ≤ 5000; omega)).mono ?_
        rintro e w5 ⟨A5, c5, rfl, r5, b5⟩
        have t5 := t4.later b5
        have b05 := below2 b04 b5
        clear t4 u4 b04 b5
        go_wp2_with fail
        refine (all_any _ _ _ _ t5 (by omega)).mono ?_
        rintro e w6 ⟨A6, c6, rfl, r6, b6⟩
        have b06 := below2 b05 b6
        have hr5 := row_rs (r5.later b6) (by show L.length ≤ 1000000; omega) hsms.2.1
        have hr6 := row_rs r6 (by omega) hsms.2.1
        clear t5 b05 r5 r6 b6
        go_wp2_with fail
        refine (refSame_any _ _ _ _ _ hr5 hr6).mono ?_
        rw [show decide ((L, (0 : Int)).1 = L) = true from by simp]
        rintro e w7 ⟨rfl, n7, rfl⟩
        have b07 := below_drewN' b06 n7
        clear b06 hr5 hr6
        go_wp2_with fail
        refine (G2 _ (Utf8Tabs_below hT b07)).mono ?_
        rintro e w8 ⟨⟨p8, rfl⟩, b8⟩
        have b08 := below2 b07 b8
        clear b07 b8
        go_wp2_with fail
        refine (G3 _ (Utf8Tabs_below hT b08)).mono ?_
        rintro e w9 ⟨⟨p9, rfl⟩, b9⟩
        have b09 := below2 b08 b9
        clear b08 b9
        replace e2 := e2.out
        replace e3 := e3.out
        go_wp2
        all_goals (go_ret; exact ⟨rfl, b09⟩)
end Go.Proofs.YtdgjgekefpfgiaaDoor
