/- The field layer: Great, Own, Same; field.Set. -/
import Derived.Test.YtdgjgekefpfgiaaDoorSet
import Derived.Test.YtdgjgekefpfgiaaDoorCls
namespace Go.Proofs.YtdgjgekefpfgiaaDoor
open Go.RowKit

/-- A node greater than is played. -/
def greatN (n : Nd) : Bool := decide (100 < n.ints.length ∨ 100 < n.texts.length ∨ 300 < n.kids.length ∨ ∃ t ∈ n.texts, 500 < t.size)

set_option maxHeartbeats 1000000 in
theorem great8_any (n : Nd) (vi vt vk : Value) (w : World) (h : NdV Any w n vi vt vk) : Calls Tryd.prog 26 #[.agg #[.int .i64 n.kind, vi, vt, vk]] w fun e w' => e = .returned (.bool (greatN n)) ∧ Below w.heap.size w w' := by
  obtain ⟨A1, p1, rfl, -, L1⟩ := h.2.1.form
  obtain ⟨A2, p2, rfl, -, L2⟩ := h.2.2.1.form
  obtain ⟨A3, p3, rfl, -, L3⟩ := h.2.2.2.form
  have hb : ∀ o, Below w.heap.size w (w.alloc o) := fun o => below_alloc' (Below.refl _ _) o
  by_cases h1 : 100 < n.ints.length
  · go_enter Tryd.func26, Tryd.ntmps26
    go_wp2
    go_ret
    exact ⟨ret_bool (by simp [greatN, h1]), hb _⟩
  by_cases h2 : 100 < n.texts.length
  · go_enter Tryd.func26, Tryd.ntmps26
    go_wp2
    go_ret
    exact ⟨ret_bool (by simp [greatN, h2]), hb _⟩
  by_cases h3 : 300 < n.kids.length
  · go_enter Tryd.func26, Tryd.ntmps26
    go_wp2
    go_ret
    exact ⟨ret_bool (by simp [greatN, h3]), hb _⟩
  go_enter Tryd.func26, Tryd.ntmps26
  go_wp2
  obtain ⟨W, hW⟩ : ∃ W, W = w.alloc (.cells #[.int .i64 n.kind, .slice A1 n.ints.length p1, .slice A2 n.texts.length p2, .slice A3 n.kids.length p3] 26) := ⟨_, rfl⟩
  have hbx : W.heap[w.heap.size]? = some (.cells #[.int .i64 n.kind, .slice A1 n.ints.length p1, .slice A2 n.texts.length p2, .slice A3 n.kids.length p3] 26 (0, 0)) := by rw [hW]; exact blk_new _ _
  have hbW : Below w.heap.size w W := by rw [hW]; exact hb _
  rw [← hW]
  clear hW hb
  have x2 : W.cell? ⟨w.heap.size, 2, none⟩ = some (.slice A2 n.texts.length p2) := blk_cell hbx 2
  go_loop [3] (fun i => ∃ k : Nat, k ≤ n.texts.length ∧ i = .int .i64 k ∧ ∀ j, j < k → ∀ t, n.texts[j]? = some t → t.size ≤ 500) (fun i => n.texts.length - (intOf i).toNat)
  case atStart => exact ⟨0, by omega, rfl, by intros; omega⟩
  case round =>
    obtain ⟨k, hk, rfl, hall⟩ := hrel
    by_cases hlt : k < n.texts.length
    · obtain ⟨g2, o2, rfl, hg2, u2, r2⟩ := (h.2.2.1.later hbW).at k hlt
      by_cases hs : 500 < n.texts[k].size
      · go_wp2
        go_ret
        exact ⟨ret_bool (by symm; rw [greatN, decide_eq_true_eq]; exact .inr (.inr (.inr ⟨_, List.getElem_mem hlt, hs⟩))), hbW⟩
      · go_wp2
        go_round
        case rel => exact ⟨k + 1, by omega, by go_num, fun j hj t ht => (by by_cases e : j = k; (subst e; rw [List.getElem?_eq_getElem hlt] at ht; cases ht; omega); exact hall j (by omega) t ht)⟩
        case measure => simp [intOf]; omega
    · go_wp2
      go_ret
      obtain rfl : k = n.texts.length := by omega
      refine ⟨ret_bool (by symm; rw [greatN, decide_eq_false_iff_not]; rintro (h | h | h | ⟨t, ht, hs⟩) <;> first | omega | skip; obtain ⟨j, hj, rfl⟩ := List.getElem_of_mem ht; have := hall j hj _ (List.getElem?_eq_getElem hj); omega), hbW⟩

/-- The same, but for the kids. -/
def ownB (a b : Nd) : Bool := decide (a.kind = b.kind ∧ a.ints = b.ints ∧ a.texts = b.texts)
theorem dI_nil {xs ys : List Int} : ∀ k, dI xs ys k = [] ↔ ∀ j, j < k → xs.getD j 0 = ys.getD j 0
  | 0 => by simp [dI]
  | k + 1 => by
    rw [dI, List.append_eq_nil_iff, dI_nil k]
    constructor
    · rintro ⟨h1, h2⟩ j hj
      by_cases e : j = k
      · subst e
        by_cases e : xs.getD j 0 = ys.getD j 0
        · exact e
        · rw [if_neg e] at h2; cases h2
      · exact h1 j (by omega)
    · intro h
      exact ⟨fun j hj => h j (by omega), if_pos (h k (by omega))⟩
theorem dT_nil {xs ys : List ByteArray} : ∀ k, dT xs ys k = [] ↔ ∀ j, j < k → xs.getD j ⟨#[]⟩ = ys.getD j ⟨#[]⟩
  | 0 => by simp [dT]
  | k + 1 => by
    rw [dT, List.append_eq_nil_iff, dT_nil k]
    constructor
    · rintro ⟨h1, h2⟩ j hj
      by_cases e : j = k
      · subst e
        by_cases e : xs.getD j ⟨#[]⟩ = ys.getD j ⟨#[]⟩
        · exact e
        · rw [if_neg e] at h2; cases h2
      · exact h1 j (by omega)
    · intro h
      exact ⟨fun j hj => h j (by omega), if_pos (h k (by omega))⟩
theorem getD_ext {α : Type} {xs ys : List α} (d : α) (hl : xs.length = ys.length) (h : ∀ j, j < ys.length → xs.getD j d = ys.getD j d) : xs = ys := by
  refine List.ext_getElem hl fun i h1 h2 => ?_
  have := h i h2
  simpa [List.getD_eq_getElem?_getD, h1, h2] using this
theorem ownB_eq (a b : Nd) : ownB a b = (canB a b && (diffL a b).isEmpty) := by
  rw [Bool.eq_iff_iff]
  simp only [ownB, decide_eq_true_eq, Bool.and_eq_true, List.isEmpty_iff]
  constructor
  · rintro ⟨h1, h2, h3⟩
    have hc : canB a b = true := by simp [canB, h1, h2, h3]
    refine ⟨hc, ?_⟩
    rw [diffL, if_pos hc, List.append_eq_nil_iff, dI_nil, dT_nil, h2, h3]
    exact ⟨fun _ _ => rfl, fun _ _ => rfl⟩
  · rintro ⟨hc, hd⟩
    rw [diffL, if_pos hc, List.append_eq_nil_iff, dI_nil, dT_nil] at hd
    simp only [canB, decide_eq_true_eq] at hc
    exact ⟨hc.1, getD_ext 0 hc.2.1 hd.1, getD_ext _ hc.2.2 hd.2⟩

set_option maxHeartbeats 1000000 in
theorem own_any (a b : Nd) (ai at' ak bi bt bk : Value) (w : World) (ha : NdV Any w a ai at' ak) (hb : NdV Any w b bi bt bk) (hs : b.ints.length + b.texts.length ≤ 1000000000) :
    Calls Tryd.prog 29 #[.agg #[.int .i64 a.kind, ai, at', ak], .agg #[.int .i64 b.kind, bi, bt, bk]] w fun e w' => e = .returned (.bool (ownB a b)) ∧ Below w.heap.size w w' := by
  go_enter Tryd.func29, Tryd.ntmps29
  go_wp2_with fail
  have hb2 : ∀ o u, Below w.heap.size w ((w.alloc o).alloc u) := fun o u => below_alloc' (below_alloc' (Below.refl _ _) o) u
  refine (refDiff_any a b _ _ _ _ _ _ _ (ha.later (hb2 _ _)) (hb.later (hb2 _ _)) hs).mono ?_
  rintro x w1 ⟨A, c, rfl, hr, hb1⟩
  have hB := below2 (hb2 _ _) hb1
  cases hc : canB a b with
  | true =>
    by_cases hn : (diffL a b).length = 0
    · have e : ownB a b = true := by rw [ownB_eq, hc, List.eq_nil_of_length_eq_zero hn]; rfl
      rw [hn]
      replace e := Lib.hid e
      clear hn hc hr
      go_wp2
      go_ret
      exact ⟨ret_bool e.out.symm, hB⟩
    · have e : ownB a b = false := by
        rw [ownB_eq, hc]
        cases hd : diffL a b with
        | nil => rw [hd] at hn; exact absurd rfl hn
        | cons _ _ => rfl
      have hn0 : (((diffL a b).length : Int) == 0) = false := by simpa using hn
      replace e := Lib.hid e
      clear hc hr
      go_wp2
      go_ret
      exact ⟨ret_bool e.out.symm, hB⟩
  | false =>
    have e : ownB a b = false := by rw [ownB_eq, hc]; rfl
    replace e := Lib.hid e
    clear hc hr
    go_wp2
    go_ret
    exact ⟨ret_bool e.out.symm, hB⟩

set_option maxHeartbeats 1000000 in
theorem same8_any (a b : Nd) (ai at' ak bi bt bk : Value) (w : World) (ha : NdV Any w a ai at' ak) (hb : NdV Any w b bi bt bk) (hs : b.ints.length + b.texts.length ≤ 1000000000) :
    Calls Tryd.prog 69 #[.agg #[.int .i64 a.kind, ai, at', ak], .agg #[.int .i64 b.kind, bi, bt, bk]] w fun e w' => e = .returned (.bool (decide (a = b))) ∧ Below w.heap.size w w' := by
  obtain ⟨A3, p3, rfl, -, L3⟩ := ha.2.2.2.form
  obtain ⟨B3, q3, rfl, -, M3⟩ := hb.2.2.2.form
  have hown : ownB a b = decide (a.kind = b.kind ∧ a.ints = b.ints ∧ a.texts = b.texts) := rfl
  have hab : a = b ↔ (a.kind = b.kind ∧ a.ints = b.ints ∧ a.texts = b.texts) ∧ a.kids = b.kids := by
    cases a; cases b
    simp [and_assoc]
  go_enter Tryd.func69, Tryd.ntmps69
  go_wp2_with fail
  have hb2 : ∀ o u, Below w.heap.size w ((w.alloc o).alloc u) := fun o u => below_alloc' (below_alloc' (Below.refl _ _) o) u
  obtain ⟨W, hW, hbx, hby, hbW⟩ := two_boxes w #[.int .i64 a.kind, ai, at', .slice A3 a.kids.length p3] #[.int .i64 b.kind, bi, bt, .slice B3 b.kids.length q3] 26 26
  rw [← hW]
  refine (own_any a b _ _ _ _ _ _ _ (ha.later hbW) (hb.later hbW) hs).mono ?_
  rintro x w1 ⟨rfl, hb1⟩
  have hB := below2 hbW hb1
  have x3 : w1.cell? ⟨w.heap.size, 3, none⟩ = some (.slice A3 a.kids.length p3) := blk_cell (blk_later hb1 hbx) 3
  have y3 : w1.cell? ⟨w.heap.size + 1, 3, none⟩ = some (.slice B3 b.kids.length q3) := blk_cell (blk_later hb1 hby) 3
  clear hW hbx hby
  cases ho : ownB a b with
  | false =>
    have e : decide (a = b) = false := by
      rw [decide_eq_false_iff_not, hab]
      rw [hown, decide_eq_false_iff_not] at ho
      exact fun h => ho h.1
    replace e := Lib.hid e
    clear ho hown hab
    go_wp2
    go_ret
    exact ⟨ret_bool e.out.symm, hB⟩
  | true =>
    rw [hown, decide_eq_true_eq] at ho
    have hE : Hid (a = b ↔ a.kids = b.kids) := Lib.hid (by rw [hab]; exact ⟨fun h => h.2, fun h => ⟨ho, h⟩⟩)
    clear ho hown hab
    by_cases hl : a.kids.length = b.kids.length
    · have HL := Lib.hid hl
      rw [hl] at x3 L3
      have ha3 : RI Any w (.slice A3 b.kids.length p3) a.kids := by rw [← hl]; exact ha.2.2.2
      rw [hl]
      clear hl ha
      go_wp2
      go_loopw [5] (fun i wr => ∃ k : Nat, k ≤ b.kids.length ∧ i = .int .i64 k ∧ (∀ j, j < k → a.kids.getD j 0 = b.kids.getD j 0) ∧ Below w1.heap.size w1 wr) (fun i _ => b.kids.length - (intOf i).toNat)
      case atStart => exact ⟨0, by omega, rfl, by intros; omega, Below.refl _ _⟩
      case round =>
        obtain ⟨k, hk, rfl, hall, hbr⟩ := hrel
        have x3' := cell_later' hbr x3
        have y3' := cell_later' hbr y3
        by_cases hlt : k < b.kids.length
        · obtain ⟨g1, o1, rfl, hg1, u1, -⟩ := (ha3.later (below2 hB hbr)).at k (by rw [HL.out]; exact hlt)
          obtain ⟨g2, o2, rfl, hg2, u2, r2⟩ := (hb.2.2.2.later (below2 hB hbr)).at k hlt
          have hin : a.kids.getD k 0 = a.kids[k]'(by rw [HL.out]; exact hlt) := by simp [show k < a.kids.length from by rw [HL.out]; exact hlt]
          have hin2 : b.kids.getD k 0 = b.kids[k] := by simp [hlt]
          by_cases he : a.kids[k]'(by rw [HL.out]; exact hlt) = b.kids[k]
          · have HA : Hid (∀ j, j < k + 1 → a.kids.getD j 0 = b.kids.getD j 0) := fun j hj => (by by_cases e : j = k; (subst e; rw [hin, hin2, he]); exact hall j (by omega))
            rw [he] at u1
            clear hin hin2 he
            go_wp2
            go_quiet (fail)
            replace hbr := below_drewN' hbr nq
            go_wp2
            go_roundw
            case rel => exact ⟨k + 1, by omega, by go_num, HA.out, hbr⟩
            case measure => simp [intOf]; omega
          · have hne : (a.kids[k]'(by rw [HL.out]; exact hlt) != b.kids[k]) = true := by simpa using he
            have e : Hid (decide (a = b) = false) := Lib.hid (by rw [decide_eq_false_iff_not, hE.out]; intro h; rw [← hin, ← hin2, h] at he; exact he rfl)
            clear hin hin2
            go_wp2
            go_quiet (fail)
            replace hbr := below_drewN' hbr nq
            go_wp2
            go_ret
            exact ⟨ret_bool e.out.symm, below2 hB hbr⟩
        · obtain rfl : k = b.kids.length := by omega
          have e : Hid (decide (a = b) = true) := Lib.hid (by rw [decide_eq_true_eq, hE.out]; exact getD_ext 0 HL.out hall)
          go_wp2
          go_ret
          exact ⟨ret_bool e.out.symm, below2 hB hbr⟩
    · have e : Hid (decide (a = b) = false) := Lib.hid (by rw [decide_eq_false_iff_not, hE.out]; intro h; exact hl (by rw [h]))
      have hl1 : ((a.kids.length : Int) != (b.kids.length : Int)) = true := by simp; omega
      go_wp2
      go_ret
      exact ⟨ret_bool e.out.symm, hB⟩

/-! ### Set -/
/-- One field is set. -/
def set1 (n : Nd) (s : St) : Option Nd :=
  if s.text = true then (if s.n = 0 ∧ 0 ≤ s.field ∧ s.field < n.texts.length then some { n with texts := n.texts.set s.field.toNat s.s } else none)
  else if s.s = ⟨#[]⟩ ∧ 0 ≤ s.field ∧ s.field < n.ints.length then some { n with ints := n.ints.set s.field.toNat s.n } else none
def setL (n : Nd) (l : List St) : Option Nd := l.foldl (fun o s => o.bind fun m => set1 m s) (some n)
theorem fold_none (l : List St) : l.foldl (fun o s => o.bind fun m => set1 m s) none = none := by
  induction l with
  | nil => rfl
  | cons a l ih => exact ih
theorem setL_take {n : Nd} {l : List St} {k : Nat} (hk : k < l.length) : setL n (l.take (k + 1)) = (setL n (l.take k)).bind fun m => set1 m l[k] := by
  rw [setL, List.take_succ_eq_append_getElem hk, List.foldl_append]
  rfl
theorem setL_none {n : Nd} {l : List St} {k : Nat} (h : setL n (l.take k) = none) : setL n l = none := by
  have : l = l.take k ++ l.drop k := (List.take_append_drop k l).symm
  rw [this, setL, List.foldl_append, ← setL, h]
  exact fold_none _
def SetRet (w : World) (o : Option Nd) (x : Ending) (w' : World) : Prop :=
  match o with
  | some m => ∃ A1 c1 A2 c2 A3 c3, x = .returned (.tuple #[.agg #[.int .i64 m.kind, .slice A1 m.ints.length c1, .slice A2 m.texts.length c2, .slice A3 m.kids.length c3], .int .i64 0]) ∧
      OwnNd w' w.heap.size m (.slice A1 m.ints.length c1) (.slice A2 m.texts.length c2) (.slice A3 m.kids.length c3) ∧ Below w.heap.size w w'
  | none => x = .returned (.tuple #[.agg #[.int .i64 0, .slice none 0 0, .slice none 0 0, .slice none 0 0], .int .i64 21]) ∧ Below w.heap.size w w'
/-- A row's block is none that holds another type. -/
theorem Row.nblk {w : World} {base size g : Nat} {e t : TypeId} {v : Value} {xs : List Value} {cs : Array Value} (h : Row w base e size v xs) (hg : w.heap[g]? = some (.cells cs t (0, 0))) (he : e ≠ t) : ∀ b, blk v = some b → b ≠ g := by
  intro b hb hbg
  obtain ⟨_, _, c1, h1⟩ := h.typed b hb
  rw [hbg, hg] at h1
  injection h1 with h1
  injection h1 with _ h1
  exact he h1.symm

theorem OwnNd.storeT {w : World} {base g c : Nat} {m : Nd} {vi vk : Value} (h : OwnNd w base m vi (.slice (some ⟨g, 0, none⟩) m.texts.length c) vk) (hg : blk (.slice (some ⟨g, 0, none⟩) m.texts.length c) = some g) (f : Nat) (hf : f < m.texts.length) (s : ByteArray) :
    OwnNd (w.setCell ⟨g, f, none⟩ (.string s)) base { m with texts := m.texts.set f s } vi (.slice (some ⟨g, 0, none⟩) (m.texts.set f s).length c) vk := by
  refine ⟨h.1.set (fun b hb e => ?_) _, ?_, h.2.2.set (fun b hb e => ?_) _⟩
  · exact h.1.ne h.2.1 (by decide) b hb (by rw [hg]; exact congrArg some (Eq.symm e))
  · have := h.2.1.stored f (by simpa using hf) (.string s)
    rw [List.length_set, show strs (m.texts.set f s) = (strs m.texts).set f (.string s) from by simp [strs, List.map_set]]
    exact this
  · exact h.2.2.ne h.2.1 (by decide) b hb (by rw [hg]; exact congrArg some (Eq.symm e))
theorem OwnNd.storeI {w : World} {base g c : Nat} {m : Nd} {vt vk : Value} (h : OwnNd w base m (.slice (some ⟨g, 0, none⟩) m.ints.length c) vt vk) (hg : blk (.slice (some ⟨g, 0, none⟩) m.ints.length c) = some g) (f : Nat) (hf : f < m.ints.length) (x : Int) :
    OwnNd (w.setCell ⟨g, f, none⟩ (.int .i64 x)) base { m with ints := m.ints.set f x } (.slice (some ⟨g, 0, none⟩) (m.ints.set f x).length c) vt vk := by
  refine ⟨?_, h.2.1.set (fun b hb e => ?_) _, h.2.2.set (fun b hb e => ?_) _⟩
  · have := h.1.stored f (by simpa using hf) (.int .i64 x)
    rw [List.length_set, show ints (m.ints.set f x) = (ints m.ints).set f (.int .i64 x) from by simp [ints, List.map_set]]
    exact this
  · exact h.2.1.ne h.1 (by decide) b hb (by rw [hg]; exact congrArg some (Eq.symm e))
  · exact h.2.2.ne h.1 (by decide) b hb (by rw [hg]; exact congrArg some (Eq.symm e))
theorem OwnNd.later {w w' : World} {base : Nat} {m : Nd} {vi vt vk : Value} (h : OwnNd w base m vi vt vk) (hb : Below w.heap.size w w') : OwnNd w' base m vi vt vk := ⟨h.1.later hb, h.2.1.later hb, h.2.2.later hb⟩

set_option maxHeartbeats 1000000 in
theorem set_any (n : Nd) (l : List St) (vi vt vk v : Value) (w : World) (h : NdV Any w n vi vt vk) (hl : RSt Any w v l) : Calls Tryd.prog 28 #[.agg #[.int .i64 n.kind, vi, vt, vk], v] w (SetRet w (setL n l)) := by
  obtain ⟨A, p, rfl, -, L⟩ := hl.form
  obtain ⟨W, hW, hbx, hby, hbW⟩ := two_boxes w #[.int .i64 n.kind, vi, vt, vk] #[.int .i64 0, .slice none 0 0, .slice none 0 0, .slice none 0 0] 26 26
  go_enter Tryd.func28, Tryd.ntmps28
  go_wp2_with fail
  rw [← hW]
  refine (copy_any n _ _ _ _ (h.later hbW)).mono ?_
  rintro x w1 ⟨A1, c1, A2, c2, A3, c3, rfl, hO, hb1⟩
  go_wp2_with fail
  go_loopw [13] (fun i wr => ∃ (k : Nat) (m : Nd), k ≤ l.length ∧ i = .int .i64 k ∧ setL n (l.take k) = some m ∧ Below w.heap.size w wr ∧ wr.heap[w.heap.size + 1]? = some (.cells #[.int .i64 0, .slice none 0 0, .slice none 0 0, .slice none 0 0] 26 (0, 0)) ∧
    wr.heap[w1.heap.size]? = some (.cells #[.int .i64 m.kind, .slice A1 m.ints.length c1, .slice A2 m.texts.length c2, .slice A3 m.kids.length c3] 26 (0, 0)) ∧
    OwnNd wr W.heap.size m (.slice A1 m.ints.length c1) (.slice A2 m.texts.length c2) (.slice A3 m.kids.length c3)) (fun i _ => l.length - (intOf i).toNat)
  case atStart =>
    have hb : ∀ o, Below w1.heap.size w1 (w1.alloc o) := fun o => below_alloc' (Below.refl _ _) o
    exact ⟨0, n, by omega, rfl, by simp [setL], below_alloc' (below2 hbW hb1) _, blk_later (below2 hb1 (hb _)) hby, blk_new _ _, hO.1.later (hb _), hO.2.1.later (hb _), hO.2.2.later (hb _)⟩
  case round =>
    obtain ⟨k, m, hk, rfl, hset, hbr, hy, hm, hO'⟩ := hrel
    have m0 : wr.cell? ⟨w1.heap.size, 0, none⟩ = some (.int .i64 m.kind) := blk_cell hm 0
    have m1 : wr.cell? ⟨w1.heap.size, 1, none⟩ = some (.slice A1 m.ints.length c1) := blk_cell hm 1
    have m2 : wr.cell? ⟨w1.heap.size, 2, none⟩ = some (.slice A2 m.texts.length c2) := blk_cell hm 2
    have m3 : wr.cell? ⟨w1.heap.size, 3, none⟩ = some (.slice A3 m.kids.length c3) := blk_cell hm 3
    have hlr := hl.later hbr
    have q1 := blk_lt hm
    have q2 := blk_lt hy
    have hyl : w.heap.size ≤ w.heap.size + 1 := Nat.le_succ _
    have t0 := blk_cell hy
    have f0 := blk_frozen hy
    by_cases hlt : k < l.length
    · obtain ⟨b, o, rfl, hb, d0, d1, d2, d3, e1, e2, e3⟩ := hlr.at k hlt
      have hnext : setL n (l.take (k + 1)) = set1 m l[k] := by rw [setL_take hlt, hset]; rfl
      have HN := Lib.hid hnext
      have HS := Lib.hid hset
      clear hset hnext
      cases ht : l[k].text with
      | true =>
        rw [ht] at d0
        have HT := Lib.hid ht
        clear ht
        by_cases hn : l[k].n = 0
        · rw [hn] at d2
          have HNN := Lib.hid hn
          clear hn
          by_cases hf : 0 ≤ l[k].field ∧ l[k].field < m.texts.length
          · obtain ⟨f1, f2⟩ := hf
            obtain ⟨f, hfe⟩ := Int.eq_ofNat_of_zero_le f1
            rw [hfe] at d1
            have hflt : f < m.texts.length := by omega
            have hfs : f < (strs m.texts).length := by simpa using hflt
            have HF := Lib.hid hfe
            obtain ⟨g, _, _, hge, hgb, hgc, hgf⟩ := hO'.2.1.cell f hfs
            injection hge with hg1 hg2 hg3
            subst hg1
            clear hg2 hg3 hfe f1 f2
            have q3 : g < wr.heap.size := (hO'.2.1.typed g hgb).2.1
            go_wp2
            have n1 : w.heap.size + 1 ≠ g := fun e => hO'.2.1.nblk hy (by decide) g hgb e.symm
            have n2 : w1.heap.size ≠ g := fun e => hO'.2.1.nblk hm (by decide) g hgb e.symm
            have n3 : w.heap.size ≤ g := Nat.le_trans hbW.size (hO'.2.1.typed g hgb).1
            have hal : ∀ (W : World) (o : Obj), Below W.heap.size W (W.alloc o) := fun W o => below_alloc' (Below.refl _ _) _
            refine ⟨⟨k + 1, { m with texts := m.texts.set f l[k].s }, by omega, by go_num, ?_, below_alloc' (below_set hbr n3 _) _, blk_later (hal _ _) (blk_far hy n1 _), ?_, ?_⟩, by simp [intOf]; omega⟩
            · rw [HN.out, set1, if_pos HT.out, if_pos ⟨HNN.out, by rw [HF.out]; omega, by rw [HF.out]; omega⟩, HF.out]
              rfl
            · simp only [List.length_set]
              exact blk_later (hal _ _) (blk_far hm n2 _)
            · have := (hO'.storeT hgb f hflt l[k].s).later (hal _ (.cells #[.bool true, .int .i64 f, .int .i64 0, .string l[k].s] 114))
              exact this
          · have HNone : Hid (setL n l = none) := Lib.hid (setL_none (k := k + 1) (by rw [HN.out, set1, if_pos HT.out, if_neg (fun h => hf h.2)]))
            by_cases hf0 : 0 ≤ l[k].field
            · have hf1 : (m.texts.length : Int) ≤ l[k].field := by omega
              go_wp2
              refine bodyPost_ret (v := .tuple #[.agg #[.int .i64 0, .slice none 0 0, .slice none 0 0, .slice none 0 0], .int .i64 21]) (by simp [results, Tryd.results28, go_sem, t0, q2]) rfl ?_
              rw [HNone.out]
              exact ⟨rfl, below_alloc' (below_set4 hbr hyl _ _ _ _ _ _ _ _) _⟩
            · go_wp2
              refine bodyPost_ret (v := .tuple #[.agg #[.int .i64 0, .slice none 0 0, .slice none 0 0, .slice none 0 0], .int .i64 21]) (by simp [results, Tryd.results28, go_sem, t0, q2]) rfl ?_
              rw [HNone.out]
              exact ⟨rfl, below_alloc' (below_set4 hbr hyl _ _ _ _ _ _ _ _) _⟩
        · have HNone : Hid (setL n l = none) := Lib.hid (setL_none (k := k + 1) (by rw [HN.out, set1, if_pos HT.out, if_neg (fun h => hn h.1)]))
          go_wp2
          refine bodyPost_ret (v := .tuple #[.agg #[.int .i64 0, .slice none 0 0, .slice none 0 0, .slice none 0 0], .int .i64 21]) (by simp [results, Tryd.results28, go_sem, t0, q2]) rfl ?_
          rw [HNone.out]
          exact ⟨rfl, below_alloc' (below_set4 hbr hyl _ _ _ _ _ _ _ _) _⟩
      | false =>
        rw [ht] at d0
        have HT := Lib.hid ht
        clear ht
        by_cases hn : l[k].s = ⟨#[]⟩
        · rw [hn] at d3
          have HNN := Lib.hid hn
          clear hn
          by_cases hf : 0 ≤ l[k].field ∧ l[k].field < m.ints.length
          · obtain ⟨f1, f2⟩ := hf
            obtain ⟨f, hfe⟩ := Int.eq_ofNat_of_zero_le f1
            rw [hfe] at d1
            have hflt : f < m.ints.length := by omega
            have hfs : f < (ints m.ints).length := by simpa using hflt
            have HF := Lib.hid hfe
            obtain ⟨g, _, _, hge, hgb, hgc, hgf⟩ := hO'.1.cell f hfs
            injection hge with hg1 hg2 hg3
            subst hg1
            clear hg2 hg3 hfe f1 f2
            have q3 : g < wr.heap.size := (hO'.1.typed g hgb).2.1
            go_wp2
            have n1 : w.heap.size + 1 ≠ g := fun e => hO'.1.nblk hy (by decide) g hgb e.symm
            have n2 : w1.heap.size ≠ g := fun e => hO'.1.nblk hm (by decide) g hgb e.symm
            have n3 : w.heap.size ≤ g := Nat.le_trans hbW.size (hO'.1.typed g hgb).1
            have hal : ∀ (W : World) (o : Obj), Below W.heap.size W (W.alloc o) := fun W o => below_alloc' (Below.refl _ _) _
            refine ⟨⟨k + 1, { m with ints := m.ints.set f l[k].n }, by omega, by go_num, ?_, below_alloc' (below_set hbr n3 _) _, blk_later (hal _ _) (blk_far hy n1 _), ?_, ?_⟩, by simp [intOf]; omega⟩
            · rw [HN.out, set1, if_neg (by rw [HT.out]; decide), if_pos ⟨HNN.out, by rw [HF.out]; omega, by rw [HF.out]; omega⟩, HF.out]
              rfl
            · simp only [List.length_set]
              exact blk_later (hal _ _) (blk_far hm n2 _)
            · have := (hO'.storeI hgb f hflt l[k].n).later (hal _ (.cells #[.bool false, .int .i64 f, .int .i64 l[k].n, .string ⟨#[]⟩] 114))
              exact this
          · have HNone : Hid (setL n l = none) := Lib.hid (setL_none (k := k + 1) (by rw [HN.out, set1, if_neg (by rw [HT.out]; decide), if_neg (fun h => hf h.2)]))
            by_cases hf0 : 0 ≤ l[k].field
            · have hf1 : (m.ints.length : Int) ≤ l[k].field := by omega
              go_wp2
              refine bodyPost_ret (v := .tuple #[.agg #[.int .i64 0, .slice none 0 0, .slice none 0 0, .slice none 0 0], .int .i64 21]) (by simp [results, Tryd.results28, go_sem, t0, q2]) rfl ?_
              rw [HNone.out]
              exact ⟨rfl, below_alloc' (below_set4 hbr hyl _ _ _ _ _ _ _ _) _⟩
            · go_wp2
              refine bodyPost_ret (v := .tuple #[.agg #[.int .i64 0, .slice none 0 0, .slice none 0 0, .slice none 0 0], .int .i64 21]) (by simp [results, Tryd.results28, go_sem, t0, q2]) rfl ?_
              rw [HNone.out]
              exact ⟨rfl, below_alloc' (below_set4 hbr hyl _ _ _ _ _ _ _ _) _⟩
        · have HNone : Hid (setL n l = none) := Lib.hid (setL_none (k := k + 1) (by rw [HN.out, set1, if_neg (by rw [HT.out]; decide), if_neg (fun h => hn h.1)]))
          have hns := sne_nil hn
          have hns2 := sne hn
          go_wp2
          refine bodyPost_ret (v := .tuple #[.agg #[.int .i64 0, .slice none 0 0, .slice none 0 0, .slice none 0 0], .int .i64 21]) (by simp [results, Tryd.results28, go_sem, t0, q2]) rfl ?_
          rw [HNone.out]
          exact ⟨rfl, below_alloc' (below_set4 hbr hyl _ _ _ _ _ _ _ _) _⟩
    · obtain rfl : k = l.length := by omega
      rw [List.take_length] at hset
      replace hset := Lib.hid hset
      go_wp2
      refine bodyPost_ret (v := .tuple #[.agg #[.int .i64 m.kind, .slice A1 m.ints.length c1, .slice A2 m.texts.length c2, .slice A3 m.kids.length c3], .int .i64 0]) (by simp [results, Tryd.results28, go_sem, t0, q2]) rfl ?_
      rw [hset.out]
      refine ⟨A1, c1, A2, c2, A3, c3, rfl, ?_, below_set4 hbr hyl _ _ _ _ _ _ _ _⟩
      have := hO'.set4 (g := w.heap.size + 1) (hO'.1.nblk hy (by decide)) (hO'.2.1.nblk hy (by decide)) (hO'.2.2.nblk hy (by decide)) 0 1 2 3 (.int .i64 m.kind) (.slice A1 m.ints.length c1) (.slice A2 m.texts.length c2) (.slice A3 m.kids.length c3)
      exact ⟨this.1.lower hbW.size, this.2.1.lower hbW.size, this.2.2.lower hbW.size⟩
end Go.Proofs.YtdgjgekefpfgiaaDoor
