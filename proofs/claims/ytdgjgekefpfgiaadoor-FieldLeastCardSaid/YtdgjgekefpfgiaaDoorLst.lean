/- FieldLeast: the plain law; the walk. -/
import Derived.Test.YtdgjgekefpfgiaaDoorAw8
import Derived.Test.YtdgjgekefpfgiaaDoorRgl
namespace Go.Proofs.YtdgjgekefpfgiaaDoor
open Go.RowKit

/-! ### The plain law -/
def okS (n : Nd) (s : St) : Prop := if s.text = true then s.n = 0 ∧ 0 ≤ s.field ∧ s.field < n.texts.length else s.s = ⟨#[]⟩ ∧ 0 ≤ s.field ∧ s.field < n.ints.length
theorem setL_cons (n : Nd) (s : St) (l : List St) : setL n (s :: l) = (set1 n s).bind fun m => setL m l := by
  show l.foldl (fun o s => o.bind fun m => set1 m s) (set1 n s) = _
  cases set1 n s with
  | none => exact fold_none l
  | some m => rfl
theorem setL_ok : ∀ (l : List St) (n : Nd), (∀ s ∈ l, okS n s) → ∃ c, setL n l = some c ∧ c.kind = n.kind ∧ c.kids = n.kids ∧ c.ints.length = n.ints.length ∧ c.texts.length = n.texts.length ∧
    (∀ i : Nat, (∀ s ∈ l, s.text = false → s.field ≠ i) → c.ints[i]? = n.ints[i]?) ∧ (∀ i : Nat, (∀ s ∈ l, s.text = true → s.field ≠ i) → c.texts[i]? = n.texts[i]?)
  | [], n, _ => ⟨n, rfl, rfl, rfl, rfl, rfl, fun _ _ => rfl, fun _ _ => rfl⟩
  | s :: l, n, h => by
    have hs := h s (List.mem_cons_self ..)
    obtain ⟨m, hm, e1, e2, e3, e4, e5, e6⟩ : ∃ m, set1 n s = some m ∧ m.kind = n.kind ∧ m.kids = n.kids ∧ m.ints.length = n.ints.length ∧ m.texts.length = n.texts.length ∧
        (∀ i : Nat, (s.text = false → s.field ≠ i) → m.ints[i]? = n.ints[i]?) ∧ (∀ i : Nat, (s.text = true → s.field ≠ i) → m.texts[i]? = n.texts[i]?) := by
      unfold okS at hs
      unfold set1
      by_cases ht : s.text = true
      · rw [if_pos ht] at hs ⊢
        rw [if_pos hs]
        refine ⟨_, rfl, rfl, rfl, rfl, by simp, fun _ _ => rfl, fun i hi => ?_⟩
        have := hi ht
        exact List.getElem?_set_ne (by omega)
      · rw [if_neg ht] at hs ⊢
        rw [if_pos hs]
        refine ⟨_, rfl, rfl, rfl, by simp, rfl, fun i hi => ?_, fun _ _ => rfl⟩
        have := hi (by simpa using ht)
        exact List.getElem?_set_ne (by omega)
    obtain ⟨c, hc, f1, f2, f3, f4, f5, f6⟩ := setL_ok l m fun s' hs' => by
      have := h s' (List.mem_cons_of_mem _ hs')
      unfold okS at this ⊢
      rw [e3, e4]
      exact this
    refine ⟨c, by rw [setL_cons, hm]; exact hc, f1.trans e1, f2.trans e2, f3.trans e3, f4.trans e4, fun i hi => ?_, fun i hi => ?_⟩
    · rw [f5 i fun s' hs' => hi s' (List.mem_cons_of_mem _ hs'), e5 i (hi s (List.mem_cons_self ..))]
    · rw [f6 i fun s' hs' => hi s' (List.mem_cons_of_mem _ hs'), e6 i (hi s (List.mem_cons_self ..))]
/-- What a node holds is what the machine can hold. -/
def NdR (n : Nd) : Prop := I64 n.kind ∧ (∀ x ∈ n.ints, I64 x) ∧ (∀ t ∈ n.texts, t.size ≤ 9223372036854775807) ∧ ∀ x ∈ n.kids, I64 x
theorem NdV.range {S : Nat → Prop} {w : World} {n : Nd} {vi vt vk : Value} (h : NdV S w n vi vt vk) : NdR n := ⟨h.1, h.2.1.range, h.2.2.1.sizes, h.2.2.2.range⟩
theorem OwnNd.ndv {w : World} {base : Nat} {n : Nd} {vi vt vk : Value} (h : OwnNd w base n vi vt vk) (hr : NdR n) (h1 : n.ints.length * 8 ≤ 140737488355328) (h2 : n.texts.length * 16 ≤ 140737488355328) (h3 : n.kids.length * 8 ≤ 140737488355328) : NdV Any w n vi vt vk :=
  ⟨hr.1, RI.of_row h.1 h1 (fun _ _ => trivial) hr.2.1, RS.of_row h.2.1 h2 (fun _ _ => trivial) hr.2.2.1, RI.of_row h.2.2 h3 (fun _ _ => trivial) hr.2.2.2⟩
theorem setL_range : ∀ (l : List St) (n c : Nd), setL n l = some c → NdR n → (∀ s ∈ l, I64 s.n ∧ s.s.size ≤ 9223372036854775807) → NdR c
  | [], n, c, h, hn, _ => by cases h; exact hn
  | s :: l, n, c, h, hn, hs => by
    rw [setL_cons, Option.bind_eq_some_iff] at h
    obtain ⟨m, hm, h⟩ := h
    refine setL_range l m c h ?_ fun s' hs' => hs s' (List.mem_cons_of_mem _ hs')
    have h1 := hs s (List.mem_cons_self ..)
    unfold set1 at hm
    split at hm
    · split at hm
      · cases hm
        refine ⟨hn.1, hn.2.1, fun t ht => ?_, hn.2.2.2⟩
        rcases List.mem_or_eq_of_mem_set ht with ht | rfl
        · exact hn.2.2.1 t ht
        · exact h1.2
      · cases hm
    · split at hm
      · cases hm
        refine ⟨hn.1, fun t ht => ?_, hn.2.2.1, hn.2.2.2⟩
        rcases List.mem_or_eq_of_mem_set ht with ht | rfl
        · exact hn.2.1 t ht
        · exact h1.1
      · cases hm
/-- What stands in the two halves. -/
theorem dI_mem {xs ys : List Int} : ∀ {k : Nat} {s : St}, s ∈ dI xs ys k → s.text = false ∧ s.s = ⟨#[]⟩ ∧ ∃ j : Nat, s.field = j ∧ j < k ∧ s.n = ys.getD j 0 ∧ xs.getD j 0 ≠ ys.getD j 0
  | 0, s, h => by simp [dI] at h
  | k + 1, s, h => by
    rw [dI, List.mem_append] at h
    rcases h with h | h
    · obtain ⟨h1, h2, j, h3, h4, h5⟩ := dI_mem h
      exact ⟨h1, h2, j, h3, by omega, h5⟩
    · by_cases e : xs.getD k 0 = ys.getD k 0
      · rw [if_pos e] at h
        cases h
      · rw [if_neg e, List.mem_singleton] at h
        subst h
        exact ⟨rfl, rfl, k, rfl, by omega, rfl, e⟩
theorem dT_mem {xs ys : List ByteArray} : ∀ {k : Nat} {s : St}, s ∈ dT xs ys k → s.text = true ∧ s.n = 0 ∧ ∃ j : Nat, s.field = j ∧ j < k ∧ s.s = ys.getD j ⟨#[]⟩ ∧ xs.getD j ⟨#[]⟩ ≠ ys.getD j ⟨#[]⟩
  | 0, s, h => by simp [dT] at h
  | k + 1, s, h => by
    rw [dT, List.mem_append] at h
    rcases h with h | h
    · obtain ⟨h1, h2, j, h3, h4, h5⟩ := dT_mem h
      exact ⟨h1, h2, j, h3, by omega, h5⟩
    · by_cases e : xs.getD k ⟨#[]⟩ = ys.getD k ⟨#[]⟩
      · rw [if_pos e] at h
        cases h
      · rw [if_neg e, List.mem_singleton] at h
        subst h
        exact ⟨rfl, rfl, k, rfl, by omega, rfl, e⟩
def keyS (s : St) : Bool × Int := (s.text, s.field)
theorem dI_pair {xs ys : List Int} : ∀ k, (dI xs ys k).Pairwise fun s t => keyS s ≠ keyS t
  | 0 => .nil
  | k + 1 => by
    rw [dI, List.pairwise_append]
    refine ⟨dI_pair k, ?_, fun s hs t ht => ?_⟩
    · split <;> simp
    · by_cases e : xs.getD k 0 = ys.getD k 0
      · rw [if_pos e] at ht
        cases ht
      · rw [if_neg e, List.mem_singleton] at ht
        subst ht
        obtain ⟨-, -, j, h3, h4, -⟩ := dI_mem hs
        simp only [keyS, ne_eq, Prod.mk.injEq, not_and, h3]
        intro _
        omega
theorem dT_pair {xs ys : List ByteArray} : ∀ k, (dT xs ys k).Pairwise fun s t => keyS s ≠ keyS t
  | 0 => .nil
  | k + 1 => by
    rw [dT, List.pairwise_append]
    refine ⟨dT_pair k, ?_, fun s hs t ht => ?_⟩
    · split <;> simp
    · by_cases e : xs.getD k ⟨#[]⟩ = ys.getD k ⟨#[]⟩
      · rw [if_pos e] at ht
        cases ht
      · rw [if_neg e, List.mem_singleton] at ht
        subst ht
        obtain ⟨-, -, j, h3, h4, -⟩ := dT_mem hs
        simp only [keyS, ne_eq, Prod.mk.injEq, not_and, h3]
        intro _
        omega
theorem diffL_pair (a b : Nd) : (diffL a b).Pairwise fun s t => keyS s ≠ keyS t := by
  unfold diffL
  split
  · rw [List.pairwise_append]
    refine ⟨dI_pair _, dT_pair _, fun s hs t ht => ?_⟩
    simp [keyS, (dI_mem hs).1, (dT_mem ht).1]
  · exact .nil
theorem diffL_ok {a b : Nd} (h : canB a b = true) : ∀ s ∈ diffL a b, okS a s := by
  intro s hs
  rw [diffL, if_pos h, List.mem_append] at hs
  simp only [canB, decide_eq_true_eq] at h
  obtain ⟨h1, h2, h3⟩ := h
  unfold okS
  rcases hs with hs | hs
  · obtain ⟨g1, g2, j, g3, g4, -⟩ := dI_mem hs
    rw [if_neg (by rw [g1]; decide)]
    exact ⟨g2, by omega, by omega⟩
  · obtain ⟨g1, g2, j, g3, g4, -⟩ := dT_mem hs
    rw [if_pos g1]
    exact ⟨g2, by omega, by omega⟩
theorem diffL_range {a b : Nd} {w : World} {bi bt bk : Value} (h : NdV Any w b bi bt bk) (hs : b.ints.length + b.texts.length ≤ 1000000000) : ∀ s ∈ diffL a b, I64 s.field ∧ I64 s.n ∧ s.s.size ≤ 9223372036854775807 := by
  intro s hs'
  unfold diffL at hs'
  split at hs'
  · rcases List.mem_append.1 hs' with hm | hm
    · obtain ⟨-, g2, j, g3, g4, g5, -⟩ := dI_mem hm
      refine ⟨by rw [g3]; constructor <;> omega, ?_, by rw [g2]; decide⟩
      rw [g5, List.getD_eq_getElem?_getD, List.getElem?_eq_getElem g4]
      exact h.2.1.range _ (List.getElem_mem g4)
    · obtain ⟨-, g2, j, g3, g4, g5, -⟩ := dT_mem hm
      refine ⟨by rw [g3]; constructor <;> omega, by rw [g2]; decide, ?_⟩
      rw [g5, List.getD_eq_getElem?_getD, List.getElem?_eq_getElem g4]
      exact h.2.2.1.sizes _ (List.getElem_mem g4)
  · cases hs'
/-- Without any of them something differs. -/
theorem least_law {a b : Nd} (h : canB a b = true) (k : Nat) (hk : k < (diffL a b).length) : ∃ c, setL a ((diffL a b).take k ++ (diffL a b).drop (k + 1)) = some c ∧ c.kids = a.kids ∧ c.ints.length = a.ints.length ∧ c.texts.length = a.texts.length ∧ ownB c b = false := by
  have hmem : ∀ s ∈ (diffL a b).take k ++ (diffL a b).drop (k + 1), s ∈ diffL a b := by
    intro s hs
    rcases List.mem_append.1 hs with hs | hs
    · exact List.mem_of_mem_take hs
    · exact List.mem_of_mem_drop hs
  obtain ⟨c, hc, h1, h2, h3, h4, h5, h6⟩ := setL_ok _ a fun s hs => diffL_ok h s (hmem s hs)
  refine ⟨c, hc, h2, h3, h4, ?_⟩
  have hne : ∀ s ∈ (diffL a b).take k ++ (diffL a b).drop (k + 1), keyS s ≠ keyS (diffL a b)[k] := by
    intro s hs e
    have hp := List.pairwise_iff_getElem.1 (diffL_pair a b)
    rcases List.mem_append.1 hs with hs | hs
    · obtain ⟨i, hi, rfl⟩ := List.getElem_of_mem hs
      rw [List.length_take] at hi
      rw [List.getElem_take] at e
      exact hp i k (by omega) hk (by omega) e
    · obtain ⟨i, hi, rfl⟩ := List.getElem_of_mem hs
      rw [List.length_drop] at hi
      rw [List.getElem_drop] at e
      exact hp k (k + 1 + i) hk (by omega) (by omega) e.symm
  have hs := List.getElem_mem hk
  rw [ownB, decide_eq_false_iff_not]
  rintro ⟨-, hi, ht⟩
  generalize hS : (diffL a b)[k] = S at hs hne
  rw [diffL, if_pos h, List.mem_append] at hs
  rcases hs with hs | hs
  · obtain ⟨g1, -, j, g3, g4, -, g6⟩ := dI_mem hs
    apply g6
    have := h5 j fun s hs e1 e2 => hne s hs (by simp [keyS, e1, e2, g1, g3])
    rw [List.getD_eq_getElem?_getD, List.getD_eq_getElem?_getD, ← this, hi]
  · obtain ⟨g1, -, j, g3, g4, -, g6⟩ := dT_mem hs
    apply g6
    have := h6 j fun s hs e1 e2 => hne s hs (by simp [keyS, e1, e2, g1, g3])
    rw [List.getD_eq_getElem?_getD, List.getD_eq_getElem?_getD, ← this, ht]

/-! ### The walk -/
theorem Cells.take {w : World} {A : Option Addr} {cs : List Value} (h : Cells w A cs) (m : Nat) : Cells w A (cs.take m) := by
  rcases h with rfl | ⟨ad, rfl, h⟩
  · exact .inl (by simp)
  · exact .inr ⟨ad, rfl, fun j u hj => h j u (by rw [List.getElem?_take] at hj; split at hj <;> first | exact hj | cases hj)⟩
theorem Cells.drop {w : World} {b o : Nat} {cs : List Value} (h : Cells w (some ⟨b, o, none⟩) cs) (m : Nat) : Cells w (some ⟨b, o + m, none⟩) (cs.drop m) := by
  rcases h with rfl | ⟨ad, e, h⟩
  · exact .inl (by simp)
  · cases e
    refine .inr ⟨_, rfl, fun j u hj => ?_⟩
    rw [List.getElem?_drop] at hj
    have := h _ u hj
    rw [Addr.add_lit] at this ⊢
    rwa [← Nat.add_assoc] at this
theorem Row.cells {w : World} {base size g n c : Nat} {e : TypeId} {xs : List Value} (h : Row w base e size (.slice (some ⟨g, 0, none⟩) n c) xs) : Cells w (some ⟨g, 0, none⟩) xs := by
  refine .inr ⟨_, rfl, fun j u hj => ?_⟩
  obtain ⟨hlt, rfl⟩ := List.getElem?_eq_some_iff.1 hj
  obtain ⟨g', n', c', e1, -, hc, -⟩ := h.cell j hlt
  cases e1
  rw [Addr.add_lit, Nat.zero_add]
  exact hc
theorem wrap_id {x : Int} (h1 : -9223372036854775808 ≤ x) (h2 : x ≤ 9223372036854775807) : IntKind.i64.wrap x = x := by
  rw [IntKind.wrap_i64]
  omega
theorem flat_take (l : List St) : ∀ k, sets (l.take k) = (sets l).take (k * 4) := by
  intro k
  induction l generalizing k with
  | nil => simp [sets]
  | cons a l ih =>
    cases k with
    | zero => simp [sets]
    | succ k =>
      show encSt a ++ sets (l.take k) = (encSt a ++ sets l).take ((k + 1) * 4)
      rw [ih, show (k + 1) * 4 = (encSt a).length + k * 4 from by simp [encSt]; omega, List.take_length_add_append]
theorem flat_drop (l : List St) : ∀ k, sets (l.drop k) = (sets l).drop (k * 4) := by
  intro k
  induction l generalizing k with
  | nil => simp [sets]
  | cons a l ih =>
    cases k with
    | zero => simp [sets]
    | succ k =>
      show sets (l.drop k) = (encSt a ++ sets l).drop ((k + 1) * 4)
      rw [ih, show (k + 1) * 4 = (encSt a).length + k * 4 from by simp [encSt]; omega, List.drop_length_add_append]
theorem Turn.kept {base g : Nat} {t t' : TypeId} {u u' : World} {cs : Array Value} (h : Turn base t u u') (hg : u.heap[g]? = some (.cells cs t' (0, 0))) (ht : t' ≠ t) : u'.heap[g]? = some (.cells cs t' (0, 0)) := by
  rcases h.2 g (blk_lt hg) with e | ⟨-, c2, h2⟩
  · rw [e, hg]
  · rw [hg] at h2
    injection h2 with h2
    injection h2 with _ h2
    exact absurd h2 ht
theorem Cells.turn {u u' : World} {base g o : Nat} {t : TypeId} {cs : List Value} (h : Cells u (some ⟨g, o, none⟩) cs) (hg : Turn base t u u') (hlt : g < base) : Cells u' (some ⟨g, o, none⟩) cs := by
  rcases h with h | ⟨ad, e, h⟩
  · exact .inl h
  · cases e
    refine .inr ⟨_, rfl, fun j v hj => ?_⟩
    have h1 := h j v hj
    rw [Addr.add_lit] at h1 ⊢
    have hl : g < u.heap.size := World.block_lt_of_cell? _ _ h1
    rcases hg.2 g hl with e | ⟨h2, -⟩
    · rw [World.cell?, e]
      exact h1
    · omega
theorem Row.turn {u u' : World} {base base' size : Nat} {e t : TypeId} {v : Value} {xs : List Value} (h : Row u base' e size v xs) (hg : Turn base t u u') (he : e ≠ t) : Row u' base' e size v xs :=
  h.of_same fun g hb => by
    obtain ⟨_, _, c1, h1⟩ := h.typed g hb
    rw [h1, hg.kept h1 he]
theorem OwnNd.turn {u u' : World} {base base' : Nat} {t : TypeId} {m : Nd} {vi vt vk : Value} (h : OwnNd u base' m vi vt vk) (hg : Turn base t u u') (h1 : 2 ≠ t) (h2 : 9 ≠ t) (h3 : 3 ≠ t) : OwnNd u' base' m vi vt vk :=
  ⟨h.1.turn hg h1, h.2.1.turn hg h2, h.2.2.turn hg h3⟩
theorem Stays.any (q : Value → Prop) : Stays fun v _ => q v := fun _ _ _ _ h => h
theorem Firm.any {base : Nat} {t : TypeId} (q : Value → Prop) : Firm base t fun v _ => q v := fun _ _ _ _ h => h
theorem Turn.of_sets {base g : Nat} {t : TypeId} {u : World} {cs : Array Value} (hg : u.heap[g]? = some (.cells cs t (0, 0))) (hb : base ≤ g) (o1 o2 o3 o4 : Nat) (u1 u2 u3 u4 : Value) :
    Turn base t u ((((u.setCell ⟨g, o1, none⟩ u1).setCell ⟨g, o2, none⟩ u2).setCell ⟨g, o3, none⟩ u3).setCell ⟨g, o4, none⟩ u4) := by
  refine ⟨by simp [World.setCell], fun b hb' => ?_⟩
  by_cases e : b = g
  · subst e
    exact .inr ⟨hb, cs, hg⟩
  · left
    rw [Below.heap_setCell _ _ _ b e, Below.heap_setCell _ _ _ b e, Below.heap_setCell _ _ _ b e, Below.heap_setCell _ _ _ b e]

set_option maxRecDepth 100000 in
set_option maxHeartbeats 4000000 in
theorem least_any (a b : Nd) (i : Int) (ai at' ak bi bt bk : Value) (w : World) (ha : NdV Any w a ai at' ak) (hb : NdV Any w b bi bt bk) (hi : I64 i) (hT : Lib.Utf8Tabs 0 1 w) :
    Calls Tryd.prog 3 #[.agg #[.int .i64 a.kind, ai, at', ak], .agg #[.int .i64 b.kind, bi, bt, bk], .int .i64 i] w fun e w' => e = .returned (.bool true) ∧ Below w.heap.size w w' := by
  obtain ⟨W, hW, hbx, hby, hbW⟩ := two_boxes w #[.int .i64 a.kind, ai, at', ak] #[.int .i64 b.kind, bi, bt, bk] 26 26
  go_enter Tryd.func3, Tryd.ntmps3
  go_wp2_with fail
  rw [← hW]
  clear hW
  refine (awake8_any _ (Utf8Tabs_below hT hbW)).mono ?_
  rintro x w1 ⟨rfl, hb1⟩
  have a1 := blk_cell (blk_later hb1 hbx)
  have b1 := blk_cell (blk_later hb1 hby)
  have hB1 := below2 hbW hb1
  go_wp2_with fail
  refine (great8_any a _ _ _ _ (ha.later hB1)).mono ?_
  rintro x w2 ⟨rfl, hb2⟩
  have a2 := blk_cell (blk_later (below2 hb1 hb2) hbx)
  have b2 := blk_cell (blk_later (below2 hb1 hb2) hby)
  have hB2 := below2 hB1 hb2
  clear a1 b1
  cases hga : greatN a with
  | true =>
    go_wp2_with fail
    refine (awake8_any _ (Utf8Tabs_below hT hB2)).mono ?_
    rintro x w3 ⟨rfl, hb3⟩
    go_wp2
    go_ret
    exact ⟨rfl, below2 hB2 hb3⟩
  | false =>
    go_wp2_with fail
    refine (great8_any b _ _ _ _ (hb.later hB2)).mono ?_
    rintro x w3 ⟨rfl, hb3⟩
    have a3 := blk_cell (blk_later (below2 (below2 hb1 hb2) hb3) hbx)
    have b3 := blk_cell (blk_later (below2 (below2 hb1 hb2) hb3) hby)
    have hB3 := below2 hB2 hb3
    clear a2 b2
    cases hgb : greatN b with
    | true =>
      go_wp2_with fail
      refine (awake8_any _ (Utf8Tabs_below hT hB3)).mono ?_
      rintro x w3 ⟨rfl, hb3⟩
      go_wp2
      go_ret
      exact ⟨rfl, below2 hB3 hb3⟩
    | false =>
      have hsb : b.ints.length + b.texts.length ≤ 1000000000 := by
        simp only [greatN, decide_eq_false_iff_not] at hgb
        omega
      go_wp2_with fail
      refine (diff_any a b _ _ _ _ _ _ _ (ha.later hB3) (hb.later hB3) hsb).mono ?_
      rintro x w4 ⟨A, c, rfl, hr4, hb4⟩
      have a4 := blk_cell (blk_later (below2 (below2 (below2 hb1 hb2) hb3) hb4) hbx)
      have b4 := blk_cell (blk_later (below2 (below2 (below2 hb1 hb2) hb3) hb4) hby)
      have hB4 := below2 hB3 hb4
      clear a3 b3
      cases hcan : canB a b with
      | false =>
        clear hr4
        go_wp2
        go_ret
        exact ⟨rfl, hB4⟩
      | true =>
        by_cases h0 : i < 0
        · go_wp2
          go_ret
          exact ⟨rfl, hB4⟩
        by_cases h1 : ((diffL a b).length : Int) ≤ i
        · go_wp2
          go_ret
          exact ⟨rfl, hB4⟩
        obtain ⟨k, rfl⟩ := Int.eq_ofNat_of_zero_le (show 0 ≤ i by omega)
        have hk : k < (diffL a b).length := by omega
        go_wp2
        obtain ⟨cc, hset, hck, hci, hct, hown⟩ := least_law hcan k hk
        obtain ⟨g, n', c', hge, hgb, -, -⟩ := hr4.cell 0 (by rw [sets_length]; omega)
        injection hge with hA hn hc
        subst hA
        clear hn hc hgb
        obtain ⟨A', n'', c'', hf, -, hnc, hmax⟩ := hr4.form
        cases hf
        have hcl := hr4.cells
        have hmax' : c ≤ 9223372036854775807 := hmax
        have hkc : k ≤ c := by omega
        have hll : (diffL a b).length ≤ 1000000000 := by
          have h1 := dI_length a.ints b.ints b.ints.length
          have h2 := dT_length a.texts b.texts b.texts.length
          rw [diffL, if_pos hcan, List.length_append]
          omega
        have hgw : g < w4.heap.size := by
          obtain ⟨c2, h2⟩ : ∃ c2, w4.cell? ⟨g, 0, none⟩ = some c2 := by
            obtain ⟨g', _, _, e, -, h, -⟩ := hr4.cell 0 (by rw [sets_length]; omega)
            cases e
            exact ⟨_, h⟩
          exact World.block_lt_of_cell? _ _ h2
        have hrange := diffL_range (a := a) hb hsb
        have hsub : ∀ s ∈ (diffL a b).take k ++ (diffL a b).drop (k + 1), s ∈ diffL a b := fun s hs => (List.mem_append.1 hs).elim List.mem_of_mem_take List.mem_of_mem_drop
        have hccR : NdR cc := setL_range _ _ _ hset ha.range fun s hs => ⟨(hrange s (hsub s hs)).2.1, (hrange s (hsub s hs)).2.2⟩
        replace hck := Lib.hid hck
        replace hci := Lib.hid hci
        replace hct := Lib.hid hct
        replace hown := Lib.hid hown
        generalize hl : diffL a b = l at *
        clear hl
        refine' rel_region ([(5, 10), (9, 10), (15, 16)]) 17 (fun x => { tmps := #[Value.agg #[Value.int IntKind.i64 a.kind, ai, at', ak], Value.agg #[Value.int IntKind.i64 b.kind, bi, bt, bk], Value.int IntKind.i64 ↑k, Value.pointer (some { block := w.heap.size, off := 0 }), Value.pointer (some { block := w.heap.size + 1, off := 0 }), undef, Value.bool false, Value.slice (some { block := g, off := 0 }) l.length c, Value.bool true, x 15, undef, Value.bool true, Value.bool false, Value.bool false, Value.agg #[Value.int IntKind.i64 a.kind, ai, at', ak], Value.bool false, Value.bool false, Value.bool false, Value.agg #[Value.int IntKind.i64 b.kind, bi, bt, bk], Value.bool false, Value.bool false, undef, Value.tuple #[Value.slice (some { block := g, off := 0 }) l.length c, Value.bool true], Value.agg #[Value.int IntKind.i64 a.kind, ai, at', ak], Value.agg #[Value.int IntKind.i64 b.kind, bi, bt, bk], Value.tuple #[Value.slice (some { block := g, off := 0 }) l.length c, Value.bool true], Value.slice (some { block := g, off := 0 }) l.length c, Value.bool true, Value.bool true, Value.bool false, Value.bool false, Value.int IntKind.i64 ↑k, Value.bool (decide (↑k < 0)), Value.bool (decide (↑k < 0)), Value.bool (decide (↑k < 0)), Value.int IntKind.i64 ↑k, Value.slice (some { block := g, off := 0 }) l.length c, Value.int IntKind.i64 ↑l.length, Value.bool (decide (l.length ≤ k)), Value.bool (decide (↑k < 0) || decide (l.length ≤ k)), x 12, x 0, x 1, x 2, x 3, x 4, x 5, x 6, x 7, x 8, x 9, x 10, x 11, x 13, x 14, undef, undef, undef, undef, undef, undef, undef, undef], defers := [] }) (fun k => [undef, undef, undef, undef, undef, undef, undef, undef, undef, undef, undef, undef, undef, undef, undef, undef, undef].getD k undef) [plain 0 (fun v _ => v = Value.agg #[Value.int IntKind.i64 a.kind, ai, at', ak]), plain 1 (fun v _ => ∃ A, v = .slice A 0 0), plain 2 (fun v _ => v = Value.slice (some { block := g, off := 0 }) l.length c), plain 3 (fun v _ => v = Value.int IntKind.i64 ↑k), plain 4 (fun v _ => v = Value.slice (some { block := g, off := 0 }) k c), plain 5 (fun v u => ∃ A1 c1, v = .slice A1 k c1 ∧ Row u w4.heap.size 114 4 (.slice A1 k c1) (sets (l.take k))), plain 6 (fun v _ => v = Value.slice (some { block := g, off := 0 }) l.length c), plain 7 (fun v _ => v = Value.int IntKind.i64 ↑k), plain 8 (fun v _ => v = Value.int IntKind.i64 (IntKind.i64.wrap (↑k + 1))), plain 9 (fun v u => ∃ o c1, v = .slice (some ⟨g, o, none⟩) (l.length - (k + 1)) c1 ∧ Cells u (some ⟨g, o, none⟩) (sets (l.drop (k + 1)))), plain 10 (fun v u => ∃ A1 c1, v = .slice A1 (l.length - 1) c1 ∧ Row u w4.heap.size 114 4 (.slice A1 (l.length - 1) c1) (sets (l.take k ++ l.drop (k + 1)))), plain 11 (fun v u => ∃ v1 v2 v3, v = .tuple #[.agg #[.int .i64 cc.kind, v1, v2, v3], .int .i64 0] ∧ OwnNd u w4.heap.size cc v1 v2 v3), plain 12 (fun v u => ∃ v1 v2 v3, v = .tuple #[.agg #[.int .i64 cc.kind, v1, v2, v3], .int .i64 0] ∧ OwnNd u w4.heap.size cc v1 v2 v3), plain 13 (fun v u => ∃ v1 v2 v3, v = .agg #[.int .i64 cc.kind, v1, v2, v3] ∧ OwnNd u w4.heap.size cc v1 v2 v3), plain 14 (fun v _ => v = .int .i64 0), plain 15 (fun v u => ∃ g, v = .pointer (some ⟨g, 0, none⟩) ∧ w4.heap.size ≤ g ∧ u.heap[g]? = some (.cells #[.int .i64 0, .slice none 0 0, .slice none 0 0, .slice none 0 0] 26 (0, 0))), (fun x u => ∃ g v1 v2 v3, x 15 = .pointer (some ⟨g, 0, none⟩) ∧ w4.heap.size ≤ g ∧ u.heap[g]? = some (.cells #[.int .i64 cc.kind, v1, v2, v3] 26 (0, 0)) ∧ OwnNd u w4.heap.size cc v1 v2 v3)] (by kernel_rfl) (by decide +kernel) (by decide +kernel) rfl ?_ ?_ ?_
        refine And.intro (fun k hj _ => Stays.x (Stays.eq _) 0 hj) ?_
        refine And.intro (fun k hj _ => Stays.x (?_ : Stays _) 1 hj) ?_
        rotate_left
        refine And.intro (fun k hj _ => Stays.x (Stays.eq _) 2 hj) ?_
        refine And.intro (fun k hj _ => Stays.x (Stays.eq _) 3 hj) ?_
        refine And.intro (fun k hj _ => Stays.x (Stays.eq _) 4 hj) ?_
        refine And.intro (fun k hj _ => Stays.x (?_ : Stays _) 5 hj) ?_
        rotate_left
        refine And.intro (fun k hj _ => Stays.x (Stays.eq _) 6 hj) ?_
        refine And.intro (fun k hj _ => Stays.x (Stays.eq _) 7 hj) ?_
        refine And.intro (fun k hj _ => Stays.x (Stays.eq _) 8 hj) ?_
        refine And.intro (fun k hj _ => Stays.x (?_ : Stays _) 9 hj) ?_
        rotate_left
        refine And.intro (fun k hj _ => Stays.x (?_ : Stays _) 10 hj) ?_
        rotate_left
        refine And.intro (fun k hj _ => Stays.x (?_ : Stays _) 11 hj) ?_
        rotate_left
        refine And.intro (fun k hj _ => Stays.x (?_ : Stays _) 12 hj) ?_
        rotate_left
        refine And.intro (fun k hj _ => Stays.x (?_ : Stays _) 13 hj) ?_
        rotate_left
        refine And.intro (fun k hj _ => Stays.x (Stays.eq _) 14 hj) ?_
        refine And.intro (fun k hj _ => Stays.x (?_ : Stays _) 15 hj) ?_
        rotate_left
        refine And.intro ?_ ?_
        rotate_left
        exact trivial
        intro hst
        refine' And.intro ?_ ?_
        · refine' rOp_run _ _ (Value.agg #[Value.int IntKind.i64 a.kind, ai, at', ak]) hst (fun _ _ => rfl) (fun x u hC hd => ?_) (fun _ _ => upd_eq (v := Value.agg #[Value.int IntKind.i64 a.kind, ai, at', ak]))
          refine' And.intro ?_ ?_
          · rfl
          · have hcu := (fun u (hC : Below w4.heap.size w4 u) => (⟨blk_cell (blk_later (below2 (below2 (below2 (below2 hb1 hb2) hb3) hb4) hC) hbx), trivial⟩ : (∀ i, u.cell? ⟨w.heap.size, i, none⟩ = _) ∧ True)) u hC
            clear hd hC
            first | (go_simp; done) | (go_simp; rfl) | rfl
        refine' And.intro ?_ ?_
        refine' rOp_new _ _ hst (fun _ _ => rfl) (fun x u hC hd => ?_)
        refine' And.intro ?_ ?_
        · rfl
        have hcu := (fun u (hC : Below w4.heap.size w4 u) => (⟨blk_cell (blk_later (below2 (below2 (below2 (below2 hb1 hb2) hb3) hb4) hC) hbx), trivial⟩ : (∀ i, u.cell? ⟨w.heap.size, i, none⟩ = _) ∧ True)) u hC
        clear hd
        show ∃ v u', Sem.run _ _ _ = Result.ok (Next.value v) u' ∧ (∃ A, v = Value.slice A 0 0) ∧ Below u.heap.size u u'
        rotate_left
        refine' And.intro ?_ ?_
        · refine' rOp_run _ _ (Value.slice (some { block := g, off := 0 }) l.length c) hst (fun _ _ => rfl) (fun x u hC hd => ?_) (fun _ _ => upd_eq (v := Value.slice (some { block := g, off := 0 }) l.length c))
          refine' And.intro ?_ ?_
          · rfl
          · have hcu := (fun u (hC : Below w4.heap.size w4 u) => (⟨blk_cell (blk_later (below2 (below2 (below2 (below2 hb1 hb2) hb3) hb4) hC) hbx), trivial⟩ : (∀ i, u.cell? ⟨w.heap.size, i, none⟩ = _) ∧ True)) u hC
            clear hd hC
            first | (go_simp; done) | (go_simp; rfl) | rfl
        refine' And.intro ?_ ?_
        · refine' rOp_run _ _ (Value.int IntKind.i64 ↑k) hst (fun _ _ => rfl) (fun x u hC hd => ?_) (fun _ _ => upd_eq (v := Value.int IntKind.i64 ↑k))
          refine' And.intro ?_ ?_
          · rfl
          · have hcu := (fun u (hC : Below w4.heap.size w4 u) => (⟨blk_cell (blk_later (below2 (below2 (below2 (below2 hb1 hb2) hb3) hb4) hC) hbx), trivial⟩ : (∀ i, u.cell? ⟨w.heap.size, i, none⟩ = _) ∧ True)) u hC
            clear hd hC
            first | (go_simp; done) | (go_simp; rfl) | rfl
        refine' And.intro ?_ ?_
        · refine' rOp_run _ _ (Value.slice (some { block := g, off := 0 }) k c) hst (fun _ _ => rfl) (fun x u hC hd => ?_) (fun _ _ => upd_eq (v := Value.slice (some { block := g, off := 0 }) k c))
          refine' And.intro ?_ ?_
          · rfl
          · have d2 : x 2 = Value.slice (some { block := g, off := 0 }) l.length c := at_edge hd 0 (by decide) rfl
            have d3 : x 3 = Value.int IntKind.i64 ↑k := at_edge hd 1 (by decide) rfl
            have hcu := (fun u (hC : Below w4.heap.size w4 u) => (⟨blk_cell (blk_later (below2 (below2 (below2 (below2 hb1 hb2) hb3) hb4) hC) hbx), trivial⟩ : (∀ i, u.cell? ⟨w.heap.size, i, none⟩ = _) ∧ True)) u hC
            clear hd hC
            first | (go_simp; done) | (go_simp; rfl) | rfl
        refine' And.intro ?_ ?_
        rotate_left
        refine' And.intro ?_ ?_
        · refine' rOp_run _ _ (Value.slice (some { block := g, off := 0 }) l.length c) hst (fun _ _ => rfl) (fun x u hC hd => ?_) (fun _ _ => upd_eq (v := Value.slice (some { block := g, off := 0 }) l.length c))
          refine' And.intro ?_ ?_
          · rfl
          · have hcu := (fun u (hC : Below w4.heap.size w4 u) => (⟨blk_cell (blk_later (below2 (below2 (below2 (below2 hb1 hb2) hb3) hb4) hC) hbx), trivial⟩ : (∀ i, u.cell? ⟨w.heap.size, i, none⟩ = _) ∧ True)) u hC
            clear hd hC
            first | (go_simp; done) | (go_simp; rfl) | rfl
        refine' And.intro ?_ ?_
        · refine' rOp_run _ _ (Value.int IntKind.i64 ↑k) hst (fun _ _ => rfl) (fun x u hC hd => ?_) (fun _ _ => upd_eq (v := Value.int IntKind.i64 ↑k))
          refine' And.intro ?_ ?_
          · rfl
          · have hcu := (fun u (hC : Below w4.heap.size w4 u) => (⟨blk_cell (blk_later (below2 (below2 (below2 (below2 hb1 hb2) hb3) hb4) hC) hbx), trivial⟩ : (∀ i, u.cell? ⟨w.heap.size, i, none⟩ = _) ∧ True)) u hC
            clear hd hC
            first | (go_simp; done) | (go_simp; rfl) | rfl
        refine' And.intro ?_ ?_
        · refine' rOp_run _ _ (Value.int IntKind.i64 (IntKind.i64.wrap (↑k + 1))) hst (fun _ _ => rfl) (fun x u hC hd => ?_) (fun _ _ => upd_eq (v := Value.int IntKind.i64 (IntKind.i64.wrap (↑k + 1))))
          refine' And.intro ?_ ?_
          · rfl
          · have d7 : x 7 = Value.int IntKind.i64 ↑k := at_edge hd 0 (by decide) rfl
            have hcu := (fun u (hC : Below w4.heap.size w4 u) => (⟨blk_cell (blk_later (below2 (below2 (below2 (below2 hb1 hb2) hb3) hb4) hC) hbx), trivial⟩ : (∀ i, u.cell? ⟨w.heap.size, i, none⟩ = _) ∧ True)) u hC
            clear hd hC
            first | (go_simp; done) | (go_simp; rfl) | rfl
        refine' And.intro ?_ ?_
        refine' rOp_new _ _ hst (fun _ _ => rfl) (fun x u hC hd => ?_)
        refine' And.intro ?_ ?_
        · rfl
        have d6 : x 6 = Value.slice (some { block := g, off := 0 }) l.length c := at_edge hd 0 (by decide) rfl
        have d8 : x 8 = Value.int IntKind.i64 (IntKind.i64.wrap (↑k + 1)) := at_edge hd 1 (by decide) rfl
        have hcu := (fun u (hC : Below w4.heap.size w4 u) => (⟨blk_cell (blk_later (below2 (below2 (below2 (below2 hb1 hb2) hb3) hb4) hC) hbx), trivial⟩ : (∀ i, u.cell? ⟨w.heap.size, i, none⟩ = _) ∧ True)) u hC
        clear hd
        show ∃ v u', Sem.run _ _ _ = Result.ok (Next.value v) u' ∧ (∃ o c1, v = Value.slice (some { block := g, off := o }) (l.length - (k + 1)) c1 ∧ Cells u' (some { block := g, off := o }) (sets (List.drop (k + 1) l))) ∧ Below u.heap.size u u'
        rotate_left
        refine' And.intro ?_ ?_
        rotate_left
        refine' And.intro ?_ ?_
        refine' rOp_call _ _ hst (fun _ _ => rfl) (fun x u hC hd => ?_)
        refine' And.intro ?_ ?_
        · rfl
        have d0 : x 0 = Value.agg #[Value.int IntKind.i64 a.kind, ai, at', ak] := at_edge hd 0 (by decide) rfl
        have d10 : ∃ A1 c1, x 10 = Value.slice A1 (l.length - 1) c1 ∧ Row u w4.heap.size 114 4 (Value.slice A1 (l.length - 1) c1) (sets (List.take k l ++ List.drop (k + 1) l)) := at_edge hd 1 (by decide) rfl
        have hcu := (fun u (hC : Below w4.heap.size w4 u) => (⟨blk_cell (blk_later (below2 (below2 (below2 (below2 hb1 hb2) hb3) hb4) hC) hbx), trivial⟩ : (∀ i, u.cell? ⟨w.heap.size, i, none⟩ = _) ∧ True)) u hC
        clear hd
        refine' Exists.intro (28) (Exists.intro (#[Value.agg #[Value.int IntKind.i64 a.kind, ai, at', ak], x 10]) (And.intro ?_ ?_))
        · first | (go_simp; done) | (go_simp; exact ⟨rfl, rfl⟩) | (go_simp; rfl)
        show Calls _ _ _ _ (fun e u' => ∃ v, e = Ending.returned v ∧ (∃ v1 v2 v3, v = Value.tuple #[Value.agg #[Value.int IntKind.i64 cc.kind, v1, v2, v3], Value.int IntKind.i64 0] ∧ OwnNd u' w4.heap.size cc v1 v2 v3) ∧ Below u.heap.size u u')
        rotate_left
        refine' And.intro ?_ ?_
        refine' rOp_new _ _ hst (fun _ _ => rfl) (fun x u hC hd => ?_)
        refine' And.intro ?_ ?_
        · rfl
        have d11 : ∃ v1 v2 v3, x 11 = Value.tuple #[Value.agg #[Value.int IntKind.i64 cc.kind, v1, v2, v3], Value.int IntKind.i64 0] ∧ OwnNd u w4.heap.size cc v1 v2 v3 := at_edge hd 0 (by decide) rfl
        have hcu := (fun u (hC : Below w4.heap.size w4 u) => (⟨blk_cell (blk_later (below2 (below2 (below2 (below2 hb1 hb2) hb3) hb4) hC) hbx), trivial⟩ : (∀ i, u.cell? ⟨w.heap.size, i, none⟩ = _) ∧ True)) u hC
        clear hd
        show ∃ v u', Sem.run _ _ _ = Result.ok (Next.value v) u' ∧ (∃ v1 v2 v3, v = Value.tuple #[Value.agg #[Value.int IntKind.i64 cc.kind, v1, v2, v3], Value.int IntKind.i64 0] ∧ OwnNd u' w4.heap.size cc v1 v2 v3) ∧ Below u.heap.size u u'
        rotate_left
        refine' And.intro ?_ ?_
        refine' rOp_new _ _ hst (fun _ _ => rfl) (fun x u hC hd => ?_)
        refine' And.intro ?_ ?_
        · rfl
        have d12 : ∃ v1 v2 v3, x 12 = Value.tuple #[Value.agg #[Value.int IntKind.i64 cc.kind, v1, v2, v3], Value.int IntKind.i64 0] ∧ OwnNd u w4.heap.size cc v1 v2 v3 := at_edge hd 0 (by decide) rfl
        have hcu := (fun u (hC : Below w4.heap.size w4 u) => (⟨blk_cell (blk_later (below2 (below2 (below2 (below2 hb1 hb2) hb3) hb4) hC) hbx), trivial⟩ : (∀ i, u.cell? ⟨w.heap.size, i, none⟩ = _) ∧ True)) u hC
        clear hd
        show ∃ v u', Sem.run _ _ _ = Result.ok (Next.value v) u' ∧ (∃ v1 v2 v3, v = Value.agg #[Value.int IntKind.i64 cc.kind, v1, v2, v3] ∧ OwnNd u' w4.heap.size cc v1 v2 v3) ∧ Below u.heap.size u u'
        rotate_left
        refine' And.intro ?_ ?_
        refine' rOp_new _ _ hst (fun _ _ => rfl) (fun x u hC hd => ?_)
        refine' And.intro ?_ ?_
        · rfl
        have d12 : ∃ v1 v2 v3, x 12 = Value.tuple #[Value.agg #[Value.int IntKind.i64 cc.kind, v1, v2, v3], Value.int IntKind.i64 0] ∧ OwnNd u w4.heap.size cc v1 v2 v3 := at_edge hd 0 (by decide) rfl
        have hcu := (fun u (hC : Below w4.heap.size w4 u) => (⟨blk_cell (blk_later (below2 (below2 (below2 (below2 hb1 hb2) hb3) hb4) hC) hbx), trivial⟩ : (∀ i, u.cell? ⟨w.heap.size, i, none⟩ = _) ∧ True)) u hC
        clear hd
        show ∃ v u', Sem.run _ _ _ = Result.ok (Next.value v) u' ∧ v = Value.int IntKind.i64 0 ∧ Below u.heap.size u u'
        rotate_left
        refine' And.intro ?_ ?_
        refine' rOp_new _ _ hst (fun _ _ => rfl) (fun x u hC hd => ?_)
        refine' And.intro ?_ ?_
        · rfl
        have hcu := (fun u (hC : Below w4.heap.size w4 u) => (⟨blk_cell (blk_later (below2 (below2 (below2 (below2 hb1 hb2) hb3) hb4) hC) hbx), trivial⟩ : (∀ i, u.cell? ⟨w.heap.size, i, none⟩ = _) ∧ True)) u hC
        clear hd
        show ∃ v u', Sem.run _ _ _ = Result.ok (Next.value v) u' ∧ (∃ g, v = Value.pointer (some { block := g, off := 0 }) ∧ w4.heap.size ≤ g ∧ u'.heap[g]? = some (Obj.cells #[Value.int IntKind.i64 0, Value.slice none 0 0, Value.slice none 0 0, Value.slice none 0 0] 26)) ∧ Below u.heap.size u u'
        rotate_left
        refine' And.intro ?_ ?_
        rotate_left
        exact trivial
        intro x u hC hphi
        have e0 : x 0 = Value.agg #[Value.int IntKind.i64 a.kind, ai, at', ak] := hphi 0 (by decide) (by simp)
        have e1 : ∃ A, x 1 = Value.slice A 0 0 := hphi 1 (by decide) (by simp)
        have e2 : x 2 = Value.slice (some { block := g, off := 0 }) l.length c := hphi 2 (by decide) (by simp)
        have e3 : x 3 = Value.int IntKind.i64 ↑k := hphi 3 (by decide) (by simp)
        have e4 : x 4 = Value.slice (some { block := g, off := 0 }) k c := hphi 4 (by decide) (by simp)
        have e6 : x 6 = Value.slice (some { block := g, off := 0 }) l.length c := hphi 6 (by decide) (by simp)
        have e7 : x 7 = Value.int IntKind.i64 ↑k := hphi 7 (by decide) (by simp)
        have e8 : x 8 = Value.int IntKind.i64 (IntKind.i64.wrap (↑k + 1)) := hphi 8 (by decide) (by simp)
        have e10 : ∃ A1 c1, x 10 = Value.slice A1 (l.length - 1) c1 ∧ Row u w4.heap.size 114 4 (Value.slice A1 (l.length - 1) c1) (sets (List.take k l ++ List.drop (k + 1) l)) := hphi 10 (by decide) (by simp)
        have e11 : ∃ v1 v2 v3, x 11 = Value.tuple #[Value.agg #[Value.int IntKind.i64 cc.kind, v1, v2, v3], Value.int IntKind.i64 0] ∧ OwnNd u w4.heap.size cc v1 v2 v3 := hphi 11 (by decide) (by simp)
        have e12 : ∃ v1 v2 v3, x 12 = Value.tuple #[Value.agg #[Value.int IntKind.i64 cc.kind, v1, v2, v3], Value.int IntKind.i64 0] ∧ OwnNd u w4.heap.size cc v1 v2 v3 := hphi 12 (by decide) (by simp)
        have e13 : ∃ v1 v2 v3, x 13 = Value.agg #[Value.int IntKind.i64 cc.kind, v1, v2, v3] ∧ OwnNd u w4.heap.size cc v1 v2 v3 := hphi 13 (by decide) (by simp)
        have e14 : x 14 = Value.int IntKind.i64 0 := hphi 14 (by decide) (by simp)
        have e16 : ∃ g v1 v2 v3, x 15 = Value.pointer (some { block := g, off := 0 }) ∧ w4.heap.size ≤ g ∧ u.heap[g]? = some (Obj.cells #[Value.int IntKind.i64 cc.kind, v1, v2, v3] 26) ∧ OwnNd u w4.heap.size cc v1 v2 v3 := hphi 16 (by decide) (by simp)
        clear hphi
        rotate_left
        · exact Stays.any _
        · rintro v u u' hb ⟨A1, c1, e, h⟩
          exact ⟨A1, c1, e, h.later hb⟩
        · rintro v u u' hb ⟨A1, c1, e, h⟩
          exact ⟨A1, c1, e, h.later hb⟩
        · rintro v u u' hb ⟨A1, c1, e, h⟩
          exact ⟨A1, c1, e, h.later hb⟩
        · rintro v u u' hb ⟨v1, v2, v3, e, h⟩
          exact ⟨v1, v2, v3, e, h.later hb⟩
        · rintro v u u' hb ⟨v1, v2, v3, e, h⟩
          exact ⟨v1, v2, v3, e, h.later hb⟩
        · rintro v u u' hb ⟨v1, v2, v3, e, h⟩
          exact ⟨v1, v2, v3, e, h.later hb⟩
        · rintro v u u' hb ⟨g, e, hg, h⟩
          exact ⟨g, e, hg, blk_later hb h⟩
        · rintro q hq hkq x v u u' hb ⟨g, v1, v2, v3, e, hg, h, ho⟩
          have h15 : 15 ≠ q := by
            rintro rfl
            exact Bool.noConfusion (hkq.symm.trans (by kernel_rfl : _ = false))
          exact ⟨g, v1, v2, v3, by rw [upd_ne h15]; exact e, hg, blk_later hb h, ho.later hb⟩
        · exact ⟨.slice (some ⟨u.heap.size, 0, none⟩) 0 0, u.alloc (.cells #[] 114), by go_simp, ⟨_, rfl⟩, below_alloc' (Below.refl _ _) _⟩
        · refine rOp_append _ _ 29 114 _ _ _ (.tmp 42) (.tmp 45) rfl Tryd.underlying29 info_set rfl (by decide) (fun _ _ => rfl) ?_ fun x u hC hd => ⟨rfl, ?_⟩
          · (refine firm_all ?_; repeat (first | exact trivial | refine And.intro (fun hj _ => Firm.x (Firm.eq _) _ hj) ?_ | refine And.intro (fun hj _ => absurd rfl hj) ?_ | refine And.intro (fun _ h => Bool.noConfusion (h.symm.trans (by decide +kernel : _ = false))) ?_ | (refine And.intro (fun hj _ => Firm.x (?_ : Firm _ _ _) _ hj) ?_; rotate_left) | (refine And.intro (fun hj hk => ?_) ?_; rotate_left)))
            · exact Firm.any _
            · rintro v u u' hb ⟨o, c1, e, h⟩
              exact ⟨o, c1, e, h.turn hb hgw⟩
            · rintro v u u' hb ⟨v1, v2, v3, e, h⟩
              exact ⟨v1, v2, v3, e, h.turn hb (by decide) (by decide) (by decide)⟩
            · rintro v u u' hb ⟨v1, v2, v3, e, h⟩
              exact ⟨v1, v2, v3, e, h.turn hb (by decide) (by decide) (by decide)⟩
            · rintro v u u' hb ⟨v1, v2, v3, e, h⟩
              exact ⟨v1, v2, v3, e, h.turn hb (by decide) (by decide) (by decide)⟩
            · rintro v u u' hb ⟨g, e, hg, h⟩
              exact ⟨g, e, hg, hb.kept h (by decide)⟩
          · obtain ⟨A0, d1⟩ : ∃ A, x 1 = .slice A 0 0 := hd ⟨1, .data⟩ (by simp) rfl
            have d4 : x 4 = .slice (some ⟨g, 0, none⟩) k c := hd ⟨4, .data⟩ (by simp) rfl
            refine ⟨A0, 0, 0, [], some ⟨g, 0, none⟩, c, k, sets (l.take k), d1, Row.empty _ _ _ _ _, d4, ?_, sets_one _, by rw [sets_length, List.length_take]; omega, by omega, by omega, fun A1 c1 u' hr => ?_⟩
            · have := (hcl.later hC).take (k * 4)
              rw [← flat_take] at this
              exact this
            · rw [Nat.zero_add, List.nil_append] at hr
              exact ⟨A1, c1, by show Value.slice A1 (0 + k) c1 = _; rw [Nat.zero_add], hr⟩
        · have h1 : ((k : Int) + 1).toNat = k + 1 := by omega
          have hk1 : k + 1 ≤ l.length := hk
          have hk2 : k + 1 ≤ c := by omega
          have d8' : x 8 = .int .i64 ((k : Int) + 1) := by rw [d8]; congr 1; exact wrap_id (by omega) (by omega)
          clear d8
          have g1 : (0 : Int) ≤ (k : Int) + 1 := by omega
          have g2 : (k : Int) + 1 ≤ (l.length : Int) := by omega
          have hcu := (hcl.later hC).drop ((k + 1) * 4)
          rw [← flat_drop] at hcu
          by_cases hcap : c = k + 1
          · subst hcap
            refine ⟨_, u, by go_simp; rfl, ⟨0, 0, ?_, ?_⟩, Below.refl _ _⟩
            · rw [show l.length - (k + 1) = 0 from by omega]
            · rw [List.drop_of_length_le (by omega)]
              exact .inl rfl
          · refine ⟨_, u, by go_simp; rfl, ⟨0 + (k + 1) * 4, c - (k + 1), ?_, hcu⟩, Below.refl _ _⟩
            rw [Nat.zero_add]
        · refine rOp_append _ _ 29 114 _ _ _ (.tmp 46) (.tmp 50) rfl Tryd.underlying29 info_set rfl (by decide) (fun _ _ => rfl) ?_ fun x u hC hd => ⟨rfl, ?_⟩
          · (refine firm_all ?_; repeat (first | exact trivial | refine And.intro (fun hj _ => Firm.x (Firm.eq _) _ hj) ?_ | refine And.intro (fun hj _ => absurd rfl hj) ?_ | refine And.intro (fun _ h => Bool.noConfusion (h.symm.trans (by decide +kernel : _ = false))) ?_ | (refine And.intro (fun hj _ => Firm.x (?_ : Firm _ _ _) _ hj) ?_; rotate_left) | (refine And.intro (fun hj hk => ?_) ?_; rotate_left)))
            · exact Firm.any _
            · rintro v u u' hb ⟨v1, v2, v3, e, h⟩
              exact ⟨v1, v2, v3, e, h.turn hb (by decide) (by decide) (by decide)⟩
            · rintro v u u' hb ⟨v1, v2, v3, e, h⟩
              exact ⟨v1, v2, v3, e, h.turn hb (by decide) (by decide) (by decide)⟩
            · rintro v u u' hb ⟨g, e, hg, h⟩
              exact ⟨g, e, hg, hb.kept h (by decide)⟩
          · obtain ⟨A0, c0, d5, hr⟩ : ∃ A1 c1, x 5 = .slice A1 k c1 ∧ Row u w4.heap.size 114 4 (.slice A1 k c1) (sets (l.take k)) := hd ⟨5, .data⟩ (by simp) rfl
            obtain ⟨o2, c2, d9, hcs⟩ : ∃ o c1, x 9 = .slice (some ⟨g, o, none⟩) (l.length - (k + 1)) c1 ∧ Cells u (some ⟨g, o, none⟩) (sets (l.drop (k + 1))) := hd ⟨9, .data⟩ (by simp) rfl
            refine ⟨A0, c0, k, _, _, c2, l.length - (k + 1), sets (l.drop (k + 1)), d5, hr, d9, hcs, sets_one _, by rw [sets_length, List.length_drop], by omega, by omega, fun A1 c1 u' hr => ?_⟩
            have e1 : k + (l.length - (k + 1)) = l.length - 1 := by omega
            rw [e1] at hr
            exact ⟨A1, c1, by show Value.slice A1 (k + (l.length - (k + 1))) c1 = _; rw [e1], by rw [sets_append]; exact hr⟩
        · obtain ⟨A1, c1, hx, hr⟩ := d10
          rw [hx]
          have hlen : (l.take k ++ l.drop (k + 1)).length = l.length - 1 := by rw [List.length_append, List.length_take, List.length_drop]; omega
          have hst : RSt Any u (.slice A1 (l.length - 1) c1) (l.take k ++ l.drop (k + 1)) := RSt.of_row hr (by rw [hlen]; omega) (fun _ _ => trivial) fun s hs => hrange s (hsub s hs)
          refine (set_any a _ _ _ _ _ u (ha.later (below2 hB4 hC)) hst).mono ?_
          rw [hset]
          rintro e u' ⟨D1, d1, D2, d2, D3, d3, rfl, hO, hb'⟩
          exact ⟨_, rfl, ⟨_, _, _, rfl, hO.1.lower hC.size, hO.2.1.lower hC.size, hO.2.2.lower hC.size⟩, hb'⟩
        · obtain ⟨v1, v2, v3, hx, h⟩ := d11
          exact ⟨_, u, by go_simp, ⟨v1, v2, v3, hx, h⟩, Below.refl _ _⟩
        · obtain ⟨v1, v2, v3, hx, h⟩ := d12
          exact ⟨_, u, by go_simp, ⟨v1, v2, v3, rfl, h⟩, Below.refl _ _⟩
        · obtain ⟨v1, v2, v3, hx, h⟩ := d12
          exact ⟨_, u, by go_simp, rfl, Below.refl _ _⟩
        · exact ⟨_, u.alloc (.cells #[.int .i64 0, .slice none 0 0, .slice none 0 0, .slice none 0 0] 26), by go_simp, ⟨_, rfl, hC.size, blk_new _ _⟩, below_alloc' (Below.refl _ _) _⟩
        · refine rOp_store _ _ 26 (fun _ _ => rfl) ?_ fun x u hC hd => ⟨rfl, ?_⟩
          · (refine firm_all ?_; repeat (first | exact trivial | refine And.intro (fun hj _ => Firm.x (Firm.eq _) _ hj) ?_ | refine And.intro (fun hj _ => absurd rfl hj) ?_ | refine And.intro (fun _ h => Bool.noConfusion (h.symm.trans (by decide +kernel : _ = false))) ?_ | (refine And.intro (fun hj _ => Firm.x (?_ : Firm _ _ _) _ hj) ?_; rotate_left) | (refine And.intro (fun hj hk => ?_) ?_; rotate_left)))
            · exact Firm.any _
            · rintro v u u' hb ⟨A1, c1, e, h⟩
              exact ⟨A1, c1, e, h.turn hb (by decide)⟩
            · rintro v u u' hb ⟨o, c1, e, h⟩
              exact ⟨o, c1, e, h.turn hb hgw⟩
            · rintro v u u' hb ⟨A1, c1, e, h⟩
              exact ⟨A1, c1, e, h.turn hb (by decide)⟩
            · rintro v u u' hb ⟨v1, v2, v3, e, h⟩
              exact ⟨v1, v2, v3, e, h.turn hb (by decide) (by decide) (by decide)⟩
            · rintro v u u' hb ⟨v1, v2, v3, e, h⟩
              exact ⟨v1, v2, v3, e, h.turn hb (by decide) (by decide) (by decide)⟩
            · rintro v u u' hb ⟨v1, v2, v3, e, h⟩
              exact ⟨v1, v2, v3, e, h.turn hb (by decide) (by decide) (by decide)⟩
          · obtain ⟨v1, v2, v3, d13, ho⟩ : ∃ v1 v2 v3, x 13 = .agg #[.int .i64 cc.kind, v1, v2, v3] ∧ OwnNd u w4.heap.size cc v1 v2 v3 := hd ⟨13, .data⟩ (by simp) rfl
            obtain ⟨q, d15, hq, hqb⟩ : ∃ g, x 15 = .pointer (some ⟨g, 0, none⟩) ∧ w4.heap.size ≤ g ∧ u.heap[g]? = some (.cells #[.int .i64 0, .slice none 0 0, .slice none 0 0, .slice none 0 0] 26 (0, 0)) := hd ⟨15, .data⟩ (by simp) rfl
            have t0 := blk_cell hqb
            have f0 := blk_frozen hqb
            obtain ⟨B1, q1, rfl, -, -⟩ := ho.1.form1
            obtain ⟨B2, q2, rfl, -, -⟩ := ho.2.1.form1
            obtain ⟨B3, q3, rfl, -, -⟩ := ho.2.2.form1
            clear hd
            simp only [ints_length, strs_length] at ho d13
            refine ⟨_, by go_simp; rfl, ⟨q, _, _, _, d15, hq, blk_set (blk_set (blk_set (blk_set hqb 0 _) 1 _) 2 _) 3 _, ?_⟩, below_set (below_set (below_set (below_set hC hq _) hq _) hq _) hq _, Turn.of_sets hqb hq _ _ _ _ _ _ _ _⟩
            exact ho.turn (Turn.of_sets hqb hq _ _ _ _ _ _ _ _) (by decide) (by decide) (by decide)
        · obtain ⟨q, v1, v2, v3, d15, hq, hqb, ho⟩ := e16
          clear e1 e10 e11 e12 e13
          have t0 := blk_cell hqb
          have b5 := blk_cell (blk_later (below2 (below2 (below2 (below2 hb1 hb2) hb3) hb4) hC) hby)
          obtain ⟨B1, q1, rfl, -, -⟩ := ho.1.form1
          obtain ⟨B2, q2, rfl, -, -⟩ := ho.2.1.form1
          obtain ⟨B3, q3, rfl, -, -⟩ := ho.2.2.form1
          simp only [ints_length, strs_length] at ho hqb t0
          go_wp2_with fail
          have hla := ha.2.1.form
          have hlb := ha.2.2.1.form
          have hlc := ha.2.2.2.form
          have ncc : NdV Any u cc (.slice B1 cc.ints.length q1) (.slice B2 cc.texts.length q2) (.slice B3 cc.kids.length q3) :=
            ho.ndv hccR (by rw [hci.out]; obtain ⟨_, _, _, _, h⟩ := hla; exact h) (by rw [hct.out]; obtain ⟨_, _, _, _, h⟩ := hlb; exact h) (by rw [hck.out]; obtain ⟨_, _, _, _, h⟩ := hlc; exact h)
          refine (own_any cc b _ _ _ _ _ _ u ncc (hb.later (below2 hB4 hC)) hsb).mono ?_
          rw [hown.out]
          rintro y w5 ⟨rfl, hb5⟩
          go_wp2
          go_ret
          exact ⟨rfl, below2 (below2 hB4 hC) hb5⟩
end Go.Proofs.YtdgjgekefpfgiaaDoor
