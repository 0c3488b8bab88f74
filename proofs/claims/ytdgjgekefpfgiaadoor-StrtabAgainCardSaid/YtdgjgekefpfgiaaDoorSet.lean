/- Sets of fields: what they are; field.Diff, the reference's Diff. -/
import Derived.Test.YtdgjgekefpfgiaaDoorCpy
namespace Go.Proofs.YtdgjgekefpfgiaaDoor
open Go.RowKit

theorem Cells.new (w : World) (cs : List Value) (t : TypeId) : Cells (w.alloc (.cells cs.toArray t)) (some ⟨w.heap.size, 0, none⟩) cs :=
  .inr ⟨_, rfl, fun j u hj => by rw [Addr.add_lit, blk_cell (blk_new _ _)]; simpa using hj⟩

theorem below_drewN' {B : Nat} {a w : World} (h : Below B a w) (n : Nat) : Below B a (w.drewN n) := ⟨h.os, h.tape, h.output, h.size, h.block⟩
theorem sne {x y : ByteArray} (h : x ≠ y) : (x.toList == y.toList) = false := by
  rw [ByteArray.toList_eq, ByteArray.toList_eq]
  refine beq_eq_false_iff_ne.2 fun e => h ?_
  cases x; cases y
  simp only [ByteArray.mk.injEq]
  exact Array.ext' e
theorem seq {x y : ByteArray} (h : x = y) : (x.toList == y.toList) = true := by rw [h]; simp
theorem sne_nil {x : ByteArray} (h : x ≠ ⟨#[]⟩) : x.toList.isEmpty = false := by
  rw [ByteArray.toList_eq]
  cases hx : x.data.toList with
  | nil => exact absurd (by cases x; simp only [ByteArray.mk.injEq]; exact Array.ext' hx) h
  | cons _ _ => rfl
/-- A field that is set. -/
structure St where
  text : Bool
  field : Int
  n : Int
  s : ByteArray
  deriving DecidableEq
instance : Inhabited St := ⟨⟨false, 0, 0, ⟨#[]⟩⟩⟩
def encSt (p : St) : List Value := [.bool p.text, .int .i64 p.field, .int .i64 p.n, .string p.s]
def sets (l : List St) : List Value := l.flatMap encSt
@[simp] theorem sets_length (l : List St) : (sets l).length = l.length * 4 := flat_length (sz := 4) (fun _ => rfl) l
theorem sets_append (l m : List St) : sets (l ++ m) = sets l ++ sets m := List.flatMap_append
theorem sets_one (l : List St) : ∀ u ∈ sets l, u.oneCell' = true := by
  intro u hu
  simp only [sets, List.mem_flatMap] at hu
  obtain ⟨p, -, hp⟩ := hu
  simp only [encSt, List.mem_cons, List.not_mem_nil, or_false] at hp
  rcases hp with rfl | rfl | rfl | rfl <;> rfl
def StAt (x : St) (f : Nat → Option Value) : Prop := f 0 = some (.bool x.text) ∧ f 1 = some (.int .i64 x.field) ∧ f 2 = some (.int .i64 x.n) ∧ f 3 = some (.string x.s) ∧ I64 x.field ∧ I64 x.n ∧ x.s.size ≤ 9223372036854775807
def RSt (S : Nat → Prop) (w : World) (v : Value) (l : List St) : Prop := Sl 40 4 (fun _ x f => StAt x f) S w v l
theorem RSt.form {S : Nat → Prop} {w : World} {v : Value} {xs : List St} (h : RSt S w v xs) : ∃ A c, v = .slice A xs.length c ∧ xs.length ≤ c ∧ xs.length * 40 ≤ 140737488355328 := Sl.form h
theorem RSt.keeps {S : Nat → Prop} {w w' : World} {v : Value} {xs : List St} (h : RSt S w v xs) (hk : Keeps S w w') : RSt S w' v xs :=
  Sl.keeps h hk fun _ _ _ hf ⟨h0, h1, h2, h3, r⟩ => ⟨hf _ _ h0, hf _ _ h1, hf _ _ h2, hf _ _ h3, r⟩
theorem RSt.later {S : Nat → Prop} {w w' : World} {v : Value} {xs : List St} (h : RSt S w v xs) (hb : Below w.heap.size w w') : RSt S w' v xs := h.keeps (.of_below hb)
theorem RSt.mono {S T : Nat → Prop} {w : World} {v : Value} {xs : List St} (h : RSt S w v xs) (hs : ∀ b, b < w.heap.size → S b → T b) : RSt T w v xs := Sl.mono h hs fun _ _ h => h
theorem RSt.any {S : Nat → Prop} {w : World} {v : Value} {xs : List St} (h : RSt S w v xs) : RSt Any w v xs := h.mono fun _ _ _ => trivial
theorem RSt.at {S : Nat → Prop} {w : World} {A : Option Addr} {n c : Nat} {xs : List St} (h : RSt S w (.slice A n c) xs) (i : Nat) (hi : i < xs.length) :
    ∃ b o, A = some ⟨b, o, none⟩ ∧ b < w.heap.size ∧ w.cell? ⟨b, o + i * 4, none⟩ = some (.bool xs[i].text) ∧ w.cell? ⟨b, o + i * 4 + 1, none⟩ = some (.int .i64 xs[i].field) ∧ w.cell? ⟨b, o + i * 4 + 2, none⟩ = some (.int .i64 xs[i].n) ∧
      w.cell? ⟨b, o + i * 4 + 3, none⟩ = some (.string xs[i].s) ∧ I64 xs[i].field ∧ I64 xs[i].n ∧ xs[i].s.size ≤ 9223372036854775807 := by
  obtain ⟨b, o, hA, _, hb, h0, h1, h2, h3, r⟩ := Sl.at h i hi
  exact ⟨b, o, hA, hb, h0, h1, h2, h3, r⟩
theorem RSt.of_row {S : Nat → Prop} {w : World} {v : Value} {xs : List St} {base : Nat} {e : TypeId} (h : Row w base e 4 v (sets xs)) (hB : xs.length * 40 ≤ 140737488355328) (hS : ∀ b, blk v = some b → S b)
    (hx : ∀ x ∈ xs, I64 x.field ∧ I64 x.n ∧ x.s.size ≤ 9223372036854775807) : RSt S w v xs :=
  Sl.of_row h (by decide) (sets_length xs) hB hS fun i x f hi hf => by
    have g : ∀ j, j < 4 → (sets xs)[i * 4 + j]? = (encSt x)[j]? := fun j hj => by rw [sets, flat_get (sz := 4) (fun _ => rfl) _ _ _ hj, hi]; rfl
    have := hx x (List.mem_of_getElem? hi)
    exact ⟨hf 0 _ (by omega) (g 0 (by omega)), hf 1 _ (by omega) (g 1 (by omega)), hf 2 _ (by omega) (g 2 (by omega)), hf 3 _ (by omega) (g 3 (by omega)), this.1, this.2.1, this.2.2⟩
theorem RSt.cells {S : Nat → Prop} {w : World} {A : Option Addr} {n c : Nat} {xs : List St} (h : RSt S w (.slice A n c) xs) : Cells w A (sets xs) := by
  rcases List.eq_nil_or_concat xs with rfl | ⟨_, _, rfl⟩
  · exact .inl rfl
  · obtain ⟨_, _, e, _, _, h3⟩ := h
    obtain ⟨rfl, rfl, rfl⟩ : _ ∧ _ ∧ _ := by simpa using e
    obtain ⟨b, o, hA, _, hb, hx⟩ := h3 (by simp)
    refine .inr ⟨_, hA, fun j u hj => ?_⟩
    have e1 : j = j / 4 * 4 + j % 4 := by omega
    have h4 : j % 4 < 4 := by omega
    rw [e1, sets, flat_get (sz := 4) (fun _ => rfl) _ _ _ h4, Option.bind_eq_some_iff] at hj
    obtain ⟨x, hx1, hu⟩ := hj
    obtain ⟨h0, h1, h2, h3, -⟩ := hx _ _ hx1
    rw [Addr.add_lit]
    have e2 : o + j = o + j / 4 * 4 + j % 4 := by omega
    rw [e2]
    revert hu h4
    generalize j % 4 = m
    intro h4 hu
    match m, h4 with
    | 0, _ => cases (show some (Value.bool x.text) = some u from hu); simpa using h0
    | 1, _ => cases (show some (Value.int .i64 x.field) = some u from hu); simpa using h1
    | 2, _ => cases (show some (Value.int .i64 x.n) = some u from hu); simpa using h2
    | 3, _ => cases (show some (Value.string x.s) = some u from hu); simpa using h3

theorem info_set : (Tryd.prog.info? 114).map (fun i => (i.zero, i.size, i.bytes)) = some (some (.agg #[.bool false, .int .i64 0, .int .i64 0, .string ⟨#[]⟩]), 4, 40) := by kernel_rfl

/-- The numbers that differ, the first k looked at; the texts. -/
def dI (xs ys : List Int) : Nat → List St
  | 0 => []
  | k + 1 => dI xs ys k ++ if xs.getD k 0 = ys.getD k 0 then [] else [⟨false, k, ys.getD k 0, ⟨#[]⟩⟩]
def dT (xs ys : List ByteArray) : Nat → List St
  | 0 => []
  | k + 1 => dT xs ys k ++ if xs.getD k ⟨#[]⟩ = ys.getD k ⟨#[]⟩ then [] else [⟨true, k, 0, ys.getD k ⟨#[]⟩⟩]
theorem dI_length (xs ys : List Int) : ∀ k, (dI xs ys k).length ≤ k
  | 0 => by simp [dI]
  | k + 1 => by
    have := dI_length xs ys k
    rw [dI, List.length_append]
    split <;> simp <;> omega
theorem dT_length (xs ys : List ByteArray) : ∀ k, (dT xs ys k).length ≤ k
  | 0 => by simp [dT]
  | k + 1 => by
    have := dT_length xs ys k
    rw [dT, List.length_append]
    split <;> simp <;> omega
/-- Can the one be made the other? -/
def canB (a b : Nd) : Bool := decide (a.kind = b.kind ∧ a.ints.length = b.ints.length ∧ a.texts.length = b.texts.length)
def diffL (a b : Nd) : List St := if canB a b = true then dI a.ints b.ints b.ints.length ++ dT a.texts b.texts b.texts.length else []
/-- A list of sets is handed back, of the call's own; and whether. -/
def StRet (w : World) (l : List St) (ok : Bool) (x : Ending) (w' : World) : Prop :=
  ∃ A c, x = .returned (.tuple #[.slice A l.length c, .bool ok]) ∧ Row w' w.heap.size 114 4 (.slice A l.length c) (sets l) ∧ Below w.heap.size w w'

set_option maxHeartbeats 1000000 in
theorem diff_any (a b : Nd) (ai at' ak bi bt bk : Value) (w : World) (ha : NdV Any w a ai at' ak) (hb : NdV Any w b bi bt bk) (hs : b.ints.length + b.texts.length ≤ 1000000000) :
    Calls Tryd.prog 27 #[.agg #[.int .i64 a.kind, ai, at', ak], .agg #[.int .i64 b.kind, bi, bt, bk]] w (StRet w (diffL a b) (canB a b)) := by
  obtain ⟨A1, p1, rfl, -, L1⟩ := ha.2.1.form
  obtain ⟨A2, p2, rfl, -, L2⟩ := ha.2.2.1.form
  obtain ⟨A3, p3, rfl, -, L3⟩ := ha.2.2.2.form
  obtain ⟨B1, q1, rfl, -, M1⟩ := hb.2.1.form
  obtain ⟨B2, q2, rfl, -, M2⟩ := hb.2.2.1.form
  obtain ⟨B3, q3, rfl, -, M3⟩ := hb.2.2.2.form
  by_cases hcan : a.kind = b.kind ∧ a.ints.length = b.ints.length ∧ a.texts.length = b.texts.length
  · have e1 : canB a b = true := by simp only [canB, decide_eq_true_eq]; exact hcan
    have e2 : diffL a b = dI a.ints b.ints b.ints.length ++ dT a.texts b.texts b.texts.length := by simp [diffL, e1]
    rw [e1, e2]
    clear e1 e2
    obtain ⟨h1, h2, h3⟩ := hcan
    rw [h1, h2, h3]
    rw [h2] at L1
    rw [h3] at L2
    have ha1 : RI Any w (.slice A1 b.ints.length p1) a.ints := by rw [← h2]; exact ha.2.1
    have ha2 : RS Any w (.slice A2 b.texts.length p2) a.texts := by rw [← h3]; exact ha.2.2.1
    have H1 := Lib.hid h1
    have H2 := Lib.hid h2
    have H3 := Lib.hid h3
    clear h1 h2 h3 ha
    go_enter Tryd.func27, Tryd.ntmps27
    go_wp2
    obtain ⟨W, hW, hbx, hby, hbW⟩ := two_boxes w #[.int .i64 b.kind, .slice A1 b.ints.length p1, .slice A2 b.texts.length p2, .slice A3 a.kids.length p3] #[.int .i64 b.kind, .slice B1 b.ints.length q1, .slice B2 b.texts.length q2, .slice B3 b.kids.length q3] 26 26
    rw [← hW]
    clear hW
    go_loopw [37, 6] (fun i out wr => ∃ (k : Nat) (A : Option Addr) (c : Nat), k ≤ b.ints.length ∧ i = .int .i64 k ∧ out = .slice A (dI a.ints b.ints k).length c ∧ Row wr W.heap.size 114 4 (.slice A (dI a.ints b.ints k).length c) (sets (dI a.ints b.ints k)) ∧ Below W.heap.size W wr) (fun i _ _ => b.ints.length - (intOf i).toNat)
    case atStart => exact ⟨0, none, 0, by omega, rfl, rfl, Row.empty _ _ _ _ _, Below.refl _ _⟩
    case round =>
      obtain ⟨k, A, c, hk, rfl, rfl, hrow, hbr⟩ := hrel
      have x1 : wr.cell? ⟨w.heap.size, 1, none⟩ = some (.slice A1 b.ints.length p1) := blk_cell (blk_later hbr hbx) 1
      have y1 : wr.cell? ⟨w.heap.size + 1, 1, none⟩ = some (.slice B1 b.ints.length q1) := blk_cell (blk_later hbr hby) 1
      by_cases hlt : k < b.ints.length
      · obtain ⟨g1, o1, rfl, hg1, u1, -⟩ := (ha1.later (below2 hbW hbr)).at k (by rw [H2.out]; exact hlt)
        obtain ⟨g2, o2, rfl, hg2, u2, r2⟩ := (hb.2.1.later (below2 hbW hbr)).at k hlt
        have hin : a.ints.getD k 0 = a.ints[k]'(by rw [H2.out]; exact hlt) := by simp [show k < a.ints.length from by rw [H2.out]; exact hlt]
        have hin2 : b.ints.getD k 0 = b.ints[k] := by simp [hlt]
        by_cases he : a.ints[k]'(by rw [H2.out]; exact hlt) = b.ints[k]
        · have hd : dI a.ints b.ints (k + 1) = dI a.ints b.ints k := by rw [dI, hin, hin2, if_pos he, List.append_nil]
          have HD := Lib.hid hd
          rw [he] at u1
          clear hd hin hin2 he
          go_wp2
          go_roundw
          case rel => exact ⟨k + 1, A, c, by omega, by go_num, by rw [HD.out], by rw [HD.out]; exact hrow, hbr⟩
          case measure => simp [intOf]; omega
        · have hd : dI a.ints b.ints (k + 1) = dI a.ints b.ints k ++ [⟨false, k, b.ints[k], ⟨#[]⟩⟩] := by rw [dI, hin, hin2, if_neg he]
          have HD := Lib.hid hd
          have hne : (a.ints[k]'(by rw [H2.out]; exact hlt) != b.ints[k]) = true := by simpa using he
          have hlen := dI_length a.ints b.ints k
          have hsz := hbr.size
          clear hd hin hin2
          go_wp2_with (at_builtin; refine append_ev rfl _ _ 29 114 _ _ _ rfl Tryd.underlying29 info_set rfl (by decide) W.heap.size _ (dI a.ints b.ints k).length _ (sets (dI a.ints b.ints k)) rfl (hrow.later (below_alloc' (Below.refl _ _) _)) _ 1 1 (sets [⟨false, k, b.ints[k], ⟨#[]⟩⟩]) rfl rfl (Cells.new _ _ _) (sets_one _) (by omega) (by omega) ?_ ?_; (next => simp; omega); intro A' c' w' o' g' hat')
          have hb' : Below W.heap.size W w' := below_grown (below_alloc' hbr _) g' fun g hg => (hrow.typed g hg).1
          go_roundw
          case rel => exact ⟨k + 1, A', c', by omega, by go_num, by rw [HD.out, List.length_append]; rfl, by rw [HD.out, List.length_append, sets_append]; exact o', hb'⟩
          case measure => simp [intOf]; omega
      · obtain rfl : k = b.ints.length := by omega
        have y2 : wr.cell? ⟨w.heap.size + 1, 2, none⟩ = some (.slice B2 b.texts.length q2) := blk_cell (blk_later hbr hby) 2
        go_wp2
        go_loopw [59, 6] (fun i out wr => ∃ (k : Nat) (A : Option Addr) (c : Nat), k ≤ b.texts.length ∧ i = .int .i64 k ∧ out = .slice A ((dI a.ints b.ints b.ints.length).length + (dT a.texts b.texts k).length) c ∧ Row wr W.heap.size 114 4 (.slice A ((dI a.ints b.ints b.ints.length).length + (dT a.texts b.texts k).length) c) (sets (dI a.ints b.ints b.ints.length ++ dT a.texts b.texts k)) ∧ Below W.heap.size W wr) (fun i _ _ => b.texts.length - (intOf i).toNat)
        case atStart => exact ⟨0, A, c, by omega, rfl, rfl, by rw [dT, List.append_nil]; exact hrow, hbr⟩
        case round =>
          clear hrow hbr x1 y1 y2
          obtain ⟨k, A, c, hk, rfl, rfl, hrow, hbr⟩ := hrel
          have x1 : wr.cell? ⟨w.heap.size, 2, none⟩ = some (.slice A2 b.texts.length p2) := blk_cell (blk_later hbr hbx) 2
          have y1 : wr.cell? ⟨w.heap.size + 1, 2, none⟩ = some (.slice B2 b.texts.length q2) := blk_cell (blk_later hbr hby) 2
          by_cases hlt : k < b.texts.length
          · obtain ⟨g1, o1, rfl, hg1, u1, -⟩ := (ha2.later (below2 hbW hbr)).at k (by rw [H3.out]; exact hlt)
            obtain ⟨g2, o2, rfl, hg2, u2, r2⟩ := (hb.2.2.1.later (below2 hbW hbr)).at k hlt
            have hin : a.texts.getD k ⟨#[]⟩ = a.texts[k]'(by rw [H3.out]; exact hlt) := by simp [show k < a.texts.length from by rw [H3.out]; exact hlt]
            have hin2 : b.texts.getD k ⟨#[]⟩ = b.texts[k] := by simp [hlt]
            by_cases he : a.texts[k]'(by rw [H3.out]; exact hlt) = b.texts[k]
            · have hd : dT a.texts b.texts (k + 1) = dT a.texts b.texts k := by rw [dT, hin, hin2, if_pos he, List.append_nil]
              have HD := Lib.hid hd
              rw [he] at u1
              clear hd hin hin2 he
              go_wp2
              go_roundw
              case rel => exact ⟨k + 1, A, c, by omega, by go_num, by rw [HD.out], by rw [HD.out]; exact hrow, hbr⟩
              case measure => simp [intOf]; omega
            · have hd : dT a.texts b.texts (k + 1) = dT a.texts b.texts k ++ [⟨true, k, 0, b.texts[k]⟩] := by rw [dT, hin, hin2, if_neg he]
              have HD := Lib.hid hd
              have hne := sne he
              have hlen := dI_length a.ints b.ints b.ints.length
              have hlen2 := dT_length a.texts b.texts k
              have hsz := hbr.size
              clear hd hin hin2
              go_wp2_with (at_builtin; refine append_ev rfl _ _ 29 114 _ _ _ rfl Tryd.underlying29 info_set rfl (by decide) W.heap.size _ ((dI a.ints b.ints b.ints.length).length + (dT a.texts b.texts k).length) _ (sets (dI a.ints b.ints b.ints.length ++ dT a.texts b.texts k)) rfl (hrow.later (below_alloc' (Below.refl _ _) _)) _ 1 1 (sets [⟨true, k, 0, b.texts[k]⟩]) rfl rfl (Cells.new _ _ _) (sets_one _) (by omega) (by omega) ?_ ?_; (next => simp; omega); intro A' c' w' o' g' hat')
              have hb' : Below W.heap.size W w' := below_grown (below_alloc' hbr _) g' fun g hg => (hrow.typed g hg).1
              go_roundw
              case rel => exact ⟨k + 1, A', c', by omega, by go_num, by rw [HD.out, List.length_append, ← Nat.add_assoc]; rfl, by rw [HD.out, List.length_append, ← Nat.add_assoc, ← List.append_assoc, sets_append]; exact o', hb'⟩
              case measure => simp [intOf]; omega
          · obtain rfl : k = b.texts.length := by omega
            go_wp2
            go_ret2
            exact ⟨A, c, by rw [List.length_append]; rfl, by rw [List.length_append]; exact hrow.lower hbW.size, below2 hbW hbr⟩
  · have e1 : canB a b = false := by simp only [canB, decide_eq_false_iff_not]; exact hcan
    have e2 : diffL a b = [] := by simp [diffL, e1]
    rw [e1, e2]
    clear e1 e2
    by_cases h1 : a.kind = b.kind
    · by_cases h2 : a.ints.length = b.ints.length
      · have h3 : a.texts.length ≠ b.texts.length := fun h => hcan ⟨h1, h2, h⟩
        go_enter Tryd.func27, Tryd.ntmps27
        go_wp2
        go_ret2
        exact ⟨none, 0, rfl, Row.empty _ _ _ _ _, below_alloc' (below_alloc' (Below.refl _ _) _) _⟩
      · go_enter Tryd.func27, Tryd.ntmps27
        go_wp2
        go_ret2
        exact ⟨none, 0, rfl, Row.empty _ _ _ _ _, below_alloc' (below_alloc' (Below.refl _ _) _) _⟩
    · go_enter Tryd.func27, Tryd.ntmps27
      go_wp2
      go_ret2
      exact ⟨none, 0, rfl, Row.empty _ _ _ _ _, below_alloc' (below_alloc' (Below.refl _ _) _) _⟩
set_option maxHeartbeats 1000000 in
theorem refDiff_any (a b : Nd) (ai at' ak bi bt bk : Value) (w : World) (ha : NdV Any w a ai at' ak) (hb : NdV Any w b bi bt bk) (hs : b.ints.length + b.texts.length ≤ 1000000000) :
    Calls Tryd.prog 90 #[.agg #[.int .i64 a.kind, ai, at', ak], .agg #[.int .i64 b.kind, bi, bt, bk]] w (StRet w (diffL a b) (canB a b)) := by
  obtain ⟨A1, p1, rfl, -, L1⟩ := ha.2.1.form
  obtain ⟨A2, p2, rfl, -, L2⟩ := ha.2.2.1.form
  obtain ⟨A3, p3, rfl, -, L3⟩ := ha.2.2.2.form
  obtain ⟨B1, q1, rfl, -, M1⟩ := hb.2.1.form
  obtain ⟨B2, q2, rfl, -, M2⟩ := hb.2.2.1.form
  obtain ⟨B3, q3, rfl, -, M3⟩ := hb.2.2.2.form
  by_cases hcan : a.kind = b.kind ∧ a.ints.length = b.ints.length ∧ a.texts.length = b.texts.length
  · have e1 : canB a b = true := by simp only [canB, decide_eq_true_eq]; exact hcan
    have e2 : diffL a b = dI a.ints b.ints b.ints.length ++ dT a.texts b.texts b.texts.length := by simp [diffL, e1]
    rw [e1, e2]
    clear e1 e2
    obtain ⟨h1, h2, h3⟩ := hcan
    rw [h1, h2, h3]
    rw [h2] at L1
    rw [h3] at L2
    have ha1 : RI Any w (.slice A1 b.ints.length p1) a.ints := by rw [← h2]; exact ha.2.1
    have ha2 : RS Any w (.slice A2 b.texts.length p2) a.texts := by rw [← h3]; exact ha.2.2.1
    have H1 := Lib.hid h1
    have H2 := Lib.hid h2
    have H3 := Lib.hid h3
    clear h1 h2 h3 ha
    go_enter Tryd.func90, Tryd.ntmps90
    go_wp2
    obtain ⟨W, hW, hbx, hby, hbW⟩ := two_boxes w #[.int .i64 b.kind, .slice A1 b.ints.length p1, .slice A2 b.texts.length p2, .slice A3 a.kids.length p3] #[.int .i64 b.kind, .slice B1 b.ints.length q1, .slice B2 b.texts.length q2, .slice B3 b.kids.length q3] 26 26
    rw [← hW]
    clear hW
    go_loopw [7, 6] (fun i out wr => ∃ (k : Nat) (A : Option Addr) (c : Nat), k ≤ b.ints.length ∧ i = .int .i64 k ∧ out = .slice A (dI a.ints b.ints k).length c ∧ Row wr W.heap.size 114 4 (.slice A (dI a.ints b.ints k).length c) (sets (dI a.ints b.ints k)) ∧ Below W.heap.size W wr) (fun i _ _ => b.ints.length - (intOf i).toNat)
    case atStart => exact ⟨0, some ⟨_, 0, none⟩, 0, by omega, rfl, rfl, Row.empty _ _ _ _ _, below_alloc' (Below.refl _ _) _⟩
    case round =>
      obtain ⟨k, A, c, hk, rfl, rfl, hrow, hbr⟩ := hrel
      have x1 : wr.cell? ⟨w.heap.size, 1, none⟩ = some (.slice A1 b.ints.length p1) := blk_cell (blk_later hbr hbx) 1
      have y1 : wr.cell? ⟨w.heap.size + 1, 1, none⟩ = some (.slice B1 b.ints.length q1) := blk_cell (blk_later hbr hby) 1
      by_cases hlt : k < b.ints.length
      · obtain ⟨g1, o1, rfl, hg1, u1, -⟩ := (ha1.later (below2 hbW hbr)).at k (by rw [H2.out]; exact hlt)
        obtain ⟨g2, o2, rfl, hg2, u2, r2⟩ := (hb.2.1.later (below2 hbW hbr)).at k hlt
        have hin : a.ints.getD k 0 = a.ints[k]'(by rw [H2.out]; exact hlt) := by simp [show k < a.ints.length from by rw [H2.out]; exact hlt]
        have hin2 : b.ints.getD k 0 = b.ints[k] := by simp [hlt]
        by_cases he : a.ints[k]'(by rw [H2.out]; exact hlt) = b.ints[k]
        · have hd : dI a.ints b.ints (k + 1) = dI a.ints b.ints k := by rw [dI, hin, hin2, if_pos he, List.append_nil]
          have HD := Lib.hid hd
          rw [he] at u1
          clear hd hin hin2 he
          go_wp2
          go_quiet (fail)
          replace hbr := below_drewN' hbr nq
          replace hrow := hrow.later (below_drewN' (Below.refl _ _) nq)
          go_wp2
          go_roundw
          case rel => exact ⟨k + 1, A, c, by omega, by go_num, by rw [HD.out], by rw [HD.out]; exact hrow, hbr⟩
          case measure => simp [intOf]; omega
        · have hd : dI a.ints b.ints (k + 1) = dI a.ints b.ints k ++ [⟨false, k, b.ints[k], ⟨#[]⟩⟩] := by rw [dI, hin, hin2, if_neg he]
          have HD := Lib.hid hd
          have hne : (a.ints[k]'(by rw [H2.out]; exact hlt) != b.ints[k]) = true := by simpa using he
          have hlen := dI_length a.ints b.ints k
          have hsz := hbr.size
          clear hd hin hin2
          go_wp2
          go_quiet (fail)
          replace hbr := below_drewN' hbr nq
          replace hrow := hrow.later (below_drewN' (Below.refl _ _) nq)
          go_wp2_with (at_builtin; refine append_ev rfl _ _ 29 114 _ _ _ rfl Tryd.underlying29 info_set rfl (by decide) W.heap.size _ (dI a.ints b.ints k).length _ (sets (dI a.ints b.ints k)) rfl (hrow.later (below_alloc' (Below.refl _ _) _)) _ 1 1 (sets [⟨false, k, b.ints[k], ⟨#[]⟩⟩]) rfl rfl (Cells.new _ _ _) (sets_one _) (by omega) (by omega) ?_ ?_; (next => simp; omega); intro A' c' w' o' g' hat')
          have hb' : Below W.heap.size W w' := below_grown (below_alloc' hbr _) g' fun g hg => (hrow.typed g hg).1
          go_roundw
          case rel => exact ⟨k + 1, A', c', by omega, by go_num, by rw [HD.out, List.length_append]; rfl, by rw [HD.out, List.length_append, sets_append]; exact o', hb'⟩
          case measure => simp [intOf]; omega
      · obtain rfl : k = b.ints.length := by omega
        have y2 : wr.cell? ⟨w.heap.size + 1, 2, none⟩ = some (.slice B2 b.texts.length q2) := blk_cell (blk_later hbr hby) 2
        go_wp2
        go_loopw [8, 6] (fun i out wr => ∃ (k : Nat) (A : Option Addr) (c : Nat), k ≤ b.texts.length ∧ i = .int .i64 k ∧ out = .slice A ((dI a.ints b.ints b.ints.length).length + (dT a.texts b.texts k).length) c ∧ Row wr W.heap.size 114 4 (.slice A ((dI a.ints b.ints b.ints.length).length + (dT a.texts b.texts k).length) c) (sets (dI a.ints b.ints b.ints.length ++ dT a.texts b.texts k)) ∧ Below W.heap.size W wr) (fun i _ _ => b.texts.length - (intOf i).toNat)
        case atStart => exact ⟨0, A, c, by omega, rfl, rfl, by rw [dT, List.append_nil]; exact hrow, hbr⟩
        case round =>
          clear hrow hbr x1 y1 y2
          obtain ⟨k, A, c, hk, rfl, rfl, hrow, hbr⟩ := hrel
          have x1 : wr.cell? ⟨w.heap.size, 2, none⟩ = some (.slice A2 b.texts.length p2) := blk_cell (blk_later hbr hbx) 2
          have y1 : wr.cell? ⟨w.heap.size + 1, 2, none⟩ = some (.slice B2 b.texts.length q2) := blk_cell (blk_later hbr hby) 2
          by_cases hlt : k < b.texts.length
          · obtain ⟨g1, o1, rfl, hg1, u1, -⟩ := (ha2.later (below2 hbW hbr)).at k (by rw [H3.out]; exact hlt)
            obtain ⟨g2, o2, rfl, hg2, u2, r2⟩ := (hb.2.2.1.later (below2 hbW hbr)).at k hlt
            have hin : a.texts.getD k ⟨#[]⟩ = a.texts[k]'(by rw [H3.out]; exact hlt) := by simp [show k < a.texts.length from by rw [H3.out]; exact hlt]
            have hin2 : b.texts.getD k ⟨#[]⟩ = b.texts[k] := by simp [hlt]
            by_cases he : a.texts[k]'(by rw [H3.out]; exact hlt) = b.texts[k]
            · have hd : dT a.texts b.texts (k + 1) = dT a.texts b.texts k := by rw [dT, hin, hin2, if_pos he, List.append_nil]
              have HD := Lib.hid hd
              rw [he] at u1
              clear hd hin hin2 he
              go_wp2
              go_quiet (fail)
              replace hbr := below_drewN' hbr nq
              replace hrow := hrow.later (below_drewN' (Below.refl _ _) nq)
              go_wp2
              go_roundw
              case rel => exact ⟨k + 1, A, c, by omega, by go_num, by rw [HD.out], by rw [HD.out]; exact hrow, hbr⟩
              case measure => simp [intOf]; omega
            · have hd : dT a.texts b.texts (k + 1) = dT a.texts b.texts k ++ [⟨true, k, 0, b.texts[k]⟩] := by rw [dT, hin, hin2, if_neg he]
              have HD := Lib.hid hd
              have hne := sne he
              have hlen := dI_length a.ints b.ints b.ints.length
              have hlen2 := dT_length a.texts b.texts k
              have hsz := hbr.size
              clear hd hin hin2
              go_wp2
              go_quiet (fail)
              replace hbr := below_drewN' hbr nq
              replace hrow := hrow.later (below_drewN' (Below.refl _ _) nq)
              go_wp2_with (at_builtin; refine append_ev rfl _ _ 29 114 _ _ _ rfl Tryd.underlying29 info_set rfl (by decide) W.heap.size _ ((dI a.ints b.ints b.ints.length).length + (dT a.texts b.texts k).length) _ (sets (dI a.ints b.ints b.ints.length ++ dT a.texts b.texts k)) rfl (hrow.later (below_alloc' (Below.refl _ _) _)) _ 1 1 (sets [⟨true, k, 0, b.texts[k]⟩]) rfl rfl (Cells.new _ _ _) (sets_one _) (by omega) (by omega) ?_ ?_; (next => simp; omega); intro A' c' w' o' g' hat')
              have hb' : Below W.heap.size W w' := below_grown (below_alloc' hbr _) g' fun g hg => (hrow.typed g hg).1
              go_roundw
              case rel => exact ⟨k + 1, A', c', by omega, by go_num, by rw [HD.out, List.length_append, ← Nat.add_assoc]; rfl, by rw [HD.out, List.length_append, ← Nat.add_assoc, ← List.append_assoc, sets_append]; exact o', hb'⟩
              case measure => simp [intOf]; omega
          · obtain rfl : k = b.texts.length := by omega
            go_wp2
            go_ret2
            exact ⟨A, c, by rw [List.length_append]; rfl, by rw [List.length_append]; exact hrow.lower hbW.size, below2 hbW hbr⟩
  · have e1 : canB a b = false := by simp only [canB, decide_eq_false_iff_not]; exact hcan
    have e2 : diffL a b = [] := by simp [diffL, e1]
    rw [e1, e2]
    clear e1 e2
    by_cases h1 : a.kind = b.kind
    · by_cases h2 : a.ints.length = b.ints.length
      · have h3 : a.texts.length ≠ b.texts.length := fun h => hcan ⟨h1, h2, h⟩
        go_enter Tryd.func90, Tryd.ntmps90
        go_wp2
        go_ret2
        exact ⟨none, 0, rfl, Row.empty _ _ _ _ _, below_alloc' (below_alloc' (Below.refl _ _) _) _⟩
      · go_enter Tryd.func90, Tryd.ntmps90
        go_wp2
        go_ret2
        exact ⟨none, 0, rfl, Row.empty _ _ _ _ _, below_alloc' (below_alloc' (Below.refl _ _) _) _⟩
    · go_enter Tryd.func90, Tryd.ntmps90
      go_wp2
      go_ret2
      exact ⟨none, 0, rfl, Row.empty _ _ _ _ _, below_alloc' (below_alloc' (Below.refl _ _) _) _⟩
end Go.Proofs.YtdgjgekefpfgiaaDoor
