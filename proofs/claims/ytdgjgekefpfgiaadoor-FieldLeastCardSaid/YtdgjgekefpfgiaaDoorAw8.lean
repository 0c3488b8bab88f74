/- The field layer's awake. -/
import Derived.Test.YtdgjgekefpfgiaaDoorFch
import Derived.Test.YtdgjgekefpfgiaaDoorRgl
import Derived.Test.YtdgjgekefpfgiaaDoorFld
import Derived.Test.YtdgjgekefpfgiaaDoorSpc
namespace Go.Proofs.YtdgjgekefpfgiaaDoor
open Go.RowKit

def wood : ByteArray := ⟨#[119, 111, 111, 100]⟩
def ball (x : Int) : Nd := ⟨4, [x], [wood], []⟩

theorem Row.of_blk {w : World} {base g : Nat} {e : TypeId} {cs : List Value} (h : w.heap[g]? = some (.cells cs.toArray e (0, 0))) (hb : base ≤ g) (hm : cs.length ≤ 1000) : Row w base e 1 (.slice (some ⟨g, 0, none⟩) cs.length cs.length) cs := by
  cases cs with
  | nil => exact Row.empty _ _ _ _ _
  | cons a l => exact .inr ⟨g, (a :: l).length, l.length, _, rfl, hb, h, Nat.le_refl _, by simp [maxLen] at hm ⊢; omega, by simp, by simp, by simp⟩
theorem RI.of_blk {w : World} {g : Nat} {e : TypeId} (xs : List Int) (h : w.heap[g]? = some (.cells (ints xs).toArray e (0, 0))) (hm : xs.length ≤ 1000) (hx : ∀ x ∈ xs, I64 x) : RI Any w (.slice (some ⟨g, 0, none⟩) xs.length xs.length) xs := by
  have := Row.of_blk (base := 0) h (Nat.zero_le _) (by simpa using hm)
  rw [ints_length] at this
  exact RI.of_row this (by omega) (fun _ _ => trivial) hx
theorem RS.of_blk {w : World} {g : Nat} {e : TypeId} (xs : List ByteArray) (h : w.heap[g]? = some (.cells (strs xs).toArray e (0, 0))) (hm : xs.length ≤ 1000) (hx : ∀ x ∈ xs, x.size ≤ 9223372036854775807) : RS Any w (.slice (some ⟨g, 0, none⟩) xs.length xs.length) xs := by
  have := Row.of_blk (base := 0) h (Nat.zero_le _) (by simpa using hm)
  rw [strs_length] at this
  exact RS.of_row this (by omega) (fun _ _ => trivial) hx
theorem RSt.of_blk {w : World} {g : Nat} {e : TypeId} (xs : List St) (h : w.heap[g]? = some (.cells (sets xs).toArray e (0, 0))) (hm : xs.length ≤ 1000) (hx : ∀ x ∈ xs, I64 x.field ∧ I64 x.n ∧ x.s.size ≤ 9223372036854775807) : RSt Any w (.slice (some ⟨g, 0, none⟩) xs.length xs.length) xs := by
  refine RSt.of_row (base := 0) (e := e) ?_ (by omega) (fun _ _ => trivial) hx
  cases xs with
  | nil => exact Row.empty _ _ _ _ _
  | cons a l => exact .inr ⟨g, (a :: l).length, l.length, _, rfl, Nat.zero_le _, h, Nat.le_refl _, by simp [maxLen] at hm ⊢; omega, by simp, by simp, by rw [List.take_of_length_le]; simp⟩
/-- Blocks that are laid one behind the other. -/
theorem boxes (w : World) (l : List Obj) : ∃ W, W = l.foldl World.alloc w ∧ W.heap.size = w.heap.size + l.length ∧ (∀ i o, l[i]? = some o → W.heap[w.heap.size + i]? = some o) ∧ Below w.heap.size w W := by
  refine ⟨_, rfl, ?_⟩
  induction l generalizing w with
  | nil => exact ⟨rfl, by simp, Below.refl _ _⟩
  | cons a l ih =>
    obtain ⟨h1, h2, h3⟩ := ih (w.alloc a)
    refine ⟨by rw [List.foldl_cons, h1]; simp; omega, fun i o hi => ?_, below2 (below_alloc' (Below.refl _ _) _) h3⟩
    rw [List.foldl_cons]
    cases i with
    | zero =>
      simp only [List.getElem?_cons_zero, Option.some.injEq] at hi
      subst hi
      exact blk_later h3 (blk_new _ _)
    | succ i =>
      have := h2 i o (by simpa using hi)
      rwa [show (w.alloc a).heap.size + i = w.heap.size + (i + 1) from by simp; omega] at this

theorem new4 (w : World) : Calls Tryd.prog 87 #[.int .i64 4] w fun e w' => ∃ A c, e = .returned (.tuple #[.agg #[.slice A 1 c, .int .i64 1, .int .i64 0, .int .i64 0], .bool true]) ∧ RI Any w' (.slice A 1 c) [3] ∧ Below w.heap.size w w' := by
  refine (new_any 4 w).mono ?_
  rintro x w1 ⟨A, c, rfl, hsp, hb1⟩
  exact ⟨A, c, rfl, hsp, hb1⟩
def wset : St := ⟨false, 0, 6, ⟨#[]⟩⟩
theorem diffBall : diffL (ball 5) (ball 6) = [wset] := by decide
theorem setBall : setL (ball 5) [wset] = some (ball 6) := by decide
theorem setBall2 : setL (ball 5) [⟨false, 1, 0, ⟨#[]⟩⟩] = none := by decide

set_option maxRecDepth 100000 in
set_option maxHeartbeats 4000000 in
theorem awake8_any (w : World) (hT : Lib.Utf8Tabs 0 1 w) : Calls Tryd.prog 25 #[] w fun e w' => e = .returned (.bool true) ∧ Below w.heap.size w w' := by
  go_enter Tryd.func25, Tryd.ntmps25
  go_wp2_with fail
  refine (new4 _).mono ?_
  rintro x w1 ⟨A, c, rfl, hsp, hb1⟩
  go_wp2_with fail
  obtain ⟨W, hW, hsz, hbk, hbW⟩ := boxes w1 [.cells #[.slice A 1 c, .int .i64 1, .int .i64 0, .int .i64 0] 110, .cells #[.int .i64 5] 2, .cells #[.string wood] 9,
    .cells #[.int .i64 4, .slice (some ⟨w1.heap.size + 1, 0, none⟩) 1 1, .slice (some ⟨w1.heap.size + 1 + 1, 0, none⟩) 1 1, .slice none 0 0] 26, .cells #[.int .i64 6] 2, .cells #[.string wood] 9,
    .cells #[.int .i64 4, .slice (some ⟨w1.heap.size + 1 + 1 + 1 + 1, 0, none⟩) 1 1, .slice (some ⟨w1.heap.size + 1 + 1 + 1 + 1 + 1, 0, none⟩) 1 1, .slice none 0 0] 26]
  simp only [List.foldl, wood] at hW
  rw [← hW]
  clear hW
  have hs0 := hbk 0 _ rfl
  have ha0 : W.heap[w1.heap.size + 1 + 1 + 1]? = _ := hbk 3 _ rfl
  have hb0 : W.heap[w1.heap.size + 1 + 1 + 1 + 1 + 1 + 1]? = _ := hbk 6 _ rfl
  have na : NdV Any W (ball 5) (.slice (some ⟨w1.heap.size + 1, 0, none⟩) 1 1) (.slice (some ⟨w1.heap.size + 1 + 1, 0, none⟩) 1 1) (.slice none 0 0) :=
    ⟨by decide, RI.of_blk [5] (hbk 1 _ rfl) (by decide) (by decide), RS.of_blk [wood] (hbk 2 _ rfl) (by decide) (by decide), Sl.nil _ _ _ _ _⟩
  have nb : NdV Any W (ball 6) (.slice (some ⟨w1.heap.size + 1 + 1 + 1 + 1, 0, none⟩) 1 1) (.slice (some ⟨w1.heap.size + 1 + 1 + 1 + 1 + 1, 0, none⟩) 1 1) (.slice none 0 0) :=
    ⟨by decide, RI.of_blk [6] (hbk 4 _ rfl) (by decide) (by decide), RS.of_blk [wood] (hbk 5 _ rfl) (by decide) (by decide), Sl.nil _ _ _ _ _⟩
  clear hbk
  have hB : Below w.heap.size w W := below2 hb1 hbW
  replace hsp := hsp.later hbW
  refine (diff_any (ball 5) (ball 6) _ _ _ _ _ _ _ na nb (by decide)).mono ?_
  rw [diffBall, show canB (ball 5) (ball 6) = true from by decide]
  rintro x w2 ⟨A2, c2, rfl, hr2, hb2⟩
  replace hr2 : Row w2 W.heap.size 114 4 (.slice A2 1 c2) (sets [wset]) := hr2
  have ha2 := blk_cell (blk_later hb2 ha0)
  have hl2 : RSt Any w2 (.slice A2 1 c2) [wset] := RSt.of_row hr2 (by decide) (fun _ _ => trivial) (by decide)
  show _
  go_wp2_with fail
  refine (set_any (ball 5) [wset] _ _ _ _ _ (na.later hb2) hl2).mono ?_
  rw [setBall]
  rintro x w3 ⟨D1, d1, D2, d2, D3, d3, rfl, hO, hb3⟩
  replace hO : OwnNd w3 w2.heap.size (ball 6) (.slice D1 1 d1) (.slice D2 1 d2) (.slice D3 0 d3) := hO
  have ha3 := blk_cell (blk_later (below2 hb2 hb3) ha0)
  have qa3 := blk_lt (blk_later (below2 hb2 hb3) ha0)
  show _
  go_wp2_with fail
  obtain ⟨W4, hW4, hsz4, hbk4, hbW4⟩ := boxes w3 [.cells #[.int .i64 (ball 6).kind, .slice D1 (ball 6).ints.length d1, .slice D2 (ball 6).texts.length d2, .slice D3 (ball 6).kids.length d3] 26, .cells #[.bool false, .int .i64 1, .int .i64 0, .string ⟨#[]⟩] 114]
  simp only [List.foldl] at hW4
  rw [← hW4]
  clear hW4
  have hc4 := hbk4 0 _ rfl
  have hl4 : RSt Any W4 (.slice (some ⟨w3.heap.size + 1, 0, none⟩) 1 1) [⟨false, 1, 0, ⟨#[]⟩⟩] := RSt.of_blk [⟨false, 1, 0, ⟨#[]⟩⟩] (hbk4 1 _ rfl) (by decide) (by decide)
  clear hbk4
  refine (set_any (ball 5) [⟨false, 1, 0, ⟨#[]⟩⟩] _ _ _ _ _ (na.later (below2 hb2 (below2 hb3 hbW4))) hl4).mono ?_
  rw [setBall2]
  rintro x w5 ⟨rfl, hb5⟩
  go_wp2_with fail
  obtain ⟨V, hV⟩ : ∃ V, V = w5.alloc (.cells #[.int .i64 0, .slice none 0 0, .slice none 0 0, .slice none 0 0] 26) := ⟨_, rfl⟩
  have hbV : Below w5.heap.size w5 V := by rw [hV]; exact below_alloc' (Below.refl _ _) _
  rw [← hV]
  clear hV
  have hB5 : Below W4.heap.size W4 V := below2 hb5 hbV
  have hB3 : Below w3.heap.size w3 V := below2 hbW4 hB5
  have hB2 : Below w2.heap.size w2 V := below2 hb3 hB3
  have hBW : Below W.heap.size W V := below2 hb2 hB2
  have hBw : Below w.heap.size w V := below2 hB hBW
  obtain ⟨lb, lo, hA2, -, l0, l1, l2, l3, -⟩ := (hl2.later hB2).at 0 (by decide)
  subst hA2
  have hTV := Utf8Tabs_below hT hBw
  have naV := na.later hBW
  have nbV := nb.later hBW
  have hspV := hsp.later hBW
  have ncV : NdV Any V (ball 6) (.slice D1 1 d1) (.slice D2 1 d2) (.slice D3 0 d3) :=
    ⟨by decide, RI.of_row (xs := [6]) (hO.1.later hB3) (by decide) (fun _ _ => trivial) (by decide), RS.of_row (xs := [wood]) (hO.2.1.later hB3) (by decide) (fun _ _ => trivial) (by decide), RI.of_row (xs := []) (hO.2.2.later hB3) (by decide) (fun _ _ => trivial) (by decide)⟩
  have hfac : ∀ u, Below V.heap.size V u → (∀ i, u.cell? ⟨w1.heap.size + 1 + 1 + 1, i, none⟩ = _) ∧ (∀ i, u.cell? ⟨w1.heap.size, i, none⟩ = _) ∧ (∀ i, u.cell? ⟨w1.heap.size + 1 + 1 + 1 + 1 + 1 + 1, i, none⟩ = _) ∧ (∀ i, u.cell? ⟨w3.heap.size, i, none⟩ = _) ∧
      u.cell? ⟨lb, lo, none⟩ = some (.bool false) ∧ u.cell? ⟨lb, lo + 1, none⟩ = some (.int .i64 0) ∧ u.cell? ⟨lb, lo + 2, none⟩ = some (.int .i64 6) ∧ u.cell? ⟨lb, lo + 3, none⟩ = some (.string ⟨#[]⟩) := fun u hu =>
    ⟨blk_cell (blk_later (below2 hBW hu) ha0), blk_cell (blk_later (below2 hBW hu) hs0), blk_cell (blk_later (below2 hBW hu) hb0), blk_cell (blk_later (below2 hB5 hu) hc4), cell_later' hu (by simpa [wset] using l0), cell_later' hu (by simpa [wset] using l1), cell_later' hu (by simpa [wset] using l2), cell_later' hu (by simpa [wset] using l3)⟩
  clear l0 l1 l2 l3 ha3 qa3 ha2 hl2 hl4 hr2 hO hs0 ha0 hb0 hc4 hsz hsz4 na nb hsp hT
  refine' rel_region ([]) 44 (fun x => { tmps := #[Value.bool false, Value.pointer (some { block := w1.heap.size, off := 0 }), Value.bool true, Value.pointer (some { block := w1.heap.size + 1 + 1 + 1, off := 0 }), Value.pointer (some { block := w1.heap.size + 1 + 1 + 1 + 1 + 1 + 1, off := 0 }), Value.slice (some { block := lb, off := lo }) 1 c2, Value.bool true, Value.pointer (some { block := w3.heap.size, off := 0 }), Value.int IntKind.i64 0, Value.pointer (some { block := w5.heap.size, off := 0 }), Value.int IntKind.i64 21, Value.tuple #[Value.agg #[Value.slice A 1 c, Value.int IntKind.i64 1, Value.int IntKind.i64 0, Value.int IntKind.i64 0], Value.bool true], Value.tuple #[Value.agg #[Value.slice A 1 c, Value.int IntKind.i64 1, Value.int IntKind.i64 0, Value.int IntKind.i64 0], Value.bool true], Value.agg #[Value.slice A 1 c, Value.int IntKind.i64 1, Value.int IntKind.i64 0, Value.int IntKind.i64 0], Value.bool true, Value.slice (some { block := w1.heap.size + 1, off := 0 }) 1 1, Value.slice (some { block := w1.heap.size + 1 + 1, off := 0 }) 1 1, Value.agg #[Value.int IntKind.i64 4, Value.slice (some { block := w1.heap.size + 1, off := 0 }) 1 1, Value.slice (some { block := w1.heap.size + 1 + 1, off := 0 }) 1 1, Value.slice none 0 0], Value.slice (some { block := w1.heap.size + 1 + 1 + 1 + 1, off := 0 }) 1 1, Value.slice (some { block := w1.heap.size + 1 + 1 + 1 + 1 + 1, off := 0 }) 1 1, Value.agg #[Value.int IntKind.i64 4, Value.slice (some { block := w1.heap.size + 1 + 1 + 1 + 1, off := 0 }) 1 1, Value.slice (some { block := w1.heap.size + 1 + 1 + 1 + 1 + 1, off := 0 }) 1 1, Value.slice none 0 0], Value.tuple #[Value.slice (some { block := lb, off := lo }) 1 c2, Value.bool true], Value.agg #[Value.int IntKind.i64 4, Value.slice (some { block := w1.heap.size + 1, off := 0 }) 1 1, Value.slice (some { block := w1.heap.size + 1 + 1, off := 0 }) 1 1, Value.slice none 0 0], Value.agg #[Value.int IntKind.i64 4, Value.slice (some { block := w1.heap.size + 1 + 1 + 1 + 1, off := 0 }) 1 1, Value.slice (some { block := w1.heap.size + 1 + 1 + 1 + 1 + 1, off := 0 }) 1 1, Value.slice none 0 0], Value.tuple #[Value.slice (some { block := lb, off := lo }) 1 c2, Value.bool true], Value.slice (some { block := lb, off := lo }) 1 c2, Value.bool true, Value.tuple #[Value.agg #[Value.int IntKind.i64 (ball 6).kind, Value.slice D1 (ball 6).ints.length d1, Value.slice D2 (ball 6).texts.length d2, Value.slice D3 (ball 6).kids.length d3], Value.int IntKind.i64 0], Value.agg #[Value.int IntKind.i64 4, Value.slice (some { block := w1.heap.size + 1, off := 0 }) 1 1, Value.slice (some { block := w1.heap.size + 1 + 1, off := 0 }) 1 1, Value.slice none 0 0], Value.slice (some { block := lb, off := lo }) 1 c2, Value.tuple #[Value.agg #[Value.int IntKind.i64 (ball 6).kind, Value.slice D1 (ball 6).ints.length d1, Value.slice D2 (ball 6).texts.length d2, Value.slice D3 (ball 6).kids.length d3], Value.int IntKind.i64 0], Value.agg #[Value.int IntKind.i64 (ball 6).kind, Value.slice D1 (ball 6).ints.length d1, Value.slice D2 (ball 6).texts.length d2, Value.slice D3 (ball 6).kids.length d3], Value.int IntKind.i64 0, Value.tuple #[Value.agg #[Value.int IntKind.i64 0, Value.slice none 0 0, Value.slice none 0 0, Value.slice none 0 0], Value.int IntKind.i64 21], Value.agg #[Value.int IntKind.i64 4, Value.slice (some { block := w1.heap.size + 1, off := 0 }) 1 1, Value.slice (some { block := w1.heap.size + 1 + 1, off := 0 }) 1 1, Value.slice none 0 0], Value.agg #[Value.bool false, Value.int IntKind.i64 1, Value.int IntKind.i64 0, Value.string { data := #[] }], Value.slice (some { block := w3.heap.size + 1, off := 0 }) 1 1, Value.tuple #[Value.agg #[Value.int IntKind.i64 0, Value.slice none 0 0, Value.slice none 0 0, Value.slice none 0 0], Value.int IntKind.i64 21], Value.agg #[Value.int IntKind.i64 0, Value.slice none 0 0, Value.slice none 0 0, Value.slice none 0 0], Value.int IntKind.i64 21, x 0, x 1, x 2, x 3, x 4, x 5, x 6, x 7, x 8, x 9, x 10, x 11, x 12, x 13, x 14, x 15, x 16, x 17, x 18, x 19, x 20, x 21, x 22, x 23, x 24, x 25, x 26, x 27, x 28, x 29, x 30, x 31, x 32, x 33, x 34, x 35, x 36, x 37, x 38, x 39, x 40, x 41, x 42, x 43], defers := [] }) (fun k => [undef, undef, undef, undef, undef, undef, undef, undef, undef, undef, undef, undef, undef, undef, undef, undef, undef, undef, undef, undef, undef, undef, undef, undef, undef, undef, undef, undef, undef, undef, undef, undef, undef, undef, undef, undef, undef, undef, undef, undef, undef, undef, undef, undef].getD k undef) [plain 0 (fun v _ => v = Value.agg #[Value.int IntKind.i64 4, Value.slice (some { block := w1.heap.size + 1, off := 0 }) 1 1, Value.slice (some { block := w1.heap.size + 1 + 1, off := 0 }) 1 1, Value.slice none 0 0]), plain 1 (fun v _ => v = Value.agg #[Value.slice A 1 c, Value.int IntKind.i64 1, Value.int IntKind.i64 0, Value.int IntKind.i64 0]), plain 2 (fun v _ => v = .int .i64 0), plain 3 (fun v _ => v = Value.bool true), plain 4 (fun v _ => v = Value.bool true), plain 5 (fun v _ => v = Value.agg #[Value.int IntKind.i64 0, Value.slice none 0 0, Value.slice none 0 0, Value.slice none 0 0]), plain 6 (fun v _ => v = Value.agg #[Value.slice A 1 c, Value.int IntKind.i64 1, Value.int IntKind.i64 0, Value.int IntKind.i64 0]), plain 7 (fun v _ => v = .int .i64 10), plain 8 (fun v _ => v = Value.bool true), plain 9 (fun v _ => v = Value.bool true), plain 10 (fun v _ => v = Value.bool true), plain 11 (fun v _ => v = Value.bool true), plain 12 (fun v _ => v = Value.bool true), plain 13 (fun v _ => v = Value.bool true), plain 14 (fun v _ => v = Value.slice (some { block := lb, off := lo }) 1 c2), plain 15 (fun v _ => v = Value.int IntKind.i64 1), plain 16 (fun v _ => v = Value.bool true), plain 17 (fun v _ => v = Value.bool true), plain 18 (fun v _ => v = Value.bool true), plain 19 (fun v _ => v = Value.slice (some { block := lb, off := lo }) 1 c2), plain 20 (fun v _ => v = Value.pointer (some { block := lb, off := lo })), plain 21 (fun v _ => v = Value.agg #[Value.bool false, Value.int IntKind.i64 0, Value.int IntKind.i64 6, Value.string { data := #[] }]), plain 22 (fun v _ => v = Value.agg #[Value.bool false, Value.int IntKind.i64 0, Value.int IntKind.i64 6, Value.string { data := #[] }]), plain 23 (fun v _ => v = Value.bool true), plain 24 (fun v _ => v = Value.bool true), plain 25 (fun v _ => v = Value.bool true), plain 26 (fun v _ => v = Value.int IntKind.i64 0), plain 27 (fun v _ => v = Value.bool true), plain 28 (fun v _ => v = Value.bool true), plain 29 (fun v _ => v = Value.bool true), plain 30 (fun v _ => v = Value.agg #[Value.int IntKind.i64 (ball 6).kind, Value.slice D1 (ball 6).ints.length d1, Value.slice D2 (ball 6).texts.length d2, Value.slice D3 (ball 6).kids.length d3]), plain 31 (fun v _ => v = Value.agg #[Value.int IntKind.i64 4, Value.slice (some { block := w1.heap.size + 1 + 1 + 1 + 1, off := 0 }) 1 1, Value.slice (some { block := w1.heap.size + 1 + 1 + 1 + 1 + 1, off := 0 }) 1 1, Value.slice none 0 0]), plain 32 (fun v _ => v = .bool true), plain 33 (fun v _ => v = Value.bool true), plain 34 (fun v _ => v = Value.bool true), plain 35 (fun v _ => v = Value.int IntKind.i64 21), plain 36 (fun v _ => v = Value.bool true), plain 37 (fun v _ => v = Value.bool true), plain 38 (fun v _ => v = Value.bool true), plain 39 (fun v _ => v = Value.agg #[Value.int IntKind.i64 4, Value.slice (some { block := w1.heap.size + 1, off := 0 }) 1 1, Value.slice (some { block := w1.heap.size + 1 + 1, off := 0 }) 1 1, Value.slice none 0 0]), plain 40 (fun v u => ∃ v1 v2 v3, v = .agg #[.int .i64 4, v1, v2, v3] ∧ NdV Any u (ball 5) v1 v2 v3), plain 41 (fun v _ => v = Value.agg #[Value.int IntKind.i64 4, Value.slice (some { block := w1.heap.size + 1, off := 0 }) 1 1, Value.slice (some { block := w1.heap.size + 1 + 1, off := 0 }) 1 1, Value.slice none 0 0]), plain 42 (fun v _ => v = .bool true), plain 43 (fun v _ => v = Value.bool true)] (by kernel_rfl) (by decide +kernel) (by decide +kernel) rfl ?_ ?_ ?_
  refine And.intro (fun k hj _ => Stays.x (Stays.eq _) 0 hj) ?_
  refine And.intro (fun k hj _ => Stays.x (Stays.eq _) 1 hj) ?_
  refine And.intro (fun k hj _ => Stays.x (Stays.eq _) 2 hj) ?_
  refine And.intro (fun k hj _ => Stays.x (Stays.eq _) 3 hj) ?_
  refine And.intro (fun k hj _ => Stays.x (Stays.eq _) 4 hj) ?_
  refine And.intro (fun k hj _ => Stays.x (Stays.eq _) 5 hj) ?_
  refine And.intro (fun k hj _ => Stays.x (Stays.eq _) 6 hj) ?_
  refine And.intro (fun k hj _ => Stays.x (Stays.eq _) 7 hj) ?_
  refine And.intro (fun k hj _ => Stays.x (Stays.eq _) 8 hj) ?_
  refine And.intro (fun k hj _ => Stays.x (Stays.eq _) 9 hj) ?_
  refine And.intro (fun k hj _ => Stays.x (Stays.eq _) 10 hj) ?_
  refine And.intro (fun k hj _ => Stays.x (Stays.eq _) 11 hj) ?_
  refine And.intro (fun k hj _ => Stays.x (Stays.eq _) 12 hj) ?_
  refine And.intro (fun k hj _ => Stays.x (Stays.eq _) 13 hj) ?_
  refine And.intro (fun k hj _ => Stays.x (Stays.eq _) 14 hj) ?_
  refine And.intro (fun k hj _ => Stays.x (Stays.eq _) 15 hj) ?_
  refine And.intro (fun k hj _ => Stays.x (Stays.eq _) 16 hj) ?_
  refine And.intro (fun k hj _ => Stays.x (Stays.eq _) 17 hj) ?_
  refine And.intro (fun k hj _ => Stays.x (Stays.eq _) 18 hj) ?_
  refine And.intro (fun k hj _ => Stays.x (Stays.eq _) 19 hj) ?_
  refine And.intro (fun k hj _ => Stays.x (Stays.eq _) 20 hj) ?_
  refine And.intro (fun k hj _ => Stays.x (Stays.eq _) 21 hj) ?_
  refine And.intro (fun k hj _ => Stays.x (Stays.eq _) 22 hj) ?_
  refine And.intro (fun k hj _ => Stays.x (Stays.eq _) 23 hj) ?_
  refine And.intro (fun k hj _ => Stays.x (Stays.eq _) 24 hj) ?_
  refine And.intro (fun k hj _ => Stays.x (Stays.eq _) 25 hj) ?_
  refine And.intro (fun k hj _ => Stays.x (Stays.eq _) 26 hj) ?_
  refine And.intro (fun k hj _ => Stays.x (Stays.eq _) 27 hj) ?_
  refine And.intro (fun k hj _ => Stays.x (Stays.eq _) 28 hj) ?_
  refine And.intro (fun k hj _ => Stays.x (Stays.eq _) 29 hj) ?_
  refine And.intro (fun k hj _ => Stays.x (Stays.eq _) 30 hj) ?_
  refine And.intro (fun k hj _ => Stays.x (Stays.eq _) 31 hj) ?_
  refine And.intro (fun k hj _ => Stays.x (Stays.eq _) 32 hj) ?_
  refine And.intro (fun k hj _ => Stays.x (Stays.eq _) 33 hj) ?_
  refine And.intro (fun k hj _ => Stays.x (Stays.eq _) 34 hj) ?_
  refine And.intro (fun k hj _ => Stays.x (Stays.eq _) 35 hj) ?_
  refine And.intro (fun k hj _ => Stays.x (Stays.eq _) 36 hj) ?_
  refine And.intro (fun k hj _ => Stays.x (Stays.eq _) 37 hj) ?_
  refine And.intro (fun k hj _ => Stays.x (Stays.eq _) 38 hj) ?_
  refine And.intro (fun k hj _ => Stays.x (Stays.eq _) 39 hj) ?_
  refine And.intro (fun k hj _ => Stays.x (?_ : Stays _) 40 hj) ?_
  rotate_left
  refine And.intro (fun k hj _ => Stays.x (Stays.eq _) 41 hj) ?_
  refine And.intro (fun k hj _ => Stays.x (Stays.eq _) 42 hj) ?_
  refine And.intro (fun k hj _ => Stays.x (Stays.eq _) 43 hj) ?_
  exact trivial
  intro hst
  refine' And.intro ?_ ?_
  · refine' rOp_run _ _ (Value.agg #[Value.int IntKind.i64 4, Value.slice (some { block := w1.heap.size + 1, off := 0 }) 1 1, Value.slice (some { block := w1.heap.size + 1 + 1, off := 0 }) 1 1, Value.slice none 0 0]) hst (fun _ _ => rfl) (fun x u hC hd => ?_) (fun _ _ => upd_eq (v := Value.agg #[Value.int IntKind.i64 4, Value.slice (some { block := w1.heap.size + 1, off := 0 }) 1 1, Value.slice (some { block := w1.heap.size + 1 + 1, off := 0 }) 1 1, Value.slice none 0 0]))
    refine' And.intro ?_ ?_
    · rfl
    · have hcu := hfac u hC
      clear hd hC
      first | (go_simp; done) | (go_simp; rfl) | rfl
  refine' And.intro ?_ ?_
  · refine' rOp_run _ _ (Value.agg #[Value.slice A 1 c, Value.int IntKind.i64 1, Value.int IntKind.i64 0, Value.int IntKind.i64 0]) hst (fun _ _ => rfl) (fun x u hC hd => ?_) (fun _ _ => upd_eq (v := Value.agg #[Value.slice A 1 c, Value.int IntKind.i64 1, Value.int IntKind.i64 0, Value.int IntKind.i64 0]))
    refine' And.intro ?_ ?_
    · rfl
    · have hcu := hfac u hC
      clear hd hC
      first | (go_simp; done) | (go_simp; rfl) | rfl
  refine' And.intro ?_ ?_
  refine' rOp_call _ _ hst (fun _ _ => rfl) (fun x u hC hd => ?_)
  refine' And.intro ?_ ?_
  · rfl
  have d0 : x 0 = Value.agg #[Value.int IntKind.i64 4, Value.slice (some { block := w1.heap.size + 1, off := 0 }) 1 1, Value.slice (some { block := w1.heap.size + 1 + 1, off := 0 }) 1 1, Value.slice none 0 0] := at_edge hd 0 (by decide) rfl
  have d1 : x 1 = Value.agg #[Value.slice A 1 c, Value.int IntKind.i64 1, Value.int IntKind.i64 0, Value.int IntKind.i64 0] := at_edge hd 1 (by decide) rfl
  have hcu := hfac u hC
  clear hd
  refine' Exists.intro (88) (Exists.intro (#[Value.agg #[Value.int IntKind.i64 4, Value.slice (some { block := w1.heap.size + 1, off := 0 }) 1 1, Value.slice (some { block := w1.heap.size + 1 + 1, off := 0 }) 1 1, Value.slice none 0 0], Value.agg #[Value.slice A 1 c, Value.int IntKind.i64 1, Value.int IntKind.i64 0, Value.int IntKind.i64 0]]) (And.intro ?_ ?_))
  · first | (go_simp; done) | (go_simp; exact ⟨rfl, rfl⟩) | (go_simp; rfl)
  show Calls _ _ _ _ (fun e u' => ∃ v, e = Ending.returned v ∧ v = Value.int IntKind.i64 0 ∧ Below u.heap.size u u')
  rotate_left
  refine' And.intro ?_ ?_
  · refine' rOp_run _ _ (Value.bool true) hst (fun _ _ => rfl) (fun x u hC hd => ?_) (fun _ _ => upd_eq (v := Value.bool true))
    refine' And.intro ?_ ?_
    · rfl
    · have d2 : x 2 = Value.int IntKind.i64 0 := at_edge hd 0 (by decide) rfl
      have hcu := hfac u hC
      clear hd hC
      first | (go_simp; done) | (go_simp; rfl) | rfl
  refine' And.intro ?_ ?_
  · refine' rOp_run _ _ (Value.bool true) hst (fun _ _ => rfl) (fun x u hC hd => ?_) (fun _ _ => upd_eq (v := Value.bool true))
    refine' And.intro ?_ ?_
    · rfl
    · have d3 : x 3 = Value.bool true := at_edge hd 0 (by decide) rfl
      have hcu := hfac u hC
      clear hd hC
      first | (go_simp; done) | (go_simp; rfl) | rfl
  refine' And.intro ?_ ?_
  · refine' rOp_run _ _ (Value.agg #[Value.int IntKind.i64 0, Value.slice none 0 0, Value.slice none 0 0, Value.slice none 0 0]) hst (fun _ _ => rfl) (fun x u hC hd => ?_) (fun _ _ => upd_eq (v := Value.agg #[Value.int IntKind.i64 0, Value.slice none 0 0, Value.slice none 0 0, Value.slice none 0 0]))
    refine' And.intro ?_ ?_
    · have d4 : x 4 = Value.bool true := at_edge hd 0 (by decide) rfl
      simp [Region.wanted, yielded, d4]
    · have d4 : x 4 = Value.bool true := at_edge hd 0 (by decide) rfl
      have hcu := hfac u hC
      clear hd hC
      first | (go_simp; done) | (go_simp; rfl) | rfl
  refine' And.intro ?_ ?_
  · refine' rOp_run _ _ (Value.agg #[Value.slice A 1 c, Value.int IntKind.i64 1, Value.int IntKind.i64 0, Value.int IntKind.i64 0]) hst (fun _ _ => rfl) (fun x u hC hd => ?_) (fun _ _ => upd_eq (v := Value.agg #[Value.slice A 1 c, Value.int IntKind.i64 1, Value.int IntKind.i64 0, Value.int IntKind.i64 0]))
    refine' And.intro ?_ ?_
    · have d4 : x 4 = Value.bool true := at_edge hd 0 (by decide) rfl
      simp [Region.wanted, yielded, d4]
    · have d4 : x 4 = Value.bool true := at_edge hd 0 (by decide) rfl
      have hcu := hfac u hC
      clear hd hC
      first | (go_simp; done) | (go_simp; rfl) | rfl
  refine' And.intro ?_ ?_
  refine' rOp_call _ _ hst (fun _ _ => rfl) (fun x u hC hd => ?_)
  refine' And.intro ?_ ?_
  · have d4 : x 4 = Value.bool true := at_edge hd 3 (by decide) rfl
    simp [Region.wanted, yielded, d4]
  have d5 : x 5 = Value.agg #[Value.int IntKind.i64 0, Value.slice none 0 0, Value.slice none 0 0, Value.slice none 0 0] := at_edge hd 0 (by decide) rfl
  have d6 : x 6 = Value.agg #[Value.slice A 1 c, Value.int IntKind.i64 1, Value.int IntKind.i64 0, Value.int IntKind.i64 0] := at_edge hd 1 (by decide) rfl
  have d4 : x 4 = Value.bool true := at_edge hd 3 (by decide) rfl
  have hcu := hfac u hC
  clear hd
  refine' Exists.intro (88) (Exists.intro (#[Value.agg #[Value.int IntKind.i64 0, Value.slice none 0 0, Value.slice none 0 0, Value.slice none 0 0], Value.agg #[Value.slice A 1 c, Value.int IntKind.i64 1, Value.int IntKind.i64 0, Value.int IntKind.i64 0]]) (And.intro ?_ ?_))
  · first | (go_simp; done) | (go_simp; exact ⟨rfl, rfl⟩) | (go_simp; rfl)
  show Calls _ _ _ _ (fun e u' => ∃ v, e = Ending.returned v ∧ v = Value.int IntKind.i64 10 ∧ Below u.heap.size u u')
  rotate_left
  refine' And.intro ?_ ?_
  · refine' rOp_run _ _ (Value.bool true) hst (fun _ _ => rfl) (fun x u hC hd => ?_) (fun _ _ => upd_eq (v := Value.bool true))
    refine' And.intro ?_ ?_
    · have d4 : x 4 = Value.bool true := at_edge hd 1 (by decide) rfl
      simp [Region.wanted, yielded, d4]
    · have d7 : x 7 = Value.int IntKind.i64 10 := at_edge hd 0 (by decide) rfl
      have d4 : x 4 = Value.bool true := at_edge hd 1 (by decide) rfl
      have hcu := hfac u hC
      clear hd hC
      first | (go_simp; done) | (go_simp; rfl) | rfl
  refine' And.intro ?_ ?_
  · refine' rOp_run _ _ (Value.bool true) hst (fun _ _ => rfl) (fun x u hC hd => ?_) (fun _ _ => upd_eq (v := Value.bool true))
    refine' And.intro ?_ ?_
    · rfl
    · have d4 : x 4 = Value.bool true := at_edge hd 0 (by decide) rfl
      have d8 : x 8 = Value.bool true := at_edge hd 1 (by decide) rfl
      have hcu := hfac u hC
      clear hd hC
      first | (go_simp; done) | (go_simp; rfl) | rfl
  refine' And.intro ?_ ?_
  · refine' rOp_run _ _ (Value.bool true) hst (fun _ _ => rfl) (fun x u hC hd => ?_) (fun _ _ => upd_eq (v := Value.bool true))
    refine' And.intro ?_ ?_
    · rfl
    · have d9 : x 9 = Value.bool true := at_edge hd 0 (by decide) rfl
      have hcu := hfac u hC
      clear hd hC
      first | (go_simp; done) | (go_simp; rfl) | rfl
  refine' And.intro ?_ ?_
  · refine' rOp_run _ _ (Value.bool true) hst (fun _ _ => rfl) (fun x u hC hd => ?_) (fun _ _ => upd_eq (v := Value.bool true))
    refine' And.intro ?_ ?_
    · have d10 : x 10 = Value.bool true := at_edge hd 0 (by decide) rfl
      simp [Region.wanted, yielded, d10]
    · have d10 : x 10 = Value.bool true := at_edge hd 0 (by decide) rfl
      have hcu := hfac u hC
      clear hd hC
      first | (go_simp; done) | (go_simp; rfl) | rfl
  refine' And.intro ?_ ?_
  · refine' rOp_run _ _ (Value.bool true) hst (fun _ _ => rfl) (fun x u hC hd => ?_) (fun _ _ => upd_eq (v := Value.bool true))
    refine' And.intro ?_ ?_
    · rfl
    · have d10 : x 10 = Value.bool true := at_edge hd 0 (by decide) rfl
      have d11 : x 11 = Value.bool true := at_edge hd 1 (by decide) rfl
      have hcu := hfac u hC
      clear hd hC
      first | (go_simp; done) | (go_simp; rfl) | rfl
  refine' And.intro ?_ ?_
  · refine' rOp_run _ _ (Value.bool true) hst (fun _ _ => rfl) (fun x u hC hd => ?_) (fun _ _ => upd_eq (v := Value.bool true))
    refine' And.intro ?_ ?_
    · rfl
    · have d12 : x 12 = Value.bool true := at_edge hd 0 (by decide) rfl
      have hcu := hfac u hC
      clear hd hC
      first | (go_simp; done) | (go_simp; rfl) | rfl
  refine' And.intro ?_ ?_
  · refine' rOp_run _ _ (Value.slice (some { block := lb, off := lo }) 1 c2) hst (fun _ _ => rfl) (fun x u hC hd => ?_) (fun _ _ => upd_eq (v := Value.slice (some { block := lb, off := lo }) 1 c2))
    refine' And.intro ?_ ?_
    · have d13 : x 13 = Value.bool true := at_edge hd 0 (by decide) rfl
      simp [Region.wanted, yielded, d13]
    · have d13 : x 13 = Value.bool true := at_edge hd 0 (by decide) rfl
      have hcu := hfac u hC
      clear hd hC
      first | (go_simp; done) | (go_simp; rfl) | rfl
  refine' And.intro ?_ ?_
  · refine' rOp_run _ _ (Value.int IntKind.i64 1) hst (fun _ _ => rfl) (fun x u hC hd => ?_) (fun _ _ => upd_eq (v := Value.int IntKind.i64 1))
    refine' And.intro ?_ ?_
    · have d13 : x 13 = Value.bool true := at_edge hd 1 (by decide) rfl
      simp [Region.wanted, yielded, d13]
    · have d14 : x 14 = Value.slice (some { block := lb, off := lo }) 1 c2 := at_edge hd 0 (by decide) rfl
      have d13 : x 13 = Value.bool true := at_edge hd 1 (by decide) rfl
      have hcu := hfac u hC
      clear hd hC
      first | (go_simp; done) | (go_simp; rfl) | rfl
  refine' And.intro ?_ ?_
  · refine' rOp_run _ _ (Value.bool true) hst (fun _ _ => rfl) (fun x u hC hd => ?_) (fun _ _ => upd_eq (v := Value.bool true))
    refine' And.intro ?_ ?_
    · have d13 : x 13 = Value.bool true := at_edge hd 1 (by decide) rfl
      simp [Region.wanted, yielded, d13]
    · have d15 : x 15 = Value.int IntKind.i64 1 := at_edge hd 0 (by decide) rfl
      have d13 : x 13 = Value.bool true := at_edge hd 1 (by decide) rfl
      have hcu := hfac u hC
      clear hd hC
      first | (go_simp; done) | (go_simp; rfl) | rfl
  refine' And.intro ?_ ?_
  · refine' rOp_run _ _ (Value.bool true) hst (fun _ _ => rfl) (fun x u hC hd => ?_) (fun _ _ => upd_eq (v := Value.bool true))
    refine' And.intro ?_ ?_
    · rfl
    · have d13 : x 13 = Value.bool true := at_edge hd 0 (by decide) rfl
      have d16 : x 16 = Value.bool true := at_edge hd 1 (by decide) rfl
      have hcu := hfac u hC
      clear hd hC
      first | (go_simp; done) | (go_simp; rfl) | rfl
  refine' And.intro ?_ ?_
  · refine' rOp_run _ _ (Value.bool true) hst (fun _ _ => rfl) (fun x u hC hd => ?_) (fun _ _ => upd_eq (v := Value.bool true))
    refine' And.intro ?_ ?_
    · rfl
    · have d17 : x 17 = Value.bool true := at_edge hd 0 (by decide) rfl
      have hcu := hfac u hC
      clear hd hC
      first | (go_simp; done) | (go_simp; rfl) | rfl
  refine' And.intro ?_ ?_
  · refine' rOp_run _ _ (Value.slice (some { block := lb, off := lo }) 1 c2) hst (fun _ _ => rfl) (fun x u hC hd => ?_) (fun _ _ => upd_eq (v := Value.slice (some { block := lb, off := lo }) 1 c2))
    refine' And.intro ?_ ?_
    · have d18 : x 18 = Value.bool true := at_edge hd 0 (by decide) rfl
      simp [Region.wanted, yielded, d18]
    · have d18 : x 18 = Value.bool true := at_edge hd 0 (by decide) rfl
      have hcu := hfac u hC
      clear hd hC
      first | (go_simp; done) | (go_simp; rfl) | rfl
  refine' And.intro ?_ ?_
  · refine' rOp_run _ _ (Value.pointer (some { block := lb, off := lo })) hst (fun _ _ => rfl) (fun x u hC hd => ?_) (fun _ _ => upd_eq (v := Value.pointer (some { block := lb, off := lo })))
    refine' And.intro ?_ ?_
    · have d18 : x 18 = Value.bool true := at_edge hd 1 (by decide) rfl
      simp [Region.wanted, yielded, d18]
    · have d19 : x 19 = Value.slice (some { block := lb, off := lo }) 1 c2 := at_edge hd 0 (by decide) rfl
      have d18 : x 18 = Value.bool true := at_edge hd 1 (by decide) rfl
      have hcu := hfac u hC
      clear hd hC
      first | (go_simp; done) | (go_simp; rfl) | rfl
  refine' And.intro ?_ ?_
  · refine' rOp_run _ _ (Value.agg #[Value.bool false, Value.int IntKind.i64 0, Value.int IntKind.i64 6, Value.string { data := #[] }]) hst (fun _ _ => rfl) (fun x u hC hd => ?_) (fun _ _ => upd_eq (v := Value.agg #[Value.bool false, Value.int IntKind.i64 0, Value.int IntKind.i64 6, Value.string { data := #[] }]))
    refine' And.intro ?_ ?_
    · have d18 : x 18 = Value.bool true := at_edge hd 1 (by decide) rfl
      simp [Region.wanted, yielded, d18]
    · have d20 : x 20 = Value.pointer (some { block := lb, off := lo }) := at_edge hd 0 (by decide) rfl
      have d18 : x 18 = Value.bool true := at_edge hd 1 (by decide) rfl
      have hcu := hfac u hC
      clear hd hC
      first | (go_simp; done) | (go_simp; rfl) | rfl
  refine' And.intro ?_ ?_
  · refine' rOp_run _ _ (Value.agg #[Value.bool false, Value.int IntKind.i64 0, Value.int IntKind.i64 6, Value.string { data := #[] }]) hst (fun _ _ => rfl) (fun x u hC hd => ?_) (fun _ _ => upd_eq (v := Value.agg #[Value.bool false, Value.int IntKind.i64 0, Value.int IntKind.i64 6, Value.string { data := #[] }]))
    refine' And.intro ?_ ?_
    · have d18 : x 18 = Value.bool true := at_edge hd 0 (by decide) rfl
      simp [Region.wanted, yielded, d18]
    · have d18 : x 18 = Value.bool true := at_edge hd 0 (by decide) rfl
      have hcu := hfac u hC
      clear hd hC
      first | (go_simp; done) | (go_simp; rfl) | rfl
  refine' And.intro ?_ ?_
  · refine' rOp_run _ _ (Value.bool true) hst (fun _ _ => rfl) (fun x u hC hd => ?_) (fun _ _ => upd_eq (v := Value.bool true))
    refine' And.intro ?_ ?_
    · have d18 : x 18 = Value.bool true := at_edge hd 2 (by decide) rfl
      simp [Region.wanted, yielded, d18]
    · have d21 : x 21 = Value.agg #[Value.bool false, Value.int IntKind.i64 0, Value.int IntKind.i64 6, Value.string { data := #[] }] := at_edge hd 0 (by decide) rfl
      have d22 : x 22 = Value.agg #[Value.bool false, Value.int IntKind.i64 0, Value.int IntKind.i64 6, Value.string { data := #[] }] := at_edge hd 1 (by decide) rfl
      have d18 : x 18 = Value.bool true := at_edge hd 2 (by decide) rfl
      have hcu := hfac u hC
      clear hd hC
      first | (go_simp; done) | (go_simp; rfl) | rfl
  refine' And.intro ?_ ?_
  · refine' rOp_run _ _ (Value.bool true) hst (fun _ _ => rfl) (fun x u hC hd => ?_) (fun _ _ => upd_eq (v := Value.bool true))
    refine' And.intro ?_ ?_
    · rfl
    · have d18 : x 18 = Value.bool true := at_edge hd 0 (by decide) rfl
      have d23 : x 23 = Value.bool true := at_edge hd 1 (by decide) rfl
      have hcu := hfac u hC
      clear hd hC
      first | (go_simp; done) | (go_simp; rfl) | rfl
  refine' And.intro ?_ ?_
  · refine' rOp_run _ _ (Value.bool true) hst (fun _ _ => rfl) (fun x u hC hd => ?_) (fun _ _ => upd_eq (v := Value.bool true))
    refine' And.intro ?_ ?_
    · rfl
    · have d24 : x 24 = Value.bool true := at_edge hd 0 (by decide) rfl
      have hcu := hfac u hC
      clear hd hC
      first | (go_simp; done) | (go_simp; rfl) | rfl
  refine' And.intro ?_ ?_
  · refine' rOp_run _ _ (Value.int IntKind.i64 0) hst (fun _ _ => rfl) (fun x u hC hd => ?_) (fun _ _ => upd_eq (v := Value.int IntKind.i64 0))
    refine' And.intro ?_ ?_
    · have d25 : x 25 = Value.bool true := at_edge hd 0 (by decide) rfl
      simp [Region.wanted, yielded, d25]
    · have d25 : x 25 = Value.bool true := at_edge hd 0 (by decide) rfl
      have hcu := hfac u hC
      clear hd hC
      first | (go_simp; done) | (go_simp; rfl) | rfl
  refine' And.intro ?_ ?_
  · refine' rOp_run _ _ (Value.bool true) hst (fun _ _ => rfl) (fun x u hC hd => ?_) (fun _ _ => upd_eq (v := Value.bool true))
    refine' And.intro ?_ ?_
    · have d25 : x 25 = Value.bool true := at_edge hd 1 (by decide) rfl
      simp [Region.wanted, yielded, d25]
    · have d26 : x 26 = Value.int IntKind.i64 0 := at_edge hd 0 (by decide) rfl
      have d25 : x 25 = Value.bool true := at_edge hd 1 (by decide) rfl
      have hcu := hfac u hC
      clear hd hC
      first | (go_simp; done) | (go_simp; rfl) | rfl
  refine' And.intro ?_ ?_
  · refine' rOp_run _ _ (Value.bool true) hst (fun _ _ => rfl) (fun x u hC hd => ?_) (fun _ _ => upd_eq (v := Value.bool true))
    refine' And.intro ?_ ?_
    · rfl
    · have d25 : x 25 = Value.bool true := at_edge hd 0 (by decide) rfl
      have d27 : x 27 = Value.bool true := at_edge hd 1 (by decide) rfl
      have hcu := hfac u hC
      clear hd hC
      first | (go_simp; done) | (go_simp; rfl) | rfl
  refine' And.intro ?_ ?_
  · refine' rOp_run _ _ (Value.bool true) hst (fun _ _ => rfl) (fun x u hC hd => ?_) (fun _ _ => upd_eq (v := Value.bool true))
    refine' And.intro ?_ ?_
    · rfl
    · have d28 : x 28 = Value.bool true := at_edge hd 0 (by decide) rfl
      have hcu := hfac u hC
      clear hd hC
      first | (go_simp; done) | (go_simp; rfl) | rfl
  refine' And.intro ?_ ?_
  · refine' rOp_run _ _ (Value.agg #[Value.int IntKind.i64 (ball 6).kind, Value.slice D1 (ball 6).ints.length d1, Value.slice D2 (ball 6).texts.length d2, Value.slice D3 (ball 6).kids.length d3]) hst (fun _ _ => rfl) (fun x u hC hd => ?_) (fun _ _ => upd_eq (v := Value.agg #[Value.int IntKind.i64 (ball 6).kind, Value.slice D1 (ball 6).ints.length d1, Value.slice D2 (ball 6).texts.length d2, Value.slice D3 (ball 6).kids.length d3]))
    refine' And.intro ?_ ?_
    · have d29 : x 29 = Value.bool true := at_edge hd 0 (by decide) rfl
      simp [Region.wanted, yielded, d29]
    · have d29 : x 29 = Value.bool true := at_edge hd 0 (by decide) rfl
      have hcu := hfac u hC
      clear hd hC
      first | (go_simp; done) | (go_simp; rfl) | rfl
  refine' And.intro ?_ ?_
  · refine' rOp_run _ _ (Value.agg #[Value.int IntKind.i64 4, Value.slice (some { block := w1.heap.size + 1 + 1 + 1 + 1, off := 0 }) 1 1, Value.slice (some { block := w1.heap.size + 1 + 1 + 1 + 1 + 1, off := 0 }) 1 1, Value.slice none 0 0]) hst (fun _ _ => rfl) (fun x u hC hd => ?_) (fun _ _ => upd_eq (v := Value.agg #[Value.int IntKind.i64 4, Value.slice (some { block := w1.heap.size + 1 + 1 + 1 + 1, off := 0 }) 1 1, Value.slice (some { block := w1.heap.size + 1 + 1 + 1 + 1 + 1, off := 0 }) 1 1, Value.slice none 0 0]))
    refine' And.intro ?_ ?_
    · have d29 : x 29 = Value.bool true := at_edge hd 0 (by decide) rfl
      simp [Region.wanted, yielded, d29]
    · have d29 : x 29 = Value.bool true := at_edge hd 0 (by decide) rfl
      have hcu := hfac u hC
      clear hd hC
      first | (go_simp; done) | (go_simp; rfl) | rfl
  refine' And.intro ?_ ?_
  refine' rOp_call _ _ hst (fun _ _ => rfl) (fun x u hC hd => ?_)
  refine' And.intro ?_ ?_
  · have d29 : x 29 = Value.bool true := at_edge hd 3 (by decide) rfl
    simp [Region.wanted, yielded, d29]
  have d30 : x 30 = Value.agg #[Value.int IntKind.i64 (ball 6).kind, Value.slice D1 (ball 6).ints.length d1, Value.slice D2 (ball 6).texts.length d2, Value.slice D3 (ball 6).kids.length d3] := at_edge hd 0 (by decide) rfl
  have d31 : x 31 = Value.agg #[Value.int IntKind.i64 4, Value.slice (some { block := w1.heap.size + 1 + 1 + 1 + 1, off := 0 }) 1 1, Value.slice (some { block := w1.heap.size + 1 + 1 + 1 + 1 + 1, off := 0 }) 1 1, Value.slice none 0 0] := at_edge hd 1 (by decide) rfl
  have d29 : x 29 = Value.bool true := at_edge hd 3 (by decide) rfl
  have hcu := hfac u hC
  clear hd
  refine' Exists.intro (69) (Exists.intro (#[Value.agg #[Value.int IntKind.i64 (ball 6).kind, Value.slice D1 (ball 6).ints.length d1, Value.slice D2 (ball 6).texts.length d2, Value.slice D3 (ball 6).kids.length d3], Value.agg #[Value.int IntKind.i64 4, Value.slice (some { block := w1.heap.size + 1 + 1 + 1 + 1, off := 0 }) 1 1, Value.slice (some { block := w1.heap.size + 1 + 1 + 1 + 1 + 1, off := 0 }) 1 1, Value.slice none 0 0]]) (And.intro ?_ ?_))
  · first | (go_simp; done) | (go_simp; exact ⟨rfl, rfl⟩) | (go_simp; rfl)
  show Calls _ _ _ _ (fun e u' => ∃ v, e = Ending.returned v ∧ v = Value.bool true ∧ Below u.heap.size u u')
  rotate_left
  refine' And.intro ?_ ?_
  · refine' rOp_run _ _ (Value.bool true) hst (fun _ _ => rfl) (fun x u hC hd => ?_) (fun _ _ => upd_eq (v := Value.bool true))
    refine' And.intro ?_ ?_
    · rfl
    · have d29 : x 29 = Value.bool true := at_edge hd 0 (by decide) rfl
      have d32 : x 32 = Value.bool true := at_edge hd 1 (by decide) rfl
      have hcu := hfac u hC
      clear hd hC
      first | (go_simp; done) | (go_simp; rfl) | rfl
  refine' And.intro ?_ ?_
  · refine' rOp_run _ _ (Value.bool true) hst (fun _ _ => rfl) (fun x u hC hd => ?_) (fun _ _ => upd_eq (v := Value.bool true))
    refine' And.intro ?_ ?_
    · rfl
    · have d33 : x 33 = Value.bool true := at_edge hd 0 (by decide) rfl
      have hcu := hfac u hC
      clear hd hC
      first | (go_simp; done) | (go_simp; rfl) | rfl
  refine' And.intro ?_ ?_
  · refine' rOp_run _ _ (Value.int IntKind.i64 21) hst (fun _ _ => rfl) (fun x u hC hd => ?_) (fun _ _ => upd_eq (v := Value.int IntKind.i64 21))
    refine' And.intro ?_ ?_
    · have d34 : x 34 = Value.bool true := at_edge hd 0 (by decide) rfl
      simp [Region.wanted, yielded, d34]
    · have d34 : x 34 = Value.bool true := at_edge hd 0 (by decide) rfl
      have hcu := hfac u hC
      clear hd hC
      first | (go_simp; done) | (go_simp; rfl) | rfl
  refine' And.intro ?_ ?_
  · refine' rOp_run _ _ (Value.bool true) hst (fun _ _ => rfl) (fun x u hC hd => ?_) (fun _ _ => upd_eq (v := Value.bool true))
    refine' And.intro ?_ ?_
    · have d34 : x 34 = Value.bool true := at_edge hd 1 (by decide) rfl
      simp [Region.wanted, yielded, d34]
    · have d35 : x 35 = Value.int IntKind.i64 21 := at_edge hd 0 (by decide) rfl
      have d34 : x 34 = Value.bool true := at_edge hd 1 (by decide) rfl
      have hcu := hfac u hC
      clear hd hC
      first | (go_simp; done) | (go_simp; rfl) | rfl
  refine' And.intro ?_ ?_
  · refine' rOp_run _ _ (Value.bool true) hst (fun _ _ => rfl) (fun x u hC hd => ?_) (fun _ _ => upd_eq (v := Value.bool true))
    refine' And.intro ?_ ?_
    · rfl
    · have d34 : x 34 = Value.bool true := at_edge hd 0 (by decide) rfl
      have d36 : x 36 = Value.bool true := at_edge hd 1 (by decide) rfl
      have hcu := hfac u hC
      clear hd hC
      first | (go_simp; done) | (go_simp; rfl) | rfl
  refine' And.intro ?_ ?_
  · refine' rOp_run _ _ (Value.bool true) hst (fun _ _ => rfl) (fun x u hC hd => ?_) (fun _ _ => upd_eq (v := Value.bool true))
    refine' And.intro ?_ ?_
    · rfl
    · have d37 : x 37 = Value.bool true := at_edge hd 0 (by decide) rfl
      have hcu := hfac u hC
      clear hd hC
      first | (go_simp; done) | (go_simp; rfl) | rfl
  refine' And.intro ?_ ?_
  · refine' rOp_run _ _ (Value.agg #[Value.int IntKind.i64 4, Value.slice (some { block := w1.heap.size + 1, off := 0 }) 1 1, Value.slice (some { block := w1.heap.size + 1 + 1, off := 0 }) 1 1, Value.slice none 0 0]) hst (fun _ _ => rfl) (fun x u hC hd => ?_) (fun _ _ => upd_eq (v := Value.agg #[Value.int IntKind.i64 4, Value.slice (some { block := w1.heap.size + 1, off := 0 }) 1 1, Value.slice (some { block := w1.heap.size + 1 + 1, off := 0 }) 1 1, Value.slice none 0 0]))
    refine' And.intro ?_ ?_
    · have d38 : x 38 = Value.bool true := at_edge hd 0 (by decide) rfl
      simp [Region.wanted, yielded, d38]
    · have d38 : x 38 = Value.bool true := at_edge hd 0 (by decide) rfl
      have hcu := hfac u hC
      clear hd hC
      first | (go_simp; done) | (go_simp; rfl) | rfl
  refine' And.intro ?_ ?_
  refine' rOp_call _ _ hst (fun _ _ => rfl) (fun x u hC hd => ?_)
  refine' And.intro ?_ ?_
  · have d38 : x 38 = Value.bool true := at_edge hd 2 (by decide) rfl
    simp [Region.wanted, yielded, d38]
  have d39 : x 39 = Value.agg #[Value.int IntKind.i64 4, Value.slice (some { block := w1.heap.size + 1, off := 0 }) 1 1, Value.slice (some { block := w1.heap.size + 1 + 1, off := 0 }) 1 1, Value.slice none 0 0] := at_edge hd 0 (by decide) rfl
  have d38 : x 38 = Value.bool true := at_edge hd 2 (by decide) rfl
  have hcu := hfac u hC
  clear hd
  refine' Exists.intro (89) (Exists.intro (#[Value.agg #[Value.int IntKind.i64 4, Value.slice (some { block := w1.heap.size + 1, off := 0 }) 1 1, Value.slice (some { block := w1.heap.size + 1 + 1, off := 0 }) 1 1, Value.slice none 0 0]]) (And.intro ?_ ?_))
  · first | (go_simp; done) | (go_simp; exact ⟨rfl, rfl⟩) | (go_simp; rfl)
  show Calls _ _ _ _ (fun e u' => ∃ v, e = Ending.returned v ∧ (∃ v1 v2 v3, v = Value.agg #[Value.int IntKind.i64 4, v1, v2, v3] ∧ NdV Any u' (ball 5) v1 v2 v3) ∧ Below u.heap.size u u')
  rotate_left
  refine' And.intro ?_ ?_
  · refine' rOp_run _ _ (Value.agg #[Value.int IntKind.i64 4, Value.slice (some { block := w1.heap.size + 1, off := 0 }) 1 1, Value.slice (some { block := w1.heap.size + 1 + 1, off := 0 }) 1 1, Value.slice none 0 0]) hst (fun _ _ => rfl) (fun x u hC hd => ?_) (fun _ _ => upd_eq (v := Value.agg #[Value.int IntKind.i64 4, Value.slice (some { block := w1.heap.size + 1, off := 0 }) 1 1, Value.slice (some { block := w1.heap.size + 1 + 1, off := 0 }) 1 1, Value.slice none 0 0]))
    refine' And.intro ?_ ?_
    · have d38 : x 38 = Value.bool true := at_edge hd 0 (by decide) rfl
      simp [Region.wanted, yielded, d38]
    · have d38 : x 38 = Value.bool true := at_edge hd 0 (by decide) rfl
      have hcu := hfac u hC
      clear hd hC
      first | (go_simp; done) | (go_simp; rfl) | rfl
  refine' And.intro ?_ ?_
  refine' rOp_call _ _ hst (fun _ _ => rfl) (fun x u hC hd => ?_)
  refine' And.intro ?_ ?_
  · have d38 : x 38 = Value.bool true := at_edge hd 3 (by decide) rfl
    simp [Region.wanted, yielded, d38]
  have d40 : ∃ v1 v2 v3, x 40 = Value.agg #[Value.int IntKind.i64 4, v1, v2, v3] ∧ NdV Any u (ball 5) v1 v2 v3 := at_edge hd 0 (by decide) rfl
  have d41 : x 41 = Value.agg #[Value.int IntKind.i64 4, Value.slice (some { block := w1.heap.size + 1, off := 0 }) 1 1, Value.slice (some { block := w1.heap.size + 1 + 1, off := 0 }) 1 1, Value.slice none 0 0] := at_edge hd 1 (by decide) rfl
  have d38 : x 38 = Value.bool true := at_edge hd 3 (by decide) rfl
  have hcu := hfac u hC
  clear hd
  refine' Exists.intro (69) (Exists.intro (#[x 40, Value.agg #[Value.int IntKind.i64 4, Value.slice (some { block := w1.heap.size + 1, off := 0 }) 1 1, Value.slice (some { block := w1.heap.size + 1 + 1, off := 0 }) 1 1, Value.slice none 0 0]]) (And.intro ?_ ?_))
  · first | (go_simp; done) | (go_simp; exact ⟨rfl, rfl⟩) | (go_simp; rfl)
  show Calls _ _ _ _ (fun e u' => ∃ v, e = Ending.returned v ∧ v = Value.bool true ∧ Below u.heap.size u u')
  rotate_left
  refine' And.intro ?_ ?_
  · refine' rOp_run _ _ (Value.bool true) hst (fun _ _ => rfl) (fun x u hC hd => ?_) (fun _ _ => upd_eq (v := Value.bool true))
    refine' And.intro ?_ ?_
    · rfl
    · have d38 : x 38 = Value.bool true := at_edge hd 0 (by decide) rfl
      have d42 : x 42 = Value.bool true := at_edge hd 1 (by decide) rfl
      have hcu := hfac u hC
      clear hd hC
      first | (go_simp; done) | (go_simp; rfl) | rfl
  exact trivial
  intro x u hC hphi
  have e0 : x 0 = Value.agg #[Value.int IntKind.i64 4, Value.slice (some { block := w1.heap.size + 1, off := 0 }) 1 1, Value.slice (some { block := w1.heap.size + 1 + 1, off := 0 }) 1 1, Value.slice none 0 0] := hphi 0 (by decide) (by simp)
  have e1 : x 1 = Value.agg #[Value.slice A 1 c, Value.int IntKind.i64 1, Value.int IntKind.i64 0, Value.int IntKind.i64 0] := hphi 1 (by decide) (by simp)
  have e2 : x 2 = Value.int IntKind.i64 0 := hphi 2 (by decide) (by simp)
  have e3 : x 3 = Value.bool true := hphi 3 (by decide) (by simp)
  have e4 : x 4 = Value.bool true := hphi 4 (by decide) (by simp)
  have e5 : x 5 = Value.agg #[Value.int IntKind.i64 0, Value.slice none 0 0, Value.slice none 0 0, Value.slice none 0 0] := hphi 5 (by decide) (by simp)
  have e6 : x 6 = Value.agg #[Value.slice A 1 c, Value.int IntKind.i64 1, Value.int IntKind.i64 0, Value.int IntKind.i64 0] := hphi 6 (by decide) (by simp)
  have e7 : x 7 = Value.int IntKind.i64 10 := hphi 7 (by decide) (by simp)
  have e8 : x 8 = Value.bool true := hphi 8 (by decide) (by simp)
  have e9 : x 9 = Value.bool true := hphi 9 (by decide) (by simp)
  have e10 : x 10 = Value.bool true := hphi 10 (by decide) (by simp)
  have e11 : x 11 = Value.bool true := hphi 11 (by decide) (by simp)
  have e12 : x 12 = Value.bool true := hphi 12 (by decide) (by simp)
  have e13 : x 13 = Value.bool true := hphi 13 (by decide) (by simp)
  have e14 : x 14 = Value.slice (some { block := lb, off := lo }) 1 c2 := hphi 14 (by decide) (by simp)
  have e15 : x 15 = Value.int IntKind.i64 1 := hphi 15 (by decide) (by simp)
  have e16 : x 16 = Value.bool true := hphi 16 (by decide) (by simp)
  have e17 : x 17 = Value.bool true := hphi 17 (by decide) (by simp)
  have e18 : x 18 = Value.bool true := hphi 18 (by decide) (by simp)
  have e19 : x 19 = Value.slice (some { block := lb, off := lo }) 1 c2 := hphi 19 (by decide) (by simp)
  have e20 : x 20 = Value.pointer (some { block := lb, off := lo }) := hphi 20 (by decide) (by simp)
  have e21 : x 21 = Value.agg #[Value.bool false, Value.int IntKind.i64 0, Value.int IntKind.i64 6, Value.string { data := #[] }] := hphi 21 (by decide) (by simp)
  have e22 : x 22 = Value.agg #[Value.bool false, Value.int IntKind.i64 0, Value.int IntKind.i64 6, Value.string { data := #[] }] := hphi 22 (by decide) (by simp)
  have e23 : x 23 = Value.bool true := hphi 23 (by decide) (by simp)
  have e24 : x 24 = Value.bool true := hphi 24 (by decide) (by simp)
  have e25 : x 25 = Value.bool true := hphi 25 (by decide) (by simp)
  have e26 : x 26 = Value.int IntKind.i64 0 := hphi 26 (by decide) (by simp)
  have e27 : x 27 = Value.bool true := hphi 27 (by decide) (by simp)
  have e28 : x 28 = Value.bool true := hphi 28 (by decide) (by simp)
  have e29 : x 29 = Value.bool true := hphi 29 (by decide) (by simp)
  have e30 : x 30 = Value.agg #[Value.int IntKind.i64 (ball 6).kind, Value.slice D1 (ball 6).ints.length d1, Value.slice D2 (ball 6).texts.length d2, Value.slice D3 (ball 6).kids.length d3] := hphi 30 (by decide) (by simp)
  have e31 : x 31 = Value.agg #[Value.int IntKind.i64 4, Value.slice (some { block := w1.heap.size + 1 + 1 + 1 + 1, off := 0 }) 1 1, Value.slice (some { block := w1.heap.size + 1 + 1 + 1 + 1 + 1, off := 0 }) 1 1, Value.slice none 0 0] := hphi 31 (by decide) (by simp)
  have e32 : x 32 = Value.bool true := hphi 32 (by decide) (by simp)
  have e33 : x 33 = Value.bool true := hphi 33 (by decide) (by simp)
  have e34 : x 34 = Value.bool true := hphi 34 (by decide) (by simp)
  have e35 : x 35 = Value.int IntKind.i64 21 := hphi 35 (by decide) (by simp)
  have e36 : x 36 = Value.bool true := hphi 36 (by decide) (by simp)
  have e37 : x 37 = Value.bool true := hphi 37 (by decide) (by simp)
  have e38 : x 38 = Value.bool true := hphi 38 (by decide) (by simp)
  have e39 : x 39 = Value.agg #[Value.int IntKind.i64 4, Value.slice (some { block := w1.heap.size + 1, off := 0 }) 1 1, Value.slice (some { block := w1.heap.size + 1 + 1, off := 0 }) 1 1, Value.slice none 0 0] := hphi 39 (by decide) (by simp)
  have e40 : ∃ v1 v2 v3, x 40 = Value.agg #[Value.int IntKind.i64 4, v1, v2, v3] ∧ NdV Any u (ball 5) v1 v2 v3 := hphi 40 (by decide) (by simp)
  have e41 : x 41 = Value.agg #[Value.int IntKind.i64 4, Value.slice (some { block := w1.heap.size + 1, off := 0 }) 1 1, Value.slice (some { block := w1.heap.size + 1 + 1, off := 0 }) 1 1, Value.slice none 0 0] := hphi 41 (by decide) (by simp)
  have e42 : x 42 = Value.bool true := hphi 42 (by decide) (by simp)
  have e43 : x 43 = Value.bool true := hphi 43 (by decide) (by simp)
  clear hphi
  rotate_left
  · rintro v u u' hb ⟨v1, v2, v3, rfl, h⟩
    exact ⟨v1, v2, v3, rfl, h.later hb⟩
  · refine (check_any (ball 5) ⟨[3], 1, 0, 0⟩ _ _ _ _ u (naV.later hC) (hspV.later hC) (Utf8Tabs_below hTV hC)).mono ?_
    rintro x w' ⟨rfl, hb⟩
    exact ⟨_, rfl, congrArg (Value.int .i64) (by decide), hb⟩
  · refine (check_any ⟨0, [], [], []⟩ ⟨[3], 1, 0, 0⟩ _ _ _ _ u ⟨by decide, Sl.nil _ _ _ _ _, Sl.nil _ _ _ _ _, Sl.nil _ _ _ _ _⟩ (hspV.later hC) (Utf8Tabs_below hTV hC)).mono ?_
    rintro x w' ⟨rfl, hb⟩
    exact ⟨_, rfl, congrArg (Value.int .i64) (by decide), hb⟩
  · refine (same8_any (ball 6) (ball 6) _ _ _ _ _ _ u (ncV.later hC) (nbV.later hC) (by decide)).mono ?_
    rintro x w' ⟨rfl, hb⟩
    exact ⟨_, rfl, by simp, hb⟩
  · refine (copy_any (ball 5) _ _ _ u (naV.later hC)).mono ?_
    rintro x w' ⟨B1, k1, B2, k2, B3, k3, rfl, hO, hb⟩
    exact ⟨_, rfl, ⟨_, _, _, rfl, by decide, RI.of_row (xs := [5]) hO.1 (by decide) (fun _ _ => trivial) (by decide), RS.of_row (xs := [wood]) hO.2.1 (by decide) (fun _ _ => trivial) (by decide), RI.of_row (xs := []) hO.2.2 (by decide) (fun _ _ => trivial) (by decide)⟩, hb⟩
  · obtain ⟨v1, v2, v3, hx, hn⟩ := d40
    rw [hx]
    refine (same8_any (ball 5) (ball 5) _ _ _ _ _ _ u hn (naV.later hC) (by decide)).mono ?_
    rintro x w' ⟨rfl, hb⟩
    exact ⟨_, rfl, by simp, hb⟩
  · clear hfac
    go_wp2
    go_ret
    exact ⟨rfl, below2 hBw hC⟩
end Go.Proofs.YtdgjgekefpfgiaaDoor
