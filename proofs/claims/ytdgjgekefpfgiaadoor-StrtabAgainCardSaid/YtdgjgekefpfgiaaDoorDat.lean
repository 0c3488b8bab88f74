/- The data that the program's values stand for, and what it means that a world holds them. No program in sight. -/
import Derived.WalkKit
import Derived.WalkSpells
import Derived.WalkLawsBesides
import Derived.Lib.Hide
import Derived.BigQuiet
namespace Go.Proofs.YtdgjgekefpfgiaaDoor
open Go.RowKit

/-! ### Worlds -/
/-- Blocks that `S` names are as they were. -/
structure Keeps (S : Nat → Prop) (w w' : World) : Prop where
  size : w.heap.size ≤ w'.heap.size
  at_ : ∀ b, S b → b < w.heap.size → w'.heap[b]? = w.heap[b]?
theorem Keeps.refl (S : Nat → Prop) (w : World) : Keeps S w w := ⟨Nat.le_refl _, fun _ _ _ => rfl⟩
theorem Keeps.trans {S : Nat → Prop} {a b c : World} (h : Keeps S a b) (k : Keeps S b c) : Keeps S a c :=
  ⟨Nat.le_trans h.size k.size, fun i hi hl => (k.at_ i hi (Nat.lt_of_lt_of_le hl h.size)).trans (h.at_ i hi hl)⟩
theorem Keeps.mono {S T : Nat → Prop} {a b : World} (h : Keeps T a b) (hs : ∀ i, S i → T i) : Keeps S a b := ⟨h.size, fun i hi => h.at_ i (hs i hi)⟩
theorem Keeps.of_below {S : Nat → Prop} {w w' : World} (h : Below w.heap.size w w') : Keeps S w w' := ⟨h.size, fun b _ hb => h.block b hb⟩
theorem Keeps.of_below_lt {B : Nat} {w w' : World} (h : Below B w w') : Keeps (· < B) w w' := ⟨h.size, fun b hb _ => h.block b hb⟩
theorem Keeps.of_grown {w w' : World} {row : Option Nat} (h : w.grownBy w' row) : Keeps (fun b => some b ≠ row) w w' := ⟨h.size, fun b hb hl => h.block b hl hb⟩
theorem Keeps.of_setCell {w : World} (p : Addr) (u : Value) : Keeps (fun b => b ≠ p.block) w (w.setCell p u) := ⟨by simp [World.setCell], fun b hb _ => Below.heap_setCell w p u b hb⟩
theorem Keeps.drew {S : Nat → Prop} {w w' : World} (h : Keeps S w w') : Keeps S w w'.drew := ⟨h.size, h.at_⟩
theorem below_alloc' {w W : World} (h : Below w.heap.size w W) (o : Obj) : Below w.heap.size w (W.alloc o) := h.alloc h.size o
theorem below_drew' {w W : World} (h : Below w.heap.size w W) : Below w.heap.size w W.drew := h.drew
theorem below2 {w w1 w2 : World} (h : Below w.heap.size w w1) (k : Below w1.heap.size w1 w2) : Below w.heap.size w w2 := h.trans (k.mono h.size)
theorem below_of_grown {w w' : World} (h : w.grownBy w' none) : Below w.heap.size w w' := ⟨h.os, h.tape, h.output, h.size, fun k hk => h.block k hk (by simp)⟩
theorem below_set {w W : World} (h : Below w.heap.size w W) {p : Addr} (hp : w.heap.size ≤ p.block) (u : Value) : Below w.heap.size w (W.setCell p u) := h.setCell hp u
theorem cell_later' {w wx : World} {a : Addr} {v : Value} (hb : Below w.heap.size w wx) (h : w.cell? a = some v) : wx.cell? a = some v := (hb.cell (World.block_lt_of_cell? _ _ h)).trans h
theorem blk_cell {w : World} {g : Nat} {t : TypeId} {cs : Array Value} (h : w.heap[g]? = some (.cells cs t (0, 0))) (i : Nat) : w.cell? ⟨g, i, none⟩ = cs[i]? := cell_of_row w g i cs t (0, 0) h
theorem blk_frozen {w : World} {g : Nat} {t : TypeId} {cs : Array Value} (h : w.heap[g]? = some (.cells cs t (0, 0))) (i : Nat) : w.frozen? ⟨g, i, none⟩ = false := by simp [World.frozen?, h]
theorem blk_lt {w : World} {g : Nat} {o : Obj} (h : w.heap[g]? = some o) : g < w.heap.size := (Array.getElem?_eq_some_iff.1 h).1
theorem blk_later {w w' : World} {g : Nat} {o : Obj} (hb : Below w.heap.size w w') (h : w.heap[g]? = some o) : w'.heap[g]? = some o := (hb.block g (blk_lt h)).trans h
theorem blk_set {w : World} {g : Nat} {t : TypeId} {cs : Array Value} (h : w.heap[g]? = some (.cells cs t (0, 0))) (i : Nat) (u : Value) : (w.setCell ⟨g, i, none⟩ u).heap[g]? = some (.cells (cs.setIfInBounds i u) t (0, 0)) := by
  simp [World.setCell, Array.getElem?_modify, h]
theorem blk_far {w : World} {g : Nat} {o : Obj} (h : w.heap[g]? = some o) {p : Addr} (hp : g ≠ p.block) (u : Value) : (w.setCell p u).heap[g]? = some o := (Below.heap_setCell w p u g hp).trans h
theorem blk_new (w : World) (o : Obj) : (w.alloc o).heap[w.heap.size]? = some o := heap_alloc_new w o
theorem blk_kept {S : Nat → Prop} {w w' : World} {g : Nat} {o : Obj} (hk : Keeps S w w') (hs : S g) (h : w.heap[g]? = some o) : w'.heap[g]? = some o := (hk.at_ g hs (blk_lt h)).trans h

/-! ### Slices that are read -/
def I64 (x : Int) : Prop := -9223372036854775808 ≤ x ∧ x ≤ 9223372036854775807
instance (x : Int) : Decidable (I64 x) := inferInstanceAs (Decidable (_ ∧ _))
abbrev Any : Nat → Prop := fun _ => True

/-- Slices whose elements take `sz` cells: element x at cells that `R` says. -/
def Sl {α : Type} (nb sz : Nat) (R : World → α → (Nat → Option Value) → Prop) (S : Nat → Prop) (w : World) (v : Value) (xs : List α) : Prop :=
  ∃ A c, v = .slice A xs.length c ∧ xs.length ≤ c ∧ xs.length * nb ≤ 140737488355328 ∧
    (0 < xs.length → ∃ b o, A = some ⟨b, o, none⟩ ∧ S b ∧ b < w.heap.size ∧ ∀ i x, xs[i]? = some x → R w x (fun j => w.cell? ⟨b, o + i * sz + j, none⟩))

theorem Sl.keeps {α : Type} {nb sz : Nat} {R : World → α → (Nat → Option Value) → Prop} {S : Nat → Prop} {w w' : World} {v : Value} {xs : List α} (h : Sl nb sz R S w v xs)
    (hk : Keeps S w w') (hR : ∀ x f g, (∀ j u, f j = some u → g j = some u) → R w x f → R w' x g) : Sl nb sz R S w' v xs := by
  obtain ⟨A, c, e, h1, h2, h3⟩ := h
  refine ⟨A, c, e, h1, h2, fun hp => ?_⟩
  obtain ⟨b, o, hA, hS, hb, hx⟩ := h3 hp
  have := hk.size
  refine ⟨b, o, hA, hS, by omega, fun i x hi => hR x _ _ (fun j u hu => ?_) (hx i x hi)⟩
  simp only [World.cell?, hk.at_ b hS hb] at hu ⊢
  exact hu
theorem Sl.mono {α : Type} {nb sz : Nat} {R R' : World → α → (Nat → Option Value) → Prop} {S T : Nat → Prop} {w : World} {v : Value} {xs : List α} (h : Sl nb sz R S w v xs)
    (hs : ∀ b, b < w.heap.size → S b → T b) (hR : ∀ x f, R w x f → R' w x f) : Sl nb sz R' T w v xs := by
  obtain ⟨A, c, e, h1, h2, h3⟩ := h
  refine ⟨A, c, e, h1, h2, fun hp => ?_⟩
  obtain ⟨b, o, hA, hS, hb, hx⟩ := h3 hp
  exact ⟨b, o, hA, hs b hb hS, hb, fun i x hi => hR _ _ (hx i x hi)⟩
theorem Sl.form {α : Type} {nb sz : Nat} {R : World → α → (Nat → Option Value) → Prop} {S : Nat → Prop} {w : World} {v : Value} {xs : List α} (h : Sl nb sz R S w v xs) :
    ∃ A c, v = .slice A xs.length c ∧ xs.length ≤ c ∧ xs.length * nb ≤ 140737488355328 := by
  obtain ⟨A, c, e, h1, h2, _⟩ := h
  exact ⟨A, c, e, h1, h2⟩
theorem Sl.at {α : Type} {nb sz : Nat} {R : World → α → (Nat → Option Value) → Prop} {S : Nat → Prop} {w : World} {A : Option Addr} {n c : Nat} {xs : List α} (h : Sl nb sz R S w (.slice A n c) xs) (i : Nat) (hi : i < xs.length) :
    ∃ b o, A = some ⟨b, o, none⟩ ∧ S b ∧ b < w.heap.size ∧ R w xs[i] (fun j => w.cell? ⟨b, o + i * sz + j, none⟩) := by
  obtain ⟨_, _, e, _, _, h3⟩ := h
  obtain ⟨rfl, rfl, rfl⟩ : _ ∧ _ ∧ _ := by simpa using e
  obtain ⟨b, o, hA, hS, hb, hx⟩ := h3 (by omega)
  exact ⟨b, o, hA, hS, hb, hx i xs[i] (List.getElem?_eq_getElem hi)⟩
theorem Sl.nil {α : Type} (nb sz : Nat) (R : World → α → (Nat → Option Value) → Prop) (S : Nat → Prop) (w : World) : Sl nb sz R S w (.slice none 0 0) [] :=
  ⟨none, 0, rfl, Nat.le_refl _, by simp, fun h => by simp at h⟩
/-! ### Rows of the call's own -/
/-- The block that a slice owns; none: it has no room. -/
def blk : Value → Option Nat
  | .slice (some a) _ (_ + 1) => some a.block
  | _ => none
/-- The slice v holds the cells xs (so many values each `size`), in a block from `base` on that nothing else leads to; or it has no room at all. -/
def Row (w : World) (base : Nat) (e : TypeId) (size : Nat) (v : Value) (xs : List Value) : Prop :=
  (xs = [] ∧ ∃ A, v = .slice A 0 0) ∨
  ∃ g n cap cur, v = .slice (some ⟨g, 0, none⟩) n (cap + 1) ∧ base ≤ g ∧ w.heap[g]? = some (.cells cur e (0, 0)) ∧ n ≤ cap + 1 ∧ cap + 1 ≤ maxLen ∧ cur.size = (cap + 1) * size ∧ xs.length = n * size ∧ cur.toList.take (n * size) = xs
section
variable {w w' : World} {base : Nat} {e : TypeId} {size : Nat} {v : Value} {xs : List Value}
theorem Row.empty (w : World) (base : Nat) (e : TypeId) (size : Nat) (A : Option Addr) : Row w base e size (.slice A 0 0) [] := .inl ⟨rfl, A, rfl⟩
theorem Row.of_same (h : Row w base e size v xs) (hk : ∀ g, blk v = some g → w'.heap[g]? = w.heap[g]?) : Row w' base e size v xs := by
  rcases h with h | ⟨g, n, cap, cur, rfl, hb, hg, r⟩
  · exact .inl h
  · exact .inr ⟨g, n, cap, cur, rfl, hb, (hk g rfl).trans hg, r⟩
theorem Row.typed (h : Row w base e size v xs) : ∀ g, blk v = some g → base ≤ g ∧ g < w.heap.size ∧ ∃ cur, w.heap[g]? = some (.cells cur e (0, 0)) := by
  rcases h with ⟨_, A, rfl⟩ | ⟨g, n, cap, cur, rfl, hb, hg, r⟩
  · intro g hg
    cases A <;> simp [blk] at hg
  · intro g' hg'
    simp only [blk, Option.some.injEq] at hg'
    subst hg'
    exact ⟨hb, blk_lt hg, cur, hg⟩
theorem Row.later (h : Row w base e size v xs) (hb : Below w.heap.size w w') : Row w' base e size v xs := h.of_same fun g hg => hb.block g (h.typed g hg).2.1
theorem Row.keeps {S : Nat → Prop} (h : Row w base e size v xs) (hk : Keeps S w w') (hs : ∀ g, blk v = some g → S g) : Row w' base e size v xs := h.of_same fun g hg => hk.at_ g (hs g hg) (h.typed g hg).2.1
theorem Row.grown {row : Option Nat} (h : Row w base e size v xs) (hg : w.grownBy w' row) (hne : ∀ g, blk v = some g → row ≠ some g) : Row w' base e size v xs := h.of_same fun g hb => hg.block g (h.typed g hb).2.1 (fun e => hne g hb e.symm)
theorem Row.lower {base' : Nat} (h : Row w base e size v xs) (hb : base' ≤ base) : Row w base' e size v xs := by
  rcases h with h | ⟨g, n, cap, cur, rfl, h1, r⟩
  · exact .inl h
  · exact .inr ⟨g, n, cap, cur, rfl, Nat.le_trans hb h1, r⟩
theorem Row.set (h : Row w base e size v xs) {p : Addr} (hp : ∀ g, blk v = some g → g ≠ p.block) (u : Value) : Row (w.setCell p u) base e size v xs := h.of_same fun g hg => Below.heap_setCell w p u g (hp g hg)
theorem Row.ne {b' : Nat} {e' : TypeId} {s' : Nat} {u : Value} {ys : List Value} (h : Row w base e size v xs) (k : Row w b' e' s' u ys) (he : e ≠ e') : ∀ g, blk v = some g → blk u ≠ some g := by
  intro g hg hu
  obtain ⟨_, _, c1, h1⟩ := h.typed g hg
  obtain ⟨_, _, c2, h2⟩ := k.typed g hu
  rw [h1] at h2
  injection h2 with h2
  injection h2 with _ h2
  exact he h2
theorem Row.form (h : Row w base e size v xs) : ∃ A n c, v = .slice A n c ∧ xs.length = n * size ∧ n ≤ c ∧ c ≤ maxLen := by
  rcases h with ⟨rfl, A, rfl⟩ | ⟨g, n, cap, cur, rfl, _, _, hn, hc, _, hl, _⟩
  · exact ⟨A, 0, 0, rfl, by simp, Nat.le_refl _, Nat.zero_le _⟩
  · exact ⟨_, n, _, rfl, hl, hn, hc⟩
theorem Row.form1 (h : Row w base e 1 v xs) : ∃ A c, v = .slice A xs.length c ∧ xs.length ≤ c ∧ c ≤ maxLen := by
  obtain ⟨A, n, c, rfl, hl, hn, hc⟩ := h.form
  obtain rfl : n = xs.length := by omega
  exact ⟨A, c, rfl, hn, hc⟩
/-- An element's cell. -/
theorem Row.cell (h : Row w base e size v xs) (j : Nat) (hj : j < xs.length) : ∃ g n c, v = .slice (some ⟨g, 0, none⟩) n c ∧ blk v = some g ∧ w.cell? ⟨g, j, none⟩ = some xs[j] ∧ w.frozen? ⟨g, j, none⟩ = false := by
  rcases h with ⟨rfl, A, rfl⟩ | ⟨g, n, cap, cur, rfl, hb, hg, hn, hc, hs, hl, ht⟩
  · simp at hj
  · refine ⟨g, n, _, rfl, rfl, ?_, blk_frozen hg j⟩
    rw [blk_cell hg, ← Array.getElem?_toList]
    have h1 : (cur.toList.take (n * size))[j]? = some xs[j] := by rw [ht]; exact List.getElem?_eq_getElem hj
    rw [List.getElem?_take, if_pos (by omega)] at h1
    exact h1
/-- One cell is written. -/
theorem Row.stored {g n c : Nat} (h : Row w base e size (.slice (some ⟨g, 0, none⟩) n c) xs) (j : Nat) (hj : j < xs.length) (u : Value) : Row (w.setCell ⟨g, j, none⟩ u) base e size (.slice (some ⟨g, 0, none⟩) n c) (xs.set j u) := by
  rcases h with ⟨rfl, A, h⟩ | ⟨g', n', cap, cur, h, hb, hg, hn, hc, hs, hl, ht⟩
  · simp at hj
  · injection h with h1 h2 h3
    injection h1 with h1
    injection h1 with h1
    subst h1 h2 h3
    refine .inr ⟨g, n, cap, _, rfl, hb, blk_set hg j u, hn, hc, by simpa using hs, by simpa using hl, ?_⟩
    rw [Array.toList_setIfInBounds, List.take_set, ht]
/-- 'xs[:m]'. -/
theorem Row.take {A : Option Addr} {n c : Nat} (h : Row w base e size (.slice A n c) xs) (m : Nat) (hm : m ≤ n) : Row w base e size (.slice A m c) (xs.take (m * size)) := by
  rcases h with ⟨rfl, B, h⟩ | ⟨g', n', cap, cur, h, hb, hg, hn, hc, hs, hl, ht⟩
  · injection h with h1 h2 h3
    subst h1 h2 h3
    obtain rfl : m = 0 := by omega
    exact .inl ⟨by simp, A, rfl⟩
  · injection h with h1 h2 h3
    subst h1 h2 h3
    have hle : m * size ≤ n * size := Nat.mul_le_mul_right _ hm
    refine .inr ⟨g', m, cap, cur, rfl, hb, hg, by omega, hc, hs, by rw [List.length_take, hl]; omega, ?_⟩
    rw [← ht, List.take_take, Nat.min_eq_left hle]
theorem Row.of_own {n : Nat} (h : w.ownsRow base e size v n xs) : Row w base e size v xs := by
  obtain ⟨hl, h2⟩ := h
  rcases h2 with ⟨rfl, rfl⟩ | ⟨g, cap, cur, rfl, hb, hg, hn, hc, hs, ht⟩
  · exact .inl ⟨List.eq_nil_of_length_eq_zero (by simpa using hl), none, rfl⟩
  · cases cap with
    | zero =>
      obtain rfl : n = 0 := by omega
      exact .inl ⟨List.eq_nil_of_length_eq_zero (by simpa using hl), _, rfl⟩
    | succ cap => exact .inr ⟨g, n, cap, cur, rfl, hb, hg, hn, hc, hs, hl, ht⟩
/-- A literal. -/
theorem Row.lit (w : World) (base : Nat) (e : TypeId) (cs : Array Value) (hb : base ≤ w.heap.size) (hm : cs.size ≤ 9223372036854775807) :
    Row (w.alloc (.cells cs e)) base e 1 (.slice (some ⟨w.heap.size, 0, none⟩) cs.size cs.size) cs.toList :=
  Row.of_own (World.ownsRow_lit (base := base) (e := e) (size := 1) w cs cs.size hb (by simpa [maxLen] using hm) (by simp))
end
/-- A row of the call's own is read. -/
theorem Sl.of_row {α : Type} {nb sz : Nat} {R : World → α → (Nat → Option Value) → Prop} {S : Nat → Prop} {w : World} {v : Value} {xs : List α} {base : Nat} {e : TypeId} {cs : List Value}
    (h : Row w base e sz v cs) (hsz : 0 < sz) (hlen : cs.length = xs.length * sz) (hB : xs.length * nb ≤ 140737488355328) (hS : ∀ b, blk v = some b → S b)
    (hR : ∀ i x f, xs[i]? = some x → (∀ j u, j < sz → cs[i * sz + j]? = some u → f j = some u) → R w x f) : Sl nb sz R S w v xs := by
  rcases h with ⟨rfl, A, rfl⟩ | ⟨g, n, cap, cur, rfl, hb, hg, hn, hc, hs, hl, ht⟩
  · obtain rfl : xs = [] := by
      refine List.eq_nil_of_length_eq_zero ?_
      rcases Nat.eq_zero_or_pos xs.length with h | h
      · exact h
      · have := Nat.mul_pos h hsz
        simp at hlen
        omega
    exact ⟨A, 0, rfl, Nat.le_refl _, by simp, fun h => by simp at h⟩
  · obtain rfl : n = xs.length := Nat.eq_of_mul_eq_mul_right hsz (by omega)
    refine ⟨_, _, rfl, hn, hB, fun _ => ⟨g, 0, rfl, hS g rfl, blk_lt hg, fun i x hi => hR i x _ hi fun j u hj hu => ?_⟩⟩
    rw [blk_cell hg]
    have hlt : i * sz + j < cs.length := (List.getElem?_eq_some_iff.1 hu).1
    rw [← ht] at hu hlt
    rw [List.getElem?_take, if_pos (by rw [List.length_take] at hlt; omega)] at hu
    rw [show 0 + i * sz + j = i * sz + j from by omega, ← Array.getElem?_toList]
    exact hu

theorem flat_get {α β : Type} {f : α → List β} {sz : Nat} (hf : ∀ x, (f x).length = sz) : ∀ (l : List α) (i j : Nat), j < sz → (l.flatMap f)[i * sz + j]? = (l[i]?).bind fun x => (f x)[j]?
  | [], i, j, _ => by simp
  | a :: l, 0, j, h => by
    rw [List.flatMap_cons, Nat.zero_mul, Nat.zero_add, List.getElem?_append_left (by rw [hf]; exact h)]
    simp
  | a :: l, i + 1, j, h => by
    rw [List.flatMap_cons, List.getElem?_append_right (by rw [hf, Nat.succ_mul]; omega), hf, show (i + 1) * sz + j - sz = i * sz + j from by rw [Nat.succ_mul]; omega, flat_get hf l i j h]
    simp
theorem flat_length {α β : Type} {f : α → List β} {sz : Nat} (hf : ∀ x, (f x).length = sz) (l : List α) : (l.flatMap f).length = l.length * sz := by
  induction l with
  | nil => simp
  | cons a l ih => rw [List.flatMap_cons, List.length_append, hf, ih, List.length_cons, Nat.succ_mul]; omega
/-- A row of elements of several cells each: what is read, beside what its cells are. -/
theorem Sl.of_flat {α β : Type} {nb sz : Nat} {R : World → α → (Nat → Option Value) → Prop} {S : Nat → Prop} {w : World} {v : Value} {base : Nat} {e : TypeId} {enc : α × β → List Value} (hf : ∀ p, (enc p).length = sz) (ps : List (α × β))
    (h : Row w base e sz v (ps.flatMap enc)) (hsz : 0 < sz) (hB : ps.length * nb ≤ 140737488355328) (hS : ∀ b, blk v = some b → S b)
    (hR : ∀ p ∈ ps, ∀ f, (∀ j u, (enc p)[j]? = some u → f j = some u) → R w p.1 f) : Sl nb sz R S w v (ps.map (·.1)) := by
  refine Sl.of_row h hsz (by rw [flat_length hf, List.length_map]) (by simpa using hB) hS fun i x f hi hfx => ?_
  rw [List.getElem?_map, Option.map_eq_some_iff] at hi
  obtain ⟨p, hp, rfl⟩ := hi
  refine hR p (List.mem_of_getElem? hp) f fun j u hj => hfx j u ?_ ?_
  · rw [← hf p]
    exact (List.getElem?_eq_some_iff.1 hj).1
  · rw [flat_get hf _ _ _ (by rw [← hf p]; exact (List.getElem?_eq_some_iff.1 hj).1), hp]
    exact hj
theorem Row.lits (w : World) (base : Nat) (e : TypeId) (size n : Nat) (cs : Array Value) (hb : base ≤ w.heap.size) (hm : n ≤ 9223372036854775807) (hs : cs.size = n * size) :
    Row (w.alloc (.cells cs e)) base e size (.slice (some ⟨w.heap.size, 0, none⟩) n n) cs.toList :=
  Row.of_own (World.ownsRow_lit (base := base) (e := e) (size := size) w cs n hb (by simpa [maxLen] using hm) hs)

/-- Numbers. -/
def IntAt (x : Int) (f : Nat → Option Value) : Prop := f 0 = some (.int .i64 x) ∧ I64 x
def RI (S : Nat → Prop) (w : World) (v : Value) (xs : List Int) : Prop := Sl 8 1 (fun _ x f => IntAt x f) S w v xs
/-- Texts. -/
def StrAt (x : ByteArray) (f : Nat → Option Value) : Prop := f 0 = some (.string x) ∧ x.size ≤ 9223372036854775807
def RS (S : Nat → Prop) (w : World) (v : Value) (xs : List ByteArray) : Prop := Sl 16 1 (fun _ x f => StrAt x f) S w v xs

theorem RI.keeps {S : Nat → Prop} {w w' : World} {v : Value} {xs : List Int} (h : RI S w v xs) (hk : Keeps S w w') : RI S w' v xs := Sl.keeps h hk fun _ _ _ hf hx => ⟨hf _ _ hx.1, hx.2⟩
theorem RS.keeps {S : Nat → Prop} {w w' : World} {v : Value} {xs : List ByteArray} (h : RS S w v xs) (hk : Keeps S w w') : RS S w' v xs := Sl.keeps h hk fun _ _ _ hf hx => ⟨hf _ _ hx.1, hx.2⟩
theorem RI.later {S : Nat → Prop} {w w' : World} {v : Value} {xs : List Int} (h : RI S w v xs) (hb : Below w.heap.size w w') : RI S w' v xs := h.keeps (.of_below hb)
theorem RS.later {S : Nat → Prop} {w w' : World} {v : Value} {xs : List ByteArray} (h : RS S w v xs) (hb : Below w.heap.size w w') : RS S w' v xs := h.keeps (.of_below hb)
theorem RI.mono {S T : Nat → Prop} {w : World} {v : Value} {xs : List Int} (h : RI S w v xs) (hs : ∀ b, b < w.heap.size → S b → T b) : RI T w v xs := Sl.mono h hs fun _ _ h => h
theorem RS.mono {S T : Nat → Prop} {w : World} {v : Value} {xs : List ByteArray} (h : RS S w v xs) (hs : ∀ b, b < w.heap.size → S b → T b) : RS T w v xs := Sl.mono h hs fun _ _ h => h
theorem RI.any {S : Nat → Prop} {w : World} {v : Value} {xs : List Int} (h : RI S w v xs) : RI Any w v xs := h.mono fun _ _ _ => trivial
theorem RS.any {S : Nat → Prop} {w : World} {v : Value} {xs : List ByteArray} (h : RS S w v xs) : RS Any w v xs := h.mono fun _ _ _ => trivial
theorem RI.form {S : Nat → Prop} {w : World} {v : Value} {xs : List Int} (h : RI S w v xs) : ∃ A c, v = .slice A xs.length c ∧ xs.length ≤ c ∧ xs.length * 8 ≤ 140737488355328 := Sl.form h
theorem RS.form {S : Nat → Prop} {w : World} {v : Value} {xs : List ByteArray} (h : RS S w v xs) : ∃ A c, v = .slice A xs.length c ∧ xs.length ≤ c ∧ xs.length * 16 ≤ 140737488355328 := Sl.form h
theorem RI.at {S : Nat → Prop} {w : World} {A : Option Addr} {n c : Nat} {xs : List Int} (h : RI S w (.slice A n c) xs) (i : Nat) (hi : i < xs.length) :
    ∃ b o, A = some ⟨b, o, none⟩ ∧ b < w.heap.size ∧ w.cell? ⟨b, o + i, none⟩ = some (.int .i64 xs[i]) ∧ I64 xs[i] := by
  obtain ⟨b, o, hA, _, hb, hx, hr⟩ := Sl.at h i hi
  exact ⟨b, o, hA, hb, by simpa using hx, hr⟩
theorem RS.at {S : Nat → Prop} {w : World} {A : Option Addr} {n c : Nat} {xs : List ByteArray} (h : RS S w (.slice A n c) xs) (i : Nat) (hi : i < xs.length) :
    ∃ b o, A = some ⟨b, o, none⟩ ∧ b < w.heap.size ∧ w.cell? ⟨b, o + i, none⟩ = some (.string xs[i]) ∧ xs[i].size ≤ 9223372036854775807 := by
  obtain ⟨b, o, hA, _, hb, hx, hr⟩ := Sl.at h i hi
  exact ⟨b, o, hA, hb, by simpa using hx, hr⟩
theorem RI.range {S : Nat → Prop} {w : World} {v : Value} {xs : List Int} (h : RI S w v xs) : ∀ x ∈ xs, I64 x := by
  intro x hx
  obtain ⟨i, hi, rfl⟩ := List.getElem_of_mem hx
  obtain ⟨A, c, rfl, _⟩ := h.form
  exact (h.at i hi).choose_spec.choose_spec.2.2.2
theorem RS.sizes {S : Nat → Prop} {w : World} {v : Value} {xs : List ByteArray} (h : RS S w v xs) : ∀ x ∈ xs, x.size ≤ 9223372036854775807 := by
  intro x hx
  obtain ⟨i, hi, rfl⟩ := List.getElem_of_mem hx
  obtain ⟨A, c, rfl, _⟩ := h.form
  exact (h.at i hi).choose_spec.choose_spec.2.2.2

def ints (xs : List Int) : List Value := xs.map fun x => .int .i64 x
def strs (xs : List ByteArray) : List Value := xs.map fun x => .string x
@[simp] theorem ints_length (xs : List Int) : (ints xs).length = xs.length := by simp [ints]
@[simp] theorem strs_length (xs : List ByteArray) : (strs xs).length = xs.length := by simp [strs]
theorem RI.of_row {S : Nat → Prop} {w : World} {v : Value} {xs : List Int} {base : Nat} {e : TypeId} (h : Row w base e 1 v (ints xs)) (hB : xs.length * 8 ≤ 140737488355328) (hS : ∀ b, blk v = some b → S b) (hx : ∀ x ∈ xs, I64 x) : RI S w v xs :=
  Sl.of_row h (by decide) (by simp) hB hS fun i x f hi hf => ⟨hf 0 _ (by omega) (by simp [ints, hi]), hx x (List.mem_of_getElem? hi)⟩
theorem RS.of_row {S : Nat → Prop} {w : World} {v : Value} {xs : List ByteArray} {base : Nat} {e : TypeId} (h : Row w base e 1 v (strs xs)) (hB : xs.length * 16 ≤ 140737488355328) (hS : ∀ b, blk v = some b → S b) (hx : ∀ x ∈ xs, x.size ≤ 9223372036854775807) : RS S w v xs :=
  Sl.of_row h (by decide) (by simp) hB hS fun i x f hi hf => ⟨hf 0 _ (by omega) (by simp [strs, hi]), hx x (List.mem_of_getElem? hi)⟩

/-! ### Nodes, scenes -/
structure Nd where
  kind : Int
  ints : List Int
  texts : List ByteArray
  kids : List Int
  deriving DecidableEq
instance : Inhabited Nd := ⟨⟨0, [], [], []⟩⟩

/-- A node, in four values. -/
def NdV (S : Nat → Prop) (w : World) (n : Nd) (vi vt vk : Value) : Prop := I64 n.kind ∧ RI S w vi n.ints ∧ RS S w vt n.texts ∧ RI S w vk n.kids
def NdAt (S : Nat → Prop) (w : World) (n : Nd) (f : Nat → Option Value) : Prop :=
  ∃ vi vt vk, f 0 = some (.int .i64 n.kind) ∧ f 1 = some vi ∧ f 2 = some vt ∧ f 3 = some vk ∧ NdV S w n vi vt vk
def RN (S : Nat → Prop) (w : World) (v : Value) (l : List Nd) : Prop := Sl 80 4 (NdAt S) S w v l
theorem NdV.keeps {S : Nat → Prop} {w w' : World} {n : Nd} {vi vt vk : Value} (h : NdV S w n vi vt vk) (hk : Keeps S w w') : NdV S w' n vi vt vk := ⟨h.1, h.2.1.keeps hk, h.2.2.1.keeps hk, h.2.2.2.keeps hk⟩
theorem NdV.later {S : Nat → Prop} {w w' : World} {n : Nd} {vi vt vk : Value} (h : NdV S w n vi vt vk) (hb : Below w.heap.size w w') : NdV S w' n vi vt vk := h.keeps (.of_below hb)
theorem NdV.mono {S T : Nat → Prop} {w : World} {n : Nd} {vi vt vk : Value} (h : NdV S w n vi vt vk) (hs : ∀ b, b < w.heap.size → S b → T b) : NdV T w n vi vt vk := ⟨h.1, h.2.1.mono hs, h.2.2.1.mono hs, h.2.2.2.mono hs⟩
theorem NdV.any {S : Nat → Prop} {w : World} {n : Nd} {vi vt vk : Value} (h : NdV S w n vi vt vk) : NdV Any w n vi vt vk := h.mono fun _ _ _ => trivial
theorem RN.keeps {S : Nat → Prop} {w w' : World} {v : Value} {xs : List Nd} (h : RN S w v xs) (hk : Keeps S w w') : RN S w' v xs :=
  Sl.keeps h hk fun _ _ _ hf ⟨vi, vt, vk, h0, h1, h2, h3, r⟩ => ⟨vi, vt, vk, hf _ _ h0, hf _ _ h1, hf _ _ h2, hf _ _ h3, r.keeps hk⟩
theorem RN.later {S : Nat → Prop} {w w' : World} {v : Value} {xs : List Nd} (h : RN S w v xs) (hb : Below w.heap.size w w') : RN S w' v xs := h.keeps (.of_below hb)
theorem RN.mono {S T : Nat → Prop} {w : World} {v : Value} {xs : List Nd} (h : RN S w v xs) (hs : ∀ b, b < w.heap.size → S b → T b) : RN T w v xs :=
  Sl.mono h hs fun _ _ ⟨vi, vt, vk, h0, h1, h2, h3, r⟩ => ⟨vi, vt, vk, h0, h1, h2, h3, r.mono hs⟩
theorem RN.any {S : Nat → Prop} {w : World} {v : Value} {xs : List Nd} (h : RN S w v xs) : RN Any w v xs := h.mono fun _ _ _ => trivial
theorem RN.form {S : Nat → Prop} {w : World} {v : Value} {xs : List Nd} (h : RN S w v xs) : ∃ A c, v = .slice A xs.length c ∧ xs.length ≤ c ∧ xs.length * 80 ≤ 140737488355328 := Sl.form h
/-- A node among others. -/
theorem RN.at {S : Nat → Prop} {w : World} {A : Option Addr} {n c : Nat} {xs : List Nd} (h : RN S w (.slice A n c) xs) (i : Nat) (hi : i < xs.length) :
    ∃ b o vi vt vk, A = some ⟨b, o, none⟩ ∧ b < w.heap.size ∧ w.cell? ⟨b, o + i * 4, none⟩ = some (.int .i64 xs[i].kind) ∧ w.cell? ⟨b, o + i * 4 + 1, none⟩ = some vi ∧ w.cell? ⟨b, o + i * 4 + 2, none⟩ = some vt ∧
      w.cell? ⟨b, o + i * 4 + 3, none⟩ = some vk ∧ NdV S w xs[i] vi vt vk := by
  obtain ⟨b, o, hA, _, hb, vi, vt, vk, h0, h1, h2, h3, r⟩ := Sl.at h i hi
  exact ⟨b, o, vi, vt, vk, hA, hb, h0, h1, h2, h3, r⟩
/-- The four values, taken apart. -/
theorem NdV.form {S : Nat → Prop} {w : World} {n : Nd} {vi vt vk : Value} (h : NdV S w n vi vt vk) : ∃ Ai ci At ct Ak ck, vi = .slice Ai n.ints.length ci ∧ vt = .slice At n.texts.length ct ∧ vk = .slice Ak n.kids.length ck := by
  obtain ⟨Ai, ci, e1, _⟩ := h.2.1.form
  obtain ⟨At, ct, e2, _⟩ := h.2.2.1.form
  obtain ⟨Ak, ck, e3, _⟩ := h.2.2.2.form
  exact ⟨Ai, ci, At, ct, Ak, ck, e1, e2, e3⟩

/-! ### What a kind of node has -/
structure Sp where
  ints : List Int
  texts : Int
  least : Int
  most : Int
  deriving DecidableEq
instance : Inhabited Sp := ⟨⟨[], 0, 0, 0⟩⟩
def SpAt (S : Nat → Prop) (w : World) (s : Sp) (f : Nat → Option Value) : Prop := ∃ vi, f 0 = some vi ∧ f 1 = some (.int .i64 s.texts) ∧ f 2 = some (.int .i64 s.least) ∧ f 3 = some (.int .i64 s.most) ∧ RI S w vi s.ints
def RSp (S : Nat → Prop) (w : World) (v : Value) (l : List Sp) : Prop := Sl 48 4 (SpAt S) S w v l
theorem RSp.form {S : Nat → Prop} {w : World} {v : Value} {xs : List Sp} (h : RSp S w v xs) : ∃ A c, v = .slice A xs.length c ∧ xs.length ≤ c ∧ xs.length * 48 ≤ 140737488355328 := Sl.form h
theorem RSp.later {S : Nat → Prop} {w w' : World} {v : Value} {xs : List Sp} (h : RSp S w v xs) (hb : Below w.heap.size w w') : RSp S w' v xs :=
  Sl.keeps h (.of_below hb) fun _ _ _ hf ⟨vi, h0, h1, h2, h3, r⟩ => ⟨vi, hf _ _ h0, hf _ _ h1, hf _ _ h2, hf _ _ h3, r.later hb⟩
theorem RSp.at {S : Nat → Prop} {w : World} {A : Option Addr} {n c : Nat} {xs : List Sp} (h : RSp S w (.slice A n c) xs) (i : Nat) (hi : i < xs.length) :
    ∃ b o vi, A = some ⟨b, o, none⟩ ∧ b < w.heap.size ∧ w.cell? ⟨b, o + i * 4, none⟩ = some vi ∧ w.cell? ⟨b, o + i * 4 + 1, none⟩ = some (.int .i64 xs[i].texts) ∧ w.cell? ⟨b, o + i * 4 + 2, none⟩ = some (.int .i64 xs[i].least) ∧
      w.cell? ⟨b, o + i * 4 + 3, none⟩ = some (.int .i64 xs[i].most) ∧ RI S w vi xs[i].ints := by
  obtain ⟨b, o, hA, _, hb, vi, h0, h1, h2, h3, r⟩ := Sl.at h i hi
  exact ⟨b, o, vi, hA, hb, h0, h1, h2, h3, r⟩
def encSp (p : Sp × Value) : List Value := [p.2, .int .i64 p.1.texts, .int .i64 p.1.least, .int .i64 p.1.most]
theorem RSp.lit (S : Nat → Prop) (w : World) (ps : List (Sp × Value)) (e : TypeId) (hS : S w.heap.size) (h : ∀ p ∈ ps, RI S w p.2 p.1.ints) (hB : ps.length ≤ 100) :
    RSp S (w.alloc (.cells (ps.flatMap encSp).toArray e)) (.slice (some ⟨w.heap.size, 0, none⟩) ps.length ps.length) (ps.map (·.1)) := by
  have hb : Below w.heap.size w (w.alloc (.cells (ps.flatMap encSp).toArray e)) := below_alloc' (Below.refl _ _) _
  refine Sl.of_flat (enc := encSp) (sz := 4) (base := 0) (e := e) (fun _ => rfl) ps ?_ (by decide) (by omega) (fun b hb => by cases hn : ps.length <;> simp [blk, hn] at hb; subst hb; exact hS) fun p hp f hf => ⟨p.2, hf 0 _ rfl, hf 1 _ rfl, hf 2 _ rfl, hf 3 _ rfl, (h p hp).later hb⟩
  exact Row.lits w 0 e 4 ps.length (ps.flatMap encSp).toArray (Nat.zero_le _) (by omega) (by simp [flat_length (sz := 4) (f := encSp) (fun _ => rfl)])
/-- The kinds of version 2, of version 1, from 1 on. -/
def sp2 : List Sp := [⟨[], 0, 0, 0⟩, ⟨[], 1, 0, -1⟩, ⟨[2, 2, 2], 0, 1, 1⟩, ⟨[3, 3, 3], 1, 0, 0⟩, ⟨[3], 1, 0, 0⟩, ⟨[3], 2, 0, 0⟩, ⟨[1], 0, 0, -1⟩, ⟨[4, 4, 4, 5], 0, 0, 0⟩, ⟨[2, 2, 2], 0, 1, 1⟩]
def sp1 : List Sp := [⟨[], 0, 0, 0⟩, ⟨[], 0, 0, -1⟩, ⟨[2, 2, 2, 2], 0, 1, 1⟩, ⟨[3], 1, 0, 0⟩, ⟨[3], 1, 0, 0⟩, ⟨[], 1, 0, 0⟩, ⟨[4], 0, 0, 0⟩]
def findSp (l : List Sp) (k : Int) : Option Sp := if 1 ≤ k ∧ k < l.length then l[k.toNat]? else none
/-- A Spec is handed back, or none. -/
def SpRet (S : Nat → Prop) (w : World) (o : Option Sp) (x : Ending) (w' : World) : Prop :=
  ∃ A c, x = .returned (.tuple #[.agg #[.slice A (o.getD default).ints.length c, .int .i64 (o.getD default).texts, .int .i64 (o.getD default).least, .int .i64 (o.getD default).most], .bool o.isSome]) ∧
    RI S w' (.slice A (o.getD default).ints.length c) (o.getD default).ints ∧ Below w.heap.size w w'

/-! ### Regions that draw their order, in the class of worlds in which nothing old has turned -/
section
variable {P : Program} {ops : Array Oper} {C : World → Prop} {a : Act} {o : Oper} {K : Act → Prop}
theorem wp_region_below {id : Nat} {Q : Exit → Act → World → Prop} {w : World} {l : List Oper} (hm : P.follows .mixedOrders = true) (hB : Region.lexB .any l.toArray = true)
    (h : wpQuiet P l.toArray (fun w' => Below w.heap.size w w') (fun a' => ∀ w', Below w.heap.size w w' → Q .normal a' w') l a) : (Code.region id l.toArray true).wp P Q a w :=
  wp_region_quiet (C := fun w' => Below w.heap.size w w') hm hB ⟨rfl, rfl, rfl, Nat.le_refl _, fun _ _ => rfl⟩ (by simpa using h)
/-- An operation whose run is known in each world of the class. -/
theorem quiet_run (v : Value) (h : ∀ w, C w → (execOp a.eval o).run P w = .ok (.value v) w) (hk : K (a.put o.dst v)) : o.quiet P a C K :=
  ⟨v, fun w hw => by unfold Oper.quietAt; rw [h w hw]; exact ⟨rfl, rfl⟩, hk⟩
/-- A call that hands back a value that is known. -/
theorem quiet_call (v : Value) (f : FuncId) (args : Array Value) (h : ∀ w, C w → (execOp a.eval o).run P w = .ok (.enter f args) w)
    (hc : ∀ w, C w → Calls P f args w (fun e w' => e = .returned v ∧ C w')) (hk : K (a.put o.dst v)) : o.quiet P a C K :=
  ⟨v, fun w hw => by unfold Oper.quietAt; rw [h w hw]; exact ⟨rfl, hc w hw⟩, hk⟩
end

/-! ### append -/
section
variable {P : Program} {ops : Array Oper} {rest : List Oper} {o : Oper} {a : Act} {Q : Exit → Act → World → Prop} {w : World}
/-- What a slice's cells are, where it is appended. -/
def Cells (w : World) (A : Option Addr) (cs : List Value) : Prop := cs = [] ∨ ∃ ad, A = some ad ∧ ∀ j u, cs[j]? = some u → w.cell? (ad.add j) = some u
theorem append_run (t ty e : TypeId) (z : Value) (size bytes : Nat)
    (ht : P.underlying t = some (.slice e)) (hinfo : (P.info? e).map (fun i => (i.zero, i.size, i.bytes)) = some (some z, size, bytes)) (hzs : z.cells.size = size) (hsz : 0 < size)
    (base : Nat) (A0 : Option Addr) (n c0 : Nat) (xs : List Value) (hown : Row w base e size (.slice A0 n c0) xs)
    (A : Option Addr) (m c : Nat) (news : List Value) (hl : news.length = m * size) (hnews : Cells w A news) (h1 : ∀ u ∈ news, u.oneCell' = true)
    (hbytes : (n + m) * bytes ≤ 140737488355328) (h63 : n + m ≤ 9223372036854775807) (hbase : base ≤ w.heap.size) :
    ∃ A1 c1 w', (Builtin.append_ #[t, t] ty #[.slice A0 n c0, .slice A m c]).run P w = .ok (.slice A1 (n + m) c1) w' ∧ Row w' base e size (.slice A1 (n + m) c1) (xs ++ news) ∧ w.grownBy w' (blk (.slice A0 n c0)) ∧
      (blk (.slice A1 (n + m) c1) = blk (.slice A0 n c0) ∨ blk (.slice A1 (n + m) c1) = some w.heap.size) := by
  obtain ⟨i, hi, hz0, hz1, hz2⟩ := info_parts hinfo
  have hm0 : news = [] → m = 0 := by
    rintro rfl
    rcases Nat.eq_zero_or_pos m with h | h
    · exact h
    · have := Nat.mul_pos h hsz
      simp at hl
      omega
  rcases hown with ⟨rfl, B, hv⟩ | ⟨g, n', cap, cur, hv, hb, hg, hn, hc, hs, hlx, htk⟩
  · injection hv with e1 e2 e3
    subst e1 e2 e3
    have hbn : blk (.slice A0 0 0) = none := by cases A0 <;> rfl
    by_cases hm : m = 0
    · subst hm
      obtain rfl : news = [] := List.eq_nil_of_length_eq_zero (by simpa using hl)
      refine ⟨A0, 0, w, ?_, Row.empty _ _ _ _ _, World.grownBy.refl w _, .inl rfl⟩
      cases A0 <;> cases A <;> simp [Builtin.append_, run_underlying ht, sizeOf, typeInfo, hi, Builtin.lenOf, Builtin.firstCells, storeCells, loadCells, loadCellsFrom]
    · rcases hnews with h | ⟨ad, rfl, hcn⟩
      · exact absurd (hm0 h) hm
      · subst hz1 hz2
        have key : ∀ (row : Option Nat), Row (w.drew.alloc (.cells (news.toArray ++ Builtin.zeroCells z.cells (grownCap w m 0 e - m)) e)) base e i.size (.slice (some ⟨w.heap.size, 0, none⟩) m (grownCap w m 0 e)) news ∧
            w.grownBy (w.drew.alloc (.cells (news.toArray ++ Builtin.zeroCells z.cells (grownCap w m 0 e - m)) e)) row := by
          intro row
          have hge := grownCap_ge w m 0 e
          have hcm : grownCap w m 0 e ≤ maxLen := grownCap_le_maxLen w m 0 e (by simp only [maxLen]; omega)
          refine ⟨Row.of_own (n := m) ⟨hl, .inr ⟨w.heap.size, _, _, rfl, hbase, heap_alloc_new w.drew _, hge, hcm, ?_, ?_⟩⟩, ⟨rfl, rfl, rfl, by simp, fun k hk _ => Below.heap_alloc w.drew _ k hk⟩⟩
          · simp only [Array.size_append, List.size_toArray, size_zeroCells, hzs, hl, ← Nat.add_mul]
            congr 1
            omega
          · simp only [Array.toList_append]
            rw [← hl]
            exact List.take_left
        cases A0 with
        | none =>
          have hr := run_append_nil (P := P) w t ty e i z ht hi hz0 ad m c news hl hcn (by omega) (by omega) (by simp only [Nat.zero_add] at hbytes; omega)
          refine ⟨_, _, _, by rw [Nat.zero_add]; exact hr, by simpa using (key none).1, (key _).2, .inr ?_⟩
          have := grownCap_ge w m 0 e
          obtain ⟨k, hk⟩ : ∃ k, grownCap w m 0 e = k + 1 := ⟨grownCap w m 0 e - 1, by omega⟩
          rw [hk]
          rfl
        | some a0 =>
          have hr := run_append_grow (P := P) w t ty e i z ht hi hz0 a0 0 0 [] (by simp) (by simp) ad m c news hl hcn (by omega) (by omega) (growslice_fits (by omega) hbytes)
          refine ⟨_, _, _, hr, by simpa using (key none).1, by simpa using (key _).2, .inr ?_⟩
          have := grownCap_ge w (0 + m) 0 e
          obtain ⟨k, hk⟩ : ∃ k, grownCap w (0 + m) 0 e = k + 1 := ⟨grownCap w (0 + m) 0 e - 1, by omega⟩
          rw [hk]
          rfl
  · injection hv with e1 e2 e3
    subst e1 e2 e3
    have hO : w.ownsRow base e size (.slice (some ⟨g, 0, none⟩) n (cap + 1)) n xs := ⟨hlx, .inr ⟨g, cap + 1, cur, rfl, hb, hg, hn, hc, hs, htk⟩⟩
    rcases hnews with rfl | ⟨ad, rfl, hcn⟩
    · obtain rfl := hm0 rfl
      cases A with
      | none =>
        refine ⟨some ⟨g, 0, none⟩, cap + 1, w, ?_, by simpa using Row.of_own hO, World.grownBy.refl w _, .inl rfl⟩
        simp [Builtin.append_, run_underlying ht, sizeOf, typeInfo, hi, Builtin.lenOf, Builtin.firstCells, hn, storeCells]
      | some ad =>
        obtain ⟨v', w', hr, h2, h3, _, h5⟩ := run_append_own_at (P := P) w base t ty e i z size bytes ht hi hz0 hz1 hz2 hzs hsz _ n xs hO ad 0 c [] (by simp) (by simp) (by simp) (by simp only [maxLen]; omega) hbytes hbase
        rcases h2.2 with ⟨rfl, h0⟩ | ⟨g', cap', cur', rfl, _, hg', hn', _⟩
        · obtain ⟨rfl, _⟩ : n = 0 ∧ True := ⟨by omega, trivial⟩
          refine ⟨none, 0, w', by simpa using hr, by simpa using Row.of_own h2, h3, ?_⟩
          simp [Value.ownBlock] at h5
        · refine ⟨_, cap', w', hr, Row.of_own h2, h3, ?_⟩
          cases cap' with
          | zero =>
            exfalso
            have : (cap + 1) = 0 := by
              have hsame : w'.heap[g]? = w.heap[g]? ∨ True := .inr trivial
              simp [Builtin.append_, run_underlying ht, sizeOf, typeInfo, hi, Builtin.lenOf, Builtin.firstCells, hn, storeCells, loadCells, loadCellsFrom] at hr
            omega
          | succ k => simpa [blk, Value.ownBlock] using h5
    · obtain ⟨v', w', hr, h2, h3, _, h5⟩ := run_append_own_at (P := P) w base t ty e i z size bytes ht hi hz0 hz1 hz2 hzs hsz _ n xs hO ad m c news hl hcn h1 (by simp only [maxLen]; omega) hbytes hbase
      rcases h2.2 with ⟨rfl, h0⟩ | ⟨g', cap', cur', rfl, _, hg', hn', _⟩
      · simp [Value.ownBlock] at h5
      · refine ⟨_, cap', w', hr, Row.of_own h2, h3, ?_⟩
        cases cap' with
        | zero =>
          obtain ⟨rfl, rfl⟩ : n = 0 ∧ m = 0 := by omega
          exfalso
          simp [Builtin.append_, run_underlying ht, sizeOf, typeInfo, hi, Builtin.lenOf, Builtin.firstCells, storeCells, loadCells, loadCellsFrom] at hr
        | succ k => simpa [blk, Value.ownBlock] using h5
theorem append_wp {K : Act → World → Prop} (s x : Operand) (t e : TypeId) (z : Value) (size bytes : Nat)
    (ho : o.op = .call { callee := .builtin .append, args := #[s, x], argTypes := #[t, t] })
    (ht : P.underlying t = some (.slice e)) (hinfo : (P.info? e).map (fun i => (i.zero, i.size, i.bytes)) = some (some z, size, bytes)) (hzs : z.cells.size = size) (hsz : 0 < size)
    (base : Nat) (A0 : Option Addr) (n c0 : Nat) (xs : List Value) (hs : a.eval s = .slice A0 n c0) (hown : Row w base e size (.slice A0 n c0) xs)
    (A : Option Addr) (m c : Nat) (news : List Value) (hx : a.eval x = .slice A m c) (hl : news.length = m * size) (hnews : Cells w A news) (h1 : ∀ u ∈ news, u.oneCell' = true)
    (hbytes : (n + m) * bytes ≤ 140737488355328) (h63 : n + m ≤ 9223372036854775807) (hbase : base ≤ w.heap.size)
    (h : ∀ A1 c1 w', Row w' base e size (.slice A1 (n + m) c1) (xs ++ news) → w.grownBy w' (blk (.slice A0 n c0)) → (blk (.slice A1 (n + m) c1) = blk (.slice A0 n c0) ∨ blk (.slice A1 (n + m) c1) = some w.heap.size) → K (a.put o.dst (.slice A1 (n + m) c1)) w') : o.wp P a w K Q := by
  obtain ⟨A1, c1, w', hr, h2, h3, h5⟩ := append_run (P := P) (w := w) t o.type e z size bytes ht hinfo hzs hsz base A0 n c0 xs hown A m c news hl hnews h1 hbytes h63 hbase
  unfold Oper.wp execOp
  simp only [ho, resolve, invoke, builtin, Sem.run_bind, Sem.run_pure, Result.andThen_ok, List.map_toArray, List.map_cons, List.map_nil, hs, hx, hr]
  exact h A1 c1 w' h2 h3 h5
theorem append_step {K : Act → World → Prop} {E : Prop} (hgd : o.guard = none) (s x : Operand) (t e : TypeId) (z : Value) (size bytes : Nat)
    (ho : o.op = .call { callee := .builtin .append, args := #[s, x], argTypes := #[t, t] })
    (ht : P.underlying t = some (.slice e)) (hinfo : (P.info? e).map (fun i => (i.zero, i.size, i.bytes)) = some (some z, size, bytes)) (hzs : z.cells.size = size) (hsz : 0 < size)
    (base : Nat) (A0 : Option Addr) (n c0 : Nat) (xs : List Value) (hs : a.eval s = .slice A0 n c0) (hown : Row w base e size (.slice A0 n c0) xs)
    (A : Option Addr) (m c : Nat) (news : List Value) (hx : a.eval x = .slice A m c) (hl : news.length = m * size) (hnews : Cells w A news) (h1 : ∀ u ∈ news, u.oneCell' = true)
    (hbytes : (n + m) * bytes ≤ 140737488355328) (h63 : n + m ≤ 9223372036854775807) (hbase : base ≤ w.heap.size)
    (h : ∀ A1 c1 w', Row w' base e size (.slice A1 (n + m) c1) (xs ++ news) → w.grownBy w' (blk (.slice A0 n c0)) → (blk (.slice A1 (n + m) c1) = blk (.slice A0 n c0) ∨ blk (.slice A1 (n + m) c1) = some w.heap.size) → K (a.put o.dst (.slice A1 (n + m) c1)) w') :
    if Region.wanted o (yielded ops a.tmps) = true then Oper.wp P o a w K Q else E := by
  have hw : Region.wanted o (yielded ops a.tmps) = true := by simp [Region.wanted, hgd]
  rw [if_pos hw]
  exact append_wp s x t e z size bytes ho ht hinfo hzs hsz base A0 n c0 xs hs hown A m c news hx hl hnews h1 hbytes h63 hbase h
theorem append_ev (hgd : o.guard = none) (s x : Operand) (t e : TypeId) (z : Value) (size bytes : Nat)
    (ho : o.op = .call { callee := .builtin .append, args := #[s, x], argTypes := #[t, t] })
    (ht : P.underlying t = some (.slice e)) (hinfo : (P.info? e).map (fun i => (i.zero, i.size, i.bytes)) = some (some z, size, bytes)) (hzs : z.cells.size = size) (hsz : 0 < size)
    (base : Nat) (A0 : Option Addr) (n c0 : Nat) (xs : List Value) (hs : a.eval s = .slice A0 n c0) (hown : Row w base e size (.slice A0 n c0) xs)
    (A : Option Addr) (m c : Nat) (news : List Value) (hx : a.eval x = .slice A m c) (hl : news.length = m * size) (hnews : Cells w A news) (h1 : ∀ u ∈ news, u.oneCell' = true)
    (hbytes : (n + m) * bytes ≤ 140737488355328) (h63 : n + m ≤ 9223372036854775807) (hbase : base ≤ w.heap.size)
    (h : ∀ A1 c1 w', Row w' base e size (.slice A1 (n + m) c1) (xs ++ news) → w.grownBy w' (blk (.slice A0 n c0)) → (blk (.slice A1 (n + m) c1) = blk (.slice A0 n c0) ∨ blk (.slice A1 (n + m) c1) = some w.heap.size) → wpList P ops Q rest (a.put o.dst (.slice A1 (n + m) c1)) w') : wpList P ops Q (o :: rest) a w :=
  wpList_plain hgd fun _ hK => append_wp s x t e z size bytes ho ht hinfo hzs hsz base A0 n c0 xs hs hown A m c news hx hl hnews h1 hbytes h63 hbase fun A1 c1 w' h2 h3 h5 => hK _ _ (h A1 c1 w' h2 h3 h5)
end
theorem below_of_grownBy {w w' : World} {row : Option Nat} (h : w.grownBy w' row) (hr : ∀ g, row = some g → False) : Below w.heap.size w w' := ⟨h.os, h.tape, h.output, h.size, fun k hk => h.block k hk (fun e => hr k e.symm)⟩
theorem below_append {w w' : World} {A : Option Addr} (h : w.grownBy w' (blk (.slice A 0 0))) : Below w.heap.size w w' := below_of_grownBy h fun g hg => by cases A <;> simp [blk] at hg
theorem below_grown {w0 w w' : World} {row : Option Nat} (h : Below w0.heap.size w0 w) (hg : w.grownBy w' row) (hr : ∀ g, row = some g → w0.heap.size ≤ g) : Below w0.heap.size w0 w' := h.grown hg h.size hr
/-- The cells of what is read. -/
theorem RI.cells {S : Nat → Prop} {w : World} {A : Option Addr} {n c : Nat} {xs : List Int} (h : RI S w (.slice A n c) xs) : Cells w A (ints xs) := by
  rcases List.eq_nil_or_concat xs with rfl | ⟨_, _, rfl⟩
  · exact .inl rfl
  · obtain ⟨_, _, e, _, _, h3⟩ := h
    obtain ⟨rfl, rfl, rfl⟩ : _ ∧ _ ∧ _ := by simpa using e
    obtain ⟨b, o, hA, _, hb, hx⟩ := h3 (by simp)
    refine .inr ⟨_, hA, fun j u hj => ?_⟩
    simp only [ints, List.getElem?_map, Option.map_eq_some_iff] at hj
    obtain ⟨x, hj, rfl⟩ := hj
    rw [Addr.add_lit]
    simpa using (hx j x hj).1
theorem RS.cells {S : Nat → Prop} {w : World} {A : Option Addr} {n c : Nat} {xs : List ByteArray} (h : RS S w (.slice A n c) xs) : Cells w A (strs xs) := by
  rcases List.eq_nil_or_concat xs with rfl | ⟨_, _, rfl⟩
  · exact .inl rfl
  · obtain ⟨_, _, e, _, _, h3⟩ := h
    obtain ⟨rfl, rfl, rfl⟩ : _ ∧ _ ∧ _ := by simpa using e
    obtain ⟨b, o, hA, _, hb, hx⟩ := h3 (by simp)
    refine .inr ⟨_, hA, fun j u hj => ?_⟩
    simp only [strs, List.getElem?_map, Option.map_eq_some_iff] at hj
    obtain ⟨x, hj, rfl⟩ := hj
    rw [Addr.add_lit]
    simpa using (hx j x hj).1
theorem ints_one (xs : List Int) : ∀ u ∈ ints xs, u.oneCell' = true := by intro u hu; simp only [ints, List.mem_map] at hu; obtain ⟨x, _, rfl⟩ := hu; rfl
theorem strs_one (xs : List ByteArray) : ∀ u ∈ strs xs, u.oneCell' = true := by intro u hu; simp only [strs, List.mem_map] at hu; obtain ⟨x, _, rfl⟩ := hu; rfl
theorem Cells.later {w w' : World} {A : Option Addr} {cs : List Value} (h : Cells w A cs) (hb : Below w.heap.size w w') : Cells w' A cs := by
  rcases h with h | ⟨ad, h, hc⟩
  · exact .inl h
  · exact .inr ⟨ad, h, fun j u hj => cell_later' hb (hc j u hj)⟩
theorem Cells.one (w : World) (x : Value) (t : TypeId) : Cells (w.alloc (.cells #[x] t)) (some ⟨w.heap.size, 0, none⟩) [x] := .inr ⟨_, rfl, cell_one_new w x t⟩
end Go.Proofs.YtdgjgekefpfgiaaDoor
