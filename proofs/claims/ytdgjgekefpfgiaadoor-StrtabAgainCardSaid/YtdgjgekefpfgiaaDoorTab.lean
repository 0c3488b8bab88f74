/- Cursors and tables of texts: what the document says of them; the plain laws. No program in sight. -/
import Derived.Test.YtdgjgekefpfgiaaDoorRut
namespace Go.Proofs.YtdgjgekefpfgiaaDoor

/-! ### A cursor -/
structure Cu where
  at_ : Nat
  e : Int
  deriving DecidableEq
def cuUint (s : ByteArray) (c : Cu) (most : Nat) : Nat × Cu :=
  if c.e = 0 then
    (if (vget s c.at_).2.2 = 0 then (if (vget s c.at_).1 ≤ most ∧ (vget s c.at_).1 ≤ 16777216 then ((vget s c.at_).1, ⟨(vget s c.at_).2.1, 0⟩) else (0, ⟨c.at_, 19⟩))
    else (0, ⟨c.at_, (vget s c.at_).2.2⟩))
  else (0, c)
/-- A sign read off. -/
def zag (n : Nat) : Int := if n % 2 = 0 then (n / 2 : Nat) else -((n / 2 : Nat) : Int) - 1
def zig (x : Int) : Nat := if 0 ≤ x then 2 * x.toNat else 2 * (-(x + 1)).toNat + 1
def cuInt (s : ByteArray) (c : Cu) : Int × Cu :=
  if c.e = 0 then (if (vget s c.at_).2.2 = 0 then (zag (vget s c.at_).1, ⟨(vget s c.at_).2.1, 0⟩) else (0, ⟨c.at_, (vget s c.at_).2.2⟩)) else (0, c)
def cuBytes (s : ByteArray) (c : Cu) (n : Int) : ByteArray × Cu :=
  if c.e = 0 then (if n < 0 then (⟨#[]⟩, ⟨c.at_, 1⟩) else if (s.size : Int) - c.at_ < n then (⟨#[]⟩, ⟨c.at_, 2⟩) else (s.extract c.at_ (c.at_ + n.toNat), ⟨c.at_ + n.toNat, 0⟩)) else (⟨#[]⟩, c)
def cuText (s : ByteArray) (c : Cu) (most : Int) : ByteArray × Cu :=
  let u := cuUint s c most.toNat
  let b := cuBytes s u.2 u.1
  if b.2.e = 0 then b else (⟨#[]⟩, ⟨c.at_, b.2.e⟩)
def cuFail (c : Cu) (e : Int) : Cu := if c.e = 0 then ⟨c.at_, e⟩ else c

theorem cuUint_err {s : ByteArray} {c : Cu} {most : Nat} (h : c.e ≠ 0) : cuUint s c most = (0, c) := if_neg h
theorem cuText_err {s : ByteArray} {c : Cu} {most : Int} (h : c.e ≠ 0) : cuText s c most = (⟨#[]⟩, c) := by
  simp only [cuText, cuUint_err h, cuBytes, if_neg h]

/-! ### Tables -/
instance memT (s : ByteArray) (l : List ByteArray) : Decidable (s ∈ l) := decidable_of_iff (∃ x ∈ l, x = s) ⟨fun ⟨_, h, e⟩ => e ▸ h, fun h => ⟨s, h, rfl⟩⟩
def internT (l : List ByteArray) (s : ByteArray) : List ByteArray := if s ∈ l then l else l ++ [s]
/-- A text's place among others. -/
def numT : List ByteArray → ByteArray → Nat
  | [], _ => 0
  | x :: l, s => if x = s then 0 else numT l s + 1
def totalT (l : List ByteArray) : Nat := (l.map (·.size)).sum
/-- A table's bytes behind its count. -/
def putL : List ByteArray → List UInt8
  | [] => []
  | x :: l => vput x.size ++ x.data.toList ++ putL l
def putT (l : List ByteArray) : List UInt8 := vput l.length ++ putL l
/-- So many texts are read. -/
def tgo (s : ByteArray) (most : Nat) : Nat → Cu → List ByteArray → Cu × List ByteArray
  | 0, c, l => (c, l)
  | n + 1, c, l =>
    if c.e = 0 then
      let x := cuText s c ((most : Int) - totalT l)
      if x.2.e = 0 then (if rightS x.1 = true then (if x.1 ∈ l then (⟨x.2.at_, 17⟩, l) else tgo s most n x.2 (l ++ [x.1])) else (⟨x.2.at_, 11⟩, l)) else (x.2, l)
    else (c, l)
/-- The table whose bytes these are, or an error. -/
def getT (s : ByteArray) (texts most : Int) : List ByteArray × Int :=
  let u := cuUint s ⟨0, 0⟩ texts.toNat
  let g := tgo s most.toNat u.1 u.2 []
  if g.1.e = 0 then (if g.1.at_ < s.size then ([], 8) else (g.2, 0)) else ([], g.1.e)

theorem totalT_append (l m : List ByteArray) : totalT (l ++ m) = totalT l + totalT m := by simp [totalT]
theorem totalT_cons (x : ByteArray) (l : List ByteArray) : totalT (x :: l) = x.size + totalT l := by simp [totalT]
theorem Stand.append {s : ByteArray} {p : Nat} {l m : List UInt8} (h : Stand s p (l ++ m)) : Stand s p l ∧ Stand s (p + l.length) m := by
  refine ⟨fun i x hi => h i x ?_, fun i x hi => ?_⟩
  · rw [List.getElem?_append_left (List.getElem?_eq_some_iff.1 hi).1]
    exact hi
  · have := h (l.length + i) x (by rw [List.getElem?_append_right (by omega)]; simpa using hi)
    rwa [← Nat.add_assoc] at this
theorem Stand.join {s : ByteArray} {p : Nat} {l m : List UInt8} (h : Stand s p l) (k : Stand s (p + l.length) m) : Stand s p (l ++ m) := fun i x hi => by
  rcases Nat.lt_or_ge i l.length with hl | hl
  · rw [List.getElem?_append_left hl] at hi
    exact h i x hi
  · rw [List.getElem?_append_right hl] at hi
    have := k _ x hi
    rwa [show p + l.length + (i - l.length) = p + i from by omega] at this
theorem Stand.size {s : ByteArray} {p : Nat} {l : List UInt8} (h : Stand s p l) (hl : 0 < l.length) : p + l.length ≤ s.size := by
  have := h (l.length - 1) l[l.length - 1] (List.getElem?_eq_getElem (by omega))
  obtain ⟨h1, _⟩ := List.getElem?_eq_some_iff.1 this
  simp at h1
  omega
theorem Stand.all {s : ByteArray} {l : List UInt8} (h : Stand s 0 l) (hl : l.length = s.size) : s.data.toList = l := by
  apply List.ext_getElem?
  intro i
  rcases Nat.lt_or_ge i l.length with hi | hi
  · have := h i l[i] (List.getElem?_eq_getElem hi)
    rw [Nat.zero_add] at this
    rw [this, List.getElem?_eq_getElem hi]
  · rw [List.getElem?_eq_none hi, List.getElem?_eq_none (by simp; omega)]
theorem Stand.self (l : List UInt8) : Stand ⟨l.toArray⟩ 0 l := fun i x hi => by simpa using hi
theorem Stand.extract {s : ByteArray} {p : Nat} {x : ByteArray} (h : Stand s p x.data.toList) (hp : p + x.size ≤ s.size) : s.extract p (p + x.size) = x := by
  have e : (s.extract p (p + x.size)).data.toList = x.data.toList := by
    rw [extract_list s p x.size hp]
    apply List.ext_getElem
    · simp
    · intro i h1 h2
      simp only [List.getElem_map, List.getElem_range]
      rw [byt, h i _ (List.getElem?_eq_getElem h2)]
      simp
  exact ByteArray.ext (Array.toList_inj.1 e)
theorem Stand.of_extract (s : ByteArray) (p n : Nat) (hp : p + n ≤ s.size) : Stand s p (s.extract p (p + n)).data.toList := fun i x hi => by
  rw [extract_list s p n hp, List.getElem?_map, Option.map_eq_some_iff] at hi
  obtain ⟨j, hj, rfl⟩ := hi
  obtain ⟨h1, h2⟩ := List.getElem?_eq_some_iff.1 hj
  rw [List.getElem_range] at h2
  rw [List.length_range] at h1
  subst h2
  rw [byt_get s _ (by omega), UInt8.ofNat_toNat, Array.getElem?_toList, Array.getElem?_eq_getElem (by simpa using (show p + i < s.size by omega))]
  rfl
/-- A number that stands there is read, or is too great. -/
theorem cuUint_put {s : ByteArray} {p n most : Nat} (hn : n ≤ 16777216) (h : Stand s p (vput n)) : cuUint s ⟨p, 0⟩ most = if n ≤ most then (n, ⟨p + (vput n).length, 0⟩) else (0, ⟨p, 19⟩) := by
  have e : vget s (p : Int) = _ := vget_put (by omega) h
  simp only [cuUint, e]
  by_cases hm : n ≤ most
  · simp [hm, hn]
  · simp [hm]
theorem cuText_put {s x : ByteArray} {p : Nat} {most : Int} (hn : x.size ≤ 16777216) (h : Stand s p (vput x.size ++ x.data.toList)) (hm : 0 ≤ most) :
    cuText s ⟨p, 0⟩ most = if (x.size : Int) ≤ most then (x, ⟨p + (vput x.size ++ x.data.toList).length, 0⟩) else (⟨#[]⟩, ⟨p, 19⟩) := by
  obtain ⟨h1, h2⟩ := h.append
  simp only [cuText, cuUint_put hn h1]
  by_cases hx : (x.size : Int) ≤ most
  · have hsz : p + (vput x.size).length + x.size ≤ s.size := by
      rcases Nat.eq_zero_or_pos x.size with h0 | h0
      · have := h1.size (vput_pos _)
        omega
      · have := h2.size (by simpa using h0)
        simpa using this
    rw [if_pos (show x.size ≤ most.toNat by omega), if_pos hx]
    have e : cuBytes s ⟨p + (vput x.size).length, 0⟩ (x.size : Int) = (x, ⟨p + (vput x.size).length + x.size, 0⟩) := by
      rw [cuBytes, if_pos rfl, if_neg (by omega), if_neg (by show ¬ (s.size : Int) - ((p + (vput x.size).length : Nat) : Int) < _; omega), Int.toNat_natCast, h2.extract hsz]
    simp only [e, if_true]
    simp [Nat.add_assoc]
  · rw [if_neg (show ¬ x.size ≤ most.toNat by omega), if_neg hx]
    simp [cuBytes]
theorem tgo_err {s : ByteArray} {most n : Nat} {c : Cu} {l : List ByteArray} (h : c.e ≠ 0) : tgo s most n c l = (c, l) := by
  cases n with
  | zero => rfl
  | succ n => rw [tgo, if_neg h]
/-- Texts that were put are got, or their bytes are too many. -/
theorem tgo_put {s : ByteArray} {most : Nat} : ∀ (rest : List ByteArray) (p : Nat) (l : List ByteArray), (l ++ rest).Nodup → (∀ x ∈ rest, rightS x = true ∧ x.size ≤ 16777216) → Stand s p (putL rest) → totalT l ≤ most →
    (totalT (l ++ rest) ≤ most ∧ tgo s most rest.length ⟨p, 0⟩ l = (⟨p + (putL rest).length, 0⟩, l ++ rest)) ∨ (most < totalT (l ++ rest) ∧ (tgo s most rest.length ⟨p, 0⟩ l).1.e = 19)
  | [], p, l, _, _, _, ht => .inl ⟨by simpa using ht, by simp [tgo, putL]⟩
  | x :: rest, p, l, hd, hr, hs, ht => by
    rw [putL] at hs
    obtain ⟨h1, h2⟩ := hs.append
    obtain ⟨hx, hxs⟩ := hr x (List.mem_cons_self ..)
    have hnot : x ∉ l := by
      intro hm
      have := (List.nodup_append.1 hd).2.2 x hm x (List.mem_cons_self ..)
      exact this rfl
    rw [List.length_cons, tgo, if_pos rfl, cuText_put hxs h1 (by omega)]
    by_cases hle : (x.size : Int) ≤ (most : Int) - totalT l
    · simp only [if_pos hle, if_pos hx, if_neg hnot, if_true]
      have e : l ++ x :: rest = (l ++ [x]) ++ rest := by simp
      have := tgo_put (most := most) rest (p + (vput x.size ++ x.data.toList).length) (l ++ [x]) (by rw [← e]; exact hd) (fun y hy => hr y (List.mem_cons_of_mem _ hy)) h2 (by rw [totalT_append, totalT_cons]; simp only [totalT, List.map_nil, List.sum_nil] at ht hle ⊢; omega)
      rw [e]
      simp only [putL, List.length_append] at this ⊢
      rw [← Nat.add_assoc] at this
      rw [← Nat.add_assoc, ← Nat.add_assoc, ← Nat.add_assoc]
      exact this
    · right
      simp only [if_neg hle]
      refine ⟨?_, by simp⟩
      rw [totalT_append, totalT_cons]
      omega
/-- What is got stands there as it is put. -/
theorem cuUint_get {s : ByteArray} {c c' : Cu} {most n : Nat} (h : cuUint s c most = (n, c')) (h0 : c.e = 0) (h1 : c'.e = 0) : n ≤ most ∧ n ≤ 16777216 ∧ Stand s c.at_ (vput n) ∧ c' = ⟨c.at_ + (vput n).length, 0⟩ ∧ c'.at_ ≤ s.size := by
  rw [cuUint, if_pos h0] at h
  split at h
  · rename_i he
    split at h
    · rename_i hn
      simp only [Prod.mk.injEq] at h
      obtain ⟨rfl, rfl⟩ := h
      have hv : vget s c.at_ = ((vget s c.at_).1, (vget s c.at_).2.1, 0) := by rw [← he]
      obtain ⟨-, h2, h3, h4⟩ := vget_get hv
      exact ⟨hn.1, hn.2, h2, by rw [← h3], h4⟩
    · simp only [Prod.mk.injEq] at h
      rw [← h.2] at h1
      simp at h1
  · rename_i he
    simp only [Prod.mk.injEq] at h
    rw [← h.2] at h1
    exact absurd h1 he
theorem cuText_get {s x : ByteArray} {c c' : Cu} {most : Int} (h : cuText s c most = (x, c')) (h0 : c.e = 0) (h1 : c'.e = 0) : x.size ≤ most.toNat ∧ x.size ≤ 16777216 ∧ Stand s c.at_ (vput x.size ++ x.data.toList) ∧ c' = ⟨c.at_ + (vput x.size ++ x.data.toList).length, 0⟩ ∧ c'.at_ ≤ s.size := by
  simp only [cuText] at h
  generalize hu : cuUint s c most.toNat = u at h
  obtain ⟨n, c1⟩ := u
  by_cases hc1 : c1.e = 0
  · obtain ⟨g1, g2, g3, rfl, g5⟩ := cuUint_get hu h0 hc1
    simp only [cuBytes, if_pos] at h
    rw [if_neg (show ¬ ((n : Nat) : Int) < 0 by omega)] at h
    by_cases hlen : (s.size : Int) - ((c.at_ + (vput n).length : Nat) : Int) < ((n : Nat) : Int)
    · rw [if_pos hlen, if_neg (by intro h; exact absurd (show (2 : Int) = 0 from h) (by decide))] at h
      simp only [Prod.mk.injEq] at h
      rw [← h.2] at h1
      simp at h1
    · rw [if_neg hlen, if_pos rfl, Int.toNat_natCast] at h
      · simp only [Prod.mk.injEq] at h
        obtain ⟨rfl, rfl⟩ := h
        have hsz : (s.extract (c.at_ + (vput n).length) (c.at_ + (vput n).length + n)).size = n := by
          rw [ByteArray.size_extract]
          omega
        rw [hsz]
        refine ⟨g1, g2, g3.join (Stand.of_extract s _ n (by omega)), ?_, by show c.at_ + (vput n).length + n ≤ s.size; omega⟩
        rw [List.length_append, show (s.extract (c.at_ + (vput n).length) (c.at_ + (vput n).length + n)).data.toList.length = n from by rw [Array.length_toList]; exact hsz, Nat.add_assoc]
  · simp only [cuBytes, if_neg hc1, Prod.mk.injEq] at h
    rw [← h.2] at h1
    exact absurd h1 hc1
theorem tgo_get {s : ByteArray} {most : Nat} : ∀ (n : Nat) (c c' : Cu) (l m : List ByteArray), tgo s most n c l = (c', m) → c.e = 0 → c'.e = 0 → l.Nodup → c.at_ ≤ s.size →
    ∃ rest, m = l ++ rest ∧ rest.length = n ∧ m.Nodup ∧ (∀ x ∈ rest, rightS x = true ∧ x.size ≤ 16777216) ∧ Stand s c.at_ (putL rest) ∧ c'.at_ = c.at_ + (putL rest).length ∧ c'.at_ ≤ s.size
  | 0, c, c', l, m, h, h0, h1, hd, hle => by
    simp only [tgo, Prod.mk.injEq] at h
    obtain ⟨rfl, rfl⟩ := h
    exact ⟨[], by simp, rfl, hd, by simp, fun i x hi => by simp [putL] at hi, by simp [putL], hle⟩
  | n + 1, c, c', l, m, h, h0, h1, hd, hle => by
    rw [tgo, if_pos h0] at h
    generalize hx : cuText s c ((most : Int) - totalT l) = x at h
    obtain ⟨x, c1⟩ := x
    simp only at h
    split at h
    · rename_i hc1
      obtain ⟨-, g2, g3, g4, g5⟩ := cuText_get hx h0 hc1
      split at h
      · rename_i hr
        split at h
        · simp only [Prod.mk.injEq] at h
          rw [← h.1] at h1
          simp at h1
        · rename_i hm
          obtain ⟨rest, rfl, f2, f3, f4, f5, f6, f7⟩ := tgo_get n c1 c' (l ++ [x]) m h hc1 h1 (by rw [List.nodup_append]; exact ⟨hd, by simp, fun a ha b hb => by simp at hb; subst hb; exact fun e => hm (e ▸ ha)⟩) g5
          subst g4
          refine ⟨x :: rest, by simp, by simp [f2], f3, ?_, ?_, ?_, f7⟩
          · intro y hy
            rcases List.mem_cons.1 hy with rfl | hy
            · exact ⟨hr, g2⟩
            · exact f4 y hy
          · rw [putL]
            exact g3.join f5
          · rw [f6, putL]
            simp only [List.length_append]
            omega
      · simp only [Prod.mk.injEq] at h
        rw [← h.1] at h1
        simp at h1
    · rename_i hc1
      simp only [Prod.mk.injEq] at h
      rw [← h.1] at h1
      exact absurd h1 hc1
/-- What is got is put as it was. -/
theorem getT_put {s : ByteArray} {texts most : Int} {l : List ByteArray} (h : getT s texts most = (l, 0)) : s.data.toList = putT l ∧ l.Nodup ∧ (∀ x ∈ l, rightS x = true ∧ x.size ≤ 16777216) ∧ l.length ≤ 16777216 := by
  simp only [getT] at h
  generalize hu : cuUint s ⟨0, 0⟩ texts.toNat = u at h
  obtain ⟨n, c⟩ := u
  by_cases hc : c.e = 0
  · obtain ⟨-, g2, g3, rfl, g5⟩ := cuUint_get hu rfl hc
    simp only at h g5
    generalize hg : tgo s most.toNat n ⟨0 + (vput n).length, 0⟩ [] = g at h
    obtain ⟨c', m⟩ := g
    simp only at h
    split at h
    · rename_i hc'
      split at h
      · simp at h
      · rename_i hat
        simp only [Prod.mk.injEq, and_true] at h
        subst h
        obtain ⟨rest, hrest, f2, f3, f4, f5, f6, f7⟩ := tgo_get n _ c' [] m hg rfl hc' (by simp) g5
        rw [List.nil_append] at hrest
        subst hrest
        have hst : Stand s 0 (putT m) := by
          rw [putT, f2]
          exact g3.join f5
        refine ⟨hst.all ?_, f3, f4, by omega⟩
        rw [putT, List.length_append, f2]
        simp only at f6
        omega
    · rename_i hc'
      simp only [Prod.mk.injEq] at h
      exact absurd h.2 hc'
  · simp only [tgo_err hc, if_neg hc, Prod.mk.injEq] at h
    exact absurd h.2 hc
/-- What is put is got; with fewer texts, with fewer bytes, it is not. -/
theorem putT_get {l : List ByteArray} (hd : l.Nodup) (hr : ∀ x ∈ l, rightS x = true ∧ x.size ≤ 16777216) (hn : l.length ≤ 16777216) (texts most : Int) :
    getT ⟨(putT l).toArray⟩ texts most = if (l.length : Int) ≤ max texts 0 ∧ (totalT l : Int) ≤ max most 0 then (l, 0) else ([], 19) := by
  have hst := Stand.self (putT l)
  rw [putT] at hst
  obtain ⟨h1, h2⟩ := hst.append
  rw [← putT] at h1 h2
  rw [Nat.zero_add] at h2
  have hu : cuUint ⟨(putT l).toArray⟩ ⟨0, 0⟩ texts.toNat = _ := cuUint_put hn h1
  simp only [getT, hu]
  rw [Nat.zero_add]
  by_cases ht : l.length ≤ texts.toNat
  · rw [if_pos ht]
    simp only
    rcases tgo_put (most := most.toNat) l _ [] (by simpa using hd) hr h2 (by simp [totalT]) with ⟨g1, g2⟩ | ⟨g1, g2⟩
    · rw [List.nil_append] at g1 g2
      have hc : (l.length : Int) ≤ max texts 0 ∧ (totalT l : Int) ≤ max most 0 := by omega
      rw [g2, if_pos hc]
      simp only
      rw [if_pos trivial, if_neg]
      simp [putT, ByteArray.size]
    · rw [List.nil_append] at g1
      have hc : ¬ ((l.length : Int) ≤ max texts 0 ∧ (totalT l : Int) ≤ max most 0) := by omega
      rw [g2, if_neg hc, if_neg (by decide)]
  · have hc : ¬ ((l.length : Int) ≤ max texts 0 ∧ (totalT l : Int) ≤ max most 0) := by omega
    rw [if_neg ht, if_neg hc, tgo_err (by show (19 : Int) ≠ 0; decide)]
    simp
end Go.Proofs.YtdgjgekefpfgiaaDoor
