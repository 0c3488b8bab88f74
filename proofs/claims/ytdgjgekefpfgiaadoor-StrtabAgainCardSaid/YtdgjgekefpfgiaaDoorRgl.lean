/- A region that draws its order, by what each operation's value is good for (a predicate of all values yielded so far, and of the world): every order at once. 'go_rel'. -/
import Derived.Test.YtdgjgekefpfgiaaDoorRel
namespace Go.Proofs.YtdgjgekefpfgiaaDoor
open Go.RowKit

/-- An operation that looks at another's value. -/
def usesB (e : Edge) : Bool := match e.ground with | .data => true | .guard => true | _ => false
theorem uses_binds {e : Edge} (h : usesB e = true) : Region.binds .any e = true := by
  unfold usesB at h
  unfold Region.binds
  split at h <;> simp_all
/-- Who is used up is looked at by that one alone. -/
def consU (ops : Array Oper) (n : Nat) (cons : List (Nat × Nat)) : Bool :=
  (List.range n).all fun k => match ops[k]? with | some o => o.after.all fun e => !usesB e || cons.all fun c => c.1 != e.on || c.2 == k | none => true
section
variable {P : Program} {ops : Array Oper} {Q : Exit → Act → World → Prop}
variable (F : (Nat → Value) → Act) (C : World → Prop) (Φ : Nat → (Nat → Value) → World → Prop) {keep : Nat → Nat → Bool}

def rOp (keep : Nat → Nat → Bool) (P : Program) (ops : Array Oper) (Q : Exit → Act → World → Prop) (k : Nat) (o : Oper) : Prop :=
  ∀ (x : Nat → Value) (u : World), C u → (∀ e ∈ o.after, usesB e = true → Φ e.on x u) →
    ∀ K : Act → World → Prop, (∀ v u', Φ k (upd x k v) u' → C u' → (∀ j, j ≠ k → keep k j = true → Φ j x u → Φ j (upd x k v) u') → K (F (upd x k v)) u') →
      if Region.wanted o (yielded ops (F x).tmps) then o.wp P (F x) u K Q ∨ (o.asks P (F x) u ∧ LetsOut Q) else K ((F x).put o.dst undef) u
def rOps (keep : Nat → Nat → Bool) (P : Program) (ops : Array Oper) (Q : Exit → Act → World → Prop) : Nat → List Oper → Prop
  | _, [] => True
  | k, o :: rest => rOp F C Φ keep P ops Q k o ∧ rOps keep P ops Q (k + 1) rest
theorem rOps_get : ∀ (l : List Oper) (k i : Nat) (o : Oper), rOps F C Φ keep P ops Q k l → l[i]? = some o → rOp F C Φ keep P ops Q (k + i) o
  | [], _, _, _, _, h => by simp at h
  | a :: l, k, 0, o, h, hi => by
    simp only [List.getElem?_cons_zero, Option.some.injEq] at hi
    subst hi
    exact h.1
  | a :: l, k, i + 1, o, h, hi => by
    have := rOps_get l (k + 1) i o h.2 (by simpa using hi)
    rwa [show k + (i + 1) = k + 1 + i from by omega]
theorem r_head {l : List Oper} {n : Nat} (cons : List (Nat × Nat)) (hB : relB .any l.toArray n = true) (hK : consU l.toArray n cons = true) (hops : rOps F C Φ (keepOf .any l.toArray cons) P l.toArray Q 0 (l.take n))
    (htail : ∀ x u, C u → (∀ i, i < n → (∀ c ∈ cons, c.1 = i → n ≤ c.2) → Φ i x u) → wpList P l.toArray Q (l.drop n) (F x) u) :
    ∀ (f : Nat) (listed : Array Bool) (x : Nat → Value) (u : World), HeadInv .any l.toArray n listed → left n listed = f → C u → (∀ i, i < n → listed.getD i false = true → (∀ c ∈ cons, c.1 = i → listed.getD c.2 false = false) → Φ i x u) →
      wpAny P .any l.toArray Q (f + (l.length - n)) listed (F x) u := by
  simp only [relB, Bool.and_eq_true, decide_eq_true_eq] at hB
  obtain ⟨⟨⟨⟨hn, hs⟩, hc⟩, hf⟩, hseq⟩ := hB
  have hn' : n < l.length := by simpa using hn
  intro f
  induction f with
  | zero =>
    intro listed x u inv h0 hC hΦ
    have hall := left_zero h0
    have hlist : listed = Array.ofFn (n := l.toArray.size) fun i => decide (i.val < n) := by
      apply Array.ext
      · simp [inv.size]
      · intro i h1 h2
        simp only [Array.getElem_ofFn]
        by_cases hi : i < n
        · have := hall i hi
          simp [hi]
          simpa [Array.getD, h1] using this
        · have := inv.tail i (by omega) (by rw [← inv.size]; exact h1)
          simp [hi]
          simpa [Array.getD, h1] using this
    rw [Nat.zero_add]
    have hsz : l.toArray.size = l.length := by simp
    have := wpAny_of_seq (P := P) (md := .any) (Q' := Q) (l.drop n) n listed (F x) u (fun j => by simp [List.getElem?_drop]) (by rw [List.length_drop, ← hsz, hlist]; exact hseq)
      (htail x u hC fun i hi hcn => hΦ i hi (by have := hall i hi; simpa [Array.getD, show i < listed.size from by rw [inv.size, hsz]; omega] using this) fun c hc hci => (by
        have h1 := hcn c hc hci
        rcases Nat.lt_or_ge c.2 l.toArray.size with h2 | h2
        · exact getD_both (inv.tail c.2 h1 h2)
        · simp [Array.getD, show ¬ c.2 < listed.size from by rw [inv.size]; omega]))
    rwa [List.length_drop] at this
  | succ f ih =>
    intro listed x u inv h0 hC hΦ
    obtain ⟨i0, hi0, hu0⟩ := left_pos (n := n) (listed := listed) (by omega)
    rw [show f + 1 + (l.length - n) = (f + (l.length - n)) + 1 from by omega]
    refine ⟨fun h => absurd h (least_ready hf (by simp; omega) inv i0 hi0 hu0), fun i hi => ?_⟩
    have hin : i < n := by
      rcases Nat.lt_or_ge i n with h | h
      · exact h
      · exact absurd hi (tail_waits hs hc hn inv _ i0 rfl hi0 hu0 i h)
    obtain ⟨hun, o, ho, hall⟩ := mem_ready.1 hi
    have ho' : (l.take n)[i]? = some o := by rw [List.getElem?_take, if_pos hin]; simpa using ho
    have hop := rOps_get F C Φ (l.take n) 0 i o hops ho'
    rw [Nat.zero_add] at hop
    have hlt : ∀ e ∈ o.after, Region.binds .any e = true → e.on < n := fun e he hb => by
      have h1 := List.all_eq_true.1 hf i (List.mem_range.2 (by simp; omega))
      rw [ho] at h1
      have h2 := (Array.all_eq_true'.1 h1) e he
      simp only [hb, Bool.not_true, Bool.false_or, decide_eq_true_eq] at h2
      omega
    have hgo := hop x u hC (fun e he hb => hΦ e.on (hlt e he (uses_binds hb)) (hall e he (uses_binds hb)) fun c hcm hci => (by
        have h1 := List.all_eq_true.1 hK i (List.mem_range.2 hin)
        rw [ho] at h1
        have h2 := (Array.all_eq_true'.1 h1) e he
        simp only [hb, Bool.not_true, Bool.false_or] at h2
        have h3 := List.all_eq_true.1 h2 c hcm
        simp only [hci, bne_self_eq_false, Bool.false_or, beq_iff_eq] at h3
        rw [h3]
        exact getD_both hun)) (wpAny P .any l.toArray Q (f + (l.length - n)) (listed.setIfInBounds i true)) fun v u' hv hC' hmono => by
      refine ih _ _ u' (inv.set hi hin) (by have := left_set hin hun; omega) hC' fun j hj hl hcn => ?_
      by_cases hji : j = i
      · subst hji
        exact hv
      · rw [getD_set_ne false (Ne.symm hji)] at hl
        have hne : ∀ c ∈ cons, c.1 = j → c.2 ≠ i := fun c hc hcj e => by
          have h1 := hcn c hc hcj
          rw [e] at h1
          simp [show i < listed.size from by rw [inv.size]; simp; omega] at h1
        have hk : keepOf .any l.toArray cons i j = true := by
          simp only [keepOf, Bool.not_eq_true', Bool.or_eq_false_iff]
          refine ⟨?_, ?_⟩
          · rw [Bool.eq_false_iff]
            intro h
            exact hne (j, i) (by simpa using h) rfl rfl
          · rw [Bool.eq_false_iff]
            intro h
            rw [Option.any_eq_true_iff_get] at h
            obtain ⟨hs', h⟩ := h
            obtain ⟨e, he, hb⟩ := Array.any_eq_true'.1 h
            simp only [Bool.and_eq_true, beq_iff_eq] at hb
            have h4 := inv.closed j _ (Option.some_get hs').symm hl e he hb.1
            rw [hb.2, getD_both hun] at h4
            cases h4
        exact hmono j hji hk (hΦ j hj hl fun c hc hcj => (by
          have h1 := hcn c hc hcj
          rwa [getD_set_ne false (Ne.symm (hne c hc hcj))] at h1))
    unfold wpOp
    rw [ho]
    exact hgo

theorem wp_region_x {id : Nat} {w : World} {l : List Oper} {a : Act} (cons : List (Nat × Nat)) (n : Nat) (x : Nat → Value) (hm : P.follows .mixedOrders = true) (hB : relB .any l.toArray n = true) (hK : consU l.toArray n cons = true)
    (ha : a = F x) (hC : C w.drew) (hops : rOps F C Φ (keepOf .any l.toArray cons) P l.toArray Q 0 (l.take n))
    (htail : ∀ x u, C u → (∀ i, i < n → (∀ c ∈ cons, c.1 = i → n ≤ c.2) → Φ i x u) → wpList P l.toArray Q (l.drop n) (F x) u) : (Code.region id l.toArray true).wp P Q a w := by
  subst ha
  refine wp_region_any hm ?_
  have hn : n < l.length := by
    simp only [relB, Bool.and_eq_true, decide_eq_true_eq] at hB
    simpa using hB.1.1.1.1
  have h0 : left n (Array.replicate l.toArray.size false) = n := by
    unfold left
    rw [List.countP_eq_length.2 (fun i hi => by
      have := List.mem_range.1 hi
      simp [show i < l.length from by omega])]
    simp
  have := r_head F C Φ cons hB hK hops htail n (Array.replicate l.toArray.size false) x w.drew
    ⟨by simp, fun j oj _ hl => (by rw [getD_replicate_false] at hl; cases hl), fun t _ ht => getD_in (by simpa using ht) (getD_replicate_false _ _)⟩ h0 hC
    (fun i _ hl => by rw [getD_replicate_false] at hl; cases hl)
  rw [show n + (l.length - n) = l.length from by omega] at this
  simpa using this

theorem upd_ne {x : Nat → Value} {k j : Nat} {v : Value} (h : j ≠ k) : upd x k v j = x j := if_neg h
theorem upd_eq {x : Nat → Value} {k : Nat} {v : Value} : upd x k v k = v := if_pos rfl

/-! ### Operations -/
/-- What holds stays so, whatever else is yielded by operation k, and whatever is new. -/
def StaysX (k : Nat) (p : (Nat → Value) → World → Prop) : Prop := ∀ x v u u', Below u.heap.size u u' → p x u → p (upd x k v) u'
/-- The same of what is about one value. -/
def Stays (p : Value → World → Prop) : Prop := ∀ v u u', Below u.heap.size u u' → p v u → p v u'
def plain (j : Nat) (p : Value → World → Prop) : (Nat → Value) → World → Prop := fun x u => p (x j) u
theorem Stays.eq (a : Value) : Stays fun v _ => v = a := fun _ _ _ _ h => h
theorem Stays.x {p : Value → World → Prop} (h : Stays p) (j : Nat) {k : Nat} (hk : j ≠ k) : StaysX k (plain j p) := fun x v u u' hb hp => by
  show p (upd x k v j) u'
  rw [upd_ne hk]
  exact h _ _ _ hb hp
/-- Blocks from `base` on that hold t's may have turned; no others. -/
def Turn (base : Nat) (t : TypeId) (u u' : World) : Prop := u.heap.size ≤ u'.heap.size ∧ ∀ b, b < u.heap.size → u'.heap[b]? = u.heap[b]? ∨ (base ≤ b ∧ ∃ cur, u.heap[b]? = some (.cells cur t (0, 0)))
def FirmX (base : Nat) (t : TypeId) (k : Nat) (p : (Nat → Value) → World → Prop) : Prop := ∀ x v u u', Turn base t u u' → p x u → p (upd x k v) u'
def Firm (base : Nat) (t : TypeId) (p : Value → World → Prop) : Prop := ∀ v u u', Turn base t u u' → p v u → p v u'
theorem Firm.eq {base : Nat} {t : TypeId} (a : Value) : Firm base t fun v _ => v = a := fun _ _ _ _ h => h
theorem Firm.x {base : Nat} {t : TypeId} {p : Value → World → Prop} (h : Firm base t p) (j : Nat) {k : Nat} (hk : j ≠ k) : FirmX base t k (plain j p) := fun x v u u' hb hp => by
  show p (upd x k v j) u'
  rw [upd_ne hk]
  exact h _ _ _ hb hp
theorem Turn.of_grown {base : Nat} {t : TypeId} {u u' : World} {row : Option Nat} (hg : u.grownBy u' row) (hr : ∀ g, row = some g → base ≤ g ∧ g < u.heap.size ∧ ∃ cur, u.heap[g]? = some (.cells cur t (0, 0))) : Turn base t u u' := by
  refine ⟨hg.size, fun b hb => ?_⟩
  by_cases h : row = some b
  · exact .inr ⟨(hr b h).1, (hr b h).2.2⟩
  · exact .inl (hg.block b hb fun e => h e.symm)
/-- All predicates, one behind the other. -/
def chainX (good : Nat → ((Nat → Value) → World → Prop) → Prop) : Nat → List ((Nat → Value) → World → Prop) → Prop
  | _, [] => True
  | i, p :: l => good i p ∧ chainX good (i + 1) l
theorem chainX.get {good : Nat → ((Nat → Value) → World → Prop) → Prop} (ht : ∀ i, good i fun _ _ => True) : ∀ (l : List ((Nat → Value) → World → Prop)) (i j : Nat), chainX good i l → good (i + j) (l.getD j fun _ _ => True)
  | [], i, j, _ => by simpa using ht (i + j)
  | p :: l, i, 0, h => h.1
  | p :: l, i, j + 1, h => by
    have := chainX.get ht l (i + 1) j h.2
    rwa [show i + 1 + j = i + (j + 1) from by omega] at this
theorem stays_all {kp : Nat → Nat → Bool} {l : List ((Nat → Value) → World → Prop)} (h : chainX (fun j p => ∀ k, j ≠ k → kp k j = true → StaysX k p) 0 l) : ∀ k j, j ≠ k → kp k j = true → StaysX k (l.getD j fun _ _ => True) := fun k j hj hk => by
  have := chainX.get (fun _ _ _ _ _ _ _ _ _ _ => trivial) l 0 j h
  rw [Nat.zero_add] at this
  exact this k hj hk
theorem firm_all {kp : Nat → Bool} {base : Nat} {t : TypeId} {k : Nat} {l : List ((Nat → Value) → World → Prop)} (h : chainX (fun j p => j ≠ k → kp j = true → FirmX base t k p) 0 l) : ∀ j, j ≠ k → kp j = true → FirmX base t k (l.getD j fun _ _ => True) := fun j hj hk => by
  have := chainX.get (good := fun j p => j ≠ k → kp j = true → FirmX base t k p) (fun _ _ _ _ _ _ _ _ _ => trivial) l 0 j h
  rw [Nat.zero_add] at this
  exact this hj hk

/-- An operation that is wanted, whose value is known. -/
theorem rOp_run {W : World} {k : Nat} {o : Oper} (v : Value) (hst : ∀ k j, j ≠ k → keep k j = true → StaysX k (Φ j)) (hput : ∀ x v, (F x).put o.dst v = F (upd x k v))
    (h : ∀ x u, Below W.heap.size W u → (∀ e ∈ o.after, usesB e = true → Φ e.on x u) → Region.wanted o (yielded ops (F x).tmps) = true ∧ (execOp (F x).eval o).run P u = .ok (.value v) u) (hv : ∀ x u, Φ k (upd x k v) u) : rOp F (fun u => Below W.heap.size W u) Φ keep P ops Q k o := by
  intro x u hC hd K hK
  obtain ⟨hw, hr⟩ := h x u hC hd
  rw [if_pos hw]
  left
  unfold Oper.wp
  rw [hr]
  show K ((F x).put o.dst v) u
  rw [hput]
  exact hK v u (hv x u) hC fun j hj hk => hst k j hj hk x v u u (Below.refl _ _)
theorem rOp_skip {W : World} {k : Nat} {o : Oper} (hst : ∀ k j, j ≠ k → keep k j = true → StaysX k (Φ j)) (hput : ∀ x v, (F x).put o.dst v = F (upd x k v))
    (h : ∀ x u, Below W.heap.size W u → (∀ e ∈ o.after, usesB e = true → Φ e.on x u) → Region.wanted o (yielded ops (F x).tmps) = false) (hv : ∀ x u, Φ k (upd x k undef) u) : rOp F (fun u => Below W.heap.size W u) Φ keep P ops Q k o := by
  intro x u hC hd K hK
  rw [if_neg (by rw [h x u hC hd]; decide), hput]
  exact hK undef u (hv x u) hC fun j hj hk => hst k j hj hk x undef u u (Below.refl _ _)
/-- What is made anew. -/
theorem rOp_new {W : World} {k : Nat} {o : Oper} (hst : ∀ k j, j ≠ k → keep k j = true → StaysX k (Φ j)) (hput : ∀ x v, (F x).put o.dst v = F (upd x k v))
    (h : ∀ x u, Below W.heap.size W u → (∀ e ∈ o.after, usesB e = true → Φ e.on x u) → Region.wanted o (yielded ops (F x).tmps) = true ∧ ∃ v u', (execOp (F x).eval o).run P u = .ok (.value v) u' ∧ Φ k (upd x k v) u' ∧ Below u.heap.size u u') : rOp F (fun u => Below W.heap.size W u) Φ keep P ops Q k o := by
  intro x u hC hd K hK
  obtain ⟨hw, v, u', hr, h1, h2⟩ := h x u hC hd
  rw [if_pos hw]
  left
  unfold Oper.wp
  rw [hr]
  show K ((F x).put o.dst v) u'
  rw [hput]
  exact hK v u' h1 (hC.trans (h2.mono hC.size)) fun j hj hk => hst k j hj hk x v u u' h2
/-- A call of a Go function. -/
theorem rOp_call {W : World} {k : Nat} {o : Oper} (hst : ∀ k j, j ≠ k → keep k j = true → StaysX k (Φ j)) (hput : ∀ x v, (F x).put o.dst v = F (upd x k v))
    (h : ∀ x u, Below W.heap.size W u → (∀ e ∈ o.after, usesB e = true → Φ e.on x u) → Region.wanted o (yielded ops (F x).tmps) = true ∧ ∃ f args, (execOp (F x).eval o).run P u = .ok (.enter f args) u ∧
      Calls P f args u (fun e u' => ∃ v, e = .returned v ∧ Φ k (upd x k v) u' ∧ Below u.heap.size u u')) : rOp F (fun u => Below W.heap.size W u) Φ keep P ops Q k o := by
  intro x u hC hd K hK
  obtain ⟨hw, f, args, hr, hc⟩ := h x u hC hd
  rw [if_pos hw]
  left
  unfold Oper.wp
  rw [hr]
  refine hc.mono ?_
  rintro e u' ⟨v, rfl, h1, h2⟩
  show K ((F x).put o.dst v) u'
  rw [hput]
  exact hK v u' h1 (hC.trans (h2.mono hC.size)) fun j hj hk => hst k j hj hk x v u u' h2
/-- append. -/
theorem rOp_append {W : World} {k : Nat} {o : Oper} (t e : TypeId) (z : Value) (size bytes : Nat) (s y : Operand)
    (ho : o.op = .call { callee := .builtin .append, args := #[s, y], argTypes := #[t, t] })
    (ht : P.underlying t = some (.slice e)) (hinfo : (P.info? e).map (fun i => (i.zero, i.size, i.bytes)) = some (some z, size, bytes)) (hzs : z.cells.size = size) (hsz : 0 < size)
    (hput : ∀ x v, (F x).put o.dst v = F (upd x k v)) (hsg : ∀ j, j ≠ k → keep k j = true → FirmX W.heap.size e k (Φ j))
    (h : ∀ x u, Below W.heap.size W u → (∀ e ∈ o.after, usesB e = true → Φ e.on x u) → Region.wanted o (yielded ops (F x).tmps) = true ∧ ∃ A0 c0 n xs A c m news, (F x).eval s = .slice A0 n c0 ∧ Row u W.heap.size e size (.slice A0 n c0) xs ∧ (F x).eval y = .slice A m c ∧ Cells u A news ∧
      (∀ u ∈ news, u.oneCell' = true) ∧ news.length = m * size ∧ (n + m) * bytes ≤ 140737488355328 ∧ n + m ≤ 9223372036854775807 ∧
      ∀ A1 c1 u', Row u' W.heap.size e size (.slice A1 (n + m) c1) (xs ++ news) → Φ k (upd x k (.slice A1 (n + m) c1)) u') : rOp F (fun u => Below W.heap.size W u) Φ keep P ops Q k o := by
  intro x u hC hd K hK
  obtain ⟨hw, A0, c0, n, xs, A, c, m, news, hs, hr, hy, hc, h1, hl, hbytes, h63, hgo⟩ := h x u hC hd
  rw [if_pos hw]
  left
  refine append_wp s y t e z size bytes ho ht hinfo hzs hsz W.heap.size A0 n c0 xs hs hr A m c news hy hl hc h1 hbytes h63 hC.size fun A1 c1 u' h2 h3 h4 => ?_
  rw [hput]
  exact hK _ u' (hgo A1 c1 u' h2) (below_grown hC h3 fun g hg => (hr.typed g hg).1) fun j hj hk => hsg j hj hk x _ u u' (Turn.of_grown h3 hr.typed)
/-- A store into a block of the region's own. -/
theorem rOp_store {W : World} {k : Nat} {o : Oper} (t : TypeId) (hput : ∀ x v, (F x).put o.dst v = F (upd x k v)) (hsg : ∀ j, j ≠ k → keep k j = true → FirmX W.heap.size t k (Φ j))
    (h : ∀ x u, Below W.heap.size W u → (∀ e ∈ o.after, usesB e = true → Φ e.on x u) → Region.wanted o (yielded ops (F x).tmps) = true ∧ ∃ u', (execOp (F x).eval o).run P u = .ok .skip u' ∧ Φ k (upd x k undef) u' ∧ Below W.heap.size W u' ∧ Turn W.heap.size t u u') : rOp F (fun u => Below W.heap.size W u) Φ keep P ops Q k o := by
  intro x u hC hd K hK
  obtain ⟨hw, u', hr, h1, h2, h3⟩ := h x u hC hd
  rw [if_pos hw]
  left
  unfold Oper.wp
  rw [hr]
  show K ((F x).put o.dst undef) u'
  rw [hput]
  exact hK undef u' h1 h2 fun j hj hk => hsg j hj hk x undef u u' h3
end
/-- What a script of 'go_rel' leans on. -/
theorem rel_region {P : Program} {Q : Exit → Act → World → Prop} {id : Nat} {w : World} {l : List Oper} {a : Act} (cons : List (Nat × Nat)) (n : Nat) (F : (Nat → Value) → Act) (x : Nat → Value) (ps : List ((Nat → Value) → World → Prop))
    (hm : P.follows .mixedOrders = true) (hB : relB .any l.toArray n = true) (hK : consU l.toArray n cons = true) (ha : a = F x)
    (hst : chainX (fun j p => ∀ k, j ≠ k → keepOf .any l.toArray cons k j = true → StaysX k p) 0 ps)
    (hops : (∀ k j, j ≠ k → keepOf .any l.toArray cons k j = true → StaysX k (ps.getD j fun _ _ => True)) → rOps F (fun u => Below w.heap.size w u) (fun k => ps.getD k fun _ _ => True) (keepOf .any l.toArray cons) P l.toArray Q 0 (l.take n))
    (htail : ∀ x u, Below w.heap.size w u → (∀ i, i < n → (∀ c ∈ cons, c.1 = i → n ≤ c.2) → (ps.getD i fun _ _ => True) x u) → wpList P l.toArray Q (l.drop n) (F x) u) : (Code.region id l.toArray true).wp P Q a w :=
  wp_region_x F (fun u => Below w.heap.size w u) (fun k => ps.getD k fun _ _ => True) cons n x hm hB hK ha (Below.refl _ _).drew (hops (stays_all hst)) htail
theorem at_edge {es : Array Edge} {p : Edge → Prop} (h : ∀ e ∈ es, usesB e = true → p e) (i : Nat) (hi : i < es.size) (hu : usesB es[i] = true) : p es[i] := h _ (Array.getElem_mem hi) hu
end Go.Proofs.YtdgjgekefpfgiaaDoor
