/- A region that draws its order, by what each operation's value is good for: every order at once. -/
import Derived.Test.YtdgjgekefpfgiaaDoorDat
import Derived.StillTail
namespace Go.Proofs.YtdgjgekefpfgiaaDoor
open Go.RowKit

/-- Operations wait for earlier ones alone. -/
def fwdB (md : Region.Mode) (ops : Array Oper) : Bool := (List.range ops.size).all fun i => match ops[i]? with | some o => o.after.all fun e => !Region.binds md e || decide (e.on < i) | none => true
/-- The first n in any order, each behind what it waits for; then the others, in their order. -/
def relB (md : Region.Mode) (ops : Array Oper) (n : Nat) : Bool :=
  decide (n < ops.size) && Region.sinkB md ops n && Region.chainB md ops n && fwdB md ops && Region.seqB md ops (ops.size - n) n (Array.ofFn (n := ops.size) fun i => decide (i.val < n))

section
variable {P : Program} {ops : Array Oper} {md : Region.Mode} {Q : Exit → Act → World → Prop}
variable (F : (Nat → Value) → Act) (C : World → Prop) (Φ : Nat → Value → World → Prop) {keep : Nat → Nat → Bool}
/-- What operation j's value is good for need not outlive operation k: k alone waits for it; or it waits for k. -/
def keepOf (md : Region.Mode) (ops : Array Oper) (cons : List (Nat × Nat)) (k j : Nat) : Bool :=
  !(cons.contains (j, k) || (ops[j]?).any fun o => o.after.any fun e => Region.binds md e && e.on == k)
/-- Who is used up is waited for by that one alone. -/
def consB (md : Region.Mode) (ops : Array Oper) (n : Nat) (cons : List (Nat × Nat)) : Bool :=
  (List.range n).all fun k => match ops[k]? with | some o => o.after.all fun e => !Region.binds md e || cons.all fun c => c.1 != e.on || c.2 == k | none => true

def upd (x : Nat → Value) (k : Nat) (v : Value) : Nat → Value := fun j => if j = k then v else x j

/-- One operation: given what it waits for, it yields a value of its own kind; what held of worlds still holds. -/
def relOp (keep : Nat → Nat → Bool) (P : Program) (ops : Array Oper) (Q : Exit → Act → World → Prop) (k : Nat) (o : Oper) : Prop :=
  ∀ (x : Nat → Value) (u : World), C u → (∀ e ∈ o.after, Region.binds .any e = true → Φ e.on (x e.on) u) →
    ∀ K : Act → World → Prop, (∀ v u', Φ k v u' → C u' → (∀ j y, keep k j = true → Φ j y u → Φ j y u') → K (F (upd x k v)) u') →
      if Region.wanted o (yielded ops (F x).tmps) then o.wp P (F x) u K Q ∨ (o.asks P (F x) u ∧ LetsOut Q) else K ((F x).put o.dst undef) u
def relOps (keep : Nat → Nat → Bool) (P : Program) (ops : Array Oper) (Q : Exit → Act → World → Prop) : Nat → List Oper → Prop
  | _, [] => True
  | k, o :: rest => relOp F C Φ keep P ops Q k o ∧ relOps keep P ops Q (k + 1) rest
theorem relOps_get : ∀ (l : List Oper) (k i : Nat) (o : Oper), relOps F C Φ keep P ops Q k l → l[i]? = some o → relOp F C Φ keep P ops Q (k + i) o
  | [], _, _, _, _, h => by simp at h
  | a :: l, k, 0, o, h, hi => by
    simp only [List.getElem?_cons_zero, Option.some.injEq] at hi
    subst hi
    exact h.1
  | a :: l, k, i + 1, o, h, hi => by
    have := relOps_get l (k + 1) i o h.2 (by simpa using hi)
    rwa [show k + (i + 1) = k + 1 + i from by omega]

/-- An operation that runs to its end. -/
theorem relOp_run {k : Nat} {o : Oper} (hgd : o.guard = none) (hput : ∀ x v, (F x).put o.dst v = F (upd x k v))
    (h : ∀ x u, C u → (∀ e ∈ o.after, Region.binds .any e = true → Φ e.on (x e.on) u) → ∃ v u', (execOp (F x).eval o).run P u = .ok (.value v) u' ∧ Φ k v u' ∧ C u' ∧ (∀ j y, Φ j y u → Φ j y u')) : relOp F C Φ keep P ops Q k o := by
  intro x u hC hd K hK
  obtain ⟨v, u', hr, h1, h2, h3⟩ := h x u hC hd
  rw [if_pos (by simp [Region.wanted, hgd])]
  left
  unfold Oper.wp
  rw [hr]
  show K ((F x).put o.dst v) u'
  rw [hput]
  exact hK v u' h1 h2 fun j y _ => h3 j y
/-- A call of a Go function. -/
theorem relOp_call {k : Nat} {o : Oper} (hgd : o.guard = none) (hput : ∀ x v, (F x).put o.dst v = F (upd x k v))
    (h : ∀ x u, C u → (∀ e ∈ o.after, Region.binds .any e = true → Φ e.on (x e.on) u) → ∃ f args, (execOp (F x).eval o).run P u = .ok (.enter f args) u ∧
      Calls P f args u (fun e u' => ∃ v, e = .returned v ∧ Φ k v u' ∧ C u' ∧ (∀ j y, Φ j y u → Φ j y u'))) : relOp F C Φ keep P ops Q k o := by
  intro x u hC hd K hK
  obtain ⟨f, args, hr, hc⟩ := h x u hC hd
  rw [if_pos (by simp [Region.wanted, hgd])]
  left
  unfold Oper.wp
  rw [hr]
  refine hc.mono ?_
  rintro e u' ⟨v, rfl, h1, h2, h3⟩
  show K ((F x).put o.dst v) u'
  rw [hput]
  exact hK v u' h1 h2 fun j y _ => h3 j y
/-- append. -/
theorem relOp_append {k : Nat} {o : Oper} (hgd : o.guard = none) (hput : ∀ x v, (F x).put o.dst v = F (upd x k v)) (s y : Operand) (t e : TypeId) (z : Value) (size bytes : Nat)
    (ho : o.op = .call { callee := .builtin .append, args := #[s, y], argTypes := #[t, t] })
    (ht : P.underlying t = some (.slice e)) (hinfo : (P.info? e).map (fun i => (i.zero, i.size, i.bytes)) = some (some z, size, bytes)) (hzs : z.cells.size = size) (hsz : 0 < size) (base n m : Nat) (xs news : List Value)
    (h1 : ∀ u ∈ news, u.oneCell' = true) (hl : news.length = m * size) (hbytes : (n + m) * bytes ≤ 140737488355328) (h63 : n + m ≤ 9223372036854775807)
    (h : ∀ x u, C u → (∀ e ∈ o.after, Region.binds .any e = true → Φ e.on (x e.on) u) → ∃ A0 c0 A c, (F x).eval s = .slice A0 n c0 ∧ Row u base e size (.slice A0 n c0) xs ∧ (F x).eval y = .slice A m c ∧ Cells u A news ∧ base ≤ u.heap.size ∧
      ∀ A1 c1 u', Row u' base e size (.slice A1 (n + m) c1) (xs ++ news) → u.grownBy u' (blk (.slice A0 n c0)) → (blk (.slice A1 (n + m) c1) = blk (.slice A0 n c0) ∨ blk (.slice A1 (n + m) c1) = some u.heap.size) →
        Φ k (.slice A1 (n + m) c1) u' ∧ C u' ∧ (∀ j y, keep k j = true → Φ j y u → Φ j y u')) : relOp F C Φ keep P ops Q k o := by
  intro x u hC hd K hK
  obtain ⟨A0, c0, A, c, hs, hr, hy, hc, hb, hgo⟩ := h x u hC hd
  rw [if_pos (by simp [Region.wanted, hgd])]
  left
  refine append_wp s y t e z size bytes ho ht hinfo hzs hsz base A0 n c0 xs hs hr A m c news hy hl hc h1 hbytes h63 hb fun A1 c1 u' h2 h3 h4 => ?_
  obtain ⟨g1, g2, g3⟩ := hgo A1 c1 u' h2 h3 h4
  rw [hput]
  exact hK _ u' g1 g2 g3

/-- Head operations that have not come up yet. -/
def left (n : Nat) (listed : Array Bool) : Nat := (List.range n).countP fun i => !listed.getD i true

theorem left_set {n i : Nat} {listed : Array Bool} (hi : i < n) (hu : listed.getD i true = false) : left n (listed.setIfInBounds i true) + 1 = left n listed := by
  unfold left
  induction n with
  | zero => omega
  | succ n ih =>
    rw [List.range_succ, List.countP_append, List.countP_append]
    by_cases hin : i = n
    · subst hin
      have h1 : ∀ j ∈ List.range i, (!(listed.setIfInBounds i true).getD j true) = !listed.getD j true := fun j hj => by rw [getD_set_ne true (by have := List.mem_range.1 hj; omega)]
      rw [List.countP_congr (fun j hj => by rw [h1 j hj])]
      have h2 : (listed.setIfInBounds i true).getD i true = true := by
        by_cases h : i < listed.size
        · simp [h]
        · simp [h]
      have h3 : List.countP (fun j => !(listed.setIfInBounds i true).getD j true) [i] = 0 := by simp only [List.countP_cons, List.countP_nil, h2]; rfl
      have h4 : List.countP (fun j => !listed.getD j true) [i] = 1 := by simp only [List.countP_cons, List.countP_nil, hu]; rfl
      rw [h3, h4]
    · have := ih (by omega)
      have h1 : (listed.setIfInBounds i true).getD n true = listed.getD n true := getD_set_ne true hin
      have h3 : List.countP (fun j => !(listed.setIfInBounds i true).getD j true) [n] = List.countP (fun j => !listed.getD j true) [n] := by simp only [List.countP_cons, List.countP_nil, h1]
      rw [h3]
      omega

theorem left_pos {n : Nat} {listed : Array Bool} (h : 0 < left n listed) : ∃ i, i < n ∧ listed.getD i true = false := by
  obtain ⟨i, hi, hb⟩ := List.countP_pos_iff.1 h
  exact ⟨i, List.mem_range.1 hi, by simpa using hb⟩
theorem left_zero {n : Nat} {listed : Array Bool} (h : left n listed = 0) : ∀ i, i < n → listed.getD i true = true := by
  intro i hi
  have := (List.countP_eq_zero.1 h) i (List.mem_range.2 hi)
  simpa using this

/-- The least that has not come up may. -/
theorem least_ready {n : Nat} {listed : Array Bool} (hf : fwdB md ops = true) (hn : n ≤ ops.size) (inv : HeadInv md ops n listed) : ∀ i, i < n → listed.getD i true = false → Region.ready md ops listed ≠ [] := by
  intro i
  induction i using Nat.strongRecOn with
  | _ i ih =>
    intro hi hu hr
    have ho : ops[i]? = some ops[i] := by rw [Array.getElem?_eq_getElem]
    have hmem : i ∈ Region.ready md ops listed := by
      refine mem_ready.2 ⟨hu, ops[i], ho, fun e he hb => ?_⟩
      have h1 := List.all_eq_true.1 hf i (List.mem_range.2 (by omega))
      rw [ho] at h1
      have h2 := (Array.all_eq_true'.1 h1) e he
      simp only [hb, Bool.not_true, Bool.false_or, decide_eq_true_eq] at h2
      cases hl : listed.getD e.on false with
      | true => rfl
      | false => exact absurd hr (ih e.on h2 (by omega) (getD_in (by rw [inv.size]; omega) hl))
    rw [hr] at hmem
    cases hmem

theorem rel_head {l : List Oper} {n : Nat} (cons : List (Nat × Nat)) (hB : relB .any l.toArray n = true) (hK : consB .any l.toArray n cons = true) (hops : relOps F C Φ (keepOf .any l.toArray cons) P l.toArray Q 0 (l.take n))
    (htail : ∀ x u, C u → (∀ i, i < n → (∀ c ∈ cons, c.1 = i → n ≤ c.2) → Φ i (x i) u) → wpList P l.toArray Q (l.drop n) (F x) u) :
    ∀ (f : Nat) (listed : Array Bool) (x : Nat → Value) (u : World), HeadInv .any l.toArray n listed → left n listed = f → C u → (∀ i, i < n → listed.getD i false = true → (∀ c ∈ cons, c.1 = i → listed.getD c.2 false = false) → Φ i (x i) u) →
      wpAny P .any l.toArray Q (f + (l.length - n)) listed (F x) u := by
  simp only [relB, Bool.and_eq_true, decide_eq_true_eq] at hB
  obtain ⟨⟨⟨⟨hn, hs⟩, hc⟩, hf⟩, hseq⟩ := hB
  have hn' : n < l.length := by simpa using hn
  intro f
  induction f with
  | zero =>
    intro listed x u inv h0 hC hΦ
    have hall := left_zero h0
    have hlist : listed = Array.ofFn (n := l.toArray.size) fun i => decide (i.val < n) := by
      apply Array.ext
      · simp [inv.size]
      · intro i h1 h2
        simp only [Array.getElem_ofFn]
        by_cases hi : i < n
        · have := hall i hi
          simp [hi]
          simpa [Array.getD, h1] using this
        · have := inv.tail i (by omega) (by rw [← inv.size]; exact h1)
          simp [hi]
          simpa [Array.getD, h1] using this
    rw [Nat.zero_add]
    have hsz : l.toArray.size = l.length := by simp
    have := wpAny_of_seq (P := P) (md := .any) (Q' := Q) (l.drop n) n listed (F x) u (fun j => by simp [List.getElem?_drop]) (by rw [List.length_drop, ← hsz, hlist]; exact hseq)
      (htail x u hC fun i hi hcn => hΦ i hi (by have := hall i hi; simpa [Array.getD, show i < listed.size from by rw [inv.size, hsz]; omega] using this) fun c hc hci => (by
        have h1 := hcn c hc hci
        rcases Nat.lt_or_ge c.2 l.toArray.size with h2 | h2
        · exact getD_both (inv.tail c.2 h1 h2)
        · simp [Array.getD, show ¬ c.2 < listed.size from by rw [inv.size]; omega]))
    rwa [List.length_drop] at this
  | succ f ih =>
    intro listed x u inv h0 hC hΦ
    obtain ⟨i0, hi0, hu0⟩ := left_pos (n := n) (listed := listed) (by omega)
    rw [show f + 1 + (l.length - n) = (f + (l.length - n)) + 1 from by omega]
    refine ⟨fun h => absurd h (least_ready hf (by simp; omega) inv i0 hi0 hu0), fun i hi => ?_⟩
    have hin : i < n := by
      rcases Nat.lt_or_ge i n with h | h
      · exact h
      · exact absurd hi (tail_waits hs hc hn inv _ i0 rfl hi0 hu0 i h)
    obtain ⟨hun, o, ho, hall⟩ := mem_ready.1 hi
    have ho' : (l.take n)[i]? = some o := by rw [List.getElem?_take, if_pos hin]; simpa using ho
    have hop := relOps_get F C Φ (l.take n) 0 i o hops ho'
    rw [Nat.zero_add] at hop
    have hlt : ∀ e ∈ o.after, Region.binds .any e = true → e.on < n := fun e he hb => by
      have h1 := List.all_eq_true.1 hf i (List.mem_range.2 (by simp; omega))
      rw [ho] at h1
      have h2 := (Array.all_eq_true'.1 h1) e he
      simp only [hb, Bool.not_true, Bool.false_or, decide_eq_true_eq] at h2
      omega
    have hgo := hop x u hC (fun e he hb => hΦ e.on (hlt e he hb) (hall e he hb) fun c hcm hci => (by
        have h1 := List.all_eq_true.1 hK i (List.mem_range.2 hin)
        rw [ho] at h1
        have h2 := (Array.all_eq_true'.1 h1) e he
        simp only [hb, Bool.not_true, Bool.false_or] at h2
        have h3 := List.all_eq_true.1 h2 c hcm
        simp only [hci, bne_self_eq_false, Bool.false_or, beq_iff_eq] at h3
        rw [h3]
        exact getD_both hun)) (wpAny P .any l.toArray Q (f + (l.length - n)) (listed.setIfInBounds i true)) fun v u' hv hC' hmono => by
      refine ih _ _ u' (inv.set hi hin) (by have := left_set hin hun; omega) hC' fun j hj hl hcn => ?_
      by_cases hji : j = i
      · subst hji
        simpa [upd] using hv
      · rw [getD_set_ne false (Ne.symm hji)] at hl
        have hne : ∀ c ∈ cons, c.1 = j → c.2 ≠ i := fun c hc hcj e => by
          have h1 := hcn c hc hcj
          rw [e] at h1
          simp [show i < listed.size from by rw [inv.size]; simp; omega] at h1
        have hk : keepOf .any l.toArray cons i j = true := by
          simp only [keepOf, Bool.not_eq_true', Bool.or_eq_false_iff]
          refine ⟨?_, ?_⟩
          · rw [Bool.eq_false_iff]
            intro h
            exact hne (j, i) (by simpa using h) rfl rfl
          · rw [Bool.eq_false_iff]
            intro h
            rw [Option.any_eq_true_iff_get] at h
            obtain ⟨hs', h⟩ := h
            obtain ⟨e, he, hb⟩ := Array.any_eq_true'.1 h
            simp only [Bool.and_eq_true, beq_iff_eq] at hb
            have h4 := inv.closed j _ (Option.some_get hs').symm hl e he hb.1
            rw [hb.2, getD_both hun] at h4
            cases h4
        simpa [upd, hji] using hmono j _ hk (hΦ j hj hl fun c hc hcj => (by
          have h1 := hcn c hc hcj
          rwa [getD_set_ne false (Ne.symm (hne c hc hcj))] at h1))
    unfold wpOp
    rw [ho]
    exact hgo

theorem wp_region_relc {id : Nat} {w : World} {l : List Oper} {a : Act} (cons : List (Nat × Nat)) (n : Nat) (x : Nat → Value) (hm : P.follows .mixedOrders = true) (hB : relB .any l.toArray n = true) (hK : consB .any l.toArray n cons = true)
    (ha : a = F x) (hC : C w.drew) (hops : relOps F C Φ (keepOf .any l.toArray cons) P l.toArray Q 0 (l.take n))
    (htail : ∀ x u, C u → (∀ i, i < n → (∀ c ∈ cons, c.1 = i → n ≤ c.2) → Φ i (x i) u) → wpList P l.toArray Q (l.drop n) (F x) u) : (Code.region id l.toArray true).wp P Q a w := by
  subst ha
  refine wp_region_any hm ?_
  have hn : n < l.length := by
    simp only [relB, Bool.and_eq_true, decide_eq_true_eq] at hB
    simpa using hB.1.1.1.1
  have h0 : left n (Array.replicate l.toArray.size false) = n := by
    unfold left
    rw [List.countP_eq_length.2 (fun i hi => by
      have := List.mem_range.1 hi
      simp [show i < l.length from by omega])]
    simp
  have := rel_head F C Φ cons hB hK hops htail n (Array.replicate l.toArray.size false) x w.drew
    ⟨by simp, fun j oj _ hl => (by rw [getD_replicate_false] at hl; cases hl), fun t _ ht => getD_in (by simpa using ht) (getD_replicate_false _ _)⟩ h0 hC
    (fun i _ hl => by rw [getD_replicate_false] at hl; cases hl)
  rw [show n + (l.length - n) = l.length from by omega] at this
  simpa using this
theorem wp_region_rel {id : Nat} {w : World} {l : List Oper} {a : Act} (n : Nat) (x : Nat → Value) (hm : P.follows .mixedOrders = true) (hB : relB .any l.toArray n = true)
    (ha : a = F x) (hC : C w.drew) (hops : relOps F C Φ (keepOf .any l.toArray []) P l.toArray Q 0 (l.take n))
    (htail : ∀ x u, C u → (∀ i, i < n → Φ i (x i) u) → wpList P l.toArray Q (l.drop n) (F x) u) : (Code.region id l.toArray true).wp P Q a w :=
  wp_region_relc F C Φ [] n x hm hB (by simp [consB]; intros; split <;> simp) ha hC hops fun x u hC h => htail x u hC fun i hi => h i hi (by simp)

/-- An operation that is wanted, whose value is known. -/
theorem relOp_run2 {k : Nat} {o : Oper} (v : Value) (hput : ∀ x v, (F x).put o.dst v = F (upd x k v))
    (h : ∀ x u, C u → (∀ e ∈ o.after, Region.binds .any e = true → Φ e.on (x e.on) u) → Region.wanted o (yielded ops (F x).tmps) = true ∧ (execOp (F x).eval o).run P u = .ok (.value v) u) (hv : ∀ u, Φ k v u) : relOp F C Φ keep P ops Q k o := by
  intro x u hC hd K hK
  obtain ⟨hw, hr⟩ := h x u hC hd
  rw [if_pos hw]
  left
  unfold Oper.wp
  rw [hr]
  show K ((F x).put o.dst v) u
  rw [hput]
  exact hK v u (hv u) hC fun _ _ _ h => h
theorem relOp_skip {k : Nat} {o : Oper} (hput : ∀ x v, (F x).put o.dst v = F (upd x k v))
    (h : ∀ x u, C u → (∀ e ∈ o.after, Region.binds .any e = true → Φ e.on (x e.on) u) → Region.wanted o (yielded ops (F x).tmps) = false) (hv : ∀ u, Φ k undef u) : relOp F C Φ keep P ops Q k o := by
  intro x u hC hd K hK
  rw [if_neg (by rw [h x u hC hd]; decide), hput]
  exact hK undef u (hv u) hC fun _ _ _ h => h
/-- An operation that is wanted, and turns the world. -/
theorem relOp_run3 {k : Nat} {o : Oper} (hput : ∀ x v, (F x).put o.dst v = F (upd x k v))
    (h : ∀ x u, C u → (∀ e ∈ o.after, Region.binds .any e = true → Φ e.on (x e.on) u) → Region.wanted o (yielded ops (F x).tmps) = true ∧ ∃ v u', (execOp (F x).eval o).run P u = .ok (.value v) u' ∧ Φ k v u' ∧ C u' ∧ (∀ j y, Φ j y u → Φ j y u')) : relOp F C Φ keep P ops Q k o := by
  intro x u hC hd K hK
  obtain ⟨hw, v, u', hr, h1, h2, h3⟩ := h x u hC hd
  rw [if_pos hw]
  left
  unfold Oper.wp
  rw [hr]
  show K ((F x).put o.dst v) u'
  rw [hput]
  exact hK v u' h1 h2 fun j y _ => h3 j y
theorem relOp_call2 {k : Nat} {o : Oper} (hput : ∀ x v, (F x).put o.dst v = F (upd x k v))
    (h : ∀ x u, C u → (∀ e ∈ o.after, Region.binds .any e = true → Φ e.on (x e.on) u) → Region.wanted o (yielded ops (F x).tmps) = true ∧ ∃ f args, (execOp (F x).eval o).run P u = .ok (.enter f args) u ∧
      Calls P f args u (fun e u' => ∃ v, e = .returned v ∧ Φ k v u' ∧ C u' ∧ (∀ j y, Φ j y u → Φ j y u'))) : relOp F C Φ keep P ops Q k o := by
  intro x u hC hd K hK
  obtain ⟨hw, f, args, hr, hc⟩ := h x u hC hd
  rw [if_pos hw]
  left
  unfold Oper.wp
  rw [hr]
  refine hc.mono ?_
  rintro e u' ⟨v, rfl, h1, h2, h3⟩
  show K ((F x).put o.dst v) u'
  rw [hput]
  exact hK v u' h1 h2 fun j y _ => h3 j y
end
end Go.Proofs.YtdgjgekefpfgiaaDoor
