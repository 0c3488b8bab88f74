/- Maps of the call's own, as functions. -/
import Derived.Test.YtdgjgekefpfgiaaDoorTch
import Derived.Maps.OwnSet
namespace Go.Proofs.YtdgjgekefpfgiaaDoor
open Go.RowKit Go.Maps Go.WideMaps

theorem law_str : Keyed Tryd.prog 9 := string_keyed Tryd.underlying9
theorem law_int : Keyed Tryd.prog 3 := int_keyed Tryd.underlying3
theorem zero_int (w : World) : (zeroValue 3).run Tryd.prog w = .ok (.int .i64 0) w := by kernel_rfl
theorem zero_bool (w : World) : (zeroValue 4).run Tryd.prog w = .ok (.bool false) w := by kernel_rfl
theorem ownsMap_touch {H : Type} {P : Program} {k : TypeId} {R : Value → Option (DataW H × List MemPlace)} {w w' : World} {b n : Nat} {D : DataW H} {S : Nat → Prop} (h : w.ownsMap P k R b n D) (ht : Touch S w w') (hn : ¬ S b) : w'.ownsMap P k R b n D := by
  obtain ⟨es, clock, hb, r⟩ := h
  exact ⟨es, clock, ht.blk hb hn, r⟩
theorem bytes_inj {s t : ByteArray} (h : s.data.toList = t.data.toList) : s = t := ByteArray.ext (Array.toList_inj.1 h)

/-! ### map[string]int -/
def StrMap (w : World) (m n : Nat) (f : ByteArray → Option Int) : Prop :=
  ∃ D : DataW Unit, w.ownsMap Tryd.prog 9 (plainElem Tryd.prog 3) m n D ∧ ∀ s : ByteArray, Maps.has D (.string s.data.toList) = (f s).isSome ∧ ∀ x, f s = some x → D.atKey (.string s.data.toList) (.lit (.int .i64 0)) = .lit (.int .i64 x)
theorem StrMap.touch {w w' : World} {m n : Nat} {f : ByteArray → Option Int} {S : Nat → Prop} (h : StrMap w m n f) (ht : Touch S w w') (hn : ¬ S m) : StrMap w' m n f := by
  obtain ⟨D, h1, h2⟩ := h
  exact ⟨D, ownsMap_touch h1 ht hn, h2⟩
theorem StrMap.new (w : World) : StrMap (w.alloc (.map #[] 0)) w.heap.size 0 fun _ => none :=
  ⟨.map [], World.ownsMap_made _ _ _ _, fun s => ⟨rfl, fun x hx => by cases hx⟩⟩
theorem StrMap.lt {w : World} {m n : Nat} {f : ByteArray → Option Int} (h : StrMap w m n f) : m < w.heap.size := by
  obtain ⟨D, h1, h2⟩ := h
  exact h1.lt
theorem StrMap.look {w : World} {m n : Nat} {f : ByteArray → Option Int} (h : StrMap w m n f) (s : ByteArray) (hs : s.size ≤ 9223372036854775807) :
    (Instr.lookup 59 (.map (some m)) (.string s) true).run Tryd.prog w = .ok (.tuple #[.int .i64 ((f s).getD 0), .bool (f s).isSome]) w := by
  obtain ⟨D, h1, h2⟩ := h
  obtain ⟨h3, h4⟩ := h2 s
  obtain ⟨v, ps, hrun, hv⟩ := h1.look_ok law_str Tryd.underlying59 (zero_int w) (plainElem_int Tryd.underlying3 (by decide)) (keyOf_string_mk Tryd.underlying9 (s := s) (by simpa [maxLen] using hs))
  obtain ⟨c, rfl, hc, -⟩ := plainElem_int_inv Tryd.underlying3 hv
  rw [hrun, h3]
  have hc1 : D.atKey (.string s.data.toList) (.lit (.int .i64 0)) = .lit (.int .i64 c) := congrArg Prod.fst hc
  cases hf : f s with
  | none =>
    rw [hf] at h3
    rw [atKey_of_not_has h3] at hc1
    simp only [DataW.lit.injEq, Lit.int.injEq, true_and] at hc1
    rw [← hc1]
    rfl
  | some x =>
    rw [h4 x hf] at hc1
    simp only [DataW.lit.injEq, Lit.int.injEq, true_and] at hc1
    rw [← hc1]
    rfl
theorem StrMap.look1 {w : World} {m n : Nat} {f : ByteArray → Option Int} (h : StrMap w m n f) (s : ByteArray) (hs : s.size ≤ 9223372036854775807) :
    (Instr.lookup 59 (.map (some m)) (.string s) false).run Tryd.prog w = .ok (.int .i64 ((f s).getD 0)) w := by
  obtain ⟨D, h1, h2⟩ := h
  obtain ⟨h3, h4⟩ := h2 s
  obtain ⟨c, hrun, hc1, -⟩ := h1.lookup_int law_str Tryd.underlying59 Tryd.underlying3 (zero_int w) (keyOf_string_mk Tryd.underlying9 (s := s) (by simpa [maxLen] using hs))
  rw [hrun]
  cases hf : f s with
  | none =>
    rw [hf] at h3
    rw [atKey_of_not_has h3] at hc1
    simp only [DataW.lit.injEq, Lit.int.injEq, true_and] at hc1
    rw [← hc1]
    rfl
  | some x =>
    rw [h4 x hf] at hc1
    simp only [DataW.lit.injEq, Lit.int.injEq, true_and] at hc1
    rw [← hc1]
    rfl
theorem StrMap.store {w : World} {m n : Nat} {f : ByteArray → Option Int} (h : StrMap w m n f) (s : ByteArray) (hs : s.size ≤ 9223372036854775807) (x : Int) (hx : I64 x) (hn : n < 9223372036854775807) :
    ∃ w', (Instr.mapUpdate 59 (.map (some m)) (.string s) (.int .i64 x)).run Tryd.prog w = .ok () w' ∧ StrMap w' m (n + 1) (fun t => if t = s then some x else f t) ∧ w.grownBy w' (some m) := by
  obtain ⟨D, h1, h2⟩ := h
  obtain ⟨w', hrun, ho, hg⟩ := h1.update law_str Tryd.underlying59 (by simpa [maxLen] using hn) (keyOf_string_mk Tryd.underlying9 (s := s) (by simpa [maxLen] using hs)) (plainElem_int Tryd.underlying3 (a := x) (by
    simp only [Lit.wf, Bool.and_eq_true, decide_eq_true_eq, IntKind.min, IntKind.max, IntKind.bits, IntKind.signed]
    exact ⟨by simpa using hx.1, by simpa using hx.2⟩))
  refine ⟨w', hrun, ⟨_, ho, fun t => ?_⟩, hg⟩
  have hD := h1.isMap
  by_cases e : t = s
  · subst e
    simp only [if_pos]
    rw [has_put_same hD (show WideAt.IsKeyLit (.string t.data.toList) from trivial)]
    refine ⟨rfl, fun y hy => ?_⟩
    cases hy
    exact atKey_put_same hD (show WideAt.IsKeyLit (.string t.data.toList) from trivial) _ _
  · have hne : (Lit.string t.data.toList) ≠ .string s.data.toList := fun h => by
      injection h with h
      exact e (bytes_inj h)
    simp only [if_neg e]
    rw [has_put_other hne]
    refine ⟨(h2 t).1, fun y hy => ?_⟩
    rw [atKey_put_other hne]
    exact (h2 t).2 y hy
theorem StrMap.congr {w : World} {m n : Nat} {f g : ByteArray → Option Int} (h : StrMap w m n f) (e : ∀ s, f s = g s) : StrMap w m n g := by
  have : f = g := funext e
  rwa [← this]
end Go.Proofs.YtdgjgekefpfgiaaDoor
