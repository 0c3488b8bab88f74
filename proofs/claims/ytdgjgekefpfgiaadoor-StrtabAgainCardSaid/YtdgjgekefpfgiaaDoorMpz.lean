/- Maps of the call's own: with their length. A text that a table has. -/
import Derived.Test.YtdgjgekefpfgiaaDoorBak
namespace Go.Proofs.YtdgjgekefpfgiaaDoor
open Go.RowKit Go.Maps Go.WideMaps

def StrMapZ (w : World) (m n z : Nat) (f : ByteArray → Option Int) : Prop :=
  ∃ D : DataW Unit, w.ownsMap Tryd.prog 9 (plainElem Tryd.prog 3) m n D ∧ (∀ s : ByteArray, Maps.has D (.string s.data.toList) = (f s).isSome ∧ ∀ x, f s = some x → D.atKey (.string s.data.toList) (.lit (.int .i64 0)) = .lit (.int .i64 x)) ∧ Maps.size D = z
theorem StrMapZ.map {w : World} {m n z : Nat} {f : ByteArray → Option Int} (h : StrMapZ w m n z f) : StrMap w m n f := by
  obtain ⟨D, h1, h2, -⟩ := h
  exact ⟨D, h1, h2⟩
theorem StrMapZ.touch {w w' : World} {m n z : Nat} {f : ByteArray → Option Int} {S : Nat → Prop} (h : StrMapZ w m n z f) (ht : Touch S w w') (hn : ¬ S m) : StrMapZ w' m n z f := by
  obtain ⟨D, h1, h2⟩ := h
  exact ⟨D, ownsMap_touch h1 ht hn, h2⟩
theorem StrMapZ.later {w w' : World} {m n z : Nat} {f : ByteArray → Option Int} (h : StrMapZ w m n z f) (hb : Below w.heap.size w w') : StrMapZ w' m n z f := h.touch (S := fun _ => False) (Touch.of_below hb) fun h => h
theorem StrMapZ.new (w : World) : StrMapZ (w.alloc (.map #[] 0)) w.heap.size 0 0 fun _ => none :=
  ⟨.map [], World.ownsMap_made _ _ _ _, fun s => ⟨rfl, fun x hx => by cases hx⟩, rfl⟩
theorem StrMapZ.congr {w : World} {m n z : Nat} {f g : ByteArray → Option Int} (h : StrMapZ w m n z f) (e : ∀ s, f s = g s) : StrMapZ w m n z g := by
  have : f = g := funext e
  rwa [← this]
theorem StrMapZ.store {w : World} {m n z : Nat} {f : ByteArray → Option Int} (h : StrMapZ w m n z f) (s : ByteArray) (hs : s.size ≤ 9223372036854775807) (x : Int) (hx : I64 x) (hn : n < 9223372036854775807) :
    ∃ w', (Instr.mapUpdate 59 (.map (some m)) (.string s) (.int .i64 x)).run Tryd.prog w = .ok () w' ∧ StrMapZ w' m (n + 1) (if (f s).isSome then z else z + 1) (fun t => if t = s then some x else f t) ∧ w.grownBy w' (some m) := by
  obtain ⟨D, h1, h2, h3⟩ := h
  obtain ⟨w', hrun, ho, hg⟩ := h1.update law_str Tryd.underlying59 (by simpa [maxLen] using hn) (keyOf_string_mk Tryd.underlying9 (s := s) (by simpa [maxLen] using hs)) (plainElem_int Tryd.underlying3 (a := x) (by
    simp only [Lit.wf, Bool.and_eq_true, decide_eq_true_eq, IntKind.min, IntKind.max, IntKind.bits, IntKind.signed]
    exact ⟨by simpa using hx.1, by simpa using hx.2⟩))
  refine ⟨w', hrun, ⟨_, ho, fun t => ?_, ?_⟩, hg⟩
  · have hD := h1.isMap
    by_cases e : t = s
    · subst e
      simp only [if_pos]
      rw [has_put_same hD (show WideAt.IsKeyLit (.string t.data.toList) from trivial)]
      refine ⟨rfl, fun y hy => ?_⟩
      cases hy
      exact atKey_put_same hD (show WideAt.IsKeyLit (.string t.data.toList) from trivial) _ _
    · have hne : (Lit.string t.data.toList) ≠ .string s.data.toList := fun h => by
        injection h with h
        exact e (bytes_inj h)
      simp only [if_neg e]
      rw [has_put_other hne]
      refine ⟨(h2 t).1, fun y hy => ?_⟩
      rw [atKey_put_other hne]
      exact (h2 t).2 y hy
  · rw [size_put (h1.tidy law_str), (h2 s).1, h3]
theorem StrMapZ.len {w : World} {m n z : Nat} {f : ByteArray → Option Int} (h : StrMapZ w m n z f) (ty : TypeId) : (Builtin.len_ #[59] ty #[.map (some m)]).run Tryd.prog w = .ok (.int .i64 z) w := by
  obtain ⟨D, h1, h2, h3⟩ := h
  rw [h1.len Tryd.underlying59, h3]
/-- What the law's map holds. -/
theorem fnT_intern {l : List ByteArray} {s : ByteArray} (t : ByteArray) : (if t = s then some (numT l s : Int) else fnT l t) = fnT (internT l s) t := by
  unfold fnT
  by_cases hm : s ∈ l
  · rw [internT, if_pos hm]
    by_cases e : t = s
    · subst e
      rw [if_pos rfl, if_pos hm]
    · rw [if_neg e]
  · rw [internT, if_neg hm]
    by_cases e : t = s
    · subst e
      rw [if_pos rfl, if_pos (by simp), numT_snoc hm, numT_not hm]
    · rw [if_neg e]
      by_cases ht : t ∈ l
      · rw [if_pos ht, if_pos (by simp [ht]), numT_append ht]
      · rw [if_neg ht, if_neg (by simp [ht, e])]
theorem lenT_intern {l : List ByteArray} {s : ByteArray} : (if (fnT l s).isSome then l.length else l.length + 1) = (internT l s).length := by
  unfold fnT internT
  by_cases hm : s ∈ l
  · simp [hm]
  · simp [hm]
set_option maxRecDepth 100000 in
set_option maxHeartbeats 1000000 in
theorem tabSame_any (S : Nat → Prop) (g : Nat) (l : List ByteArray) (s : ByteArray) (w : World) (h : Tab S w g l) (hmem : s ∈ l) :
    Calls Tryd.prog 34 #[.pointer (some ⟨g, 0, none⟩), .string s] w fun e w' => e = .returned (.int .i64 (numT l s)) ∧ w' = w := by
  have hs := h.2.2.2.1.2.1 s hmem
  obtain ⟨hg0, hSlt, hnd, hsm0, A, c, m, n, hm, hg, hr, hb, hmap, hn⟩ := h
  have c0 := blk_cell hg 0
  have c1 := blk_cell hg 1
  have hlook := hmap.look s (by omega)
  have hf : fnT l s = some (numT l s : Int) := if_pos hmem
  rw [hf] at hlook
  simp only [Option.getD_some, Option.isSome_some] at hlook
  clear hf hmap
  go_enter Tryd.func34, Tryd.ntmps34
  go_wp2
  go_ret
  exact ⟨rfl, rfl⟩
end Go.Proofs.YtdgjgekefpfgiaaDoor
