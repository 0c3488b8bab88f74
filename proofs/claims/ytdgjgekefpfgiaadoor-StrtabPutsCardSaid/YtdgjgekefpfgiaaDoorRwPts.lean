/- StrtabPuts: the row. -/
import Derived.Test.YtdgjgekefpfgiaaDoorRow
import Derived.ChangeMaps5
import Derived.Test.YtdgjgekefpfgiaaDoorPts
import Derived.Test.YtdgjgekefpfgiaaDoorRl2
namespace Go.Proofs.YtdgjgekefpfgiaaDoor
open Go.ChangeShapes Go.WideShapes Go.ChangeAt Go.RowKit

namespace strtabPuts
set_option maxRecDepth 100000 in
theorem lifted (os : Os) (started : os.Started) (H : Type) (enc : TypeId × Value → H) :
    ReturnsInHanded {} Tryd.checked os 4 .any (fun w args => (Rows.strtabPutsSpec.pre enc Tryd.prog Tryd.f4 [] false w args ∧ laidMetH Tryd.prog laid2 w) ∧ sizedMet enc Tryd.prog Tryd.f4 (OpenSpec.ofChange Rows.strtabPutsSpec) false w args)
      (Rows.strtabPutsSpec.post enc Tryd.prog Tryd.f4 false true false false) := by
  refine returnsInHanded_of_change_and (C := Tryd.checked) (X := fun w _ => laidMetH Tryd.prog laid2 w) (fun _ _ _ hh h => h.of_heap hh) own started (by kernel_rfl) Tryd.func4
    (ChangeSpec.witness_shaped (enc := enc) (C := Tryd.checked) (os := os) (X := fun w _ => laidMetH Tryd.prog laid2 w) false (World.laidAll Tryd.prog os laid2)
      #[.slice none 0 0, .int .i64 0] 8 (World.laidAll_os _ _ _)
      (laid_shaped os) (by kernel_rfl) (by kernel_rfl) (by kernel_rfl) (laid_met os _)) ?_
  intro W base args ds gs before hval0 hW hc hsz0 hL _
  have hsz : (DataW.weightsEach Tryd.prog (Tryd.f4.params.toList ++ Rows.strtabPutsSpec.plain.varTypes Tryd.prog) (ds ++ gs)).all (· ≤ reachBytes) = true := hsz0
  have hval : ∀ (j : Nat) t v, Tryd.f4.params[j]? = some t → args[j]? = some v → Value.okWide Tryd.prog W .any base t v := hval0
  have hW' := hW
  obtain ⟨p, q, hA0, hV, rfl, _, _⟩ := hW
  have hA : DataW.TrodAll enc Tryd.prog W 0 (fun _ => true) true Tryd.f4.params.toList args.toList ds p := hA0
  rw [Tryd.params4] at hA hval hsz
  obtain ⟨v0, vs0, d0, ds0, p0, q0, hargs, rfl, rfl, h0, r0⟩ := trodAll_cons hA
  obtain ⟨v1, vs1, d1, ds1, p1, q1, rfl, rfl, rfl, h1, r1⟩ := trodAll_cons r0
  obtain ⟨rfl, rfl, rfl⟩ := trodAll_nil r1
  obtain rfl : args = #[v0, v1] := by cases args; simp_all
  obtain ⟨rfl, rfl⟩ := trodVars_none hV
  obtain ⟨x0, hx0⟩ := rs_open2 (hval 0 23 v0 rfl rfl) h0 (wt_at2 hsz (j := 0) rfl rfl)
  obtain ⟨x1, rfl, rfl, rfl, wx1⟩ := open_int Tryd.underlying3 (hval 1 3 v1 rfl rfl) h1
  have hx1 : I64 x1 := by
    have w0 := wx1
    simp only [Lit.wf, Bool.and_eq_true, decide_eq_true_eq, IntKind.min, IntKind.max, IntKind.bits, IntKind.signed] at w0
    exact ⟨by simpa using w0.1, by simpa using w0.2⟩
  clear hA0 hval0 hsz0 hsz
  refine (puts_any v0 x0 x1 W hx0 hx1 (tabs_of hL)).mono fun e W' ⟨he, bel⟩ => ?_
  subst he
  exact ⟨_, rfl, _, _, _, [], _, [], hW', trodAll_mk1 (shut_bool Tryd.underlying4 _),
    (trodAll_cons_mk (Below.trod laidOut (by kernel_rfl) (of_decide_eq_true (by kernel_rfl)) h0 bel (trod_lt2 h0)) (trodAll_cons_mk (shut_int Tryd.underlying3 wx1) trodAll_mk0)),
    rfl, bel.frame _, fun h => by cases h⟩
set_option maxRecDepth 100000 in
theorem closed1 : (Rows.strtabPutsRow.inPlace == Tryd.prog.inPlace 4) = true := by kernel_rfl
set_option maxRecDepth 100000 in
theorem closed2 : (Rows.strtabPutsRow.unfollowed == Tryd.prog.unfollowed 4) = true := by kernel_rfl
set_option maxRecDepth 100000 in
theorem closed3 : (Rows.strtabPutsRow.recurses == Tryd.prog.recurses 4) = true := by kernel_rfl
set_option maxRecDepth 100000 in
theorem closed4 : (Rows.strtabPutsRow.named == Tryd.prog.varsNamed 4) = true := by kernel_rfl
set_option maxRecDepth 100000 in
theorem closed : joinedFacts Tryd.prog 4 Tryd.f4 Rows.strtabPutsSpec Rows.strtabPutsRow = true :=
  joined_of (by kernel_rfl) (by kernel_rfl) (by kernel_rfl) closed1 closed2 closed3 closed4 (by kernel_rfl) (by kernel_rfl) (by kernel_rfl) (by kernel_rfl) mayEnter_true (by rw [liftsFinal_false]; rfl) (by rw [make_cut]; rfl) (by kernel_rfl) (by kernel_rfl)
theorem over : Rows.strtabPutsRow.holds Tryd.pinned (OpenSpec.ofChange Rows.strtabPutsSpec) :=
  OpenClaim.holds_of_wide 4 Tryd.f4 rfl rfl rfl rfl rfl rfl rfl ⟨rfl, rfl, rfl, rfl, rfl⟩ rfl rfl rfl rfl rfl (by kernel_rfl) Tryd.func4 closed
    (of_decide_eq_true (by kernel_rfl)) (by unfold Func.isWrapper; first | (rw [if_pos (by decide +kernel)]; kernel_rfl) | (rw [if_neg (by decide +kernel)]; exact ⟨rfl, rfl⟩))
    (fun os started H enc _ => lifted os started H enc)
end strtabPuts
end Go.Proofs.YtdgjgekefpfgiaaDoor
