/- The head of the translation, as a list of code points. -/
import Derived.Test.YtdgjgekefpfgiaaDoorProg
import Derived.JoinedOf
namespace Go.Proofs.YtdgjgekefpfgiaaDoor

set_option maxRecDepth 1000000 in
def headCodes : List Char := ([104, 97, 114, 110, 101, 115, 115, 32, 97, 51, 50, 100, 53, 52, 57, 48, 98, 97, 48, 99, 49, 53, 56, 55, 56, 98, 101, 49, 97, 53, 55, 53, 49, 52, 55, 100, 98, 52, 57, 97, 56, 102, 57, 97, 100, 55, 49, 98, 50, 100, 102, 99, 56, 97, 49, 102, 101, 102, 50, 97, 52, 49, 100, 54, 51, 102, 51, 99, 57, 56, 49, 98, 32, 99, 117, 116, 32, 97, 116, 32, 100, 105, 111, 114, 97, 109, 97, 47, 100, 105, 111, 114, 97, 109, 97, 108, 97, 119, 48, 56, 46, 70, 105, 101, 108, 100, 76, 101, 97, 115, 116, 32, 100, 105, 111, 114, 97, 109, 97, 47, 100, 105, 111, 114, 97, 109, 97, 108, 97, 119, 48, 54, 46, 83, 116, 114, 116, 97, 98, 80, 117, 116, 115, 32, 100, 105, 111, 114, 97, 109, 97, 47, 100, 105, 111, 114, 97, 109, 97, 108, 97, 119, 48, 54, 46, 83, 116, 114, 116, 97, 98, 71, 101, 116, 115, 32, 100, 105, 111, 114, 97, 109, 97, 47, 100, 105, 111, 114, 97, 109, 97, 108, 97, 119, 48, 54, 46, 83, 116, 114, 116, 97, 98, 66, 97, 99, 107, 32, 100, 105, 111, 114, 97, 109, 97, 47, 100, 105, 111, 114, 97, 109, 97, 108, 97, 119, 48, 54, 46, 83, 116, 114, 116, 97, 98, 79, 110, 101, 32, 100, 105, 111, 114, 97, 109, 97, 47, 100, 105, 111, 114, 97, 109, 97, 108, 97, 119, 48, 54, 46, 83, 116, 114, 116, 97, 98, 65, 103, 97, 105, 110, 32, 100, 105, 111, 114, 97, 109, 97, 47, 100, 105, 111, 114, 97, 109, 97, 108, 97, 119, 49, 50, 46, 76, 105, 109, 105, 116, 86, 97, 108, 105, 100, 32, 100, 105, 111, 114, 97, 109, 97, 47, 100, 105, 111, 114, 97, 109, 97, 108, 97, 119, 49, 50, 46, 76, 105, 109, 105, 116, 77, 101, 97, 115, 117, 114, 101, 115, 32, 100, 105, 111, 114, 97, 109, 97, 47, 100, 105, 111, 114, 97, 109, 97, 108, 97, 119, 49, 50, 46, 76, 105, 109, 105, 116, 71, 114, 111, 119, 115, 32, 100, 105, 111, 114, 97, 109, 97, 47, 100, 105, 111, 114, 97, 109, 97, 108, 97, 119, 49, 50, 46, 76, 105, 109, 105, 116, 79, 114, 100, 101, 114, 32, 100, 105, 111, 114, 97, 109, 97, 47, 100, 105, 111, 114, 97, 109, 97, 108, 97, 119, 49, 51, 46, 82, 101, 99, 111, 114, 100, 80, 117, 116, 115, 32, 100, 105, 111, 114, 97, 109, 97, 47, 100, 105, 111, 114, 97, 109, 97, 108, 97, 119, 49, 51, 46, 82, 101, 99, 111, 114, 100, 77, 111, 118, 101, 100, 32, 100, 105, 111, 114, 97, 109, 97, 47, 100, 105, 111, 114, 97, 109, 97, 108, 97, 119, 49, 51, 46, 82, 101, 99, 111, 114, 100, 71, 101, 116, 115, 32, 100, 105, 111, 114, 97, 109, 97, 47, 100, 105, 111, 114, 97, 109, 97, 108, 97, 119, 49, 51, 46, 82, 101, 99, 111, 114, 100, 66, 97, 99, 107, 32, 100, 105, 111, 114, 97, 109, 97, 47, 100, 105, 111, 114, 97, 109, 97, 108, 97, 119, 49, 51, 46, 82, 101, 99, 111, 114, 100, 79, 110, 101, 32, 100, 105, 111, 114, 97, 109, 97, 47, 100, 105, 111, 114, 97, 109, 97, 108, 97, 119, 49, 51, 46, 82, 101, 99, 111, 114, 100, 84, 97, 98, 108, 101, 32, 100, 105, 111, 114, 97, 109, 97, 47, 100, 105, 111, 114, 97, 109, 97, 108, 97, 119, 49, 50, 46, 76, 105, 109, 105, 116, 67, 97, 110, 111, 110, 32, 100, 105, 111, 114, 97, 109, 97, 47, 100, 105, 111, 114, 97, 109, 97, 108, 97, 119, 49, 54, 46, 79, 108, 100, 86, 97, 108, 105, 100, 32, 100, 105, 111, 114, 97, 109, 97, 47, 100, 105, 111, 114, 97, 109, 97, 108, 97, 119, 49, 54, 46, 79, 108, 100, 70, 108, 97, 116, 32, 100, 105, 111, 114, 97, 109, 97, 47, 100, 105, 111, 114, 97, 109, 97, 108, 97, 119, 49, 54, 46, 79, 108, 100, 67, 97, 110, 111, 110, 32, 100, 105, 111, 114, 97, 109, 97, 47, 100, 105, 111, 114, 97, 109, 97, 108, 97, 119, 49, 54, 46, 79, 108, 100, 77, 101, 97, 115, 117, 114, 101, 32, 100, 105, 111, 114, 97, 109, 97, 47, 100, 105, 111, 114, 97, 109, 97, 108, 97, 119, 49, 54, 46, 79, 108, 100, 70, 111, 114, 119, 97, 114, 100] : List Nat).map Char.ofNat
set_option maxRecDepth 1000000 in
theorem initOrder_eq : Tryd.prog.initOrder = String.ofList headCodes := by kernel_rfl
theorem initOrder_list : Tryd.prog.initOrder.toList = headCodes := (congrArg String.toList initOrder_eq).trans String.toList_ofList
/-- The same, of the words. -/
def mayE (P : Program) (l : List (List Char)) : Bool :=
  match l with
  | c :: rest =>
    ((c == "gc".toList || c == "spec".toList) && (rest.isEmpty || rest.head? == some "stop".toList)) ||
    (c == "carried".toList && rest.take 2 == ["gc".toList, "cut".toList] && !P.laysLater && !P.bearsReflect) ||
    ((stripLifts liftWords (c :: rest)).2.head? == some "cut".toList &&
      ((stripLifts liftWords (c :: rest)).1.contains "finals" || !P.laysLater) && ((stripLifts liftWords (c :: rest)).1.contains "reflectrows" || !P.bearsReflect) &&
      ((stripLifts liftWords (c :: rest)).1.contains "reflectrows" || !(stripLifts liftWords (c :: rest)).1.contains "leanrows") &&
      P.doorFits (stripLifts liftWords (c :: rest)).1)
  | [] => false
theorem mayEnter_e (P : Program) : P.mayEnter = mayE P (behindMainWord (wordsSigns P.initOrder.toList)) := rfl
theorem mayEnter_true : Tryd.prog.mayEnter = true := by
  rw [mayEnter_e, initOrder_list]
  kernel_rfl
def headL (l : List (List Char)) : List String := if (stripLifts liftWords l).2.head? == some "cut".toList then (stripLifts liftWords l).1 else []
theorem headL_e (P : Program) : P.headLifts = headL (behindMainWord (wordsSigns P.initOrder.toList)) := rfl
theorem headLifts_nil : Tryd.prog.headLifts = [] := by
  rw [headL_e, initOrder_list]
  kernel_rfl
def liftsF (P : Program) (ws : List (List Char)) : Bool := (ws.head? == some "carried".toList && ws.take 3 != ["carried".toList, "gc".toList, "cut".toList]) || P.headLifts.contains "finals"
theorem liftsF_e (P : Program) : P.liftsFinal = liftsF P (behindMainWord (wordsSigns P.initOrder.toList)) := rfl
theorem liftsFinal_false : Tryd.prog.liftsFinal = false := by
  rw [liftsF_e, liftsF, headLifts_nil, initOrder_list]
  kernel_rfl
def makeF (P : Program) (l : List (List Char)) : Option Make :=
  match l with
  | c :: rest => if c == "gc".toList || c == "spec".toList then some .whole else if c == "cut".toList || (c == "finals".toList && rest.head? == some "cut".toList) then some .cut else if c == "carried".toList then some .carried else if P.headLifts.isEmpty then none else some (.lifted P.headLifts)
  | [] => none
theorem makeF_e (P : Program) : P.make = makeF P (behindMainWord (wordsSigns P.initOrder.toList)) := rfl
theorem make_cut : Tryd.prog.make = some .cut := by
  rw [makeF_e, initOrder_list]
  kernel_rfl
def mainF (l : List (List Char)) : Option (Bool × List Char) :=
  match l with
  | h :: s :: _ => if !isSumSigns s then none else if h == "harness".toList then some (true, s) else if h == "ownmain".toList then some (false, s) else none
  | _ => none
theorem mainF_e (P : Program) : P.mainIs = mainF (wordsSigns P.initOrder.toList) := rfl
theorem mainIs_sum : Tryd.prog.mainIs = some (true, "a32d5490ba0c15878be1a575147db49a8f9ad71b2dfc8a1fef2a41d63f3c981b".toList) := by
  rw [mainF_e, initOrder_list]
  kernel_rfl
theorem joined_of {P : Program} {f : FuncId} {fn : Func} {s : ChangeSpec} {c : OpenClaim} (h1 : (c.wf (OpenSpec.ofChange s) && laidOutB P && mapsRowed P) = true)
    (h2 : (fn.params.all (P.readableRec ·) && namedTie P c.named s.vars) = true) (h3 : ((c.stops == []) && (P.stops == []) && (c.knobs == []) && (P.stopKnobs == [])) = true)
    (h4 : (c.inPlace == P.inPlace f) = true) (h5 : (c.unfollowed == P.unfollowed f) = true) (h6 : (c.recurses == P.recurses f) = true) (h7 : (c.named == P.varsNamed f) = true)
    (h8 : ((c.maps == (fn.params.toList ++ s.plain.varTypes P).any (P.mapsRec ·)) && (c.ifaces == (fn.params.toList ++ s.plain.varTypes P).any (P.ifacesRec ·)) && (c.mapsOut == P.mapsAmong fn.resultTypes.toList)) = true)
    (h9 : ((c.loops == (fn.params.toList ++ s.plain.varTypes P).any (P.loopsFrom ·)) && (c.wideKeys == (fn.params.toList ++ s.plain.varTypes P ++ fn.resultTypes.toList).any (P.wideKeysFrom ·))) = true)
    (h10 : (s.vars.all (P.varReadable ·) && fn.resultTypes.all (fun t => P.readableRec t && decide (t < P.types.size)) && (c.ifacesOut == fn.resultTypes.toList.any (P.ifacesRec ·)) && (c.loopsOut == fn.resultTypes.toList.any (P.loopsFrom ·)) && (c.plainKeys == P.plainKeys)) = true)
    (h11 : (c.shortTexts.isNone && P.stopsHeard) = true) (h12 : P.mayEnter = true) (h13 : (c.lifted == P.liftsFinal) = true) (h14 : (P.make == some c.make) = true)
    (h15 : ((c.kinds == (if c.domain.isEmpty then [] else fn.params.toList.map fun t => match P.underlying t with | some (.int k) => some k | _ => none)) && (c.pinned == c.pinnedBy)) = true)
    (h16 : ((c.veiled == (fn.params.toList ++ s.plain.varTypes P ++ fn.resultTypes.toList).any (P.veiledRec ·)) && c.veiledFits P fn.params.toList (fn.params.toList ++ s.plain.varTypes P ++ fn.resultTypes.toList)) = true) :
    joinedFacts P f fn s c = true := by
  have e : ∀ a b : Bool, a = true → b = true → (a && b) = true := by decide
  unfold joinedFacts
  rw [Bool.and_eq_true] at h1 h2 h3 h8 h9 h10 h11 h15 h16
  obtain ⟨h1, h1c⟩ := h1
  rw [Bool.and_eq_true] at h1
  obtain ⟨h3, h3d⟩ := h3
  rw [Bool.and_eq_true] at h3
  obtain ⟨h3, h3c⟩ := h3
  rw [Bool.and_eq_true] at h3
  obtain ⟨h8, h8c⟩ := h8
  rw [Bool.and_eq_true] at h8
  obtain ⟨h10, h10e⟩ := h10
  rw [Bool.and_eq_true] at h10
  obtain ⟨h10, h10d⟩ := h10
  rw [Bool.and_eq_true] at h10
  obtain ⟨h10, h10c⟩ := h10
  rw [Bool.and_eq_true] at h10
  exact (e _ _ (e _ _ (e _ _ (e _ _ (e _ _ (e _ _ (e _ _ (e _ _ (e _ _ (e _ _ (e _ _ (e _ _ (e _ _ (e _ _ (e _ _ (e _ _ (e _ _ (e _ _ (e _ _ (e _ _ (e _ _ (e _ _ (e _ _ (e _ _ (e _ _ (e _ _ (e _ _ (e _ _ (e _ _ (e _ _ (e _ _ h1.1 h1.2) h1c) h2.1) h2.2) h3.1) h3.2) h3c) h3d) h4) h5) h6) h7) h8.1) h8.2) h8c) h9.1) h9.2) h10.1) h10.2) h10c) h10d) h10e) h11.1) h11.2) h12) h13) h14) h15.1) h15.2) h16.1) h16.2)
end Go.Proofs.YtdgjgekefpfgiaaDoor
