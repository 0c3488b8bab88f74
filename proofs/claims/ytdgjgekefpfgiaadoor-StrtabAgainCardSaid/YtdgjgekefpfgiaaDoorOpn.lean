/- What the rows hand over, read as nodes, numbers, texts. -/
import Derived.Test.YtdgjgekefpfgiaaDoorSet
import Derived.ProofKit
import Derived.OpenShut
import Derived.ShutString
import Derived.SliceStrings
import Derived.ChangeSlices
import Derived.SizedLaws
import Derived.Lib.SmallJoins
namespace Go.Proofs.YtdgjgekefpfgiaaDoor
open Go.RowKit Go.ChangeShapes Go.WideShapes

variable {H : Type} {enc : TypeId × Value → H} {W : World}

/-- What a datum weighs is within reach. -/
def Wt (t : TypeId) (d : DataW H) : Prop := (d.weights Tryd.prog t).all (· ≤ reachBytes) = true
theorem reach_le : reachBytes ≤ 140737488355328 := by decide
theorem spot_none {w : World} {a : Addr} {v : Value} (h : w.cell? (a.add 0) = some v) : a.spot = none := by
  rw [show a.add 0 = a from rfl] at h
  unfold World.cell? at h
  split at h
  · split at h
    · cases h
    · rename_i h1
      simpa using h1
  · cases h
theorem addr_eq {a : Addr} (h : a.spot = none) : a = ⟨a.block, a.off, none⟩ := by cases a; simp_all

theorem ri_open {t e : TypeId} {k : IntKind} (hk : k = .i64) (ht : Tryd.prog.underlying t = some (.slice e)) (he : Tryd.prog.underlying e = some (.int k)) (hc : Tryd.prog.cellsOf e = 1) (hbytes : Tryd.prog.bytesOf e = 8) {n : Nat} {v : Value} {y : DataW H × List MemPlace}
    (h : DataW.trod enc Tryd.prog W 0 (fun _ => true) true n t [v] = some y) (hw : Wt t y.1) : ∃ xs, RI Any W v xs := by
  subst hk
  rcases open_ints ht he hc h with ⟨hcs, _⟩ | ⟨a, len, cap, zs, hcs, _, hl, hm, hz, hx, hcell, hwz⟩
  · simp only [List.cons.injEq, and_true] at hcs
    subst hcs
    exact ⟨[], Sl.nil _ _ _ _ _⟩
  · simp only [List.cons.injEq, and_true] at hcs
    subst hcs
    simp only [if_true] at hz
    subst hx
    have hcap : cap * 8 ≤ 140737488355328 := by
      have h1 := hw
      simp only [Wt, DataW.weights, ht, List.all_cons, Bool.and_eq_true, decide_eq_true_eq, hbytes, lits, List.length_map, List.length_take, List.length_drop] at h1
      have := reach_le
      omega
    refine ⟨zs.take len, some a, cap, by rw [List.length_take, Nat.min_eq_left (by omega)], by rw [List.length_take]; omega, by rw [List.length_take]; omega, fun hp => ?_⟩
    have hp' : 0 < zs.length := by rw [List.length_take] at hp; omega
    have h0 := hcell 0 hp'
    have hs := spot_none h0
    refine ⟨a.block, a.off, congrArg some (addr_eq hs), trivial, World.block_lt_of_cell? _ _ h0, fun i x hi => ?_⟩
    rw [List.getElem?_take] at hi
    split at hi
    · have hlt : i < zs.length := (List.getElem?_eq_some_iff.1 hi).1
      have hci := hcell i hlt
      rw [List.getD_eq_getElem?_getD, hi] at hci
      have hwx := hwz x (List.mem_of_getElem? hi)
      refine ⟨?_, ?_⟩
      · rw [addr_eq hs, Addr.add_lit] at hci
        simpa using hci
      · simp only [Lit.wf, Bool.and_eq_true, decide_eq_true_eq, IntKind.min, IntKind.max, IntKind.bits, IntKind.signed] at hwx
        exact ⟨by simpa using hwx.1, by simpa using hwx.2⟩
    · cases hi
theorem rs_open {t e : TypeId} (ht : Tryd.prog.underlying t = some (.slice e)) (he : Tryd.prog.underlying e = some .string) (hc : Tryd.prog.cellsOf e = 1) (hbytes : Tryd.prog.bytesOf e = 16) {n : Nat} {v : Value} {y : DataW H × List MemPlace}
    (h : DataW.trod enc Tryd.prog W 0 (fun _ => true) true n t [v] = some y) (hw : Wt t y.1) : ∃ xs, RS Any W v xs := by
  rcases open_strings ht he hc h with ⟨hcs, _⟩ | ⟨a, len, cap, zs, hcs, _, hl, hm, hz, hx, hcell, hwz⟩
  · simp only [List.cons.injEq, and_true] at hcs
    subst hcs
    exact ⟨[], Sl.nil _ _ _ _ _⟩
  · simp only [List.cons.injEq, and_true] at hcs
    subst hcs
    simp only [if_true] at hz
    subst hx
    have hcap : cap * 16 ≤ 140737488355328 := by
      have h1 := hw
      simp only [Wt, DataW.weights, ht, List.all_cons, Bool.and_eq_true, decide_eq_true_eq, hbytes, Go.ChangeShapes.strs, List.length_map, List.length_take, List.length_drop] at h1
      have := reach_le
      omega
    refine ⟨zs.take len, some a, cap, by rw [List.length_take, Nat.min_eq_left (by omega)], by rw [List.length_take]; omega, by rw [List.length_take]; omega, fun hp => ?_⟩
    have hp' : 0 < zs.length := by rw [List.length_take] at hp; omega
    have h0 := hcell 0 hp'
    have hs := spot_none h0
    refine ⟨a.block, a.off, congrArg some (addr_eq hs), trivial, World.block_lt_of_cell? _ _ h0, fun i x hi => ?_⟩
    rw [List.getElem?_take] at hi
    split at hi
    · have hlt : i < zs.length := (List.getElem?_eq_some_iff.1 hi).1
      have hci := hcell i hlt
      rw [List.getD_eq_getElem?_getD, hi] at hci
      have hwx := hwz x (List.mem_of_getElem? hi)
      refine ⟨?_, by simpa [maxLen] using hwx⟩
      rw [addr_eq hs, Addr.add_lit] at hci
      simpa using hci
    · cases hi
set_option maxRecDepth 100000 in
theorem nd_open {r : Reach} {b0 : Nat} {v : Value} {d : DataW H} {p : List MemPlace} (hv : Value.okWide Tryd.prog W r b0 26 v) (h : DataW.Trod enc Tryd.prog W 0 (fun _ => true) true 26 v d p) (hw : Wt 26 d) :
    ∃ n vi vt vk, v = .agg #[.int .i64 n.kind, vi, vt, vk] ∧ NdV Any W n vi vt vk := by
  obtain ⟨v0, v1, v2, v3, y0, y1, y2, y3, n, rfl, rfl, rfl, h0, h1, h2, h3⟩ := Joins.open_agg4 Tryd.underlying26 (by kernel_rfl) (by kernel_rfl) hv h
  have hw' : Wt 22 y1.1 ∧ Wt 23 y2.1 ∧ Wt 24 y3.1 := by
    simp only [Wt, DataW.weights, Tryd.underlying26, DataW.weightsEach, List.all_append, Bool.and_eq_true, List.map_cons, List.map_nil] at hw
    exact ⟨hw.2.1, hw.2.2.1, hw.2.2.2.1⟩
  obtain ⟨k, hk, hkr⟩ : ∃ k : Int, v0 = .int .i64 k ∧ I64 k := by
    obtain ⟨k, e, -, hwf⟩ := DataW.trod_int Tryd.underlying3 h0
    simp only [List.cons.injEq, and_true] at e
    simp only [Lit.wf, Bool.and_eq_true, decide_eq_true_eq, IntKind.min, IntKind.max, IntKind.bits, IntKind.signed] at hwf
    exact ⟨k, e, by simpa using hwf.1, by simpa using hwf.2⟩
  obtain ⟨xs, hxs⟩ := ri_open rfl Tryd.underlying22 Tryd.underlying2 (by kernel_rfl) (by kernel_rfl) h1 hw'.1
  obtain ⟨ts, hts⟩ := rs_open Tryd.underlying23 Tryd.underlying9 (by kernel_rfl) (by kernel_rfl) h2 hw'.2.1
  obtain ⟨ks, hks⟩ := ri_open rfl Tryd.underlying24 Tryd.underlying3 (by kernel_rfl) (by kernel_rfl) h3 hw'.2.2
  exact ⟨⟨k, xs, ts, ks⟩, v1, v2, v3, by rw [hk], hkr, hxs, hts, hks⟩
end Go.Proofs.YtdgjgekefpfgiaaDoor
