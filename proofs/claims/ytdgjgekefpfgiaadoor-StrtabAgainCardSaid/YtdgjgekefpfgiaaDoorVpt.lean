/- varint.Put, the reference's Put. -/
import Derived.Test.YtdgjgekefpfgiaaDoorTch
import Derived.Test.YtdgjgekefpfgiaaDoorTab
import Derived.Outline
import Derived.Deep.OwnRows
namespace Go.Proofs.YtdgjgekefpfgiaaDoor
open Go.RowKit

/-- What 64 bits hold. -/
def U64 (n : Nat) : Prop := n < 18446744073709551616
theorem or_bits (m : Nat) : bits .or .u8 ((m : Int) % 256) 128 = ((UInt8.ofNat (128 + m % 128)).toNat : Int) := by
  have h : ∀ k : Fin 256, bits .or .u8 ((k.val : Nat) : Int) 128 = ((128 + k.val % 128 : Nat) : Int) := by decide +kernel
  have := h ⟨m % 256, Nat.mod_lt _ (by decide)⟩
  simp only at this
  rw [show ((m : Int) % 256) = ((m % 256 : Nat) : Int) from by omega, this, UInt8.toNat_ofNat']
  omega
theorem byteCells_one (b : UInt8) : Lib.byteCells [b] = [.int .u8 b.toNat] := rfl
theorem byteCells_one' (l : List UInt8) : ∀ u ∈ Lib.byteCells l, u.oneCell' = true := by
  intro u hu
  simp only [Lib.byteCells, List.mem_map] at hu
  obtain ⟨x, _, rfl⟩ := hu
  rfl
theorem row_conv {w : World} {base g c k : Nat} {l : List UInt8} (h : Row w base 5 1 (.slice (some ⟨g, 0, none⟩) k c) (Lib.byteCells l)) (hk : k = l.length) :
    (convert 120 9 (.slice (some ⟨g, 0, none⟩) k c)).run Tryd.prog w = .ok (.string ⟨l.toArray⟩) w := by
  subst hk
  refine run_convert_bytes_back w 120 9 5 ⟨g, 0, none⟩ c _ Tryd.underlying120 Tryd.underlying5 Tryd.underlying9 fun j hj => ?_
  obtain ⟨g', _, _, e, -, hcell, -⟩ := h.cell j (by rw [Lib.byteCells_length]; exact hj)
  cases e
  rw [Addr.add_lit, Nat.zero_add, hcell]
  simp only [Lib.byteCells, List.getElem_map]
set_option maxRecDepth 100000 in
set_option maxHeartbeats 1000000 in
theorem vput_any (n : Nat) (w : World) (hn : U64 n) : Calls Tryd.prog 92 #[.int .u64 n] w fun e w' => e = .returned (.string ⟨(vput n).toArray⟩) ∧ Below w.heap.size w w' := by
  have hlen : (vput n).length ≤ 10 := vput_len 10 n (Nat.lt_of_lt_of_le hn (by decide)) (by decide)
  go_enter Tryd.func92, Tryd.ntmps92
  go_wp2
  go_loopw [0, 3] (fun x o wr => ∃ (m : Nat) (pre : List UInt8) (A : Option Addr) (c : Nat), vput n = pre ++ vput m ∧ U64 m ∧ x = .int .u64 m ∧ o = .slice A pre.length c ∧ Row wr w.heap.size 5 1 (.slice A pre.length c) (Lib.byteCells pre) ∧ Below w.heap.size w wr) (fun x _ _ => (intOf x).toNat)
  case atStart => exact ⟨n, [], none, 0, rfl, hn, rfl, rfl, Row.empty _ _ _ _ _, Below.refl _ _⟩
  case round =>
    obtain ⟨m, pre, A, c, hv, hm, rfl, rfl, hr, hb⟩ := hrel
    have hl : pre.length ≤ 10 := by
      have := congrArg List.length hv
      rw [List.length_append] at this
      omega
    by_cases h : m < 128
    · rw [vput_lt h] at hv
      have HV := Lib.hid hv
      clear hv
      have hnew : Cells (wr.alloc (.cells #[.int .u8 m] 5)) (some ⟨wr.heap.size, 0, none⟩) [.int .u8 m] := Cells.one _ _ _
      go_wp2_with (at_builtin; refine append_ev rfl _ _ 120 5 (.int .u8 0) 1 1 rfl Tryd.underlying120 info_byte rfl (by decide) w.heap.size A pre.length c (Lib.byteCells pre) rfl (hr.later (below_alloc' (Below.refl _ _) _)) _ 1 1 [.int .u8 m] rfl rfl hnew (by intro u hu; simp at hu; subst hu; rfl) ?c1 ?c2 ?c3 ?_)
      case c1 => omega
      case c2 => omega
      case c3 => have := hb.size; simp; omega
      intro A1 c1 w2 hr2 hg2 hw2
      have hb2 : Below w.heap.size w w2 := below_grown (below_alloc' hb _) hg2 fun g hg => (hr.typed g hg).1
      have hbc : Lib.byteCells pre ++ [.int .u8 m] = Lib.byteCells (pre ++ [UInt8.ofNat m]) := by
        rw [byteCells_append, byteCells_one, UInt8.toNat_ofNat', Nat.mod_eq_of_lt (by omega)]
      rw [hbc] at hr2
      obtain ⟨g, n', c', hge, -, -, -⟩ := hr2.cell 0 (by rw [Lib.byteCells_length]; simp)
      injection hge with hA hn' hc'
      subst hA
      clear hn' hc' hbc hg2 hw2
      have hcv' := row_conv hr2 (k := pre.length + 1) (by simp)
      rw [← HV.out] at hcv'
      go_wp2
      go_ret
      exact ⟨rfl, hb2⟩
    · rw [vput_ge h] at hv
      have HV := Lib.hid hv
      clear hv
      have hob := Lib.hid (or_bits m)
      go_wp2_with (at_builtin; refine append_ev rfl _ _ 120 5 (.int .u8 0) 1 1 rfl Tryd.underlying120 info_byte rfl (by decide) w.heap.size A pre.length c (Lib.byteCells pre) rfl (hr.later (below_alloc' (Below.refl _ _) _)) _ 1 1 [.int .u8 (bits .or .u8 ((m : Int) % 256) 128)] rfl rfl (Cells.one _ _ _) (by intro u hu; simp at hu; subst hu; rfl) ?c1 ?c2 ?c3 ?_)
      case c1 => omega
      case c2 => omega
      case c3 => have := hb.size; simp; omega
      intro A1 c1 w2 hr2 hg2 hw2
      have hb2 : Below w.heap.size w w2 := below_grown (below_alloc' hb _) hg2 fun g hg => (hr.typed g hg).1
      go_wp2
      refine ⟨⟨m / 128, pre ++ [UInt8.ofNat (128 + m % 128)], A1, c1, by rw [HV.out]; simp, Nat.lt_of_le_of_lt (Nat.div_le_self _ _) hm, by simp, by simp, ?_, hb2⟩, by simp [intOf]; omega⟩
      rw [hob.out] at hr2
      rw [byteCells_append, byteCells_one, List.length_append]
      exact hr2
end Go.Proofs.YtdgjgekefpfgiaaDoor
