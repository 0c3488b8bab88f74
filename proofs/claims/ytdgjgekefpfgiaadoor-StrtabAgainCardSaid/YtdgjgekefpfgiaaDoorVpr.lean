/- The reference's Put of numbers. -/
import Derived.Test.YtdgjgekefpfgiaaDoorVpt
import Derived.Test.YtdgjgekefpfgiaaDoorRgl
import Derived.Laws.Bits64
namespace Go.Proofs.YtdgjgekefpfgiaaDoor
open Go.RowKit

theorem wrap_u64 {x : Int} (h0 : 0 ≤ x) (h : x < 18446744073709551616) : IntKind.u64.wrap x = x := by
  rw [IntKind.wrap_u64]
  omega
theorem wrap_u8 {x : Int} (h0 : 0 ≤ x) (h : x < 256) : IntKind.u8.wrap x = x := by
  rw [IntKind.wrap_u8]
  omega
theorem conv_one {w : World} {g : Nat} {b : UInt8} (h : w.heap[g]? = some (.cells #[.int .u8 b.toNat] 5 (0, 0))) : (convert 120 9 (.slice (some ⟨g, 0, none⟩) 1 1)).run Tryd.prog w = .ok (.string ⟨#[b]⟩) w := by
  refine run_convert_bytes_back w 120 9 5 ⟨g, 0, none⟩ 1 [b] Tryd.underlying120 Tryd.underlying5 Tryd.underlying9 fun j hj => ?_
  obtain rfl : j = 0 := by simp at hj; omega
  rw [Addr.add_lit, Nat.zero_add, blk_cell h]
  rfl
set_option maxRecDepth 100000 in
set_option maxHeartbeats 2000000 in
theorem refVput_any : ∀ (n : Nat) (w : World), U64 n → Calls Tryd.prog 94 #[.int .u64 n] w fun e w' => e = .returned (.string ⟨(vput n).toArray⟩) ∧ Below w.heap.size w w' := by
  intro n
  induction n using Nat.strongRecOn with
  | ind n ih =>
    intro w hn
    by_cases h : n < 128
    · have hv := vput_lt h
      have HV := Lib.hid hv
      clear hv
      have hc := conv_one (w := w.alloc (.cells #[.int .u8 (UInt8.ofNat n).toNat] 5)) (blk_new w _)
      rw [UInt8.toNat_ofNat', Nat.mod_eq_of_lt (show n < 2 ^ 8 by omega)] at hc
      go_enter Tryd.func94, Tryd.ntmps94
      go_wp2
      go_ret
      exact ⟨by rw [HV.out]; rfl, below_alloc' (Below.refl _ _) _⟩
    · have hv := vput_ge h
      have hb : (UInt8.ofNat (128 + n % 128)).toNat = 128 + n % 128 := by rw [UInt8.toNat_ofNat']; omega
      generalize UInt8.ofNat (128 + n % 128) = b at hv hb
      have HV := Lib.hid hv
      have HB := Lib.hid hb
      clear hv hb
      have hrec := ih (n / 128) (by omega)
      have hU : U64 (n / 128) := Nat.lt_of_le_of_lt (Nat.div_le_self _ _) hn
      have hl : ¬ (9223372036854775807 < 1 + (vput (n / 128)).length) := by
        have := vput_len 10 (n / 128) (Nat.lt_of_lt_of_le hU (by decide)) (by decide)
        omega
      go_enter Tryd.func94, Tryd.ntmps94
      go_wp2
      refine' rel_region ([]) 10 (fun x => { tmps := #[Value.int IntKind.u64 (↑n : Int), undef, Value.string { data := #[] }, Value.int IntKind.u64 (↑n : Int), Value.bool (decide ((↑n : Int) < 128)), undef, undef, undef, undef, x 0, x 1, x 2, x 3, x 4, x 5, x 6, x 7, x 8, x 9], defers := [] }) (fun k => List.getD [undef, undef, undef, undef, undef, undef, undef, undef, undef, undef] k undef) [plain 0 (fun v _ => v = Value.int IntKind.u64 (↑n : Int)), plain 1 (fun v _ => v = Value.int IntKind.u64 (Int.tmod (↑n : Int) 128)), plain 2 (fun v _ => v = Value.int IntKind.u64 (IntKind.wrap IntKind.u64 (128 + Int.tmod (↑n : Int) 128))), plain 3 (fun v _ => v = Value.int IntKind.u8 (IntKind.wrap IntKind.u8 (IntKind.wrap IntKind.u64 (128 + Int.tmod (↑n : Int) 128)))), plain 4 (fun v u => ∃ g, v = .slice (some ⟨g, 0, none⟩) 1 1 ∧ u.heap[g]? = some (.cells #[.int .u8 b.toNat] 5 (0, 0))), plain 5 (fun v _ => v = .string ⟨#[b]⟩), plain 6 (fun v _ => v = Value.int IntKind.u64 (↑n : Int)), plain 7 (fun v _ => v = Value.int IntKind.u64 (IntKind.wrap IntKind.u64 ((↑n : Int) / 128))), plain 8 (fun v _ => v = .string ⟨(vput (n / 128)).toArray⟩), plain 9 (fun v _ => v = .string ⟨(vput n).toArray⟩)] (by kernel_rfl) (by decide +kernel) (by decide +kernel) rfl ?_ ?_ ?_
      refine And.intro (fun k hj _ => Stays.x (Stays.eq _) 0 hj) ?_
      refine And.intro (fun k hj _ => Stays.x (Stays.eq _) 1 hj) ?_
      refine And.intro (fun k hj _ => Stays.x (Stays.eq _) 2 hj) ?_
      refine And.intro (fun k hj _ => Stays.x (Stays.eq _) 3 hj) ?_
      refine And.intro (fun k hj _ => Stays.x (?_ : Stays _) 4 hj) ?_
      rotate_left
      refine And.intro (fun k hj _ => Stays.x (Stays.eq _) 5 hj) ?_
      refine And.intro (fun k hj _ => Stays.x (Stays.eq _) 6 hj) ?_
      refine And.intro (fun k hj _ => Stays.x (Stays.eq _) 7 hj) ?_
      refine And.intro (fun k hj _ => Stays.x (Stays.eq _) 8 hj) ?_
      refine And.intro (fun k hj _ => Stays.x (Stays.eq _) 9 hj) ?_
      exact trivial
      intro hst
      refine' And.intro ?_ ?_
      · refine' rOp_run _ _ (Value.int IntKind.u64 (↑n : Int)) hst (fun _ _ => rfl) (fun x u hC hd => ?_) (fun _ _ => upd_eq (v := Value.int IntKind.u64 (↑n : Int)))
        refine' And.intro ?_ ?_
        · rfl
        · have hcu := (fun u (hC : Below w.heap.size w u) => trivial) u hC
          clear hd hC
          first | (go_simp; done) | (go_simp; rfl) | rfl
      refine' And.intro ?_ ?_
      · refine' rOp_run _ _ (Value.int IntKind.u64 (Int.tmod (↑n : Int) 128)) hst (fun _ _ => rfl) (fun x u hC hd => ?_) (fun _ _ => upd_eq (v := Value.int IntKind.u64 (Int.tmod (↑n : Int) 128)))
        refine' And.intro ?_ ?_
        · rfl
        · have d0 : x 0 = Value.int IntKind.u64 (↑n : Int) := at_edge hd 0 (by decide) rfl
          have hcu := (fun u (hC : Below w.heap.size w u) => trivial) u hC
          clear hd hC
          first | (go_simp; done) | (go_simp; rfl) | rfl
      refine' And.intro ?_ ?_
      · refine' rOp_run _ _ (Value.int IntKind.u64 (IntKind.wrap IntKind.u64 (128 + Int.tmod (↑n : Int) 128))) hst (fun _ _ => rfl) (fun x u hC hd => ?_) (fun _ _ => upd_eq (v := Value.int IntKind.u64 (IntKind.wrap IntKind.u64 (128 + Int.tmod (↑n : Int) 128))))
        refine' And.intro ?_ ?_
        · rfl
        · have d1 : x 1 = Value.int IntKind.u64 (Int.tmod (↑n : Int) 128) := at_edge hd 0 (by decide) rfl
          have hcu := (fun u (hC : Below w.heap.size w u) => trivial) u hC
          clear hd hC
          first | (go_simp; done) | (go_simp; rfl) | rfl
      refine' And.intro ?_ ?_
      · refine' rOp_run _ _ (Value.int IntKind.u8 (IntKind.wrap IntKind.u8 (IntKind.wrap IntKind.u64 (128 + Int.tmod (↑n : Int) 128)))) hst (fun _ _ => rfl) (fun x u hC hd => ?_) (fun _ _ => upd_eq (v := Value.int IntKind.u8 (IntKind.wrap IntKind.u8 (IntKind.wrap IntKind.u64 (128 + Int.tmod (↑n : Int) 128)))))
        refine' And.intro ?_ ?_
        · rfl
        · have d2 : x 2 = Value.int IntKind.u64 (IntKind.wrap IntKind.u64 (128 + Int.tmod (↑n : Int) 128)) := at_edge hd 0 (by decide) rfl
          have hcu := (fun u (hC : Below w.heap.size w u) => trivial) u hC
          clear hd hC
          first | (go_simp; done) | (go_simp; rfl) | rfl
      refine' And.intro ?_ ?_
      refine' rOp_new _ _ hst (fun _ _ => rfl) (fun x u hC hd => ?_)
      refine' And.intro ?_ ?_
      · rfl
      have d3 : x 3 = Value.int IntKind.u8 (IntKind.wrap IntKind.u8 (IntKind.wrap IntKind.u64 (128 + Int.tmod (↑n : Int) 128))) := at_edge hd 0 (by decide) rfl
      have hcu := (fun u (hC : Below w.heap.size w u) => trivial) u hC
      clear hd
      show ∃ v u', Sem.run _ _ _ = Result.ok (Next.value v) u' ∧ (∃ g, v = Value.slice (some { block := g, off := 0 }) 1 1 ∧ (World.heap u')[g]? = some (Obj.cells #[Value.int IntKind.u8 (↑(UInt8.toNat b) : Int)] 5)) ∧ Below (Array.size (World.heap u)) u u'
      rotate_left
      refine' And.intro ?_ ?_
      refine' rOp_new _ _ hst (fun _ _ => rfl) (fun x u hC hd => ?_)
      refine' And.intro ?_ ?_
      · rfl
      have d4 : ∃ g, x 4 = Value.slice (some { block := g, off := 0 }) 1 1 ∧ (World.heap u)[g]? = some (Obj.cells #[Value.int IntKind.u8 (↑(UInt8.toNat b) : Int)] 5) := at_edge hd 0 (by decide) rfl
      have hcu := (fun u (hC : Below w.heap.size w u) => trivial) u hC
      clear hd
      show ∃ v u', Sem.run _ _ _ = Result.ok (Next.value v) u' ∧ v = Value.string { data := #[b] } ∧ Below (Array.size (World.heap u)) u u'
      rotate_left
      refine' And.intro ?_ ?_
      · refine' rOp_run _ _ (Value.int IntKind.u64 (↑n : Int)) hst (fun _ _ => rfl) (fun x u hC hd => ?_) (fun _ _ => upd_eq (v := Value.int IntKind.u64 (↑n : Int)))
        refine' And.intro ?_ ?_
        · rfl
        · have hcu := (fun u (hC : Below w.heap.size w u) => trivial) u hC
          clear hd hC
          first | (go_simp; done) | (go_simp; rfl) | rfl
      refine' And.intro ?_ ?_
      · refine' rOp_run _ _ (Value.int IntKind.u64 (IntKind.wrap IntKind.u64 ((↑n : Int) / 128))) hst (fun _ _ => rfl) (fun x u hC hd => ?_) (fun _ _ => upd_eq (v := Value.int IntKind.u64 (IntKind.wrap IntKind.u64 ((↑n : Int) / 128))))
        refine' And.intro ?_ ?_
        · rfl
        · have d6 : x 6 = Value.int IntKind.u64 (↑n : Int) := at_edge hd 0 (by decide) rfl
          have hcu := (fun u (hC : Below w.heap.size w u) => trivial) u hC
          clear hd hC
          first | (go_simp; done) | (go_simp; rfl) | rfl
      refine' And.intro ?_ ?_
      refine' rOp_call _ _ hst (fun _ _ => rfl) (fun x u hC hd => ?_)
      refine' And.intro ?_ ?_
      · rfl
      have d7 : x 7 = Value.int IntKind.u64 (IntKind.wrap IntKind.u64 ((↑n : Int) / 128)) := at_edge hd 0 (by decide) rfl
      have hcu := (fun u (hC : Below w.heap.size w u) => trivial) u hC
      clear hd
      refine' Exists.intro (94) (Exists.intro (#[Value.int IntKind.u64 (IntKind.wrap IntKind.u64 ((↑n : Int) / 128))]) (And.intro ?_ ?_))
      · first | (go_simp; done) | (go_simp; exact ⟨rfl, rfl⟩) | (go_simp; rfl)
      show Calls _ _ _ _ (fun e u' => ∃ v, e = Ending.returned v ∧ v = Value.string { data := List.toArray (vput (n / 128)) } ∧ Below (Array.size (World.heap u)) u u')
      rotate_left
      refine' And.intro ?_ ?_
      refine' rOp_new _ _ hst (fun _ _ => rfl) (fun x u hC hd => ?_)
      refine' And.intro ?_ ?_
      · rfl
      have d5 : x 5 = Value.string { data := #[b] } := at_edge hd 0 (by decide) rfl
      have d8 : x 8 = Value.string { data := List.toArray (vput (n / 128)) } := at_edge hd 1 (by decide) rfl
      have hcu := (fun u (hC : Below w.heap.size w u) => trivial) u hC
      clear hd
      show ∃ v u', Sem.run _ _ _ = Result.ok (Next.value v) u' ∧ v = Value.string { data := List.toArray (vput n) } ∧ Below (Array.size (World.heap u)) u u'
      rotate_left
      exact trivial
      intro x u hC hphi
      have e0 : x 0 = Value.int IntKind.u64 (↑n : Int) := hphi 0 (by decide) (by simp)
      have e1 : x 1 = Value.int IntKind.u64 (Int.tmod (↑n : Int) 128) := hphi 1 (by decide) (by simp)
      have e2 : x 2 = Value.int IntKind.u64 (IntKind.wrap IntKind.u64 (128 + Int.tmod (↑n : Int) 128)) := hphi 2 (by decide) (by simp)
      have e3 : x 3 = Value.int IntKind.u8 (IntKind.wrap IntKind.u8 (IntKind.wrap IntKind.u64 (128 + Int.tmod (↑n : Int) 128))) := hphi 3 (by decide) (by simp)
      have e4 : ∃ g, x 4 = Value.slice (some { block := g, off := 0 }) 1 1 ∧ (World.heap u)[g]? = some (Obj.cells #[Value.int IntKind.u8 (↑(UInt8.toNat b) : Int)] 5) := hphi 4 (by decide) (by simp)
      have e5 : x 5 = Value.string { data := #[b] } := hphi 5 (by decide) (by simp)
      have e6 : x 6 = Value.int IntKind.u64 (↑n : Int) := hphi 6 (by decide) (by simp)
      have e7 : x 7 = Value.int IntKind.u64 (IntKind.wrap IntKind.u64 ((↑n : Int) / 128)) := hphi 7 (by decide) (by simp)
      have e8 : x 8 = Value.string { data := List.toArray (vput (n / 128)) } := hphi 8 (by decide) (by simp)
      have e9 : x 9 = Value.string { data := List.toArray (vput n) } := hphi 9 (by decide) (by simp)
      clear hphi
      rotate_left
      · rintro v u u' hb ⟨g, rfl, hg⟩
        exact ⟨g, rfl, blk_later hb hg⟩
      · have e : IntKind.u8.wrap (IntKind.u64.wrap (128 + ((n : Int).tmod 128))) = (b.toNat : Int) := by
          rw [HB.out, show (n : Int).tmod 128 = ((n % 128 : Nat) : Int) from rfl]
          rw [wrap_u64 (by omega) (by omega), wrap_u8 (by omega) (by omega)]
          omega
        rw [e] at d3
        exact ⟨.slice (some ⟨u.heap.size, 0, none⟩) 1 1, u.alloc (.cells #[.int .u8 b.toNat] 5), by go_simp, ⟨_, rfl, blk_new _ _⟩, below_alloc' (Below.refl _ _) _⟩
      · obtain ⟨g, e4, hg⟩ := d4
        have hc := conv_one hg
        exact ⟨_, u, by go_simp, rfl, Below.refl _ _⟩
      · have e : IntKind.u64.wrap ((n : Int) / 128) = ((n / 128 : Nat) : Int) := by
          rw [show (n : Int) / 128 = ((n / 128 : Nat) : Int) from by omega]
          exact wrap_u64 (by omega) (by unfold U64 at hU; omega)
        rw [e]
        refine (hrec u hU).mono ?_
        rintro e w' ⟨rfl, hb⟩
        exact ⟨_, rfl, rfl, hb⟩
      · refine ⟨.string (⟨#[b]⟩ ++ ⟨(vput (n / 128)).toArray⟩), u, by go_simp, ?_, Below.refl _ _⟩
        rw [HV.out]
        rfl
      · go_wp2
        go_ret
        exact ⟨rfl, hC⟩
end Go.Proofs.YtdgjgekefpfgiaaDoor
