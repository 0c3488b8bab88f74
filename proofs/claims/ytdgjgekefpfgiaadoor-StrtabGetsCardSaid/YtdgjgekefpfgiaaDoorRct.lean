/- The reference's cursor: texts. -/
import Derived.Test.YtdgjgekefpfgiaaDoorRcu
import Derived.Test.YtdgjgekefpfgiaaDoorRgl
namespace Go.Proofs.YtdgjgekefpfgiaaDoor
open Go.RowKit

set_option maxRecDepth 100000 in
set_option maxHeartbeats 2000000 in
/-- The core of Text, at a number of bytes that is none below 0. -/
theorem refText_any (g : Nat) (s : ByteArray) (c : Cu) (most : Int) (w : World) (h : RcuAt w g s c) (hm : I64 most) :
    Calls Tryd.prog 101 #[.pointer (some ⟨g, 0, none⟩), .int .i64 most] w (RcRet (.string (cuText s c most).1) g s (cuText s c most).2 w) := by
  have c0 := h.c0
  have c1 := h.c1
  have c2 := h.c2
  have hs := h.2.2.1
  have hat := h.2.1
  have f1 := h.f 1
  have f2 := h.f 2
  have hl := h.lt
  by_cases hc : c.e = 0
  · have hu : cuText s c most = if (cuBytes s (cuUint s c most.toNat).2 (cuUint s c most.toNat).1).2.e = 0 then cuBytes s (cuUint s c most.toNat).2 (cuUint s c most.toNat).1 else (⟨#[]⟩, ⟨c.at_, (cuBytes s (cuUint s c most.toNat).2 (cuUint s c most.toNat).1).2.e⟩) := rfl
    rw [hu]
    clear hu
    have hcc : c = ⟨c.at_, 0⟩ := by cases c; simp only at hc; rw [hc]
    obtain ⟨p, e⟩ := c
    simp only at hc hcc c1 c2 hat
    subst hc
    clear hcc
    have hnew : ∀ u : World, RcuAt (u.alloc (.cells #[.string s, .int .i64 p, .int .i64 0] 96)) u.heap.size s ⟨p, 0⟩ := fun u => ⟨blk_new _ _, hat, hs, (by decide : I64 0)⟩
    have hlu := cuUint_le (s := s) (c := ⟨p, 0⟩) (most := most.toNat)
    have hun : ∀ g w, RcuAt w g s ⟨p, 0⟩ → Calls Tryd.prog 100 #[.pointer (some ⟨g, 0, none⟩), .int .u64 most.toNat] w (RcRet (.int .i64 (cuUint s ⟨p, 0⟩ most.toNat).1) g s (cuUint s ⟨p, 0⟩ most.toNat).2 w) := fun g w h => refUint_any g s _ most.toNat w h
    generalize cuUint s ⟨p, 0⟩ most.toNat = u at *
    obtain ⟨n, c'⟩ := u
    simp only at hlu ⊢
    have hby : ∀ g w, RcuAt w g s c' → Calls Tryd.prog 143 #[.pointer (some ⟨g, 0, none⟩), .int .i64 n] w (RcRet (.string (cuBytes s c' n).1) g s (cuBytes s c' n).2 w) := fun g w h => refBytes_any g s c' n w h
    generalize cuBytes s c' n = v at *
    obtain ⟨x, cf⟩ := v
    simp only at hby ⊢
    have fin : ∀ (k : Nat) (w1 w2 : World) (S : Nat → Prop), Touch S w w1 → w.heap.size ≤ k → Touch (fun i => i = k) w1 w2 → Touch S w w2 := fun k w1 w2 S t1 hk t2 => t1.trans t2 fun i hi => .inr (by omega)
    by_cases he : cf.e = 0
    · rw [if_pos he]
      replace he := Lib.hid he
      by_cases hn : most < 0
      · rw [show most.toNat = 0 from by omega] at hun
        go_enter Tryd.func101, Tryd.ntmps101
        go_wp2
        refine' rel_region ([]) 10 (fun x => { tmps := #[Value.pointer (some { block := g, off := 0 }), Value.int IntKind.i64 0, undef, undef, Value.string { data := #[] }, undef, undef, undef, Value.pointer (some { block := g, off := 0 }), Value.pointer (some { block := g, off := 0 }), Value.pointer (some { block := g, off := 2 }), Value.int IntKind.i64 0, Value.bool false, Value.int IntKind.i64 most, Value.bool true, x 0, x 1, x 2, x 3, x 4, x 5, x 6, x 7, x 8, x 9, undef, undef, undef, undef, undef, undef, undef, undef, undef, undef, undef, undef, undef, undef, undef, undef, undef, undef, undef, undef, undef, undef, undef, undef, undef, undef, undef], defers := [] }) (fun k => List.getD [undef, undef, undef, undef, undef, undef, undef, undef, undef, undef] k undef) [plain 0 (fun v _ => v = Value.pointer (some { block := g, off := 0 })), plain 1 (fun v _ => v = Value.pointer (some { block := g, off := 0 })), plain 2 (fun v _ => v = Value.pointer (some { block := g, off := 0 })), plain 3 (fun v _ => v = Value.string s), plain 4 (fun v _ => v = Value.pointer (some { block := g, off := 0 })), plain 5 (fun v _ => v = Value.pointer (some { block := g, off := 0 })), plain 6 (fun v _ => v = Value.pointer (some { block := g, off := 1 })), plain 7 (fun v _ => v = Value.int IntKind.i64 (↑p : Int)), plain 8 (fun v _ => v = Value.agg #[Value.string s, Value.int IntKind.i64 (↑p : Int), Value.int IntKind.i64 0]), plain 9 (fun v u => ∃ k, v = .pointer (some ⟨k, 0, none⟩) ∧ w.heap.size ≤ k ∧ RcuAt u k s ⟨p, 0⟩)] (by kernel_rfl) (by decide +kernel) (by decide +kernel) rfl ?_ ?_ ?_
        refine And.intro (fun k hj _ => Stays.x (Stays.eq _) 0 hj) ?_
        refine And.intro (fun k hj _ => Stays.x (Stays.eq _) 1 hj) ?_
        refine And.intro (fun k hj _ => Stays.x (Stays.eq _) 2 hj) ?_
        refine And.intro (fun k hj _ => Stays.x (Stays.eq _) 3 hj) ?_
        refine And.intro (fun k hj _ => Stays.x (Stays.eq _) 4 hj) ?_
        refine And.intro (fun k hj _ => Stays.x (Stays.eq _) 5 hj) ?_
        refine And.intro (fun k hj _ => Stays.x (Stays.eq _) 6 hj) ?_
        refine And.intro (fun k hj _ => Stays.x (Stays.eq _) 7 hj) ?_
        refine And.intro (fun k hj _ => Stays.x (Stays.eq _) 8 hj) ?_
        refine And.intro (fun k hj _ => Stays.x (?_ : Stays _) 9 hj) ?_
        rotate_left
        exact trivial
        intro hst
        refine' And.intro ?_ ?_
        · refine' rOp_run _ _ (Value.pointer (some { block := g, off := 0 })) hst (fun _ _ => rfl) (fun x u hC hd => ?_) (fun _ _ => upd_eq (v := Value.pointer (some { block := g, off := 0 })))
          refine' And.intro ?_ ?_
          · rfl
          · have hcu := (fun u (hC : Below w.heap.size w u) => (⟨cell_later' hC c0, cell_later' hC c1⟩ : u.cell? ⟨g, 0, none⟩ = some (.string s) ∧ u.cell? ⟨g, 1, none⟩ = some (.int .i64 p))) u hC
            clear hd hC
            first | (go_simp; done) | (go_simp; rfl) | rfl
        refine' And.intro ?_ ?_
        · refine' rOp_run _ _ (Value.pointer (some { block := g, off := 0 })) hst (fun _ _ => rfl) (fun x u hC hd => ?_) (fun _ _ => upd_eq (v := Value.pointer (some { block := g, off := 0 })))
          refine' And.intro ?_ ?_
          · rfl
          · have d0 : x 0 = Value.pointer (some { block := g, off := 0 }) := at_edge hd 0 (by decide) rfl
            have hcu := (fun u (hC : Below w.heap.size w u) => (⟨cell_later' hC c0, cell_later' hC c1⟩ : u.cell? ⟨g, 0, none⟩ = some (.string s) ∧ u.cell? ⟨g, 1, none⟩ = some (.int .i64 p))) u hC
            clear hd hC
            first | (go_simp; done) | (go_simp; rfl) | rfl
        refine' And.intro ?_ ?_
        · refine' rOp_run _ _ (Value.pointer (some { block := g, off := 0 })) hst (fun _ _ => rfl) (fun x u hC hd => ?_) (fun _ _ => upd_eq (v := Value.pointer (some { block := g, off := 0 })))
          refine' And.intro ?_ ?_
          · rfl
          · have d1 : x 1 = Value.pointer (some { block := g, off := 0 }) := at_edge hd 0 (by decide) rfl
            have hcu := (fun u (hC : Below w.heap.size w u) => (⟨cell_later' hC c0, cell_later' hC c1⟩ : u.cell? ⟨g, 0, none⟩ = some (.string s) ∧ u.cell? ⟨g, 1, none⟩ = some (.int .i64 p))) u hC
            clear hd hC
            first | (go_simp; done) | (go_simp; rfl) | rfl
        refine' And.intro ?_ ?_
        · refine' rOp_run _ _ (Value.string s) hst (fun _ _ => rfl) (fun x u hC hd => ?_) (fun _ _ => upd_eq (v := Value.string s))
          refine' And.intro ?_ ?_
          · rfl
          · have d2 : x 2 = Value.pointer (some { block := g, off := 0 }) := at_edge hd 0 (by decide) rfl
            have hcu := (fun u (hC : Below w.heap.size w u) => (⟨cell_later' hC c0, cell_later' hC c1⟩ : u.cell? ⟨g, 0, none⟩ = some (.string s) ∧ u.cell? ⟨g, 1, none⟩ = some (.int .i64 p))) u hC
            clear hd hC
            first | (go_simp; done) | (go_simp; rfl) | rfl
        refine' And.intro ?_ ?_
        · refine' rOp_run _ _ (Value.pointer (some { block := g, off := 0 })) hst (fun _ _ => rfl) (fun x u hC hd => ?_) (fun _ _ => upd_eq (v := Value.pointer (some { block := g, off := 0 })))
          refine' And.intro ?_ ?_
          · rfl
          · have hcu := (fun u (hC : Below w.heap.size w u) => (⟨cell_later' hC c0, cell_later' hC c1⟩ : u.cell? ⟨g, 0, none⟩ = some (.string s) ∧ u.cell? ⟨g, 1, none⟩ = some (.int .i64 p))) u hC
            clear hd hC
            first | (go_simp; done) | (go_simp; rfl) | rfl
        refine' And.intro ?_ ?_
        · refine' rOp_run _ _ (Value.pointer (some { block := g, off := 0 })) hst (fun _ _ => rfl) (fun x u hC hd => ?_) (fun _ _ => upd_eq (v := Value.pointer (some { block := g, off := 0 })))
          refine' And.intro ?_ ?_
          · rfl
          · have d4 : x 4 = Value.pointer (some { block := g, off := 0 }) := at_edge hd 0 (by decide) rfl
            have hcu := (fun u (hC : Below w.heap.size w u) => (⟨cell_later' hC c0, cell_later' hC c1⟩ : u.cell? ⟨g, 0, none⟩ = some (.string s) ∧ u.cell? ⟨g, 1, none⟩ = some (.int .i64 p))) u hC
            clear hd hC
            first | (go_simp; done) | (go_simp; rfl) | rfl
        refine' And.intro ?_ ?_
        · refine' rOp_run _ _ (Value.pointer (some { block := g, off := 1 })) hst (fun _ _ => rfl) (fun x u hC hd => ?_) (fun _ _ => upd_eq (v := Value.pointer (some { block := g, off := 1 })))
          refine' And.intro ?_ ?_
          · rfl
          · have d5 : x 5 = Value.pointer (some { block := g, off := 0 }) := at_edge hd 0 (by decide) rfl
            have hcu := (fun u (hC : Below w.heap.size w u) => (⟨cell_later' hC c0, cell_later' hC c1⟩ : u.cell? ⟨g, 0, none⟩ = some (.string s) ∧ u.cell? ⟨g, 1, none⟩ = some (.int .i64 p))) u hC
            clear hd hC
            first | (go_simp; done) | (go_simp; rfl) | rfl
        refine' And.intro ?_ ?_
        · refine' rOp_run _ _ (Value.int IntKind.i64 (↑p : Int)) hst (fun _ _ => rfl) (fun x u hC hd => ?_) (fun _ _ => upd_eq (v := Value.int IntKind.i64 (↑p : Int)))
          refine' And.intro ?_ ?_
          · rfl
          · have d6 : x 6 = Value.pointer (some { block := g, off := 1 }) := at_edge hd 0 (by decide) rfl
            have hcu := (fun u (hC : Below w.heap.size w u) => (⟨cell_later' hC c0, cell_later' hC c1⟩ : u.cell? ⟨g, 0, none⟩ = some (.string s) ∧ u.cell? ⟨g, 1, none⟩ = some (.int .i64 p))) u hC
            clear hd hC
            first | (go_simp; done) | (go_simp; rfl) | rfl
        refine' And.intro ?_ ?_
        · refine' rOp_run _ _ (Value.agg #[Value.string s, Value.int IntKind.i64 (↑p : Int), Value.int IntKind.i64 0]) hst (fun _ _ => rfl) (fun x u hC hd => ?_) (fun _ _ => upd_eq (v := Value.agg #[Value.string s, Value.int IntKind.i64 (↑p : Int), Value.int IntKind.i64 0]))
          refine' And.intro ?_ ?_
          · rfl
          · have d3 : x 3 = Value.string s := at_edge hd 0 (by decide) rfl
            have d7 : x 7 = Value.int IntKind.i64 (↑p : Int) := at_edge hd 1 (by decide) rfl
            have hcu := (fun u (hC : Below w.heap.size w u) => (⟨cell_later' hC c0, cell_later' hC c1⟩ : u.cell? ⟨g, 0, none⟩ = some (.string s) ∧ u.cell? ⟨g, 1, none⟩ = some (.int .i64 p))) u hC
            clear hd hC
            first | (go_simp; done) | (go_simp; rfl) | rfl
        refine' And.intro ?_ ?_
        refine' rOp_new _ _ hst (fun _ _ => rfl) (fun x u hC hd => ?_)
        refine' And.intro ?_ ?_
        · rfl
        have d8 : x 8 = Value.agg #[Value.string s, Value.int IntKind.i64 (↑p : Int), Value.int IntKind.i64 0] := at_edge hd 0 (by decide) rfl
        have hcu := (fun u (hC : Below w.heap.size w u) => (⟨cell_later' hC c0, cell_later' hC c1⟩ : u.cell? ⟨g, 0, none⟩ = some (.string s) ∧ u.cell? ⟨g, 1, none⟩ = some (.int .i64 p))) u hC
        clear hd
        show ∃ v u', Sem.run _ _ _ = Result.ok (Next.value v) u' ∧ (∃ k, v = Value.pointer (some { block := k, off := 0 }) ∧ Array.size (World.heap w) ≤ k ∧ RcuAt u' k s { at_ := p, e := 0 }) ∧ Below (Array.size (World.heap u)) u u'
        rotate_left
        exact trivial
        intro x u hC hphi
        have e0 : x 0 = Value.pointer (some { block := g, off := 0 }) := hphi 0 (by decide) (by simp)
        have e1 : x 1 = Value.pointer (some { block := g, off := 0 }) := hphi 1 (by decide) (by simp)
        have e2 : x 2 = Value.pointer (some { block := g, off := 0 }) := hphi 2 (by decide) (by simp)
        have e3 : x 3 = Value.string s := hphi 3 (by decide) (by simp)
        have e4 : x 4 = Value.pointer (some { block := g, off := 0 }) := hphi 4 (by decide) (by simp)
        have e5 : x 5 = Value.pointer (some { block := g, off := 0 }) := hphi 5 (by decide) (by simp)
        have e6 : x 6 = Value.pointer (some { block := g, off := 1 }) := hphi 6 (by decide) (by simp)
        have e7 : x 7 = Value.int IntKind.i64 (↑p : Int) := hphi 7 (by decide) (by simp)
        have e8 : x 8 = Value.agg #[Value.string s, Value.int IntKind.i64 (↑p : Int), Value.int IntKind.i64 0] := hphi 8 (by decide) (by simp)
        have e9 : ∃ k, x 9 = Value.pointer (some { block := k, off := 0 }) ∧ Array.size (World.heap w) ≤ k ∧ RcuAt u k s { at_ := p, e := 0 } := hphi 9 (by decide) (by simp)
        clear hphi
        rotate_left
        · rintro v u u' hb ⟨k, e, hk, hr⟩
          exact ⟨k, e, hk, blk_later hb hr.1, hr.2⟩
        · exact ⟨.pointer (some ⟨u.heap.size, 0, none⟩), u.alloc (.cells #[.string s, .int .i64 p, .int .i64 0] 96), by go_simp, ⟨u.heap.size, rfl, hC.size, hnew u⟩, below_alloc' (Below.refl _ _) _⟩
        · obtain ⟨k, e9', hk, hr⟩ := e9
          clear e0 e1 e2 e3 e4 e5 e6 e7 e8
          have hkg : k ≠ g := by omega
          go_wp2_with fail
          refine (hun k _ hr).mono ?_
          rintro e w1 ⟨rfl, h1, t1⟩
          go_wp2_with fail
          refine (hby k _ h1).mono ?_
          rintro e w2 ⟨rfl, h2, t2⟩
          have d2 := h2.c2
          have d1 := h2.c1
          have ht : Touch (fun i => i = k) u w2 := t1.trans t2 fun i hi => .inl hi
          have hg : RcuAt w2 g s ⟨p, 0⟩ := RcuAt.touch (S := fun i => i = k) ⟨(hC.block g hl).trans h.1, h.2⟩ ht (fun e => hkg e.symm)
          have hB : Touch (fun i => i = g) w w2 := (Touch.of_below hC).trans ht fun i hi => .inr (by rw [hi]; exact hk)
          have g1 := hg.f 1
          have g2 := hg.f 2
          have gl := hg.lt
          have gc1 := hg.c1
          have gc2 := hg.c2
          rw [he.out] at d2
          go_wp2
          go_ret
          have hfin := hg.setAt cf.at_ h2.2.1
          rw [show (⟨cf.at_, (⟨p, 0⟩ : Cu).e⟩ : Cu) = cf from by cases cf; simp only [Cu.mk.injEq, true_and]; exact he.out.symm] at hfin
          exact ⟨rfl, hfin, hB.trans (touch_set _ _ _ _) fun i hi => .inl hi⟩
      · obtain ⟨m, rfl⟩ := Int.eq_ofNat_of_zero_le (show 0 ≤ most by omega)
        rw [Int.toNat_natCast] at hun
        have hmx : (m : Int) ≤ 9223372036854775807 := hm.2
        go_enter Tryd.func101, Tryd.ntmps101
        go_wp2
        refine' rel_region ([]) 10 (fun x => { tmps := #[Value.pointer (some { block := g, off := 0 }), Value.int IntKind.i64 (↑m : Int), undef, undef, Value.string { data := #[] }, undef, undef, undef, Value.pointer (some { block := g, off := 0 }), Value.pointer (some { block := g, off := 0 }), Value.pointer (some { block := g, off := 2 }), Value.int IntKind.i64 0, Value.bool false, Value.int IntKind.i64 (↑m : Int), Value.bool false, x 0, x 1, x 2, x 3, x 4, x 5, x 6, x 7, x 8, x 9, undef, undef, undef, undef, undef, undef, undef, undef, undef, undef, undef, undef, undef, undef, undef, undef, undef, undef, undef, undef, undef, undef, undef, undef, undef, undef, undef], defers := [] }) (fun k => List.getD [undef, undef, undef, undef, undef, undef, undef, undef, undef, undef] k undef) [plain 0 (fun v _ => v = Value.pointer (some { block := g, off := 0 })), plain 1 (fun v _ => v = Value.pointer (some { block := g, off := 0 })), plain 2 (fun v _ => v = Value.pointer (some { block := g, off := 0 })), plain 3 (fun v _ => v = Value.string s), plain 4 (fun v _ => v = Value.pointer (some { block := g, off := 0 })), plain 5 (fun v _ => v = Value.pointer (some { block := g, off := 0 })), plain 6 (fun v _ => v = Value.pointer (some { block := g, off := 1 })), plain 7 (fun v _ => v = Value.int IntKind.i64 (↑p : Int)), plain 8 (fun v _ => v = Value.agg #[Value.string s, Value.int IntKind.i64 (↑p : Int), Value.int IntKind.i64 0]), plain 9 (fun v u => ∃ k, v = .pointer (some ⟨k, 0, none⟩) ∧ w.heap.size ≤ k ∧ RcuAt u k s ⟨p, 0⟩)] (by kernel_rfl) (by decide +kernel) (by decide +kernel) rfl ?_ ?_ ?_
        refine And.intro (fun k hj _ => Stays.x (Stays.eq _) 0 hj) ?_
        refine And.intro (fun k hj _ => Stays.x (Stays.eq _) 1 hj) ?_
        refine And.intro (fun k hj _ => Stays.x (Stays.eq _) 2 hj) ?_
        refine And.intro (fun k hj _ => Stays.x (Stays.eq _) 3 hj) ?_
        refine And.intro (fun k hj _ => Stays.x (Stays.eq _) 4 hj) ?_
        refine And.intro (fun k hj _ => Stays.x (Stays.eq _) 5 hj) ?_
        refine And.intro (fun k hj _ => Stays.x (Stays.eq _) 6 hj) ?_
        refine And.intro (fun k hj _ => Stays.x (Stays.eq _) 7 hj) ?_
        refine And.intro (fun k hj _ => Stays.x (Stays.eq _) 8 hj) ?_
        refine And.intro (fun k hj _ => Stays.x (?_ : Stays _) 9 hj) ?_
        rotate_left
        exact trivial
        intro hst
        refine' And.intro ?_ ?_
        · refine' rOp_run _ _ (Value.pointer (some { block := g, off := 0 })) hst (fun _ _ => rfl) (fun x u hC hd => ?_) (fun _ _ => upd_eq (v := Value.pointer (some { block := g, off := 0 })))
          refine' And.intro ?_ ?_
          · rfl
          · have hcu := (fun u (hC : Below w.heap.size w u) => (⟨cell_later' hC c0, cell_later' hC c1⟩ : u.cell? ⟨g, 0, none⟩ = some (.string s) ∧ u.cell? ⟨g, 1, none⟩ = some (.int .i64 p))) u hC
            clear hd hC
            first | (go_simp; done) | (go_simp; rfl) | rfl
        refine' And.intro ?_ ?_
        · refine' rOp_run _ _ (Value.pointer (some { block := g, off := 0 })) hst (fun _ _ => rfl) (fun x u hC hd => ?_) (fun _ _ => upd_eq (v := Value.pointer (some { block := g, off := 0 })))
          refine' And.intro ?_ ?_
          · rfl
          · have d0 : x 0 = Value.pointer (some { block := g, off := 0 }) := at_edge hd 0 (by decide) rfl
            have hcu := (fun u (hC : Below w.heap.size w u) => (⟨cell_later' hC c0, cell_later' hC c1⟩ : u.cell? ⟨g, 0, none⟩ = some (.string s) ∧ u.cell? ⟨g, 1, none⟩ = some (.int .i64 p))) u hC
            clear hd hC
            first | (go_simp; done) | (go_simp; rfl) | rfl
        refine' And.intro ?_ ?_
        · refine' rOp_run _ _ (Value.pointer (some { block := g, off := 0 })) hst (fun _ _ => rfl) (fun x u hC hd => ?_) (fun _ _ => upd_eq (v := Value.pointer (some { block := g, off := 0 })))
          refine' And.intro ?_ ?_
          · rfl
          · have d1 : x 1 = Value.pointer (some { block := g, off := 0 }) := at_edge hd 0 (by decide) rfl
            have hcu := (fun u (hC : Below w.heap.size w u) => (⟨cell_later' hC c0, cell_later' hC c1⟩ : u.cell? ⟨g, 0, none⟩ = some (.string s) ∧ u.cell? ⟨g, 1, none⟩ = some (.int .i64 p))) u hC
            clear hd hC
            first | (go_simp; done) | (go_simp; rfl) | rfl
        refine' And.intro ?_ ?_
        · refine' rOp_run _ _ (Value.string s) hst (fun _ _ => rfl) (fun x u hC hd => ?_) (fun _ _ => upd_eq (v := Value.string s))
          refine' And.intro ?_ ?_
          · rfl
          · have d2 : x 2 = Value.pointer (some { block := g, off := 0 }) := at_edge hd 0 (by decide) rfl
            have hcu := (fun u (hC : Below w.heap.size w u) => (⟨cell_later' hC c0, cell_later' hC c1⟩ : u.cell? ⟨g, 0, none⟩ = some (.string s) ∧ u.cell? ⟨g, 1, none⟩ = some (.int .i64 p))) u hC
            clear hd hC
            first | (go_simp; done) | (go_simp; rfl) | rfl
        refine' And.intro ?_ ?_
        · refine' rOp_run _ _ (Value.pointer (some { block := g, off := 0 })) hst (fun _ _ => rfl) (fun x u hC hd => ?_) (fun _ _ => upd_eq (v := Value.pointer (some { block := g, off := 0 })))
          refine' And.intro ?_ ?_
          · rfl
          · have hcu := (fun u (hC : Below w.heap.size w u) => (⟨cell_later' hC c0, cell_later' hC c1⟩ : u.cell? ⟨g, 0, none⟩ = some (.string s) ∧ u.cell? ⟨g, 1, none⟩ = some (.int .i64 p))) u hC
            clear hd hC
            first | (go_simp; done) | (go_simp; rfl) | rfl
        refine' And.intro ?_ ?_
        · refine' rOp_run _ _ (Value.pointer (some { block := g, off := 0 })) hst (fun _ _ => rfl) (fun x u hC hd => ?_) (fun _ _ => upd_eq (v := Value.pointer (some { block := g, off := 0 })))
          refine' And.intro ?_ ?_
          · rfl
          · have d4 : x 4 = Value.pointer (some { block := g, off := 0 }) := at_edge hd 0 (by decide) rfl
            have hcu := (fun u (hC : Below w.heap.size w u) => (⟨cell_later' hC c0, cell_later' hC c1⟩ : u.cell? ⟨g, 0, none⟩ = some (.string s) ∧ u.cell? ⟨g, 1, none⟩ = some (.int .i64 p))) u hC
            clear hd hC
            first | (go_simp; done) | (go_simp; rfl) | rfl
        refine' And.intro ?_ ?_
        · refine' rOp_run _ _ (Value.pointer (some { block := g, off := 1 })) hst (fun _ _ => rfl) (fun x u hC hd => ?_) (fun _ _ => upd_eq (v := Value.pointer (some { block := g, off := 1 })))
          refine' And.intro ?_ ?_
          · rfl
          · have d5 : x 5 = Value.pointer (some { block := g, off := 0 }) := at_edge hd 0 (by decide) rfl
            have hcu := (fun u (hC : Below w.heap.size w u) => (⟨cell_later' hC c0, cell_later' hC c1⟩ : u.cell? ⟨g, 0, none⟩ = some (.string s) ∧ u.cell? ⟨g, 1, none⟩ = some (.int .i64 p))) u hC
            clear hd hC
            first | (go_simp; done) | (go_simp; rfl) | rfl
        refine' And.intro ?_ ?_
        · refine' rOp_run _ _ (Value.int IntKind.i64 (↑p : Int)) hst (fun _ _ => rfl) (fun x u hC hd => ?_) (fun _ _ => upd_eq (v := Value.int IntKind.i64 (↑p : Int)))
          refine' And.intro ?_ ?_
          · rfl
          · have d6 : x 6 = Value.pointer (some { block := g, off := 1 }) := at_edge hd 0 (by decide) rfl
            have hcu := (fun u (hC : Below w.heap.size w u) => (⟨cell_later' hC c0, cell_later' hC c1⟩ : u.cell? ⟨g, 0, none⟩ = some (.string s) ∧ u.cell? ⟨g, 1, none⟩ = some (.int .i64 p))) u hC
            clear hd hC
            first | (go_simp; done) | (go_simp; rfl) | rfl
        refine' And.intro ?_ ?_
        · refine' rOp_run _ _ (Value.agg #[Value.string s, Value.int IntKind.i64 (↑p : Int), Value.int IntKind.i64 0]) hst (fun _ _ => rfl) (fun x u hC hd => ?_) (fun _ _ => upd_eq (v := Value.agg #[Value.string s, Value.int IntKind.i64 (↑p : Int), Value.int IntKind.i64 0]))
          refine' And.intro ?_ ?_
          · rfl
          · have d3 : x 3 = Value.string s := at_edge hd 0 (by decide) rfl
            have d7 : x 7 = Value.int IntKind.i64 (↑p : Int) := at_edge hd 1 (by decide) rfl
            have hcu := (fun u (hC : Below w.heap.size w u) => (⟨cell_later' hC c0, cell_later' hC c1⟩ : u.cell? ⟨g, 0, none⟩ = some (.string s) ∧ u.cell? ⟨g, 1, none⟩ = some (.int .i64 p))) u hC
            clear hd hC
            first | (go_simp; done) | (go_simp; rfl) | rfl
        refine' And.intro ?_ ?_
        refine' rOp_new _ _ hst (fun _ _ => rfl) (fun x u hC hd => ?_)
        refine' And.intro ?_ ?_
        · rfl
        have d8 : x 8 = Value.agg #[Value.string s, Value.int IntKind.i64 (↑p : Int), Value.int IntKind.i64 0] := at_edge hd 0 (by decide) rfl
        have hcu := (fun u (hC : Below w.heap.size w u) => (⟨cell_later' hC c0, cell_later' hC c1⟩ : u.cell? ⟨g, 0, none⟩ = some (.string s) ∧ u.cell? ⟨g, 1, none⟩ = some (.int .i64 p))) u hC
        clear hd
        show ∃ v u', Sem.run _ _ _ = Result.ok (Next.value v) u' ∧ (∃ k, v = Value.pointer (some { block := k, off := 0 }) ∧ Array.size (World.heap w) ≤ k ∧ RcuAt u' k s { at_ := p, e := 0 }) ∧ Below (Array.size (World.heap u)) u u'
        rotate_left
        exact trivial
        intro x u hC hphi
        have e0 : x 0 = Value.pointer (some { block := g, off := 0 }) := hphi 0 (by decide) (by simp)
        have e1 : x 1 = Value.pointer (some { block := g, off := 0 }) := hphi 1 (by decide) (by simp)
        have e2 : x 2 = Value.pointer (some { block := g, off := 0 }) := hphi 2 (by decide) (by simp)
        have e3 : x 3 = Value.string s := hphi 3 (by decide) (by simp)
        have e4 : x 4 = Value.pointer (some { block := g, off := 0 }) := hphi 4 (by decide) (by simp)
        have e5 : x 5 = Value.pointer (some { block := g, off := 0 }) := hphi 5 (by decide) (by simp)
        have e6 : x 6 = Value.pointer (some { block := g, off := 1 }) := hphi 6 (by decide) (by simp)
        have e7 : x 7 = Value.int IntKind.i64 (↑p : Int) := hphi 7 (by decide) (by simp)
        have e8 : x 8 = Value.agg #[Value.string s, Value.int IntKind.i64 (↑p : Int), Value.int IntKind.i64 0] := hphi 8 (by decide) (by simp)
        have e9 : ∃ k, x 9 = Value.pointer (some { block := k, off := 0 }) ∧ Array.size (World.heap w) ≤ k ∧ RcuAt u k s { at_ := p, e := 0 } := hphi 9 (by decide) (by simp)
        clear hphi
        rotate_left
        · rintro v u u' hb ⟨k, e, hk, hr⟩
          exact ⟨k, e, hk, blk_later hb hr.1, hr.2⟩
        · exact ⟨.pointer (some ⟨u.heap.size, 0, none⟩), u.alloc (.cells #[.string s, .int .i64 p, .int .i64 0] 96), by go_simp, ⟨u.heap.size, rfl, hC.size, hnew u⟩, below_alloc' (Below.refl _ _) _⟩
        · obtain ⟨k, e9', hk, hr⟩ := e9
          clear e0 e1 e2 e3 e4 e5 e6 e7 e8
          have hkg : k ≠ g := by omega
          go_wp2_with fail
          refine (hun k _ hr).mono ?_
          rintro e w1 ⟨rfl, h1, t1⟩
          go_wp2_with fail
          refine (hby k _ h1).mono ?_
          rintro e w2 ⟨rfl, h2, t2⟩
          have d2 := h2.c2
          have d1 := h2.c1
          have ht : Touch (fun i => i = k) u w2 := t1.trans t2 fun i hi => .inl hi
          have hg : RcuAt w2 g s ⟨p, 0⟩ := RcuAt.touch (S := fun i => i = k) ⟨(hC.block g hl).trans h.1, h.2⟩ ht (fun e => hkg e.symm)
          have hB : Touch (fun i => i = g) w w2 := (Touch.of_below hC).trans ht fun i hi => .inr (by rw [hi]; exact hk)
          have g1 := hg.f 1
          have g2 := hg.f 2
          have gl := hg.lt
          have gc1 := hg.c1
          have gc2 := hg.c2
          rw [he.out] at d2
          go_wp2
          go_ret
          have hfin := hg.setAt cf.at_ h2.2.1
          rw [show (⟨cf.at_, (⟨p, 0⟩ : Cu).e⟩ : Cu) = cf from by cases cf; simp only [Cu.mk.injEq, true_and]; exact he.out.symm] at hfin
          exact ⟨rfl, hfin, hB.trans (touch_set _ _ _ _) fun i hi => .inl hi⟩
    · rw [if_neg he]
      have heb : ((cf.e : Int) != 0) = true := by simpa using he
      by_cases hn : most < 0
      · rw [show most.toNat = 0 from by omega] at hun
        go_enter Tryd.func101, Tryd.ntmps101
        go_wp2
        refine' rel_region ([]) 10 (fun x => { tmps := #[Value.pointer (some { block := g, off := 0 }), Value.int IntKind.i64 0, undef, undef, Value.string { data := #[] }, undef, undef, undef, Value.pointer (some { block := g, off := 0 }), Value.pointer (some { block := g, off := 0 }), Value.pointer (some { block := g, off := 2 }), Value.int IntKind.i64 0, Value.bool false, Value.int IntKind.i64 most, Value.bool true, x 0, x 1, x 2, x 3, x 4, x 5, x 6, x 7, x 8, x 9, undef, undef, undef, undef, undef, undef, undef, undef, undef, undef, undef, undef, undef, undef, undef, undef, undef, undef, undef, undef, undef, undef, undef, undef, undef, undef, undef], defers := [] }) (fun k => List.getD [undef, undef, undef, undef, undef, undef, undef, undef, undef, undef] k undef) [plain 0 (fun v _ => v = Value.pointer (some { block := g, off := 0 })), plain 1 (fun v _ => v = Value.pointer (some { block := g, off := 0 })), plain 2 (fun v _ => v = Value.pointer (some { block := g, off := 0 })), plain 3 (fun v _ => v = Value.string s), plain 4 (fun v _ => v = Value.pointer (some { block := g, off := 0 })), plain 5 (fun v _ => v = Value.pointer (some { block := g, off := 0 })), plain 6 (fun v _ => v = Value.pointer (some { block := g, off := 1 })), plain 7 (fun v _ => v = Value.int IntKind.i64 (↑p : Int)), plain 8 (fun v _ => v = Value.agg #[Value.string s, Value.int IntKind.i64 (↑p : Int), Value.int IntKind.i64 0]), plain 9 (fun v u => ∃ k, v = .pointer (some ⟨k, 0, none⟩) ∧ w.heap.size ≤ k ∧ RcuAt u k s ⟨p, 0⟩)] (by kernel_rfl) (by decide +kernel) (by decide +kernel) rfl ?_ ?_ ?_
        refine And.intro (fun k hj _ => Stays.x (Stays.eq _) 0 hj) ?_
        refine And.intro (fun k hj _ => Stays.x (Stays.eq _) 1 hj) ?_
        refine And.intro (fun k hj _ => Stays.x (Stays.eq _) 2 hj) ?_
        refine And.intro (fun k hj _ => Stays.x (Stays.eq _) 3 hj) ?_
        refine And.intro (fun k hj _ => Stays.x (Stays.eq _) 4 hj) ?_
        refine And.intro (fun k hj _ => Stays.x (Stays.eq _) 5 hj) ?_
        refine And.intro (fun k hj _ => Stays.x (Stays.eq _) 6 hj) ?_
        refine And.intro (fun k hj _ => Stays.x (Stays.eq _) 7 hj) ?_
        refine And.intro (fun k hj _ => Stays.x (Stays.eq _) 8 hj) ?_
        refine And.intro (fun k hj _ => Stays.x (?_ : Stays _) 9 hj) ?_
        rotate_left
        exact trivial
        intro hst
        refine' And.intro ?_ ?_
        · refine' rOp_run _ _ (Value.pointer (some { block := g, off := 0 })) hst (fun _ _ => rfl) (fun x u hC hd => ?_) (fun _ _ => upd_eq (v := Value.pointer (some { block := g, off := 0 })))
          refine' And.intro ?_ ?_
          · rfl
          · have hcu := (fun u (hC : Below w.heap.size w u) => (⟨cell_later' hC c0, cell_later' hC c1⟩ : u.cell? ⟨g, 0, none⟩ = some (.string s) ∧ u.cell? ⟨g, 1, none⟩ = some (.int .i64 p))) u hC
            clear hd hC
            first | (go_simp; done) | (go_simp; rfl) | rfl
        refine' And.intro ?_ ?_
        · refine' rOp_run _ _ (Value.pointer (some { block := g, off := 0 })) hst (fun _ _ => rfl) (fun x u hC hd => ?_) (fun _ _ => upd_eq (v := Value.pointer (some { block := g, off := 0 })))
          refine' And.intro ?_ ?_
          · rfl
          · have d0 : x 0 = Value.pointer (some { block := g, off := 0 }) := at_edge hd 0 (by decide) rfl
            have hcu := (fun u (hC : Below w.heap.size w u) => (⟨cell_later' hC c0, cell_later' hC c1⟩ : u.cell? ⟨g, 0, none⟩ = some (.string s) ∧ u.cell? ⟨g, 1, none⟩ = some (.int .i64 p))) u hC
            clear hd hC
            first | (go_simp; done) | (go_simp; rfl) | rfl
        refine' And.intro ?_ ?_
        · refine' rOp_run _ _ (Value.pointer (some { block := g, off := 0 })) hst (fun _ _ => rfl) (fun x u hC hd => ?_) (fun _ _ => upd_eq (v := Value.pointer (some { block := g, off := 0 })))
          refine' And.intro ?_ ?_
          · rfl
          · have d1 : x 1 = Value.pointer (some { block := g, off := 0 }) := at_edge hd 0 (by decide) rfl
            have hcu := (fun u (hC : Below w.heap.size w u) => (⟨cell_later' hC c0, cell_later' hC c1⟩ : u.cell? ⟨g, 0, none⟩ = some (.string s) ∧ u.cell? ⟨g, 1, none⟩ = some (.int .i64 p))) u hC
            clear hd hC
            first | (go_simp; done) | (go_simp; rfl) | rfl
        refine' And.intro ?_ ?_
        · refine' rOp_run _ _ (Value.string s) hst (fun _ _ => rfl) (fun x u hC hd => ?_) (fun _ _ => upd_eq (v := Value.string s))
          refine' And.intro ?_ ?_
          · rfl
          · have d2 : x 2 = Value.pointer (some { block := g, off := 0 }) := at_edge hd 0 (by decide) rfl
            have hcu := (fun u (hC : Below w.heap.size w u) => (⟨cell_later' hC c0, cell_later' hC c1⟩ : u.cell? ⟨g, 0, none⟩ = some (.string s) ∧ u.cell? ⟨g, 1, none⟩ = some (.int .i64 p))) u hC
            clear hd hC
            first | (go_simp; done) | (go_simp; rfl) | rfl
        refine' And.intro ?_ ?_
        · refine' rOp_run _ _ (Value.pointer (some { block := g, off := 0 })) hst (fun _ _ => rfl) (fun x u hC hd => ?_) (fun _ _ => upd_eq (v := Value.pointer (some { block := g, off := 0 })))
          refine' And.intro ?_ ?_
          · rfl
          · have hcu := (fun u (hC : Below w.heap.size w u) => (⟨cell_later' hC c0, cell_later' hC c1⟩ : u.cell? ⟨g, 0, none⟩ = some (.string s) ∧ u.cell? ⟨g, 1, none⟩ = some (.int .i64 p))) u hC
            clear hd hC
            first | (go_simp; done) | (go_simp; rfl) | rfl
        refine' And.intro ?_ ?_
        · refine' rOp_run _ _ (Value.pointer (some { block := g, off := 0 })) hst (fun _ _ => rfl) (fun x u hC hd => ?_) (fun _ _ => upd_eq (v := Value.pointer (some { block := g, off := 0 })))
          refine' And.intro ?_ ?_
          · rfl
          · have d4 : x 4 = Value.pointer (some { block := g, off := 0 }) := at_edge hd 0 (by decide) rfl
            have hcu := (fun u (hC : Below w.heap.size w u) => (⟨cell_later' hC c0, cell_later' hC c1⟩ : u.cell? ⟨g, 0, none⟩ = some (.string s) ∧ u.cell? ⟨g, 1, none⟩ = some (.int .i64 p))) u hC
            clear hd hC
            first | (go_simp; done) | (go_simp; rfl) | rfl
        refine' And.intro ?_ ?_
        · refine' rOp_run _ _ (Value.pointer (some { block := g, off := 1 })) hst (fun _ _ => rfl) (fun x u hC hd => ?_) (fun _ _ => upd_eq (v := Value.pointer (some { block := g, off := 1 })))
          refine' And.intro ?_ ?_
          · rfl
          · have d5 : x 5 = Value.pointer (some { block := g, off := 0 }) := at_edge hd 0 (by decide) rfl
            have hcu := (fun u (hC : Below w.heap.size w u) => (⟨cell_later' hC c0, cell_later' hC c1⟩ : u.cell? ⟨g, 0, none⟩ = some (.string s) ∧ u.cell? ⟨g, 1, none⟩ = some (.int .i64 p))) u hC
            clear hd hC
            first | (go_simp; done) | (go_simp; rfl) | rfl
        refine' And.intro ?_ ?_
        · refine' rOp_run _ _ (Value.int IntKind.i64 (↑p : Int)) hst (fun _ _ => rfl) (fun x u hC hd => ?_) (fun _ _ => upd_eq (v := Value.int IntKind.i64 (↑p : Int)))
          refine' And.intro ?_ ?_
          · rfl
          · have d6 : x 6 = Value.pointer (some { block := g, off := 1 }) := at_edge hd 0 (by decide) rfl
            have hcu := (fun u (hC : Below w.heap.size w u) => (⟨cell_later' hC c0, cell_later' hC c1⟩ : u.cell? ⟨g, 0, none⟩ = some (.string s) ∧ u.cell? ⟨g, 1, none⟩ = some (.int .i64 p))) u hC
            clear hd hC
            first | (go_simp; done) | (go_simp; rfl) | rfl
        refine' And.intro ?_ ?_
        · refine' rOp_run _ _ (Value.agg #[Value.string s, Value.int IntKind.i64 (↑p : Int), Value.int IntKind.i64 0]) hst (fun _ _ => rfl) (fun x u hC hd => ?_) (fun _ _ => upd_eq (v := Value.agg #[Value.string s, Value.int IntKind.i64 (↑p : Int), Value.int IntKind.i64 0]))
          refine' And.intro ?_ ?_
          · rfl
          · have d3 : x 3 = Value.string s := at_edge hd 0 (by decide) rfl
            have d7 : x 7 = Value.int IntKind.i64 (↑p : Int) := at_edge hd 1 (by decide) rfl
            have hcu := (fun u (hC : Below w.heap.size w u) => (⟨cell_later' hC c0, cell_later' hC c1⟩ : u.cell? ⟨g, 0, none⟩ = some (.string s) ∧ u.cell? ⟨g, 1, none⟩ = some (.int .i64 p))) u hC
            clear hd hC
            first | (go_simp; done) | (go_simp; rfl) | rfl
        refine' And.intro ?_ ?_
        refine' rOp_new _ _ hst (fun _ _ => rfl) (fun x u hC hd => ?_)
        refine' And.intro ?_ ?_
        · rfl
        have d8 : x 8 = Value.agg #[Value.string s, Value.int IntKind.i64 (↑p : Int), Value.int IntKind.i64 0] := at_edge hd 0 (by decide) rfl
        have hcu := (fun u (hC : Below w.heap.size w u) => (⟨cell_later' hC c0, cell_later' hC c1⟩ : u.cell? ⟨g, 0, none⟩ = some (.string s) ∧ u.cell? ⟨g, 1, none⟩ = some (.int .i64 p))) u hC
        clear hd
        show ∃ v u', Sem.run _ _ _ = Result.ok (Next.value v) u' ∧ (∃ k, v = Value.pointer (some { block := k, off := 0 }) ∧ Array.size (World.heap w) ≤ k ∧ RcuAt u' k s { at_ := p, e := 0 }) ∧ Below (Array.size (World.heap u)) u u'
        rotate_left
        exact trivial
        intro x u hC hphi
        have e0 : x 0 = Value.pointer (some { block := g, off := 0 }) := hphi 0 (by decide) (by simp)
        have e1 : x 1 = Value.pointer (some { block := g, off := 0 }) := hphi 1 (by decide) (by simp)
        have e2 : x 2 = Value.pointer (some { block := g, off := 0 }) := hphi 2 (by decide) (by simp)
        have e3 : x 3 = Value.string s := hphi 3 (by decide) (by simp)
        have e4 : x 4 = Value.pointer (some { block := g, off := 0 }) := hphi 4 (by decide) (by simp)
        have e5 : x 5 = Value.pointer (some { block := g, off := 0 }) := hphi 5 (by decide) (by simp)
        have e6 : x 6 = Value.pointer (some { block := g, off := 1 }) := hphi 6 (by decide) (by simp)
        have e7 : x 7 = Value.int IntKind.i64 (↑p : Int) := hphi 7 (by decide) (by simp)
        have e8 : x 8 = Value.agg #[Value.string s, Value.int IntKind.i64 (↑p : Int), Value.int IntKind.i64 0] := hphi 8 (by decide) (by simp)
        have e9 : ∃ k, x 9 = Value.pointer (some { block := k, off := 0 }) ∧ Array.size (World.heap w) ≤ k ∧ RcuAt u k s { at_ := p, e := 0 } := hphi 9 (by decide) (by simp)
        clear hphi
        rotate_left
        · rintro v u u' hb ⟨k, e, hk, hr⟩
          exact ⟨k, e, hk, blk_later hb hr.1, hr.2⟩
        · exact ⟨.pointer (some ⟨u.heap.size, 0, none⟩), u.alloc (.cells #[.string s, .int .i64 p, .int .i64 0] 96), by go_simp, ⟨u.heap.size, rfl, hC.size, hnew u⟩, below_alloc' (Below.refl _ _) _⟩
        · obtain ⟨k, e9', hk, hr⟩ := e9
          clear e0 e1 e2 e3 e4 e5 e6 e7 e8
          have hkg : k ≠ g := by omega
          go_wp2_with fail
          refine (hun k _ hr).mono ?_
          rintro e w1 ⟨rfl, h1, t1⟩
          go_wp2_with fail
          refine (hby k _ h1).mono ?_
          rintro e w2 ⟨rfl, h2, t2⟩
          have d2 := h2.c2
          have d1 := h2.c1
          have ht : Touch (fun i => i = k) u w2 := t1.trans t2 fun i hi => .inl hi
          have hg : RcuAt w2 g s ⟨p, 0⟩ := RcuAt.touch (S := fun i => i = k) ⟨(hC.block g hl).trans h.1, h.2⟩ ht (fun e => hkg e.symm)
          have hB : Touch (fun i => i = g) w w2 := (Touch.of_below hC).trans ht fun i hi => .inr (by rw [hi]; exact hk)
          have g1 := hg.f 1
          have g2 := hg.f 2
          have gl := hg.lt
          have gc1 := hg.c1
          have gc2 := hg.c2
          go_wp2
          go_ret
          exact ⟨rfl, hg.setErr cf.e h2.2.2.2, hB.trans (touch_set _ _ _ _) fun i hi => .inl hi⟩
      · obtain ⟨m, rfl⟩ := Int.eq_ofNat_of_zero_le (show 0 ≤ most by omega)
        rw [Int.toNat_natCast] at hun
        have hmx : (m : Int) ≤ 9223372036854775807 := hm.2
        go_enter Tryd.func101, Tryd.ntmps101
        go_wp2
        refine' rel_region ([]) 10 (fun x => { tmps := #[Value.pointer (some { block := g, off := 0 }), Value.int IntKind.i64 (↑m : Int), undef, undef, Value.string { data := #[] }, undef, undef, undef, Value.pointer (some { block := g, off := 0 }), Value.pointer (some { block := g, off := 0 }), Value.pointer (some { block := g, off := 2 }), Value.int IntKind.i64 0, Value.bool false, Value.int IntKind.i64 (↑m : Int), Value.bool false, x 0, x 1, x 2, x 3, x 4, x 5, x 6, x 7, x 8, x 9, undef, undef, undef, undef, undef, undef, undef, undef, undef, undef, undef, undef, undef, undef, undef, undef, undef, undef, undef, undef, undef, undef, undef, undef, undef, undef, undef], defers := [] }) (fun k => List.getD [undef, undef, undef, undef, undef, undef, undef, undef, undef, undef] k undef) [plain 0 (fun v _ => v = Value.pointer (some { block := g, off := 0 })), plain 1 (fun v _ => v = Value.pointer (some { block := g, off := 0 })), plain 2 (fun v _ => v = Value.pointer (some { block := g, off := 0 })), plain 3 (fun v _ => v = Value.string s), plain 4 (fun v _ => v = Value.pointer (some { block := g, off := 0 })), plain 5 (fun v _ => v = Value.pointer (some { block := g, off := 0 })), plain 6 (fun v _ => v = Value.pointer (some { block := g, off := 1 })), plain 7 (fun v _ => v = Value.int IntKind.i64 (↑p : Int)), plain 8 (fun v _ => v = Value.agg #[Value.string s, Value.int IntKind.i64 (↑p : Int), Value.int IntKind.i64 0]), plain 9 (fun v u => ∃ k, v = .pointer (some ⟨k, 0, none⟩) ∧ w.heap.size ≤ k ∧ RcuAt u k s ⟨p, 0⟩)] (by kernel_rfl) (by decide +kernel) (by decide +kernel) rfl ?_ ?_ ?_
        refine And.intro (fun k hj _ => Stays.x (Stays.eq _) 0 hj) ?_
        refine And.intro (fun k hj _ => Stays.x (Stays.eq _) 1 hj) ?_
        refine And.intro (fun k hj _ => Stays.x (Stays.eq _) 2 hj) ?_
        refine And.intro (fun k hj _ => Stays.x (Stays.eq _) 3 hj) ?_
        refine And.intro (fun k hj _ => Stays.x (Stays.eq _) 4 hj) ?_
        refine And.intro (fun k hj _ => Stays.x (Stays.eq _) 5 hj) ?_
        refine And.intro (fun k hj _ => Stays.x (Stays.eq _) 6 hj) ?_
        refine And.intro (fun k hj _ => Stays.x (Stays.eq _) 7 hj) ?_
        refine And.intro (fun k hj _ => Stays.x (Stays.eq _) 8 hj) ?_
        refine And.intro (fun k hj _ => Stays.x (?_ : Stays _) 9 hj) ?_
        rotate_left
        exact trivial
        intro hst
        refine' And.intro ?_ ?_
        · refine' rOp_run _ _ (Value.pointer (some { block := g, off := 0 })) hst (fun _ _ => rfl) (fun x u hC hd => ?_) (fun _ _ => upd_eq (v := Value.pointer (some { block := g, off := 0 })))
          refine' And.intro ?_ ?_
          · rfl
          · have hcu := (fun u (hC : Below w.heap.size w u) => (⟨cell_later' hC c0, cell_later' hC c1⟩ : u.cell? ⟨g, 0, none⟩ = some (.string s) ∧ u.cell? ⟨g, 1, none⟩ = some (.int .i64 p))) u hC
            clear hd hC
            first | (go_simp; done) | (go_simp; rfl) | rfl
        refine' And.intro ?_ ?_
        · refine' rOp_run _ _ (Value.pointer (some { block := g, off := 0 })) hst (fun _ _ => rfl) (fun x u hC hd => ?_) (fun _ _ => upd_eq (v := Value.pointer (some { block := g, off := 0 })))
          refine' And.intro ?_ ?_
          · rfl
          · have d0 : x 0 = Value.pointer (some { block := g, off := 0 }) := at_edge hd 0 (by decide) rfl
            have hcu := (fun u (hC : Below w.heap.size w u) => (⟨cell_later' hC c0, cell_later' hC c1⟩ : u.cell? ⟨g, 0, none⟩ = some (.string s) ∧ u.cell? ⟨g, 1, none⟩ = some (.int .i64 p))) u hC
            clear hd hC
            first | (go_simp; done) | (go_simp; rfl) | rfl
        refine' And.intro ?_ ?_
        · refine' rOp_run _ _ (Value.pointer (some { block := g, off := 0 })) hst (fun _ _ => rfl) (fun x u hC hd => ?_) (fun _ _ => upd_eq (v := Value.pointer (some { block := g, off := 0 })))
          refine' And.intro ?_ ?_
          · rfl
          · have d1 : x 1 = Value.pointer (some { block := g, off := 0 }) := at_edge hd 0 (by decide) rfl
            have hcu := (fun u (hC : Below w.heap.size w u) => (⟨cell_later' hC c0, cell_later' hC c1⟩ : u.cell? ⟨g, 0, none⟩ = some (.string s) ∧ u.cell? ⟨g, 1, none⟩ = some (.int .i64 p))) u hC
            clear hd hC
            first | (go_simp; done) | (go_simp; rfl) | rfl
        refine' And.intro ?_ ?_
        · refine' rOp_run _ _ (Value.string s) hst (fun _ _ => rfl) (fun x u hC hd => ?_) (fun _ _ => upd_eq (v := Value.string s))
          refine' And.intro ?_ ?_
          · rfl
          · have d2 : x 2 = Value.pointer (some { block := g, off := 0 }) := at_edge hd 0 (by decide) rfl
            have hcu := (fun u (hC : Below w.heap.size w u) => (⟨cell_later' hC c0, cell_later' hC c1⟩ : u.cell? ⟨g, 0, none⟩ = some (.string s) ∧ u.cell? ⟨g, 1, none⟩ = some (.int .i64 p))) u hC
            clear hd hC
            first | (go_simp; done) | (go_simp; rfl) | rfl
        refine' And.intro ?_ ?_
        · refine' rOp_run _ _ (Value.pointer (some { block := g, off := 0 })) hst (fun _ _ => rfl) (fun x u hC hd => ?_) (fun _ _ => upd_eq (v := Value.pointer (some { block := g, off := 0 })))
          refine' And.intro ?_ ?_
          · rfl
          · have hcu := (fun u (hC : Below w.heap.size w u) => (⟨cell_later' hC c0, cell_later' hC c1⟩ : u.cell? ⟨g, 0, none⟩ = some (.string s) ∧ u.cell? ⟨g, 1, none⟩ = some (.int .i64 p))) u hC
            clear hd hC
            first | (go_simp; done) | (go_simp; rfl) | rfl
        refine' And.intro ?_ ?_
        · refine' rOp_run _ _ (Value.pointer (some { block := g, off := 0 })) hst (fun _ _ => rfl) (fun x u hC hd => ?_) (fun _ _ => upd_eq (v := Value.pointer (some { block := g, off := 0 })))
          refine' And.intro ?_ ?_
          · rfl
          · have d4 : x 4 = Value.pointer (some { block := g, off := 0 }) := at_edge hd 0 (by decide) rfl
            have hcu := (fun u (hC : Below w.heap.size w u) => (⟨cell_later' hC c0, cell_later' hC c1⟩ : u.cell? ⟨g, 0, none⟩ = some (.string s) ∧ u.cell? ⟨g, 1, none⟩ = some (.int .i64 p))) u hC
            clear hd hC
            first | (go_simp; done) | (go_simp; rfl) | rfl
        refine' And.intro ?_ ?_
        · refine' rOp_run _ _ (Value.pointer (some { block := g, off := 1 })) hst (fun _ _ => rfl) (fun x u hC hd => ?_) (fun _ _ => upd_eq (v := Value.pointer (some { block := g, off := 1 })))
          refine' And.intro ?_ ?_
          · rfl
          · have d5 : x 5 = Value.pointer (some { block := g, off := 0 }) := at_edge hd 0 (by decide) rfl
            have hcu := (fun u (hC : Below w.heap.size w u) => (⟨cell_later' hC c0, cell_later' hC c1⟩ : u.cell? ⟨g, 0, none⟩ = some (.string s) ∧ u.cell? ⟨g, 1, none⟩ = some (.int .i64 p))) u hC
            clear hd hC
            first | (go_simp; done) | (go_simp; rfl) | rfl
        refine' And.intro ?_ ?_
        · refine' rOp_run _ _ (Value.int IntKind.i64 (↑p : Int)) hst (fun _ _ => rfl) (fun x u hC hd => ?_) (fun _ _ => upd_eq (v := Value.int IntKind.i64 (↑p : Int)))
          refine' And.intro ?_ ?_
          · rfl
          · have d6 : x 6 = Value.pointer (some { block := g, off := 1 }) := at_edge hd 0 (by decide) rfl
            have hcu := (fun u (hC : Below w.heap.size w u) => (⟨cell_later' hC c0, cell_later' hC c1⟩ : u.cell? ⟨g, 0, none⟩ = some (.string s) ∧ u.cell? ⟨g, 1, none⟩ = some (.int .i64 p))) u hC
            clear hd hC
            first | (go_simp; done) | (go_simp; rfl) | rfl
        refine' And.intro ?_ ?_
        · refine' rOp_run _ _ (Value.agg #[Value.string s, Value.int IntKind.i64 (↑p : Int), Value.int IntKind.i64 0]) hst (fun _ _ => rfl) (fun x u hC hd => ?_) (fun _ _ => upd_eq (v := Value.agg #[Value.string s, Value.int IntKind.i64 (↑p : Int), Value.int IntKind.i64 0]))
          refine' And.intro ?_ ?_
          · rfl
          · have d3 : x 3 = Value.string s := at_edge hd 0 (by decide) rfl
            have d7 : x 7 = Value.int IntKind.i64 (↑p : Int) := at_edge hd 1 (by decide) rfl
            have hcu := (fun u (hC : Below w.heap.size w u) => (⟨cell_later' hC c0, cell_later' hC c1⟩ : u.cell? ⟨g, 0, none⟩ = some (.string s) ∧ u.cell? ⟨g, 1, none⟩ = some (.int .i64 p))) u hC
            clear hd hC
            first | (go_simp; done) | (go_simp; rfl) | rfl
        refine' And.intro ?_ ?_
        refine' rOp_new _ _ hst (fun _ _ => rfl) (fun x u hC hd => ?_)
        refine' And.intro ?_ ?_
        · rfl
        have d8 : x 8 = Value.agg #[Value.string s, Value.int IntKind.i64 (↑p : Int), Value.int IntKind.i64 0] := at_edge hd 0 (by decide) rfl
        have hcu := (fun u (hC : Below w.heap.size w u) => (⟨cell_later' hC c0, cell_later' hC c1⟩ : u.cell? ⟨g, 0, none⟩ = some (.string s) ∧ u.cell? ⟨g, 1, none⟩ = some (.int .i64 p))) u hC
        clear hd
        show ∃ v u', Sem.run _ _ _ = Result.ok (Next.value v) u' ∧ (∃ k, v = Value.pointer (some { block := k, off := 0 }) ∧ Array.size (World.heap w) ≤ k ∧ RcuAt u' k s { at_ := p, e := 0 }) ∧ Below (Array.size (World.heap u)) u u'
        rotate_left
        exact trivial
        intro x u hC hphi
        have e0 : x 0 = Value.pointer (some { block := g, off := 0 }) := hphi 0 (by decide) (by simp)
        have e1 : x 1 = Value.pointer (some { block := g, off := 0 }) := hphi 1 (by decide) (by simp)
        have e2 : x 2 = Value.pointer (some { block := g, off := 0 }) := hphi 2 (by decide) (by simp)
        have e3 : x 3 = Value.string s := hphi 3 (by decide) (by simp)
        have e4 : x 4 = Value.pointer (some { block := g, off := 0 }) := hphi 4 (by decide) (by simp)
        have e5 : x 5 = Value.pointer (some { block := g, off := 0 }) := hphi 5 (by decide) (by simp)
        have e6 : x 6 = Value.pointer (some { block := g, off := 1 }) := hphi 6 (by decide) (by simp)
        have e7 : x 7 = Value.int IntKind.i64 (↑p : Int) := hphi 7 (by decide) (by simp)
        have e8 : x 8 = Value.agg #[Value.string s, Value.int IntKind.i64 (↑p : Int), Value.int IntKind.i64 0] := hphi 8 (by decide) (by simp)
        have e9 : ∃ k, x 9 = Value.pointer (some { block := k, off := 0 }) ∧ Array.size (World.heap w) ≤ k ∧ RcuAt u k s { at_ := p, e := 0 } := hphi 9 (by decide) (by simp)
        clear hphi
        rotate_left
        · rintro v u u' hb ⟨k, e, hk, hr⟩
          exact ⟨k, e, hk, blk_later hb hr.1, hr.2⟩
        · exact ⟨.pointer (some ⟨u.heap.size, 0, none⟩), u.alloc (.cells #[.string s, .int .i64 p, .int .i64 0] 96), by go_simp, ⟨u.heap.size, rfl, hC.size, hnew u⟩, below_alloc' (Below.refl _ _) _⟩
        · obtain ⟨k, e9', hk, hr⟩ := e9
          clear e0 e1 e2 e3 e4 e5 e6 e7 e8
          have hkg : k ≠ g := by omega
          go_wp2_with fail
          refine (hun k _ hr).mono ?_
          rintro e w1 ⟨rfl, h1, t1⟩
          go_wp2_with fail
          refine (hby k _ h1).mono ?_
          rintro e w2 ⟨rfl, h2, t2⟩
          have d2 := h2.c2
          have d1 := h2.c1
          have ht : Touch (fun i => i = k) u w2 := t1.trans t2 fun i hi => .inl hi
          have hg : RcuAt w2 g s ⟨p, 0⟩ := RcuAt.touch (S := fun i => i = k) ⟨(hC.block g hl).trans h.1, h.2⟩ ht (fun e => hkg e.symm)
          have hB : Touch (fun i => i = g) w w2 := (Touch.of_below hC).trans ht fun i hi => .inr (by rw [hi]; exact hk)
          have g1 := hg.f 1
          have g2 := hg.f 2
          have gl := hg.lt
          have gc1 := hg.c1
          have gc2 := hg.c2
          go_wp2
          go_ret
          exact ⟨rfl, hg.setErr cf.e h2.2.2.2, hB.trans (touch_set _ _ _ _) fun i hi => .inl hi⟩
  · rw [cuText_err hc]
    have hb : ((c.e : Int) != 0) = true := by simpa using hc
    go_enter Tryd.func101, Tryd.ntmps101
    go_wp2
    go_ret
    exact ⟨rfl, h, Touch.refl _ _⟩
end Go.Proofs.YtdgjgekefpfgiaaDoor
