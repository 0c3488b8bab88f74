/- The reference's reading of characters. -/
import Derived.Test.YtdgjgekefpfgiaaDoorRch
import Derived.Test.YtdgjgekefpfgiaaDoorRgl
import Derived.Deep.DeepCutAuto
import Derived.BigQuiet
namespace Go.Proofs.YtdgjgekefpfgiaaDoor
open Go.RowKit

def bnd : Nat → Int
  | 0 => 255
  | k + 1 => 64 * bnd k + 255
theorem numAt_bnd (s : ByteArray) (p size : Nat) : ∀ k, -(bnd k) ≤ numAt s p size k ∧ numAt s p size k ≤ bnd k
  | 0 => by
    have := byt_lt s p
    rw [numAt, bnd]
    repeat' split
    all_goals omega
  | k + 1 => by
    have := byt_lt s (p + (k + 1))
    obtain ⟨h1, h2⟩ := numAt_bnd s p size k
    rw [numAt, bnd]
    omega
theorem bnd_le {k : Nat} (h : k ≤ 3) : bnd k ≤ 70000000 := by
  have : ∀ k : Fin 4, bnd k.val ≤ 70000000 := by decide
  exact this ⟨k, by omega⟩
theorem numAt_le (s : ByteArray) (p size k : Nat) (h : k ≤ 3) : -70000000 ≤ numAt s p size k ∧ numAt s p size k ≤ 70000000 := by
  have h1 := numAt_bnd s p size k
  have h2 := bnd_le h
  omega
def a2 (s : ByteArray) (p size : Nat) : Int := byt s p - (if size = 2 then 192 else 0)
def a3 (s : ByteArray) (p size : Nat) : Int := byt s p - (if size = 2 then 192 else if size = 3 then 224 else 0)
theorem a2_ne (s : ByteArray) (p : Nat) {size : Nat} (h : size ≠ 2) : a2 s p size = byt s p := by simp [a2, h]
theorem a2_eq (s : ByteArray) (p : Nat) : a2 s p 2 = byt s p - 192 := rfl
theorem a3_ne (s : ByteArray) (p : Nat) {size : Nat} (h : size ≠ 3) : a3 s p size = a2 s p size := by simp [a3, a2, h]
theorem a3_eq (s : ByteArray) (p : Nat) : a3 s p 3 = a2 s p 3 - 224 := by simp [a3, a2]
theorem a4_ne (s : ByteArray) (p : Nat) {size : Nat} (h : size ≠ 4) : numAt s p size 0 = a3 s p size := by simp [numAt, a3, h]
theorem a4_eq (s : ByteArray) (p : Nat) : numAt s p 4 0 = a3 s p 4 - 240 := by simp [numAt, a3]
theorem a2_bnd (s : ByteArray) (p size : Nat) : -1000 ≤ a2 s p size ∧ a2 s p size ≤ 1000 := by
  have := byt_lt s p
  unfold a2
  split <;> omega
theorem a3_bnd (s : ByteArray) (p size : Nat) : -1000 ≤ a3 s p size ∧ a3 s p size ≤ 1000 := by
  have := byt_lt s p
  unfold a3
  repeat' split
  all_goals omega
theorem ret_pair {a a' b b' : Int} (h1 : a = a') (h2 : b = b') : Ending.returned (.tuple #[.int .i32 a, .int .i64 b]) = .returned (.tuple #[.int .i32 a', .int .i64 b']) := by rw [h1, h2]
def AtRet (r : Int × Int) (w : World) (e : Ending) (w' : World) : Prop := e = .returned (.tuple #[.int .i32 r.1, .int .i64 r.2]) ∧ Below w.heap.size w w'
set_option maxRecDepth 100000 in
set_option maxHeartbeats 1000000 in
theorem refAt_any (s : ByteArray) (p : Nat) (w : World) (hs : s.size ≤ 1000000) (hp : p < s.size) : Calls Tryd.prog 144 #[.string s, .int .i64 p] w (AtRet (refAt s p 4 1) w) := by
  generalize hR : refAt s p 4 1 = R
  replace hR := Lib.hid hR
  have hb0 := byt_get s p hp
  replace hb0 := Lib.hid hb0
  go_enter Tryd.func144, Tryd.ntmps144
  go_wp2
  go_loopw [6] (fun x wr => ∃ f size : Nat, size + f = 5 ∧ 1 ≤ size ∧ x = .int .i64 size ∧ refAt s p f size = R ∧ Below w.heap.size w wr) (fun x _ => 6 - (intOf x).toNat)
  case atStart => exact ⟨4, 1, rfl, by decide, rfl, hR.out, Below.refl _ _⟩
  case round =>
    clear hR
    obtain ⟨f, size, hf, h1, rfl, hgo, hbw⟩ := hrel
    by_cases hz : size = 5
    · subst hz
      obtain rfl : f = 0 := by omega
      have hgo' := Lib.hid hgo
      clear hgo
      go_wp2
      go_ret2
      refine ⟨?_, hbw⟩
      rw [← hgo'.out]
      rfl
    obtain ⟨f, rfl⟩ : ∃ f', f = f' + 1 := ⟨f - 1, by omega⟩
    by_cases hle : p + size ≤ s.size
    · have h4 : size ≤ 4 := by omega
      rw [refAt, if_pos hle] at hgo
      have hGO := Lib.hid hgo
      clear hgo hz
      have hpl : p < s.size := hp
      have hbH : Hid (((s[p]'hp).toNat : Int) = byt s p) := Lib.hid (by rw [hb0.out])
      have hb256 := byt_lt s p
      have hbl : ((s[p]'hp).toNat : Int) < 256 := by have := hbH.out; omega
      have hle' : (p : Int) + (size : Int) ≤ (s.size : Int) := by omega
      obtain ⟨l2, u2⟩ := a2_bnd s p size
      obtain ⟨l3, u3⟩ := a3_bnd s p size
      go_upto_if 26 with (fail)
      go_cut [7] (fun x wx => x = .int .i64 (a2 s p size) ∧ wr = wx)
      case first =>
        by_cases hsz : size = 2
        · subst hsz
          have hv := a2_eq s p
          replace hv := Lib.hid hv
          go_wp2
          go_meet
          exact ⟨by first | rw [hv.out, hbH.out] | rw [hv.out], rfl⟩
        · have hb : ((size : Int) == 2) = false := by simp; omega
          have hv := a2_ne s p hsz
          replace hv := Lib.hid hv
          go_wp2
          go_meet
          exact ⟨by first | rw [hv.out, hbH.out] | rw [hv.out], rfl⟩
      obtain ⟨rfl, rfl⟩ := hcut
      go_upto_if 30 with (fail)
      go_cut [7] (fun x wx => x = .int .i64 (a3 s p size) ∧ wr = wx)
      case first =>
        by_cases hsz : size = 3
        · subst hsz
          have hv := a3_eq s p
          replace hv := Lib.hid hv
          go_wp2
          go_meet
          exact ⟨by first | rw [hv.out, hbH.out] | rw [hv.out], rfl⟩
        · have hb : ((size : Int) == 3) = false := by simp; omega
          have hv := a3_ne s p hsz
          replace hv := Lib.hid hv
          go_wp2
          go_meet
          exact ⟨by first | rw [hv.out, hbH.out] | rw [hv.out], rfl⟩
      obtain ⟨rfl, rfl⟩ := hcut
      go_upto_if 34 with (fail)
      go_cut [7] (fun x wx => x = .int .i64 (numAt s p size 0) ∧ wr = wx)
      case first =>
        by_cases hsz : size = 4
        · subst hsz
          have hv := a4_eq s p
          replace hv := Lib.hid hv
          go_wp2
          go_meet
          exact ⟨by first | rw [hv.out, hbH.out] | rw [hv.out], rfl⟩
        · have hb : ((size : Int) == 4) = false := by simp; omega
          have hv := a4_ne s p hsz
          replace hv := Lib.hid hv
          go_wp2
          go_meet
          exact ⟨by first | rw [hv.out, hbH.out] | rw [hv.out], rfl⟩
      obtain ⟨rfl, rfl⟩ := hcut
      clear l2 u2 l3 u3
      go_wp2
      go_loop [7, 8] (fun x y => ∃ k : Nat, 1 ≤ k ∧ k ≤ size ∧ y = .int .i64 k ∧ x = .int .i64 (numAt s p size (k - 1))) (fun _ y => size - (intOf y).toNat)
      case atStart => exact ⟨1, by decide, h1, rfl, rfl⟩
      case round =>
        obtain ⟨k, hk1, hk2, rfl, rfl⟩ := hrel
        obtain ⟨k, rfl⟩ : ∃ k', k = k' + 1 := ⟨k - 1, by omega⟩
        simp only [Nat.add_sub_cancel]
        by_cases hlt : k + 1 < size
        · have hbk := byt_get s (p + (k + 1)) (by omega)
          have hbk256 := byt_lt s (p + (k + 1))
          have hB := Lib.hid hbk
          rw [hbk] at hbk256
          clear hbk
          obtain ⟨nl, nu⟩ := numAt_le s p size k (by omega)
          have hnext : numAt s p size (k + 1) = 64 * numAt s p size k + (s[p + (k + 1)]'(by omega)).toNat - 128 := by rw [numAt, hB.out]
          replace hnext := Lib.hid hnext
          go_wp2
          refine ⟨⟨k + 2, by omega, by omega, by go_num, ?_⟩, by simp [intOf]; omega⟩
          rw [show k + 2 - 1 = k + 1 from rfl, hnext.out]
        · obtain rfl : size = k + 1 := by omega
          obtain ⟨nl, nu⟩ := numAt_le s p (k + 1) k (by omega)
          have hfd : fitsAt s p (k + 1) = decide (0 ≤ numAt s p (k + 1) k ∧ numAt s p (k + 1) k ≤ 1114111 ∧ charS (numAt s p (k + 1) k) = s.extract p (p + (k + 1))) := rfl
          replace hfd := Lib.hid hfd
          have hGO' : Hid ((if fitsAt s p (k + 1) = true then (numAt s p (k + 1) k, ((k + 1 : Nat) : Int)) else refAt s p f (k + 1 + 1)) = R) := Lib.hid hGO.out
          clear hGO
          go_upto_region 15 with (fail)
          go_cut [69] (fun v wx => v = .bool (fitsAt s p (k + 1)) ∧ Below w.heap.size w wx)
          case first =>
            clear hGO'
            generalize numAt s p (k + 1) k = n at *
            by_cases hn0 : n < 0
            · have hd0 : decide (0 ≤ n) = false := by rw [decide_eq_false_iff_not]; omega
              have hF : Hid (fitsAt s p (k + 1) = false) := Lib.hid (by rw [hfd.out, decide_eq_false_iff_not]; omega)
              go_quiet (fail)
              go_wp2
              go_meet
              exact ⟨by rw [hF.out], below_drewN' hbw nq⟩
            have hd0 : decide (0 ≤ n) = true := by rw [decide_eq_true_eq]; omega
            by_cases hn1 : 1114111 < n
            · have hd1 : decide (n ≤ 1114111) = false := by rw [decide_eq_false_iff_not]; omega
              have hF : Hid (fitsAt s p (k + 1) = false) := Lib.hid (by rw [hfd.out, decide_eq_false_iff_not]; omega)
              go_quiet (fail)
              go_wp2
              go_meet
              exact ⟨by rw [hF.out], below_drewN' hbw nq⟩
            have hd1 : decide (n ≤ 1114111) = true := by rw [decide_eq_true_eq]; omega
            have hch : ∀ u, Calls Tryd.prog 159 #[.int .i32 n] u fun e w' => e = .returned (.string (charS n)) ∧ Below u.heap.size u w' := fun u => refChar_any n u (by omega) (by omega)
            have hw2 : 0 ≤ (p : Int) + ((k : Int) + 1) := by omega
            have hw3 : (p : Int) + ((k : Int) + 1) ≤ (s.size : Int) := by omega
            have hw4 : (p : Int) ≤ (p : Int) + ((k : Int) + 1) := by omega
            have hw5 : ((p : Int) + ((k : Int) + 1)).toNat = p + (k + 1) := by omega
            have hw6 : IntKind.i32.wrap n = n := by rw [IntKind.wrap_i32]; omega
            have hw1 : IntKind.i64.wrap ((p : Int) + ((k : Int) + 1)) = (p : Int) + ((k : Int) + 1) := IntWalk.i64_in _ (by omega)
            refine' rel_region ([]) 17 (fun x => { tmps := #[Value.string s, Value.int IntKind.i64 (↑p : Int), undef, undef, u4, u5, Value.int IntKind.i64 (↑(k + 1) : Int), Value.int IntKind.i64 n, Value.int IntKind.i64 (↑(k + 1) : Int), u9, u10, u11, u12, u13, u14, u15, u16, u17, u18, u19, u20, u21, u22, u23, u24, u25, u26, u27, u28, u29, u30, u31, u32, u33, u34, u35, u36, Value.int IntKind.i64 (↑(k + 1) : Int), Value.int IntKind.i64 (↑(k + 1) : Int), Value.bool false, u40, u41, u42, u43, u44, u45, u46, u47, u48, u49, u50, u51, x 0, x 1, x 2, x 3, x 4, x 5, x 6, x 7, x 8, x 9, x 10, x 11, x 12, x 13, x 14, x 15, x 16, u69, u70, u71, u72], defers := [] }) (fun k => List.getD [u52, u53, u54, u55, u56, u57, u58, u59, u60, u61, u62, u63, u64, u65, u66, u67, u68] k undef) [plain 0 (fun v _ => v = Value.int IntKind.i64 n), plain 1 (fun v _ => v = Value.bool true), plain 2 (fun v _ => v = Value.bool true), plain 3 (fun v _ => v = Value.int IntKind.i64 n), plain 4 (fun v _ => v = Value.bool true), plain 5 (fun v _ => v = Value.bool true), plain 6 (fun v _ => v = Value.bool true), plain 7 (fun v _ => v = Value.int IntKind.i64 n), plain 8 (fun v _ => v = Value.int IntKind.i32 n), plain 9 (fun v _ => v = .string (charS n)), plain 10 (fun v _ => v = Value.string s), plain 11 (fun v _ => v = Value.int IntKind.i64 (↑p : Int)), plain 12 (fun v _ => v = Value.int IntKind.i64 (↑p : Int)), plain 13 (fun v _ => v = Value.int IntKind.i64 ((↑k : Int) + 1)), plain 14 (fun v _ => v = Value.int IntKind.i64 ((↑p : Int) + ((↑k : Int) + 1))), plain 15 (fun v _ => v = Value.string (ByteArray.extract s p (p + (k + 1)))), plain 16 (fun v _ => v = Value.bool (ByteArray.toList (charS n) == ByteArray.toList (ByteArray.extract s p (p + (k + 1)))))] (by kernel_rfl) (by decide +kernel) (by decide +kernel) rfl ?_ ?_ ?_
            refine And.intro (fun k hj _ => Stays.x (Stays.eq _) 0 hj) ?_
            refine And.intro (fun k hj _ => Stays.x (Stays.eq _) 1 hj) ?_
            refine And.intro (fun k hj _ => Stays.x (Stays.eq _) 2 hj) ?_
            refine And.intro (fun k hj _ => Stays.x (Stays.eq _) 3 hj) ?_
            refine And.intro (fun k hj _ => Stays.x (Stays.eq _) 4 hj) ?_
            refine And.intro (fun k hj _ => Stays.x (Stays.eq _) 5 hj) ?_
            refine And.intro (fun k hj _ => Stays.x (Stays.eq _) 6 hj) ?_
            refine And.intro (fun k hj _ => Stays.x (Stays.eq _) 7 hj) ?_
            refine And.intro (fun k hj _ => Stays.x (Stays.eq _) 8 hj) ?_
            refine And.intro (fun k hj _ => Stays.x (Stays.eq _) 9 hj) ?_
            refine And.intro (fun k hj _ => Stays.x (Stays.eq _) 10 hj) ?_
            refine And.intro (fun k hj _ => Stays.x (Stays.eq _) 11 hj) ?_
            refine And.intro (fun k hj _ => Stays.x (Stays.eq _) 12 hj) ?_
            refine And.intro (fun k hj _ => Stays.x (Stays.eq _) 13 hj) ?_
            refine And.intro (fun k hj _ => Stays.x (Stays.eq _) 14 hj) ?_
            refine And.intro (fun k hj _ => Stays.x (Stays.eq _) 15 hj) ?_
            refine And.intro (fun k hj _ => Stays.x (Stays.eq _) 16 hj) ?_
            exact trivial
            intro hst
            refine' And.intro ?_ ?_
            · refine' rOp_run _ _ (Value.int IntKind.i64 n) hst (fun _ _ => rfl) (fun x u hC hd => ?_) (fun _ _ => upd_eq (v := Value.int IntKind.i64 n))
              refine' And.intro ?_ ?_
              · rfl
              · have hcu := (fun u (hC : Below wr.heap.size wr u) => trivial) u hC
                clear hd hC
                first | (go_simp; done) | (go_simp; rfl) | rfl
            refine' And.intro ?_ ?_
            · refine' rOp_run _ _ (Value.bool true) hst (fun _ _ => rfl) (fun x u hC hd => ?_) (fun _ _ => upd_eq (v := Value.bool true))
              refine' And.intro ?_ ?_
              · rfl
              · have d0 : x 0 = Value.int IntKind.i64 n := at_edge hd 0 (by decide) rfl
                have hcu := (fun u (hC : Below wr.heap.size wr u) => trivial) u hC
                clear hd hC
                first | (go_simp; done) | (go_simp; rfl) | rfl
            refine' And.intro ?_ ?_
            · refine' rOp_run _ _ (Value.bool true) hst (fun _ _ => rfl) (fun x u hC hd => ?_) (fun _ _ => upd_eq (v := Value.bool true))
              refine' And.intro ?_ ?_
              · rfl
              · have d1 : x 1 = Value.bool true := at_edge hd 0 (by decide) rfl
                have hcu := (fun u (hC : Below wr.heap.size wr u) => trivial) u hC
                clear hd hC
                first | (go_simp; done) | (go_simp; rfl) | rfl
            refine' And.intro ?_ ?_
            · refine' rOp_run _ _ (Value.int IntKind.i64 n) hst (fun _ _ => rfl) (fun x u hC hd => ?_) (fun _ _ => upd_eq (v := Value.int IntKind.i64 n))
              refine' And.intro ?_ ?_
              · have d2 : x 2 = Value.bool true := at_edge hd 0 (by decide) rfl
                simp [Region.wanted, yielded, d2]
              · have d2 : x 2 = Value.bool true := at_edge hd 0 (by decide) rfl
                have hcu := (fun u (hC : Below wr.heap.size wr u) => trivial) u hC
                clear hd hC
                first | (go_simp; done) | (go_simp; rfl) | rfl
            refine' And.intro ?_ ?_
            · refine' rOp_run _ _ (Value.bool true) hst (fun _ _ => rfl) (fun x u hC hd => ?_) (fun _ _ => upd_eq (v := Value.bool true))
              refine' And.intro ?_ ?_
              · have d2 : x 2 = Value.bool true := at_edge hd 1 (by decide) rfl
                simp [Region.wanted, yielded, d2]
              · have d3 : x 3 = Value.int IntKind.i64 n := at_edge hd 0 (by decide) rfl
                have d2 : x 2 = Value.bool true := at_edge hd 1 (by decide) rfl
                have hcu := (fun u (hC : Below wr.heap.size wr u) => trivial) u hC
                clear hd hC
                first | (go_simp; done) | (go_simp; rfl) | rfl
            refine' And.intro ?_ ?_
            · refine' rOp_run _ _ (Value.bool true) hst (fun _ _ => rfl) (fun x u hC hd => ?_) (fun _ _ => upd_eq (v := Value.bool true))
              refine' And.intro ?_ ?_
              · rfl
              · have d2 : x 2 = Value.bool true := at_edge hd 0 (by decide) rfl
                have d4 : x 4 = Value.bool true := at_edge hd 1 (by decide) rfl
                have hcu := (fun u (hC : Below wr.heap.size wr u) => trivial) u hC
                clear hd hC
                first | (go_simp; done) | (go_simp; rfl) | rfl
            refine' And.intro ?_ ?_
            · refine' rOp_run _ _ (Value.bool true) hst (fun _ _ => rfl) (fun x u hC hd => ?_) (fun _ _ => upd_eq (v := Value.bool true))
              refine' And.intro ?_ ?_
              · rfl
              · have d5 : x 5 = Value.bool true := at_edge hd 0 (by decide) rfl
                have hcu := (fun u (hC : Below wr.heap.size wr u) => trivial) u hC
                clear hd hC
                first | (go_simp; done) | (go_simp; rfl) | rfl
            refine' And.intro ?_ ?_
            · refine' rOp_run _ _ (Value.int IntKind.i64 n) hst (fun _ _ => rfl) (fun x u hC hd => ?_) (fun _ _ => upd_eq (v := Value.int IntKind.i64 n))
              refine' And.intro ?_ ?_
              · have d6 : x 6 = Value.bool true := at_edge hd 0 (by decide) rfl
                simp [Region.wanted, yielded, d6]
              · have d6 : x 6 = Value.bool true := at_edge hd 0 (by decide) rfl
                have hcu := (fun u (hC : Below wr.heap.size wr u) => trivial) u hC
                clear hd hC
                first | (go_simp; done) | (go_simp; rfl) | rfl
            refine' And.intro ?_ ?_
            · refine' rOp_run _ _ (Value.int IntKind.i32 n) hst (fun _ _ => rfl) (fun x u hC hd => ?_) (fun _ _ => upd_eq (v := Value.int IntKind.i32 n))
              refine' And.intro ?_ ?_
              · have d6 : x 6 = Value.bool true := at_edge hd 1 (by decide) rfl
                simp [Region.wanted, yielded, d6]
              · have d7 : x 7 = Value.int IntKind.i64 n := at_edge hd 0 (by decide) rfl
                have d6 : x 6 = Value.bool true := at_edge hd 1 (by decide) rfl
                have hcu := (fun u (hC : Below wr.heap.size wr u) => trivial) u hC
                clear hd hC
                first | (go_simp; done) | (go_simp; rfl) | rfl
            refine' And.intro ?_ ?_
            refine' rOp_call _ _ hst (fun _ _ => rfl) (fun x u hC hd => ?_)
            refine' And.intro ?_ ?_
            · have d6 : x 6 = Value.bool true := at_edge hd 2 (by decide) rfl
              simp [Region.wanted, yielded, d6]
            have d8 : x 8 = Value.int IntKind.i32 n := at_edge hd 0 (by decide) rfl
            have d6 : x 6 = Value.bool true := at_edge hd 2 (by decide) rfl
            have hcu := (fun u (hC : Below wr.heap.size wr u) => trivial) u hC
            clear hd
            refine' Exists.intro (159) (Exists.intro (#[Value.int IntKind.i32 n]) (And.intro ?_ ?_))
            · first | (go_simp; done) | (go_simp; exact ⟨rfl, rfl⟩) | (go_simp; rfl)
            show Calls _ _ _ _ (fun e u' => ∃ v, e = Ending.returned v ∧ v = Value.string (charS n) ∧ Below (Array.size (World.heap u)) u u')
            rotate_left
            refine' And.intro ?_ ?_
            · refine' rOp_run _ _ (Value.string s) hst (fun _ _ => rfl) (fun x u hC hd => ?_) (fun _ _ => upd_eq (v := Value.string s))
              refine' And.intro ?_ ?_
              · have d6 : x 6 = Value.bool true := at_edge hd 0 (by decide) rfl
                simp [Region.wanted, yielded, d6]
              · have d6 : x 6 = Value.bool true := at_edge hd 0 (by decide) rfl
                have hcu := (fun u (hC : Below wr.heap.size wr u) => trivial) u hC
                clear hd hC
                first | (go_simp; done) | (go_simp; rfl) | rfl
            refine' And.intro ?_ ?_
            · refine' rOp_run _ _ (Value.int IntKind.i64 (↑p : Int)) hst (fun _ _ => rfl) (fun x u hC hd => ?_) (fun _ _ => upd_eq (v := Value.int IntKind.i64 (↑p : Int)))
              refine' And.intro ?_ ?_
              · have d6 : x 6 = Value.bool true := at_edge hd 0 (by decide) rfl
                simp [Region.wanted, yielded, d6]
              · have d6 : x 6 = Value.bool true := at_edge hd 0 (by decide) rfl
                have hcu := (fun u (hC : Below wr.heap.size wr u) => trivial) u hC
                clear hd hC
                first | (go_simp; done) | (go_simp; rfl) | rfl
            refine' And.intro ?_ ?_
            · refine' rOp_run _ _ (Value.int IntKind.i64 (↑p : Int)) hst (fun _ _ => rfl) (fun x u hC hd => ?_) (fun _ _ => upd_eq (v := Value.int IntKind.i64 (↑p : Int)))
              refine' And.intro ?_ ?_
              · have d6 : x 6 = Value.bool true := at_edge hd 0 (by decide) rfl
                simp [Region.wanted, yielded, d6]
              · have d6 : x 6 = Value.bool true := at_edge hd 0 (by decide) rfl
                have hcu := (fun u (hC : Below wr.heap.size wr u) => trivial) u hC
                clear hd hC
                first | (go_simp; done) | (go_simp; rfl) | rfl
            refine' And.intro ?_ ?_
            · refine' rOp_run _ _ (Value.int IntKind.i64 ((↑k : Int) + 1)) hst (fun _ _ => rfl) (fun x u hC hd => ?_) (fun _ _ => upd_eq (v := Value.int IntKind.i64 ((↑k : Int) + 1)))
              refine' And.intro ?_ ?_
              · have d6 : x 6 = Value.bool true := at_edge hd 0 (by decide) rfl
                simp [Region.wanted, yielded, d6]
              · have d6 : x 6 = Value.bool true := at_edge hd 0 (by decide) rfl
                have hcu := (fun u (hC : Below wr.heap.size wr u) => trivial) u hC
                clear hd hC
                first | (go_simp; done) | (go_simp; rfl) | rfl
            refine' And.intro ?_ ?_
            · refine' rOp_run _ _ (Value.int IntKind.i64 ((↑p : Int) + ((↑k : Int) + 1))) hst (fun _ _ => rfl) (fun x u hC hd => ?_) (fun _ _ => upd_eq (v := Value.int IntKind.i64 ((↑p : Int) + ((↑k : Int) + 1))))
              refine' And.intro ?_ ?_
              · have d6 : x 6 = Value.bool true := at_edge hd 2 (by decide) rfl
                simp [Region.wanted, yielded, d6]
              · have d12 : x 12 = Value.int IntKind.i64 (↑p : Int) := at_edge hd 0 (by decide) rfl
                have d13 : x 13 = Value.int IntKind.i64 ((↑k : Int) + 1) := at_edge hd 1 (by decide) rfl
                have d6 : x 6 = Value.bool true := at_edge hd 2 (by decide) rfl
                have hcu := (fun u (hC : Below wr.heap.size wr u) => trivial) u hC
                clear hd hC
                first | (go_simp; done) | (go_simp; rfl) | rfl
            refine' And.intro ?_ ?_
            · refine' rOp_run _ _ (Value.string (ByteArray.extract s p (p + (k + 1)))) hst (fun _ _ => rfl) (fun x u hC hd => ?_) (fun _ _ => upd_eq (v := Value.string (ByteArray.extract s p (p + (k + 1)))))
              refine' And.intro ?_ ?_
              · have d6 : x 6 = Value.bool true := at_edge hd 3 (by decide) rfl
                simp [Region.wanted, yielded, d6]
              · have d10 : x 10 = Value.string s := at_edge hd 0 (by decide) rfl
                have d11 : x 11 = Value.int IntKind.i64 (↑p : Int) := at_edge hd 1 (by decide) rfl
                have d14 : x 14 = Value.int IntKind.i64 ((↑p : Int) + ((↑k : Int) + 1)) := at_edge hd 2 (by decide) rfl
                have d6 : x 6 = Value.bool true := at_edge hd 3 (by decide) rfl
                have hcu := (fun u (hC : Below wr.heap.size wr u) => trivial) u hC
                clear hd hC
                first | (go_simp; done) | (go_simp; rfl) | rfl
            refine' And.intro ?_ ?_
            · refine' rOp_run _ _ (Value.bool (ByteArray.toList (charS n) == ByteArray.toList (ByteArray.extract s p (p + (k + 1))))) hst (fun _ _ => rfl) (fun x u hC hd => ?_) (fun _ _ => upd_eq (v := Value.bool (ByteArray.toList (charS n) == ByteArray.toList (ByteArray.extract s p (p + (k + 1))))))
              refine' And.intro ?_ ?_
              · have d6 : x 6 = Value.bool true := at_edge hd 2 (by decide) rfl
                simp [Region.wanted, yielded, d6]
              · have d9 : x 9 = Value.string (charS n) := at_edge hd 0 (by decide) rfl
                have d15 : x 15 = Value.string (ByteArray.extract s p (p + (k + 1))) := at_edge hd 1 (by decide) rfl
                have d6 : x 6 = Value.bool true := at_edge hd 2 (by decide) rfl
                have hcu := (fun u (hC : Below wr.heap.size wr u) => trivial) u hC
                clear hd hC
                first | (go_simp; done) | (go_simp; rfl) | rfl
            exact trivial
            intro x u hC hphi
            have e0 : x 0 = Value.int IntKind.i64 n := hphi 0 (by decide) (by simp)
            have e1 : x 1 = Value.bool true := hphi 1 (by decide) (by simp)
            have e2 : x 2 = Value.bool true := hphi 2 (by decide) (by simp)
            have e3 : x 3 = Value.int IntKind.i64 n := hphi 3 (by decide) (by simp)
            have e4 : x 4 = Value.bool true := hphi 4 (by decide) (by simp)
            have e5 : x 5 = Value.bool true := hphi 5 (by decide) (by simp)
            have e6 : x 6 = Value.bool true := hphi 6 (by decide) (by simp)
            have e7 : x 7 = Value.int IntKind.i64 n := hphi 7 (by decide) (by simp)
            have e8 : x 8 = Value.int IntKind.i32 n := hphi 8 (by decide) (by simp)
            have e9 : x 9 = Value.string (charS n) := hphi 9 (by decide) (by simp)
            have e10 : x 10 = Value.string s := hphi 10 (by decide) (by simp)
            have e11 : x 11 = Value.int IntKind.i64 (↑p : Int) := hphi 11 (by decide) (by simp)
            have e12 : x 12 = Value.int IntKind.i64 (↑p : Int) := hphi 12 (by decide) (by simp)
            have e13 : x 13 = Value.int IntKind.i64 ((↑k : Int) + 1) := hphi 13 (by decide) (by simp)
            have e14 : x 14 = Value.int IntKind.i64 ((↑p : Int) + ((↑k : Int) + 1)) := hphi 14 (by decide) (by simp)
            have e15 : x 15 = Value.string (ByteArray.extract s p (p + (k + 1))) := hphi 15 (by decide) (by simp)
            have e16 : x 16 = Value.bool (ByteArray.toList (charS n) == ByteArray.toList (ByteArray.extract s p (p + (k + 1)))) := hphi 16 (by decide) (by simp)
            clear hphi
            rotate_left
            · refine (hch u).mono ?_
              rintro e w' ⟨rfl, hb⟩
              exact ⟨_, rfl, rfl, hb⟩
            · clear hw1 hw2 hw3 hw4 hw5 hw6 e0 e1 e2 e3 e4 e5 e7 e8 e9 e10 e11 e12 e13 e14 e15
              have hfin : Below w.heap.size w u := below2 hbw hC
              by_cases hch2 : charS n = s.extract p (p + (k + 1))
              · have hF : Hid (fitsAt s p (k + 1) = true) := Lib.hid (by rw [hfd.out, decide_eq_true_eq]; exact ⟨by omega, by omega, hch2⟩)
                replace hch2 := Lib.hid hch2
                go_wp2
                go_meet
                exact ⟨by rw [hF.out, hch2.out]; simp, hfin⟩
              · have hF : Hid (fitsAt s p (k + 1) = false) := Lib.hid (by rw [hfd.out, decide_eq_false_iff_not]; exact fun h => hch2 h.2.2)
                have hch3 := sne hch2
                replace hch2 := Lib.hid hch2
                go_wp2
                go_meet
                exact ⟨by rw [hF.out], hfin⟩
          case rest =>
          obtain ⟨rfl, hbc⟩ := hcut
          have hpre : 0 ≤ numAt s p (k + 1) k → numAt s p (k + 1) k ≤ 1114111 → IntKind.i32.wrap (numAt s p (k + 1) k) = numAt s p (k + 1) k := fun h1 h2 => IntWalk.i32_in _ (by omega)
          cases hF : fitsAt s p (k + 1) with
          | true =>
            have hr : R = (numAt s p (k + 1) k, ((k + 1 : Nat) : Int)) := by rw [← hGO'.out, if_pos hF]
            have hin : 0 ≤ numAt s p (k + 1) k ∧ numAt s p (k + 1) k ≤ 1114111 := by
              have := hfd.out
              rw [hF] at this
              have h2 := of_decide_eq_true this.symm
              exact ⟨h2.1, h2.2.1⟩
            obtain ⟨i1, i2⟩ := hin
            replace hr := Lib.hid hr
            clear hF hpre hGO'
            go_wp2
            go_ret2
            rw [hr.out]
            exact ⟨ret_pair rfl rfl, hbc⟩
          | false =>
            have hr : refAt s p f (k + 1 + 1) = R := by rw [← hGO'.out, if_neg (by rw [hF]; decide)]
            replace hr := Lib.hid hr
            clear hF hpre hGO'
            go_wp2
            refine ⟨⟨f, k + 2, by omega, by omega, by go_num, hr.out, hbc⟩, by simp [intOf]; omega⟩
    · rw [refAt, if_neg hle] at hgo
      have hgo' := Lib.hid hgo
      clear hgo
      have h4 : size ≤ 4 := by omega
      have hle' : (s.size : Int) < (p : Int) + (size : Int) := by omega
      go_wp2
      go_ret2
      refine ⟨?_, hbw⟩
      rw [← hgo'.out]
      rfl
end Go.Proofs.YtdgjgekefpfgiaaDoor
