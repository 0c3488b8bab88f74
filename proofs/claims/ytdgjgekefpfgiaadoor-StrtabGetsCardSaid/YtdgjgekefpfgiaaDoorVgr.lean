/- The reference's Get of numbers. -/
import Derived.Test.YtdgjgekefpfgiaaDoorVgt
namespace Go.Proofs.YtdgjgekefpfgiaaDoor
open Go.RowKit

theorem acc_val {acc b i : Nat} (hacc : acc < pw i) (hi : i ≤ 9) (h9 : i = 9 → b % 128 ≤ 1) : pw i * (b % 128) < 18446744073709551616 ∧ acc + pw i * (b % 128) < 18446744073709551616 ∧ pw i ≤ 9223372036854775808 := by
  rcases Nat.lt_or_ge i 9 with h | h
  · have h1 := pw_le (show i ≤ 8 by omega)
    have h2 := Nat.mul_le_mul_left (pw i) (show b % 128 ≤ 127 by omega)
    omega
  · obtain rfl : i = 9 := by omega
    have h1 : pw 9 = 9223372036854775808 := by decide
    have := h9 rfl
    have h2 := Nat.mul_le_mul_left (pw 9) this
    omega
theorem wval {acc b i : Nat} (h1 : pw i * (b % 128) < 18446744073709551616) (h2 : acc + pw i * (b % 128) < 18446744073709551616) :
    IntKind.u64.wrap ((acc : Int) + IntKind.u64.wrap ((pw i : Int) * ((b : Int) % 128))) = ((acc + pw i * (b % 128) : Nat) : Int) := by
  have e : (pw i : Int) * ((b : Int) % 128) = ((pw i * (b % 128) : Nat) : Int) := by rw [Int.natCast_mul, Int.natCast_emod]; rfl
  have w1 : IntKind.u64.wrap ((pw i * (b % 128) : Nat) : Int) = ((pw i * (b % 128) : Nat) : Int) := wrap_u64 (by omega) (by omega)
  rw [e, w1, wrap_u64 (by omega) (by omega)]
  omega
set_option maxRecDepth 100000 in
set_option maxHeartbeats 2000000 in
theorem refVget_any (s : ByteArray) (p : Int) (w : World) (hs : s.size ≤ 1000000) (hp : I64 p) : Calls Tryd.prog 142 #[.string s, .int .i64 p] w (GetRet (vget s p) w) := by
  by_cases h0 : p < 0
  · have hv : vget s p = (0, 0, 1) := if_pos (.inl h0)
    rw [hv]
    clear hv
    go_enter Tryd.func142, Tryd.ntmps142
    go_wp2
    go_ret3
    exact ⟨rfl, rfl⟩
  by_cases h1 : (s.size : Int) < p
  · have hv : vget s p = (0, 0, 1) := if_pos (.inr h1)
    rw [hv]
    clear hv
    go_enter Tryd.func142, Tryd.ntmps142
    go_wp2
    go_ret3
    exact ⟨rfl, rfl⟩
  obtain ⟨p, rfl⟩ := Int.eq_ofNat_of_zero_le (show 0 ≤ p by omega)
  have hps : p ≤ s.size := by omega
  have hv : vget s p = vgo s p 10 0 0 := by rw [vget, if_neg (by omega), Int.toNat_natCast]
  rw [hv]
  clear hv
  generalize hR : vgo s p 10 0 0 = R
  have HR := Lib.hid hR
  clear hR
  go_enter Tryd.func142, Tryd.ntmps142
  go_wp2
  go_loop [7, 8, 9] (fun x z y => ∃ (f i acc : Nat), i + f = 10 ∧ x = .int .u64 acc ∧ z = .int .u64 (pw i) ∧ y = .int .i64 ((p + i : Nat) : Int) ∧ acc < pw i ∧ 0 < f ∧ vgo s p f i acc = R) (fun _ _ y => 10 + p - (intOf y).toNat)
  case atStart => exact ⟨10, 0, 0, rfl, rfl, rfl, rfl, by decide, by decide, HR.out⟩
  case round =>
    obtain ⟨f, i, acc, hf, rfl, rfl, rfl, hacc, h10, hgo⟩ := hrel
    by_cases hi : p + i < s.size
    · obtain ⟨f, rfl⟩ : ∃ f', f = f' + 1 := by
        cases f with
        | zero => exact absurd h10 (by omega)
        | succ f => exact ⟨f, rfl⟩
      have hb := byt_get s (p + i) hi
      have hb256 := byt_lt s (p + i)
      rw [hb] at hb256
      rw [vgo, if_pos hi, hb] at hgo
      have HG := Lib.hid hgo
      clear hgo hb
      have hsub : IntKind.i64.wrap (((p + i : Nat) : Int) - (p : Int)) = (i : Int) := by
        rw [IntWalk.i64_in _ (by omega)]
        omega
      have hin : (p : Int) < ((p + i : Nat) : Int) ↔ 0 < i := by omega
      by_cases h9 : i = 9
      · subst h9
        by_cases hc : 1 < s[p + 9].toNat
        · have hcb : (1 : Int) < (s[p + 9].toNat : Int) := by omega
          have HR2 : Hid (R = (0, 0, 3)) := Lib.hid (by rw [← HG.out, if_pos (.inl ⟨rfl, hc⟩)])
          clear HG HR
          go_wp2
          go_ret3
          rw [HR2.out]
          exact ⟨rfl, rfl⟩
        · by_cases hz : s[p + 9].toNat = 0
          · have HR2 : Hid (R = (0, 0, 3)) := Lib.hid (by rw [← HG.out, if_pos (.inr ⟨hz, by decide⟩)])
            have hpi : (p : Int) < ((p + 9 : Nat) : Int) := by omega
            clear HG HR hc
            go_wp2
            go_ret3
            rw [HR2.out]
            exact ⟨rfl, rfl⟩
          · have h1 : s[p + 9].toNat = 1 := by omega
            have HR2 : Hid (R = (acc + pw 9 * (1 % 128), p + 9 + 1, 0)) := Lib.hid (by rw [← HG.out, if_neg (by omega), if_pos (by omega), h1]; rfl)
            have hval := acc_val (b := 1) hacc (by decide) (fun _ => by decide)
            clear HG HR hc hz
            go_wp2
            go_ret3
            rw [HR2.out]
            exact ⟨ret_num (by simp only []; omega) (by simp only []; omega) rfl, rfl⟩
      · have h9b : ((i : Int) == 9) = false := by simp; omega
        by_cases hz : s[p + i].toNat = 0
        · by_cases hi0 : 0 < i
          · have HR2 : Hid (R = (0, 0, 3)) := Lib.hid (by rw [← HG.out, if_pos (.inr ⟨hz, hi0⟩)])
            have hpi : (p : Int) < ((p + i : Nat) : Int) := by omega
            clear HG HR
            go_wp2
            go_ret3
            rw [HR2.out]
            exact ⟨rfl, rfl⟩
          · obtain rfl : i = 0 := by omega
            have HR2 : Hid (R = (acc + pw 0 * (0 % 128), p + 0 + 1, 0)) := Lib.hid (by rw [← HG.out, if_neg (by omega), if_pos (by omega), hz]; rfl)
            clear HG HR
            go_wp2
            go_ret3
            rw [HR2.out]
            exact ⟨ret_num (by rw [wrap_u64 (by omega) (by have : pw 0 = 1 := rfl; omega)]; simp only []; omega) (by simp only []; omega) rfl, rfl⟩
        · have hzb : ((s[p + i].toNat : Int) == 0) = false := by simp; omega
          have hval := acc_val (b := s[p + i].toNat) hacc (by omega) (fun h => absurd h h9)
          by_cases hlt : s[p + i].toNat < 128
          · have HR2 : Hid (R = (acc + pw i * s[p + i].toNat, p + i + 1, 0)) := Lib.hid (by rw [← HG.out, if_neg (by omega), if_pos hlt]; rfl)
            clear HG HR
            have hltb : (s[p + i].toNat : Int) < 128 := by omega
            go_wp2
            go_ret3
            rw [HR2.out]
            exact ⟨ret_num (by rw [wval hval.1 hval.2.1, Nat.mod_eq_of_lt hlt]) (by simp only []; omega) rfl, rfl⟩
          · have hge : (128 : Int) ≤ (s[p + i].toNat : Int) := by omega
            have hnext : vgo s p f (i + 1) (acc + pw i * (s[p + i].toNat % 128)) = R := by
              rw [← HG.out, if_neg (by omega), if_neg hlt, show s[p + i].toNat % 128 = s[p + i].toNat - 128 from by omega]
              rfl
            have HN := Lib.hid hnext
            clear HG HR hnext
            go_wp2
            refine ⟨⟨f, i + 1, acc + pw i * (s[p + i].toNat % 128), by omega, by rw [wval hval.1 hval.2.1], ?_, by go_num, acc_lt hacc (by omega), by omega, HN.out⟩, by simp [intOf]; omega⟩
            have h8 := pw_le (show i ≤ 8 by omega)
            rw [pw_succ, wrap_u64 (by omega) (by omega)]
            rfl
    · have HR2 : Hid (R = (0, 0, 2)) := Lib.hid (by
        rw [← hgo]
        cases f with
        | zero => exact absurd h10 (by omega)
        | succ f => rw [vgo, if_neg hi])
      have hge : (s.size : Int) ≤ ((p + i : Nat) : Int) := by omega
      clear hgo HR
      go_wp2
      go_ret3
      rw [HR2.out]
      exact ⟨rfl, rfl⟩
end Go.Proofs.YtdgjgekefpfgiaaDoor
