/- varint.Get, the reference's Get. -/
import Derived.Test.YtdgjgekefpfgiaaDoorVpr
import Derived.Laws.Bits64b
namespace Go.Proofs.YtdgjgekefpfgiaaDoor
open Go.RowKit

theorem ret_num {a a' b b' c c' : Int} (h1 : a = a') (h2 : b = b') (h3 : c = c') : Ending.returned (.tuple #[.int .u64 a, .int .i64 b, .int .i64 c]) = .returned (.tuple #[.int .u64 a', .int .i64 b', .int .i64 c']) := by rw [h1, h2, h3]
def GetRet (r : Nat × Nat × Int) (w : World) (e : Ending) (w' : World) : Prop := e = .returned (.tuple #[.int .u64 r.1, .int .i64 r.2.1, .int .i64 r.2.2]) ∧ w = w'
def pw (i : Nat) : Nat := 128 ^ i
theorem and_bits (b : Nat) (hb : b < 256) : bits .and .u8 (b : Int) 127 = ((b % 128 : Nat) : Int) := by
  have h : ∀ k : Fin 256, bits .and .u8 ((k.val : Nat) : Int) 127 = ((k.val % 128 : Nat) : Int) := by decide +kernel
  exact h ⟨b, hb⟩
theorem pw_two (i : Nat) : pw i = 2 ^ (7 * i) := by rw [pw, show (128 : Nat) = 2 ^ 7 from rfl, Nat.pow_mul]
theorem pw_le {i : Nat} (h : i ≤ 8) : pw i * 128 ≤ 9223372036854775808 := by
  have := Nat.pow_le_pow_right (n := 128) (by decide) h
  rw [pw]
  omega
theorem or_shift (acc b i : Nat) (hacc : acc < pw i) (hi : i ≤ 9) (h9 : i = 9 → b % 128 ≤ 1) (hb : b < 256) :
    bits .or .u64 (acc : Int) (IntKind.u64.wrap (IntKind.u64.wrap (bits .and .u8 (b : Int) 127) * 2 ^ (7 * i))) = ((acc + pw i * (b % 128) : Nat) : Int) := by
  have hlt : pw i * (b % 128) < 18446744073709551616 ∧ pw i ≤ 9223372036854775808 := by
    rcases Nat.lt_or_ge i 9 with h | h
    · have h1 := pw_le (show i ≤ 8 by omega)
      have h2 := Nat.mul_le_mul_left (pw i) (show b % 128 ≤ 128 by omega)
      constructor <;> omega
    · obtain rfl : i = 9 := by omega
      have h1 : pw 9 = 9223372036854775808 := by decide
      have := h9 rfl
      have h2 := Nat.mul_le_mul_left (pw 9) this
      constructor <;> omega
  have w1 : IntKind.u64.wrap ((b % 128 : Nat) : Int) = ((b % 128 : Nat) : Int) := wrap_u64 (by omega) (by omega)
  have e1 : ((b % 128 : Nat) : Int) * 2 ^ (7 * i) = ((pw i * (b % 128) : Nat) : Int) := by
    rw [pw_two, Nat.mul_comm (2 ^ (7 * i)), Int.natCast_mul, Int.natCast_pow]
    rfl
  have w2 : IntKind.u64.wrap ((pw i * (b % 128) : Nat) : Int) = ((pw i * (b % 128) : Nat) : Int) := wrap_u64 (by omega) (by omega)
  rw [and_bits b hb, w1, e1, w2, bits_or_u64_nat _ _ (by omega) hlt.1]
  congr 1
  rw [pw_two] at hacc ⊢
  rw [Nat.or_comm, Nat.add_comm, Nat.two_pow_add_eq_or_of_lt hacc]
theorem pw_succ (i : Nat) : pw (i + 1) = pw i * 128 := Nat.pow_succ ..
theorem acc_lt {acc i d : Nat} (h : acc < pw i) (hd : d ≤ 127) : acc + pw i * d < pw (i + 1) := by
  have := Nat.mul_le_mul_left (pw i) hd
  rw [pw_succ]
  omega
set_option maxRecDepth 100000 in
set_option maxHeartbeats 2000000 in
theorem vget_any (s : ByteArray) (p : Int) (w : World) (hs : s.size ≤ 1000000) (hp : I64 p) : Calls Tryd.prog 157 #[.string s, .int .i64 p] w (GetRet (vget s p) w) := by
  by_cases h0 : p < 0
  · have hv : vget s p = (0, 0, 1) := if_pos (.inl h0)
    rw [hv]
    clear hv
    go_enter Tryd.func157, Tryd.ntmps157
    go_wp2
    go_ret3
    exact ⟨rfl, rfl⟩
  by_cases h1 : (s.size : Int) < p
  · have hv : vget s p = (0, 0, 1) := if_pos (.inr h1)
    rw [hv]
    clear hv
    go_enter Tryd.func157, Tryd.ntmps157
    go_wp2
    go_ret3
    exact ⟨rfl, rfl⟩
  obtain ⟨p, rfl⟩ := Int.eq_ofNat_of_zero_le (show 0 ≤ p by omega)
  have hps : p ≤ s.size := by omega
  have hv : vget s p = vgo s p 10 0 0 := by rw [vget, if_neg (by omega), Int.toNat_natCast]
  rw [hv]
  clear hv
  generalize hR : vgo s p 10 0 0 = R
  have HR := Lib.hid hR
  clear hR
  go_enter Tryd.func157, Tryd.ntmps157
  go_wp2
  go_loop [7, 8] (fun x y => ∃ (f i acc : Nat), i + f = 10 ∧ x = .int .u64 acc ∧ y = .int .i64 i ∧ acc < pw i ∧ 0 < f ∧ vgo s p f i acc = R) (fun _ y => 10 - (intOf y).toNat)
  case atStart => exact ⟨10, 0, 0, rfl, rfl, rfl, by decide, by decide, HR.out⟩
  case round =>
    obtain ⟨f, i, acc, hf, rfl, rfl, hacc, h10, hgo⟩ := hrel
    by_cases hi : p + i < s.size
    · obtain ⟨f, rfl⟩ : ∃ f', f = f' + 1 := by
        cases f with
        | zero => exact absurd h10 (by omega)
        | succ f => exact ⟨f, rfl⟩
      have hb := byt_get s (p + i) hi
      have hb256 := byt_lt s (p + i)
      rw [hb] at hb256
      rw [vgo, if_pos hi, hb] at hgo
      have HG := Lib.hid hgo
      clear hgo hb
      by_cases h9 : i = 9
      · subst h9
        by_cases hc : 1 < s[p + 9].toNat
        · have hcb : (1 : Int) < (s[p + 9].toNat : Int) := by omega
          have HR2 : Hid (R = (0, 0, 3)) := Lib.hid (by rw [← HG.out, if_pos (.inl ⟨rfl, hc⟩)])
          clear HG HR
          go_wp2
          go_ret3
          rw [HR2.out]
          exact ⟨rfl, rfl⟩
        · by_cases hz : s[p + 9].toNat = 0
          · have HR2 : Hid (R = (0, 0, 3)) := Lib.hid (by rw [← HG.out, if_pos (.inr ⟨hz, by decide⟩)])
            clear HG HR hc
            go_wp2
            go_ret3
            rw [HR2.out]
            exact ⟨rfl, rfl⟩
          · have h1 : s[p + 9].toNat = 1 := by omega
            have HR2 : Hid (R = (acc + pw 9, p + 9 + 1, 0)) := Lib.hid (by rw [← HG.out, if_neg (by omega), if_pos (by omega), h1]; simp [pw])
            have HO := Lib.hid (or_shift acc 1 9 hacc (by decide) (fun _ => by decide) (by decide))
            clear HG HR hc hz
            go_wp2
            go_ret3
            rw [HR2.out]
            exact ⟨ret_num (HO.out.trans (by simp)) (by simp only []; omega) rfl, rfl⟩
      · have h9b : ((i : Int) == 9) = false := by simp; omega
        by_cases hz : s[p + i].toNat = 0
        · by_cases hi0 : 0 < i
          · have HR2 : Hid (R = (0, 0, 3)) := Lib.hid (by rw [← HG.out, if_pos (.inr ⟨hz, hi0⟩)])
            clear HG HR
            go_wp2
            go_ret3
            rw [HR2.out]
            exact ⟨rfl, rfl⟩
          · obtain rfl : i = 0 := by omega
            have HR2 : Hid (R = (acc, p + 0 + 1, 0)) := Lib.hid (by rw [← HG.out, if_neg (by omega), if_pos (by omega), hz]; simp)
            have HO := Lib.hid (or_shift acc 0 0 hacc (by decide) (fun h => by cases h) (by decide))
            clear HG HR
            go_wp2
            go_ret3
            rw [HR2.out]
            exact ⟨ret_num (HO.out.trans (by simp)) (by simp only []; omega) rfl, rfl⟩
        · have hzb : ((s[p + i].toNat : Int) == 0) = false := by simp; omega
          have HO := Lib.hid (or_shift acc s[p + i].toNat i hacc (by omega) (fun h => absurd h h9) hb256)
          by_cases hlt : s[p + i].toNat < 128
          · have HR2 : Hid (R = (acc + pw i * s[p + i].toNat, p + i + 1, 0)) := Lib.hid (by rw [← HG.out, if_neg (by omega), if_pos hlt]; rfl)
            clear HG HR
            have hltb : (s[p + i].toNat : Int) < 128 := by omega
            go_wp2
            go_ret3
            rw [HR2.out]
            exact ⟨ret_num (HO.out.trans (by rw [Nat.mod_eq_of_lt hlt])) (by simp only []; omega) rfl, rfl⟩
          · have hge : (128 : Int) ≤ (s[p + i].toNat : Int) := by omega
            have hnext : vgo s p f (i + 1) (acc + pw i * (s[p + i].toNat % 128)) = R := by
              rw [← HG.out, if_neg (by omega), if_neg hlt, show s[p + i].toNat % 128 = s[p + i].toNat - 128 from by omega]
              rfl
            have HN := Lib.hid hnext
            clear HG HR hnext
            go_wp2
            go_round
            case rel => exact ⟨f, i + 1, _, by omega, by rw [HO.out], by go_num, acc_lt hacc (by omega), by omega, HN.out⟩
            case measure => simp [intOf]; omega
    · have HR2 : Hid (R = (0, 0, 2)) := Lib.hid (by
        rw [← hgo]
        cases f with
        | zero => exact absurd h10 (by omega)
        | succ f => rw [vgo, if_neg hi])
      clear hgo HR
      go_wp2
      go_ret3
      rw [HR2.out]
      exact ⟨rfl, rfl⟩
end Go.Proofs.YtdgjgekefpfgiaaDoor
