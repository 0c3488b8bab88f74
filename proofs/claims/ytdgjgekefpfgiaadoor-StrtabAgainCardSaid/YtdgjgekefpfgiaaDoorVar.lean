/- Numbers by groups of seven bits: what the document says, and that what is put is got. No program in sight. -/
import Derived.Test.YtdgjgekefpfgiaaDoorDat
namespace Go.Proofs.YtdgjgekefpfgiaaDoor

/-- A number's bytes. -/
def vput (n : Nat) : List UInt8 := if h : n < 128 then [UInt8.ofNat n] else UInt8.ofNat (128 + n % 128) :: vput (n / 128)
termination_by n
decreasing_by omega
theorem vput_lt {n : Nat} (h : n < 128) : vput n = [UInt8.ofNat n] := by rw [vput, dif_pos h]
theorem vput_ge {n : Nat} (h : ¬ n < 128) : vput n = UInt8.ofNat (128 + n % 128) :: vput (n / 128) := by rw [vput, dif_neg h]
/-- The byte at a place, as a number; 0 behind the end. -/
def byt (s : ByteArray) (p : Nat) : Nat := (s.data.toList[p]?.getD 0).toNat
theorem byt_lt (s : ByteArray) (p : Nat) : byt s p < 256 := UInt8.toNat_lt _
theorem byt_get (s : ByteArray) (p : Nat) (h : p < s.size) : byt s p = (s[p]'h).toNat := by
  have : s.data.toList[p]? = some (s[p]'h) := by
    rw [Array.getElem?_toList, Array.getElem?_eq_getElem (by simpa using h)]
    rfl
  rw [byt, this]
  rfl
/-- The number at place p, its first i groups read: number, the place behind it, an error. -/
def vgo (s : ByteArray) (p : Nat) : Nat → Nat → Nat → Nat × Nat × Int
  | 0, _, _ => (0, 0, 3)
  | f + 1, i, n =>
    if p + i < s.size then
      if (i = 9 ∧ 1 < byt s (p + i)) ∨ (byt s (p + i) = 0 ∧ 0 < i) then (0, 0, 3)
      else if byt s (p + i) < 128 then (n + 128 ^ i * byt s (p + i), p + i + 1, 0)
      else vgo s p f (i + 1) (n + 128 ^ i * (byt s (p + i) - 128))
    else (0, 0, 2)
def vget (s : ByteArray) (p : Int) : Nat × Nat × Int := if p < 0 ∨ s.size < p then (0, 0, 1) else vgo s p.toNat 10 0 0

/-- How many bytes. -/
theorem vput_pos (n : Nat) : 0 < (vput n).length := by
  rw [vput]
  split <;> simp
theorem vput_len : ∀ (k n : Nat), n < 128 ^ k → 0 < k → (vput n).length ≤ k
  | 0, _, _, h => by omega
  | k + 1, n, hn, _ => by
    rw [vput]
    split
    · simp
    · rename_i h
      rw [Nat.pow_succ] at hn
      have h1 : n / 128 < 128 ^ k := Nat.div_lt_of_lt_mul (by omega)
      have hk : 0 < k := by
        rcases Nat.eq_zero_or_pos k with rfl | h2
        · simp at h1; omega
        · exact h2
      have := vput_len k (n / 128) h1 hk
      simp only [List.length_cons]
      omega
/-- The bytes of l stand at place p. -/
def Stand (s : ByteArray) (p : Nat) (l : List UInt8) : Prop := ∀ i x, l[i]? = some x → s.data.toList[p + i]? = some x
theorem Stand.tail {s : ByteArray} {p : Nat} {a : UInt8} {l : List UInt8} (h : Stand s p (a :: l)) : Stand s (p + 1) l := fun i x hi => by
  have := h (i + 1) x (by simpa using hi)
  rwa [show p + (i + 1) = p + 1 + i from by omega] at this
theorem Stand.head {s : ByteArray} {p : Nat} {a : UInt8} {l : List UInt8} (h : Stand s p (a :: l)) : p < s.size ∧ byt s p = a.toNat := by
  have := h 0 a rfl
  rw [Nat.add_zero] at this
  refine ⟨?_, by rw [byt, this]; rfl⟩
  obtain ⟨h1, _⟩ := List.getElem?_eq_some_iff.1 this
  simpa using h1
/-- What is put is got, behind i groups that were read. -/
theorem vgo_put (s : ByteArray) (p : Nat) : ∀ (f i n acc : Nat), i + f = 10 → 0 < f → n * 128 ^ i < 18446744073709551616 → (0 < i → 0 < n) → Stand s (p + i) (vput n) → vgo s p f i acc = (acc + 128 ^ i * n, p + i + (vput n).length, 0)
  | 0, _, _, _, _, h, _, _, _ => by omega
  | f + 1, i, n, acc, hf, _, hn, hi, hs => by
    have h9 : i = 9 → n ≤ 1 := by
      rintro rfl
      rcases Nat.lt_or_ge 1 n with h | h
      · have := Nat.mul_le_mul_right (128 ^ 9) (show 2 ≤ n from h)
        omega
      · exact h
    by_cases h : n < 128
    · rw [vput_lt h] at hs ⊢
      obtain ⟨h1, h2⟩ := hs.head
      have e : byt s (p + i) = n := by rw [h2]; simp [UInt8.toNat_ofNat']; omega
      rw [vgo, if_pos h1, e, if_neg (by omega), if_pos h]
      rfl
    · rw [vput_ge h] at hs ⊢
      obtain ⟨h1, h2⟩ := hs.head
      have e : byt s (p + i) = 128 + n % 128 := by rw [h2]; simp [UInt8.toNat_ofNat']; omega
      have hn2 : n / 128 * 128 ^ (i + 1) < 18446744073709551616 := by
        have h3 : n / 128 * 128 ≤ n := Nat.div_mul_le_self n 128
        have h4 := Nat.mul_le_mul_right (128 ^ i) h3
        rw [Nat.pow_succ, Nat.mul_comm (128 ^ i) 128, ← Nat.mul_assoc]
        omega
      rw [vgo, if_pos h1, e, if_neg (by omega), if_neg (by omega)]
      have hlt : i < 9 := by
        have := h9
        omega
      rw [vgo_put s p f (i + 1) (n / 128) _ (by omega) (by omega) hn2 (fun _ => by omega) (by have := hs.tail; rwa [Nat.add_assoc] at this)]
      simp only [List.length_cons, Prod.mk.injEq, and_true]
      refine ⟨?_, by omega⟩
      rw [Nat.add_assoc, show 128 + n % 128 - 128 = n % 128 from by omega, Nat.pow_succ, Nat.mul_assoc, ← Nat.mul_add]
      congr 2
      omega
theorem vget_put {s : ByteArray} {p n : Nat} (hn : n < 18446744073709551616) (hs : Stand s p (vput n)) : vget s p = (n, p + (vput n).length, 0) := by
  have hp : p ≤ s.size := by
    have : ∃ a l, vput n = a :: l := by
      have := vput_pos n
      match vput n, this with
      | a :: l, _ => exact ⟨a, l, rfl⟩
    obtain ⟨a, l, e⟩ := this
    rw [e] at hs
    have := hs.head.1
    omega
  rw [vget, if_neg (by omega), Int.toNat_natCast, vgo_put s p 10 0 n 0 rfl (by decide) (by simpa using hn) (by omega) hs]
  simp
/-- What is got stands there as it is put. -/
theorem vgo_get (s : ByteArray) (p : Nat) : ∀ (f i acc n q : Nat), i + f = 10 → vgo s p f i acc = (n, q, 0) → ∃ m, n = acc + 128 ^ i * m ∧ (0 < i → 0 < m) ∧ m * 128 ^ i < 18446744073709551616 ∧ Stand s (p + i) (vput m) ∧ q = p + i + (vput m).length ∧ q ≤ s.size
  | 0, _, _, _, _, _, h => by simp [vgo] at h
  | f + 1, i, acc, n, q, hf, h => by
    rw [vgo] at h
    split at h
    · rename_i hp
      split at h
      · simp at h
      · rename_i h1
        have hx : s.data.toList[p + i]? = some (UInt8.ofNat (byt s (p + i))) := by
          rw [byt_get s _ hp, UInt8.ofNat_toNat, Array.getElem?_toList, Array.getElem?_eq_getElem (by simpa using hp)]
          rfl
        split at h
        · rename_i h2
          simp only [Prod.mk.injEq, and_true] at h
          obtain ⟨rfl, rfl⟩ := h
          refine ⟨byt s (p + i), rfl, by omega, ?_, ?_, by rw [vput_lt h2]; rfl, by omega⟩
          · rcases Nat.lt_or_ge i 9 with h3 | h3
            · have := Nat.mul_le_mul (show byt s (p + i) ≤ 127 by omega) (Nat.pow_le_pow_right (n := 128) (by decide) (show i ≤ 8 by omega))
              omega
            · obtain rfl : i = 9 := by omega
              have := Nat.mul_le_mul_right (128 ^ 9) (show byt s (p + 9) ≤ 1 by omega)
              omega
          · rw [vput_lt h2]
            intro j x hj
            match j, hj with
            | 0, hj =>
              simp at hj
              subst hj
              simpa using hx
        · rename_i h2
          obtain ⟨m, e, h3, h4, h5, h6, h7⟩ := vgo_get s p f (i + 1) _ n q (by omega) h
          have hb := byt_lt s (p + i)
          have e1 : (128 * m + (byt s (p + i) - 128)) / 128 = m := by omega
          have e2 : (128 * m + (byt s (p + i) - 128)) % 128 = byt s (p + i) - 128 := by omega
          have hm := h3 (by omega)
          have e3 : vput (128 * m + (byt s (p + i) - 128)) = UInt8.ofNat (byt s (p + i)) :: vput m := by
            rw [vput_ge (by omega), e1, e2, show 128 + (byt s (p + i) - 128) = byt s (p + i) from by omega]
          refine ⟨128 * m + (byt s (p + i) - 128), ?_, by omega, ?_, ?_, ?_, h7⟩
          · rw [e, Nat.pow_succ, Nat.mul_add, Nat.mul_assoc]
            omega
          · rw [Nat.pow_succ] at h4
            rcases Nat.lt_or_ge i 9 with h8 | h8
            · have hk : byt s (p + i) - 128 + 1 ≤ 128 := by omega
              -- m·128^(i+1) < 2^64 means m·128^(i+1) ≤ 2^64 - 128^(i+1)
              have hq : m * (128 ^ i * 128) + 128 ^ i * 128 ≤ 18446744073709551616 ∨ 64 ≤ 7 * (i + 1) := by
                rcases Nat.lt_or_ge (7 * (i + 1)) 64 with h9 | h9
                · left
                  obtain ⟨d, hd⟩ : ∃ d, 18446744073709551616 = d * (128 ^ i * 128) := by
                    refine ⟨2 ^ (64 - 7 * (i + 1)), ?_⟩
                    have : (128 : Nat) ^ i * 128 = 2 ^ (7 * (i + 1)) := by rw [← Nat.pow_succ, Nat.pow_mul]
                    rw [this, ← Nat.pow_add, show 64 - 7 * (i + 1) + 7 * (i + 1) = 64 from by omega]
                  rw [hd] at h4 ⊢
                  have h10 : m < d := Nat.lt_of_mul_lt_mul_right h4
                  have := Nat.mul_le_mul_right (128 ^ i * 128) (show m + 1 ≤ d from h10)
                  rw [Nat.succ_mul] at this
                  omega
                · exact .inr h9
              rcases hq with hq | hq
              · have h11 : (128 * m + (byt s (p + i) - 128)) * 128 ^ i + 128 ^ i ≤ m * (128 ^ i * 128) + 128 ^ i * 128 := by
                  have := Nat.mul_le_mul_right (128 ^ i) hk
                  rw [Nat.add_mul, Nat.one_mul] at this
                  rw [Nat.add_mul, Nat.mul_comm 128 m, Nat.mul_assoc, Nat.mul_comm 128 (128 ^ i)]
                  omega
                have : 0 < 128 ^ i := Nat.pow_pos (by decide)
                omega
              · omega
            · obtain rfl : i = 9 := by omega
              exfalso
              obtain rfl : f = 0 := by omega
              simp [vgo] at h
          · rw [e3]
            intro j x hj
            cases j with
            | zero =>
              simp at hj
              subst hj
              simpa using hx
            | succ j =>
              have := h5 j x (by simpa using hj)
              rwa [show p + i + (j + 1) = p + (i + 1) + j from by omega]
          · rw [h6, e3, List.length_cons]
            omega
    · simp at h
theorem vget_get {s : ByteArray} {p n q : Nat} (h : vget s p = (n, q, 0)) : n < 18446744073709551616 ∧ Stand s p (vput n) ∧ q = p + (vput n).length ∧ q ≤ s.size := by
  rw [vget] at h
  split at h
  · simp at h
  · rw [Int.toNat_natCast] at h
    obtain ⟨m, e, -, h2, h3, h4, h5⟩ := vgo_get s p 10 0 0 n q rfl h
    simp at e h2 h3 h4
    subst e
    exact ⟨h2, h3, h4, h5⟩
end Go.Proofs.YtdgjgekefpfgiaaDoor
