/- Characters and their bytes: the reference's way and the program's are one. No program in sight. -/
import Derived.Test.YtdgjgekefpfgiaaDoorVar
import Derived.Lib.DecodeN
namespace Go.Proofs.YtdgjgekefpfgiaaDoor

/-- A character's bytes. -/
def charL (c : Int) : List UInt8 :=
  if c < 0 ∨ 1114111 < c ∨ (55296 ≤ c ∧ c ≤ 57343) then []
  else if c < 128 then [UInt8.ofNat c.toNat]
  else if c < 2048 then [UInt8.ofNat (192 + c.toNat / 64), UInt8.ofNat (128 + c.toNat % 64)]
  else if c < 65536 then [UInt8.ofNat (224 + c.toNat / 4096), UInt8.ofNat (128 + c.toNat / 64 % 64), UInt8.ofNat (128 + c.toNat % 64)]
  else [UInt8.ofNat (240 + c.toNat / 262144), UInt8.ofNat (128 + c.toNat / 4096 % 64), UInt8.ofNat (128 + c.toNat / 64 % 64), UInt8.ofNat (128 + c.toNat % 64)]
def charS (c : Int) : ByteArray := ⟨(charL c).toArray⟩
/-- The number that so many bytes at a place make, k of them read. -/
def numAt (s : ByteArray) (p size : Nat) : Nat → Int
  | 0 => (byt s p : Int) - (if size = 2 then 192 else if size = 3 then 224 else if size = 4 then 240 else 0)
  | k + 1 => 64 * numAt s p size k + (byt s (p + (k + 1)) : Int) - 128
def fitsAt (s : ByteArray) (p size : Nat) : Bool := decide (0 ≤ numAt s p size (size - 1) ∧ numAt s p size (size - 1) ≤ 1114111 ∧ charS (numAt s p size (size - 1)) = s.extract p (p + size))
/-- The character at a place, and how many bytes it has, from a size on. -/
def refAt (s : ByteArray) (p : Nat) : Nat → Nat → Int × Int
  | 0, _ => (0, 0)
  | f + 1, size => if p + size ≤ s.size then (if fitsAt s p size = true then (numAt s p size (size - 1), size) else refAt s p f (size + 1)) else (0, 0)

theorem extract_list (s : ByteArray) (p n : Nat) (h : p + n ≤ s.size) : (s.extract p (p + n)).data.toList = (List.range n).map fun i => UInt8.ofNat (byt s (p + i)) := by
  apply List.ext_getElem
  · simp; omega
  · intro i h1 h2
    simp only [List.getElem_map, List.getElem_range]
    have hi : i < n := by simpa using h2
    rw [byt_get s (p + i) (by omega), UInt8.ofNat_toNat]
    simp [ByteArray.data_extract]
    rfl
theorem chars_eq (s : ByteArray) (p n : Nat) (l : List UInt8) (h : p + n ≤ s.size) : (⟨l.toArray⟩ : ByteArray) = s.extract p (p + n) ↔ l.map (·.toNat) = (List.range n).map fun i => byt s (p + i) := by
  have e := extract_list s p n h
  constructor
  · intro h1
    have h2 : l = (s.extract p (p + n)).data.toList := by rw [← h1]
    rw [h2, e, List.map_map]
    apply List.map_congr_left
    intro i _
    have := byt_lt s (p + i)
    simp [UInt8.toNat_ofNat']
    omega
  · intro h1
    have h2 : l = (s.extract p (p + n)).data.toList := by
      rw [e]
      have h3 := congrArg (List.map UInt8.ofNat) h1
      rw [List.map_map, List.map_map] at h3
      have h4 : (UInt8.ofNat ∘ fun x : UInt8 => x.toNat) = id := by
        funext x
        simp
      rw [h4, List.map_id] at h3
      exact h3
    rw [h2]
theorem byt_bang (s : ByteArray) (p : Nat) : (s.get! p).toNat = byt s p := by
  by_cases h : p < s.size
  · rw [byt_get s p h]
    simp [ByteArray.get!, h]
    rfl
  · have h1 : s.data.toList[p]? = none := by
      rw [List.getElem?_eq_none_iff]
      simpa using Nat.le_of_not_lt h
    rw [byt, h1]
    have h2 : s.data[p]! = 0 := getElem!_neg s.data p h
    simp [ByteArray.get!, h2]
/-- No character stands at p. -/
def badAt (s : ByteArray) (p : Nat) : Bool := decide ((Utf8.decode s p).1 = 65533 ∧ (Utf8.decode s p).2 ≤ 1)
def firstF (s : ByteArray) : Nat → Nat → Int
  | 0, _ => -1
  | f + 1, p => if p < s.size then (if badAt s p = true then p else firstF s f (p + (Utf8.decode s p).2)) else -1
/-- Where a text is no UTF-8 any more; -1. -/
def firstS (s : ByteArray) : Int := firstF s s.size 0
def rightS (s : ByteArray) : Bool := decide (firstS s < 0)


theorem numAt_1 (s : ByteArray) (p : Nat) : numAt s p 1 0 = byt s p := by simp [numAt]
theorem numAt_2 (s : ByteArray) (p : Nat) : numAt s p 2 1 = 64 * ((byt s p : Int) - 192) + byt s (p + 1) - 128 := by simp [numAt]
theorem numAt_3 (s : ByteArray) (p : Nat) : numAt s p 3 2 = 64 * (64 * ((byt s p : Int) - 224) + byt s (p + 1) - 128) + byt s (p + 2) - 128 := by simp [numAt]
theorem numAt_4 (s : ByteArray) (p : Nat) : numAt s p 4 3 = 64 * (64 * (64 * ((byt s p : Int) - 240) + byt s (p + 1) - 128) + byt s (p + 2) - 128) + byt s (p + 3) - 128 := by simp [numAt]
theorem charL_nats (c : Int) : (charL c).map (·.toNat) =
  if c < 0 ∨ 1114111 < c ∨ (55296 ≤ c ∧ c ≤ 57343) then []
  else if c < 128 then [c.toNat]
  else if c < 2048 then [192 + c.toNat / 64, 128 + c.toNat % 64]
  else if c < 65536 then [224 + c.toNat / 4096, 128 + c.toNat / 64 % 64, 128 + c.toNat % 64]
  else [240 + c.toNat / 262144, 128 + c.toNat / 4096 % 64, 128 + c.toNat / 64 % 64, 128 + c.toNat % 64] := by
  unfold charL
  repeat' split
  all_goals (simp only [List.map_cons, List.map_nil, UInt8.toNat_ofNat', List.cons.injEq, and_true])
  all_goals first | omega | exact ⟨by omega, by omega⟩ | exact ⟨by omega, by omega, by omega⟩ | exact ⟨by omega, by omega, by omega, by omega⟩
theorem fits_iff (s : ByteArray) (p n : Nat) (h : p + n ≤ s.size) : fitsAt s p n = true ↔ (0 ≤ numAt s p n (n - 1) ∧ numAt s p n (n - 1) ≤ 1114111 ∧ (charL (numAt s p n (n - 1))).map (·.toNat) = (List.range n).map fun i => byt s (p + i)) := by
  rw [fitsAt, decide_eq_true_eq, charS, chars_eq s p n _ h]

set_option maxRecDepth 100000 in
set_option maxHeartbeats 4000000 in
/-- The reference's way and the program's are one. -/
theorem refAt_eq (s : ByteArray) (p : Nat) (hp : p < s.size) : refAt s p 4 1 = if badAt s p = true then (0, 0) else (((Utf8.decode s p).1 : Int), ((Utf8.decode s p).2 : Int)) := by
  have b0 := byt_lt s p
  have b1 := byt_lt s (p + 1)
  have b2 := byt_lt s (p + 2)
  have b3 := byt_lt s (p + 3)
  have hd : Utf8.decode s p = Lib.decodeN (s.size - p) (byt s p) (byt s (p + 1)) (byt s (p + 2)) (byt s (p + 3)) := by
    rw [Lib.decode_at, byt_bang, byt_bang, byt_bang, byt_bang]
  have f1 : fitsAt s p 1 = true ↔ byt s p < 128 := by
    rw [fits_iff s p 1 (by omega)]
    simp only [Nat.sub_self, numAt_1, charL_nats, List.range_succ, List.range_zero, List.nil_append, List.map_cons, List.map_nil, Nat.add_zero]
    constructor
    · rintro ⟨h1, h2, h3⟩
      repeat' split at h3
      all_goals simp only [List.cons.injEq, List.nil_eq, reduceCtorEq, and_false, and_true] at h3
      all_goals omega
    · intro h
      rw [if_neg (by omega), if_pos (by omega)]
      exact ⟨by omega, by omega, by simp⟩
  have f2 : p + 2 ≤ s.size → (fitsAt s p 2 = true ↔ byt s p / 32 = 6 ∧ byt s (p + 1) / 64 = 2 ∧ 128 ≤ byt s p % 32 * 64 + byt s (p + 1) % 64) := by
    intro hs
    rw [fits_iff s p 2 (by omega)]
    simp only [show 2 - 1 = 1 from rfl, numAt_2, charL_nats, List.range_succ, List.range_zero, List.nil_append, List.map_cons, List.map_nil, Nat.add_zero, List.map_append, List.cons_append]
    generalize hn : 64 * ((byt s p : Int) - 192) + (byt s (p + 1) : Int) - 128 = n
    constructor
    · rintro ⟨h1, h2, h3⟩
      obtain ⟨m, rfl⟩ := Int.eq_ofNat_of_zero_le h1
      simp only [Int.toNat_natCast] at h3
      repeat' split at h3
      all_goals simp only [List.cons.injEq, List.nil_eq, reduceCtorEq, and_false, and_true] at h3
      all_goals omega
    · rintro ⟨h1, h2, h3⟩
      obtain ⟨m, rfl⟩ := Int.eq_ofNat_of_zero_le (show 0 ≤ n by omega)
      simp only [Int.toNat_natCast]
      rw [if_neg (by omega), if_neg (by omega), if_pos (by omega)]
      refine ⟨by omega, by omega, ?_⟩
      simp only [List.cons.injEq, and_true]
      omega
  have f3 : p + 3 ≤ s.size → (fitsAt s p 3 = true ↔ byt s p / 16 = 14 ∧ byt s (p + 1) / 64 = 2 ∧ byt s (p + 2) / 64 = 2 ∧ 2048 ≤ byt s p % 16 * 4096 + byt s (p + 1) % 64 * 64 + byt s (p + 2) % 64 ∧
      (byt s p % 16 * 4096 + byt s (p + 1) % 64 * 64 + byt s (p + 2) % 64 < 55296 ∨ 57344 ≤ byt s p % 16 * 4096 + byt s (p + 1) % 64 * 64 + byt s (p + 2) % 64)) := by
    intro hs
    rw [fits_iff s p 3 (by omega)]
    simp only [show 3 - 1 = 2 from rfl, numAt_3, charL_nats, List.range_succ, List.range_zero, List.nil_append, List.map_cons, List.map_nil, Nat.add_zero, List.map_append, List.cons_append]
    generalize hn : 64 * (64 * ((byt s p : Int) - 224) + (byt s (p + 1) : Int) - 128) + (byt s (p + 2) : Int) - 128 = n
    constructor
    · rintro ⟨h1, h2, h3⟩
      obtain ⟨m, rfl⟩ := Int.eq_ofNat_of_zero_le h1
      simp only [Int.toNat_natCast] at h3
      repeat' split at h3
      all_goals simp only [List.cons.injEq, List.nil_eq, reduceCtorEq, and_false, and_true] at h3
      all_goals omega
    · rintro ⟨h1, h2, h4, h5, h6⟩
      obtain ⟨m, rfl⟩ := Int.eq_ofNat_of_zero_le (show 0 ≤ n by omega)
      simp only [Int.toNat_natCast]
      rw [if_neg (by omega), if_neg (by omega), if_neg (by omega), if_pos (by omega)]
      refine ⟨by omega, by omega, ?_⟩
      simp only [List.cons.injEq, and_true]
      omega
  have f4 : p + 4 ≤ s.size → (fitsAt s p 4 = true ↔ byt s p / 8 = 30 ∧ byt s (p + 1) / 64 = 2 ∧ byt s (p + 2) / 64 = 2 ∧ byt s (p + 3) / 64 = 2 ∧ 65536 ≤ byt s p % 8 * 262144 + byt s (p + 1) % 64 * 4096 + byt s (p + 2) % 64 * 64 + byt s (p + 3) % 64 ∧
      byt s p % 8 * 262144 + byt s (p + 1) % 64 * 4096 + byt s (p + 2) % 64 * 64 + byt s (p + 3) % 64 ≤ 1114111) := by
    intro hs
    rw [fits_iff s p 4 (by omega)]
    simp only [show 4 - 1 = 3 from rfl, numAt_4, charL_nats, List.range_succ, List.range_zero, List.nil_append, List.map_cons, List.map_nil, Nat.add_zero, List.map_append, List.cons_append]
    generalize hn : 64 * (64 * (64 * ((byt s p : Int) - 240) + (byt s (p + 1) : Int) - 128) + (byt s (p + 2) : Int) - 128) + (byt s (p + 3) : Int) - 128 = n
    constructor
    · rintro ⟨h1, h2, h3⟩
      obtain ⟨m, rfl⟩ := Int.eq_ofNat_of_zero_le h1
      simp only [Int.toNat_natCast] at h3
      repeat' split at h3
      all_goals simp only [List.cons.injEq, List.nil_eq, reduceCtorEq, and_false, and_true] at h3
      all_goals omega
    · rintro ⟨h1, h2, h4, h5, h6, h7⟩
      obtain ⟨m, rfl⟩ := Int.eq_ofNat_of_zero_le (show 0 ≤ n by omega)
      simp only [Int.toNat_natCast]
      rw [if_neg (by omega), if_neg (by omega), if_neg (by omega), if_neg (by omega)]
      refine ⟨by omega, by omega, ?_⟩
      simp only [List.cons.injEq, and_true]
      omega
  rw [badAt, hd]
  generalize hX : Lib.decodeN (s.size - p) (byt s p) (byt s (p + 1)) (byt s (p + 2)) (byt s (p + 3)) = X
  have hsum : ∀ n, refAt s p n 5 = refAt s p n 5 := fun _ => rfl
  clear hsum
  rw [refAt, if_pos (by omega)]
  by_cases g1 : byt s p < 128
  · rw [if_pos (f1.2 g1), Nat.sub_self, numAt_1]
    rw [Lib.decodeN, if_pos g1] at hX
    subst hX
    rw [if_neg (by simp; omega)]
  rw [if_neg (fun h => g1 (f1.1 h)), refAt]
  by_cases s2 : p + 2 ≤ s.size
  · rw [if_pos (show p + (1 + 1) ≤ s.size from s2)]
    by_cases g2 : byt s p / 32 = 6 ∧ byt s (p + 1) / 64 = 2 ∧ 128 ≤ byt s p % 32 * 64 + byt s (p + 1) % 64
    · rw [if_pos ((f2 s2).2 g2), show 1 + 1 - 1 = 1 from rfl, show 1 + 1 = 2 from rfl, numAt_2]
      rw [Lib.decodeN, if_neg g1, if_pos ⟨g2.1, by omega, g2.2.1⟩, if_pos g2.2.2] at hX
      subst hX
      rw [if_neg (by simp)]
      refine Prod.ext ?_ rfl
      simp only
      omega
    rw [if_neg (fun h => g2 ((f2 s2).1 h)), refAt]
    by_cases s3 : p + 3 ≤ s.size
    · rw [if_pos (show p + (1 + 1 + 1) ≤ s.size from s3)]
      by_cases g3 : byt s p / 16 = 14 ∧ byt s (p + 1) / 64 = 2 ∧ byt s (p + 2) / 64 = 2 ∧ 2048 ≤ byt s p % 16 * 4096 + byt s (p + 1) % 64 * 64 + byt s (p + 2) % 64 ∧
          (byt s p % 16 * 4096 + byt s (p + 1) % 64 * 64 + byt s (p + 2) % 64 < 55296 ∨ 57344 ≤ byt s p % 16 * 4096 + byt s (p + 1) % 64 * 64 + byt s (p + 2) % 64)
      · rw [if_pos ((f3 s3).2 g3), show 1 + 1 + 1 - 1 = 2 from rfl, show 1 + 1 + 1 = 3 from rfl, numAt_3]
        rw [Lib.decodeN, if_neg g1, if_neg (by omega), if_pos ⟨g3.1, ⟨by omega, g3.2.1⟩, by omega, g3.2.2.1⟩, if_pos ⟨g3.2.2.2.1, by omega⟩] at hX
        subst hX
        rw [if_neg (by simp)]
        refine Prod.ext ?_ rfl
        simp only
        omega
      rw [if_neg (fun h => g3 ((f3 s3).1 h)), refAt]
      by_cases s4 : p + 4 ≤ s.size
      · rw [if_pos (show p + (1 + 1 + 1 + 1) ≤ s.size from s4)]
        by_cases g4 : byt s p / 8 = 30 ∧ byt s (p + 1) / 64 = 2 ∧ byt s (p + 2) / 64 = 2 ∧ byt s (p + 3) / 64 = 2 ∧ 65536 ≤ byt s p % 8 * 262144 + byt s (p + 1) % 64 * 4096 + byt s (p + 2) % 64 * 64 + byt s (p + 3) % 64 ∧
            byt s p % 8 * 262144 + byt s (p + 1) % 64 * 4096 + byt s (p + 2) % 64 * 64 + byt s (p + 3) % 64 ≤ 1114111
        · rw [if_pos ((f4 s4).2 g4), show 1 + 1 + 1 + 1 - 1 = 3 from rfl, show 1 + 1 + 1 + 1 = 4 from rfl, numAt_4]
          rw [Lib.decodeN, if_neg g1, if_neg (by omega), if_neg (by omega), if_pos ⟨g4.1, ⟨by omega, g4.2.1⟩, ⟨by omega, g4.2.2.1⟩, by omega, g4.2.2.2.1⟩, if_pos ⟨g4.2.2.2.2.1, by omega⟩] at hX
          subst hX
          rw [if_neg (by simp)]
          refine Prod.ext ?_ rfl
          simp only
          omega
        rw [if_neg (fun h => g4 ((f4 s4).1 h)), refAt]
        have : X = (65533, 1) := by
          rw [← hX, Lib.decodeN, if_neg g1]
          repeat' split
          all_goals first | rfl | (exfalso; omega)
        rw [this, if_pos (by simp)]
      · rw [if_neg (show ¬ p + (1 + 1 + 1 + 1) ≤ s.size from s4)]
        have : X = (65533, 1) := by
          rw [← hX, Lib.decodeN, if_neg g1]
          repeat' split
          all_goals first | rfl | (exfalso; omega)
        rw [this, if_pos (by simp)]
    · rw [if_neg (show ¬ p + (1 + 1 + 1) ≤ s.size from s3)]
      have : X = (65533, 1) := by
        rw [← hX, Lib.decodeN, if_neg g1]
        repeat' split
        all_goals first | rfl | (exfalso; omega)
      rw [this, if_pos (by simp)]
  · rw [if_neg (show ¬ p + (1 + 1) ≤ s.size from s2)]
    have : X = (65533, 1) := by
      rw [← hX, Lib.decodeN, if_neg g1]
      repeat' split
      all_goals first | rfl | (exfalso; omega)
    rw [this, if_pos (by simp)]
end Go.Proofs.YtdgjgekefpfgiaaDoor
