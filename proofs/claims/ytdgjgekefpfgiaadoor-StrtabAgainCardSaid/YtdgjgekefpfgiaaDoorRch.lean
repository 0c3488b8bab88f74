/- The reference's characters. -/
import Derived.Test.YtdgjgekefpfgiaaDoorVpr
import Derived.Test.YtdgjgekefpfgiaaDoorRut
namespace Go.Proofs.YtdgjgekefpfgiaaDoor
open Go.RowKit

theorem conv_blk {w : World} {g k : Nat} (l : List UInt8) (h : w.heap[g]? = some (.cells (Lib.byteCells l).toArray 5 (0, 0))) (hk : k = l.length) : (convert 120 9 (.slice (some ⟨g, 0, none⟩) k k)).run Tryd.prog w = .ok (.string ⟨l.toArray⟩) w := by
  subst hk
  refine run_convert_bytes_back w 120 9 5 ⟨g, 0, none⟩ l.length l Tryd.underlying120 Tryd.underlying5 Tryd.underlying9 fun j hj => ?_
  rw [Addr.add_lit, Nat.zero_add, blk_cell h]
  simp [Lib.byteCells, hj]
set_option maxRecDepth 100000 in
set_option maxHeartbeats 2000000 in
theorem refChar_any (c : Int) (w : World) (h0 : 0 ≤ c) (hn : c ≤ 1114111) : Calls Tryd.prog 159 #[.int .i32 c] w fun e w' => e = .returned (.string (charS c)) ∧ Below w.heap.size w w' := by
  by_cases h1 : c < 128
  · have hr : charS c = ⟨[UInt8.ofNat (c.toNat)].toArray⟩ := by rw [charS, charL, if_neg (by omega), if_pos (by omega)]
    rw [hr]
    have e0 : ((UInt8.ofNat (c.toNat)).toNat : Int) = c := by rw [UInt8.toNat_ofNat']; omega
    have hc := conv_blk [UInt8.ofNat (c.toNat)] (blk_new w (.cells (Lib.byteCells [UInt8.ofNat (c.toNat)]).toArray 5)) (k := 1) rfl
    simp only [Lib.byteCells, List.map_cons, List.map_nil, e0] at hc
    clear hr e0
    generalize UInt8.ofNat (c.toNat) = b0 at *
    go_enter Tryd.func159, Tryd.ntmps159
    go_wp2
    go_ret
    exact ⟨rfl, below_alloc' (Below.refl _ _) _⟩
  by_cases h2 : c < 2048
  · have hr : charS c = ⟨[UInt8.ofNat (192 + c.toNat / 64), UInt8.ofNat (128 + c.toNat % 64)].toArray⟩ := by rw [charS, charL, if_neg (by omega), if_neg (by omega), if_pos (by omega)]
    rw [hr]
    have e0 : ((UInt8.ofNat (192 + c.toNat / 64)).toNat : Int) = 192 + c / 64 := by rw [UInt8.toNat_ofNat']; omega
    have e1 : ((UInt8.ofNat (128 + c.toNat % 64)).toNat : Int) = 128 + c % 64 := by rw [UInt8.toNat_ofNat']; omega
    have hc := conv_blk [UInt8.ofNat (192 + c.toNat / 64), UInt8.ofNat (128 + c.toNat % 64)] (blk_new w (.cells (Lib.byteCells [UInt8.ofNat (192 + c.toNat / 64), UInt8.ofNat (128 + c.toNat % 64)]).toArray 5)) (k := 2) rfl
    simp only [Lib.byteCells, List.map_cons, List.map_nil, e0, e1] at hc
    clear hr e0 e1
    generalize UInt8.ofNat (192 + c.toNat / 64) = b0 at *
    generalize UInt8.ofNat (128 + c.toNat % 64) = b1 at *
    go_enter Tryd.func159, Tryd.ntmps159
    go_wp2
    go_ret
    exact ⟨rfl, below_alloc' (Below.refl _ _) _⟩
  by_cases hs : 55296 ≤ c ∧ c ≤ 57343
  · have hr : charS c = ⟨#[]⟩ := by rw [charS, charL, if_pos (by omega)]
    rw [hr]
    obtain ⟨h3, h4⟩ := hs
    clear hr
    go_enter Tryd.func159, Tryd.ntmps159
    go_wp2
    go_ret
    exact ⟨rfl, Below.refl _ _⟩
  by_cases h3 : c < 65536
  · have hr : charS c = ⟨[UInt8.ofNat (224 + c.toNat / 4096), UInt8.ofNat (128 + c.toNat / 64 % 64), UInt8.ofNat (128 + c.toNat % 64)].toArray⟩ := by rw [charS, charL, if_neg (by omega), if_neg (by omega), if_neg (by omega), if_pos (by omega)]
    rw [hr]
    have e0 : ((UInt8.ofNat (224 + c.toNat / 4096)).toNat : Int) = 224 + c / 4096 := by rw [UInt8.toNat_ofNat']; omega
    have e1 : ((UInt8.ofNat (128 + c.toNat / 64 % 64)).toNat : Int) = 128 + c / 64 % 64 := by rw [UInt8.toNat_ofNat']; omega
    have e2 : ((UInt8.ofNat (128 + c.toNat % 64)).toNat : Int) = 128 + c % 64 := by rw [UInt8.toNat_ofNat']; omega
    have hc := conv_blk [UInt8.ofNat (224 + c.toNat / 4096), UInt8.ofNat (128 + c.toNat / 64 % 64), UInt8.ofNat (128 + c.toNat % 64)] (blk_new w (.cells (Lib.byteCells [UInt8.ofNat (224 + c.toNat / 4096), UInt8.ofNat (128 + c.toNat / 64 % 64), UInt8.ofNat (128 + c.toNat % 64)]).toArray 5)) (k := 3) rfl
    simp only [Lib.byteCells, List.map_cons, List.map_nil, e0, e1, e2] at hc
    clear hr e0 e1 e2
    generalize UInt8.ofNat (224 + c.toNat / 4096) = b0 at *
    generalize UInt8.ofNat (128 + c.toNat / 64 % 64) = b1 at *
    generalize UInt8.ofNat (128 + c.toNat % 64) = b2 at *
    have hs' : c < 55296 ∨ 57343 < c := by omega
    clear hs
    rcases hs' with hs' | hs'
    · go_enter Tryd.func159, Tryd.ntmps159
      go_wp2
      go_ret
      exact ⟨rfl, below_alloc' (Below.refl _ _) _⟩
    · go_enter Tryd.func159, Tryd.ntmps159
      go_wp2
      go_ret
      exact ⟨rfl, below_alloc' (Below.refl _ _) _⟩
  · have hr : charS c = ⟨[UInt8.ofNat (240 + c.toNat / 262144), UInt8.ofNat (128 + c.toNat / 4096 % 64), UInt8.ofNat (128 + c.toNat / 64 % 64), UInt8.ofNat (128 + c.toNat % 64)].toArray⟩ := by rw [charS, charL, if_neg (by omega), if_neg (by omega), if_neg (by omega), if_neg (by omega)]
    rw [hr]
    have e0 : ((UInt8.ofNat (240 + c.toNat / 262144)).toNat : Int) = 240 + c / 262144 := by rw [UInt8.toNat_ofNat']; omega
    have e1 : ((UInt8.ofNat (128 + c.toNat / 4096 % 64)).toNat : Int) = 128 + c / 4096 % 64 := by rw [UInt8.toNat_ofNat']; omega
    have e2 : ((UInt8.ofNat (128 + c.toNat / 64 % 64)).toNat : Int) = 128 + c / 64 % 64 := by rw [UInt8.toNat_ofNat']; omega
    have e3 : ((UInt8.ofNat (128 + c.toNat % 64)).toNat : Int) = 128 + c % 64 := by rw [UInt8.toNat_ofNat']; omega
    have hc := conv_blk [UInt8.ofNat (240 + c.toNat / 262144), UInt8.ofNat (128 + c.toNat / 4096 % 64), UInt8.ofNat (128 + c.toNat / 64 % 64), UInt8.ofNat (128 + c.toNat % 64)] (blk_new w (.cells (Lib.byteCells [UInt8.ofNat (240 + c.toNat / 262144), UInt8.ofNat (128 + c.toNat / 4096 % 64), UInt8.ofNat (128 + c.toNat / 64 % 64), UInt8.ofNat (128 + c.toNat % 64)]).toArray 5)) (k := 4) rfl
    simp only [Lib.byteCells, List.map_cons, List.map_nil, e0, e1, e2, e3] at hc
    clear hr e0 e1 e2 e3
    generalize UInt8.ofNat (240 + c.toNat / 262144) = b0 at *
    generalize UInt8.ofNat (128 + c.toNat / 4096 % 64) = b1 at *
    generalize UInt8.ofNat (128 + c.toNat / 64 % 64) = b2 at *
    generalize UInt8.ofNat (128 + c.toNat % 64) = b3 at *
    have hs' : 57343 < c := by omega
    clear hs
    go_enter Tryd.func159, Tryd.ntmps159
    go_wp2
    go_ret
    exact ⟨rfl, below_alloc' (Below.refl _ _) _⟩
end Go.Proofs.YtdgjgekefpfgiaaDoor
