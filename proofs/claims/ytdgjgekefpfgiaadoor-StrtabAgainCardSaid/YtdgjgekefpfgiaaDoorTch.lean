/- What a call may have turned; strings.Builder. -/
import Derived.Test.YtdgjgekefpfgiaaDoorShl
import Derived.Test.YtdgjgekefpfgiaaDoorFld
import Derived.Lib.AppendStr
import Derived.Lib.Builder
import Derived.Laws.Externs
namespace Go.Proofs.YtdgjgekefpfgiaaDoor
open Go.RowKit

/-! ### What a call may have turned -/
/-- All old blocks but those that S names are as they were. -/
structure Touch (S : Nat → Prop) (w w' : World) : Prop where
  os : w'.os = w.os
  tape : w'.tape = w.tape
  output : w'.output = w.output
  size : w.heap.size ≤ w'.heap.size
  block : ∀ k, k < w.heap.size → ¬ S k → w'.heap[k]? = w.heap[k]?
section
variable {S T : Nat → Prop} {a b c w w' : World}
theorem Touch.refl (S : Nat → Prop) (w : World) : Touch S w w := ⟨rfl, rfl, rfl, Nat.le_refl _, fun _ _ _ => rfl⟩
theorem Touch.trans (h : Touch S a b) (k : Touch T b c) (hT : ∀ i, T i → S i ∨ a.heap.size ≤ i) : Touch S a c :=
  ⟨k.os.trans h.os, k.tape.trans h.tape, k.output.trans h.output, Nat.le_trans h.size k.size, fun i hi hn => (k.block i (Nat.lt_of_lt_of_le hi h.size) (fun ht => by
    rcases hT i ht with h1 | h1
    · exact hn h1
    · omega)).trans (h.block i hi hn)⟩
theorem Touch.mono (h : Touch S a b) (hT : ∀ i, S i → T i) : Touch T a b := ⟨h.os, h.tape, h.output, h.size, fun i hi hn => h.block i hi fun hs => hn (hT i hs)⟩
theorem Touch.of_below (h : Below w.heap.size w w') : Touch S w w' := ⟨h.os, h.tape, h.output, h.size, fun k hk _ => h.block k hk⟩
theorem Touch.below {B : Nat} (h : Touch S w w') (hB : B ≤ w.heap.size) (hS : ∀ k, S k → B ≤ k) : Below B w w' := ⟨h.os, h.tape, h.output, h.size, fun k hk => h.block k (by omega) fun hs => by have := hS k hs; omega⟩
theorem Touch.noneOf (h : Touch S w w') (hS : ∀ k, ¬ S k) : Below w.heap.size w w' := h.below (Nat.le_refl _) fun k hk => absurd hk (hS k)
theorem Touch.keeps (h : Touch S w w') : Keeps (fun k => ¬ S k) w w' := ⟨h.size, fun k hk hl => h.block k hl hk⟩
theorem Touch.of_grown {row : Option Nat} (h : w.grownBy w' row) : Touch (fun k => some k = row) w w' := ⟨h.os, h.tape, h.output, h.size, fun k hk hn => h.block k hk hn⟩
theorem Touch.of_set (w : World) (p : Addr) (u : Value) : Touch (fun k => k = p.block) w (w.setCell p u) := ⟨rfl, rfl, rfl, by simp [World.setCell], fun k _ hn => Below.heap_setCell w p u k hn⟩
theorem Touch.blk (h : Touch S w w') {g : Nat} {o : Obj} (hg : w.heap[g]? = some o) (hn : ¬ S g) : w'.heap[g]? = some o := (h.block g (blk_lt hg) hn).trans hg
theorem Touch.drewN (h : Touch S a b) (n : Nat) : Touch S a (b.drewN n) := ⟨h.os, h.tape, h.output, h.size, h.block⟩
theorem Row.touch {base : Nat} {e : TypeId} {size : Nat} {v : Value} {xs : List Value} (h : Row w base e size v xs) (ht : Touch S w w') (hn : ∀ g, blk v = some g → ¬ S g) : Row w' base e size v xs :=
  h.of_same fun g hg => ht.block g (h.typed g hg).2.1 (hn g hg)
end
/-- A row's base, if it is known where its block lies. -/
theorem Row.rebase {w : World} {base base' : Nat} {e : TypeId} {size : Nat} {v : Value} {xs : List Value} (h : Row w base e size v xs) (hb : ∀ g, blk v = some g → base' ≤ g) : Row w base' e size v xs := by
  rcases h with h | ⟨g, n, cap, cur, rfl, _, r⟩
  · exact .inl h
  · exact .inr ⟨g, n, cap, cur, rfl, hb g rfl, r⟩

/-! ### A string's bytes appended -/
section
variable {P : Program}
theorem append_str_run (t u ty e : TypeId) (i : TypeInfo) (ht : P.underlying t = some (.slice e)) (hu : P.underlying u = some .string) (hi : P.info? e = some i) (hz : i.zero = some (.int .u8 0))
    (hsize : i.size = 1) (hby : i.bytes = 1) (w : World) (base : Nat) (A0 : Option Addr) (n c0 : Nat) (xs : List Value) (hown : Row w base e 1 (.slice A0 n c0) xs) (s : ByteArray)
    (hbytes : n + s.size ≤ 140737488355328) (hbase : base ≤ w.heap.size) :
    ∃ A1 c1 w', (Builtin.append_ #[t, u] ty #[.slice A0 n c0, .string s]).run P w = .ok (.slice A1 (n + s.size) c1) w' ∧ Row w' base e 1 (.slice A1 (n + s.size) c1) (xs ++ Lib.strCells s) ∧ w.grownBy w' (blk (.slice A0 n c0)) ∧
      (blk (.slice A1 (n + s.size) c1) = blk (.slice A0 n c0) ∨ blk (.slice A1 (n + s.size) c1) = some w.heap.size) := by
  have hf := Lib.run_firstCells_string (P := P) w 1 s
  have key : ∀ (old : Nat), old < n + s.size → xs.length = n → ∀ (row : Option Nat),
      Row (w.drew.alloc (.cells (xs.toArray ++ (Lib.strCells s).toArray ++ Builtin.zeroCells (Value.int .u8 0).cells (grownCap w (n + s.size) old e - (n + s.size))) e)) base e 1
        (.slice (some ⟨w.heap.size, 0, none⟩) (n + s.size) (grownCap w (n + s.size) old e)) (xs ++ Lib.strCells s) ∧
      w.grownBy (w.drew.alloc (.cells (xs.toArray ++ (Lib.strCells s).toArray ++ Builtin.zeroCells (Value.int .u8 0).cells (grownCap w (n + s.size) old e - (n + s.size))) e)) row ∧
      blk (.slice (some ⟨w.heap.size, 0, none⟩) (n + s.size) (grownCap w (n + s.size) old e)) = some w.heap.size := by
    intro old ho hxl row
    have hge := grownCap_ge w (n + s.size) old e
    have hcm : grownCap w (n + s.size) old e ≤ maxLen := grownCap_le_maxLen w (n + s.size) old e (by simp only [maxLen]; omega)
    have hlen : (xs ++ Lib.strCells s).length = (n + s.size) * 1 := by rw [List.length_append, hxl, Lib.strCells_length, Nat.mul_one]
    refine ⟨Row.of_own (n := n + s.size) ⟨hlen, .inr ⟨w.heap.size, _, _, rfl, hbase, heap_alloc_new w.drew _, hge, hcm, ?_, ?_⟩⟩, ⟨rfl, rfl, rfl, by simp, fun k hk _ => Below.heap_alloc w.drew _ k hk⟩, ?_⟩
    · have hz1 : (Value.int IntKind.u8 0).cells.size = 1 := rfl
      simp only [Array.size_append, List.size_toArray, size_zeroCells, hz1, hxl, Lib.strCells_length]
      omega
    · simp only [Array.toList_append, List.append_assoc]
      rw [← List.append_assoc, ← hlen]
      exact List.take_left
    · obtain ⟨k, hk⟩ : ∃ k, grownCap w (n + s.size) old e = k + 1 := ⟨grownCap w (n + s.size) old e - 1, by omega⟩
      rw [hk]
      rfl
  rcases hown with ⟨rfl, B, hv⟩ | ⟨g, n', cap, cur, hv, hb, hg, hn, hc, hs, hlx, htk⟩
  · injection hv with e1 e2 e3
    subst e1 e2 e3
    have hbn : blk (.slice A0 0 0) = none := by cases A0 <;> rfl
    by_cases hm : s.size = 0
    · have hn : Lib.strCells s = [] := List.eq_nil_of_length_eq_zero (by rw [Lib.strCells_length]; exact hm)
      refine ⟨A0, 0, w, ?_, by rw [hn, hm]; exact Row.empty _ _ _ _ _, World.grownBy.refl w _, .inl (by rw [hm])⟩
      rw [hm, hn] at hf
      cases A0 <;> simp [Builtin.append_, run_underlying ht, run_underlying hu, sizeOf, typeInfo, hi, hsize, Builtin.lenOf, hm, hf, storeCells]
    · cases A0 with
      | none =>
        have hr := run_append_nil_string (P := P) w t u ty e i (.int .u8 0) ht hu hi hz s (by omega) (by omega) (by rw [hby]; omega)
        obtain ⟨k1, k2, k3⟩ := key 0 (by omega) rfl none
        simp only [Nat.zero_add, List.nil_append, Array.empty_append] at k1 k2 k3 ⊢
        have e1 : (s.data.map fun b => Value.int .u8 b.toNat) = (Lib.strCells s).toArray := by
          apply Array.ext'
          simp [Lib.strCells]
        rw [e1] at hr
        exact ⟨_, _, _, hr, k1, (by rw [hbn]; exact k2), .inr k3⟩
      | some a0 =>
        have hr := Lib.run_append_grow_string (P := P) w t u ty e i (.int .u8 0) ht hu hi hz a0 0 0 [] (by simp) (by simp) s (by omega) (by omega) (by rw [hby]; exact growslice_fits (by omega) (by omega))
        obtain ⟨k1, k2, k3⟩ := key 0 (by omega) rfl none
        exact ⟨_, _, _, hr, k1, (by rw [hbn]; exact k2), .inr k3⟩
  · injection hv with e1 e2 e3
    subst e1 e2 e3
    have hxl : xs.length = n := by simpa using hlx
    have hbk : blk (.slice (some ⟨g, 0, none⟩) n (cap + 1)) = some g := rfl
    by_cases hroom : n + s.size ≤ cap + 1
    · have hcs' : cur.size = cap + 1 := by simpa using hs
      have hr := Lib.run_append_room_string (P := P) w t u ty e i ht hu hi hsize g n (cap + 1) cur hg s hroom (by omega)
      have hlen : (xs ++ Lib.strCells s).length = (n + s.size) * 1 := by rw [List.length_append, hxl, Lib.strCells_length, Nat.mul_one]
      refine ⟨_, _, _, hr, .inr ⟨g, n + s.size, cap, _, rfl, hb, setRow_heap w g cur _ e _ hg, hroom, hc, ?_, hlen, ?_⟩, ⟨rfl, rfl, rfl, by simp, fun k _ hk => setRow_other w g k _ (fun e => hk (by rw [hbk, e]))⟩, .inl rfl⟩
      · simp only [List.size_toArray, List.length_append, List.length_take, List.length_drop, Array.length_toList, Lib.strCells_length]
        omega
      · have ht' : cur.toList.take n = xs := by simpa using htk
        rw [ht', ← hlen]
        exact List.take_left
    · have holds : ∀ j u, xs[j]? = some u → w.cell? ((⟨g, 0, none⟩ : Addr).add j) = some u := fun j u hj => by
        have hO : w.ownsRow base e 1 (.slice (some ⟨g, 0, none⟩) n (cap + 1)) n xs := ⟨hlx, .inr ⟨g, cap + 1, cur, rfl, hb, hg, hn, hc, hs, htk⟩⟩
        exact hO.cells (g := g) rfl j u hj
      have hr := Lib.run_append_grow_string (P := P) w t u ty e i (.int .u8 0) ht hu hi hz ⟨g, 0, none⟩ n (cap + 1) xs (by rw [hsize]; simpa using hxl) holds s (by omega) (by omega) (by rw [hby]; exact growslice_fits (by omega) (by omega))
      obtain ⟨k1, k2, k3⟩ := key (cap + 1) (by omega) hxl (blk (.slice (some ⟨g, 0, none⟩) n (cap + 1)))
      exact ⟨_, _, _, hr, k1, k2, .inr k3⟩
theorem append_str_ev {ops : Array Oper} {rest : List Oper} {o : Oper} {a : Act} {Q : Exit → Act → World → Prop} {w : World} (hgd : o.guard = none) (sl x : Operand) (t u : TypeId)
    (ho : o.op = .call { callee := .builtin .append, args := #[sl, x], argTypes := #[t, u] })
    (e : TypeId) (ht : P.underlying t = some (.slice e)) (hu : P.underlying u = some .string) (hinfo : (P.info? e).map (fun i => (i.zero, i.size, i.bytes)) = some (some (.int .u8 0), 1, 1))
    (base : Nat) (A0 : Option Addr) (n c0 : Nat) (xs : List Value) (hs : a.eval sl = .slice A0 n c0) (hown : Row w base e 1 (.slice A0 n c0) xs) (s : ByteArray) (hx : a.eval x = .string s)
    (hbytes : n + s.size ≤ 140737488355328) (hbase : base ≤ w.heap.size)
    (h : ∀ A1 c1 w', Row w' base e 1 (.slice A1 (n + s.size) c1) (xs ++ Lib.strCells s) → w.grownBy w' (blk (.slice A0 n c0)) → (blk (.slice A1 (n + s.size) c1) = blk (.slice A0 n c0) ∨ blk (.slice A1 (n + s.size) c1) = some w.heap.size) → wpList P ops Q rest (a.put o.dst (.slice A1 (n + s.size) c1)) w') : wpList P ops Q (o :: rest) a w := by
  obtain ⟨i, hi, hz0, hz1, hz2⟩ := info_parts hinfo
  refine wpList_plain hgd fun K hK => ?_
  obtain ⟨A1, c1, w', hr, h2, h3, h4⟩ := append_str_run (P := P) t u o.type e i ht hu hi hz0 hz1 hz2 w base A0 n c0 xs hown s hbytes hbase
  unfold Oper.wp execOp
  simp only [ho, resolve, invoke, builtin, Sem.run_bind, Sem.run_pure, Result.andThen_ok, List.map_toArray, List.map_cons, List.map_nil, hs, hx, hr]
  exact hK _ _ (h A1 c1 w' h2 h3 h4)
end

/-! ### strings.Builder -/
theorem info_byte : (Tryd.prog.info? 5).map (fun i => (i.zero, i.size, i.bytes)) = some (some (.int .u8 0), 1, 1) := by kernel_rfl
theorem info_bld : (Tryd.prog.info? 122).map (·.size) = some 2 := by kernel_rfl
theorem lies_bld : liesAt Tryd.prog Tryd.prog.depth 122 (2 / Tryd.prog.cellsOf 122) 0 122 1 = true := by kernel_rfl
/-- A builder in block b that holds so many bytes; S: what it may turn. -/
def Bld (S : Nat → Prop) (w : World) (b : Nat) (l : List UInt8) : Prop :=
  S b ∧ (∀ k, S k → k < w.heap.size) ∧ ∃ p v, (p = .pointer none ∨ p = .pointer (some ⟨b, 0, none⟩)) ∧ w.heap[b]? = some (.cells #[p, v] 122 (0, 0)) ∧ Row w 0 5 1 v (Lib.byteCells l) ∧ ∀ g, blk v = some g → S g
theorem Bld.touch {S T : Nat → Prop} {w w' : World} {b : Nat} {l : List UInt8} (h : Bld S w b l) (ht : Touch T w w') (hd : ∀ k, S k → ¬ T k) : Bld S w' b l := by
  obtain ⟨h0, hl, p, v, h1, h2, h3, h4⟩ := h
  exact ⟨h0, fun k hk => Nat.lt_of_lt_of_le (hl k hk) ht.size, p, v, h1, ht.blk h2 (hd b h0), h3.touch ht fun g hg => hd g (h4 g hg), h4⟩
theorem Bld.new (w : World) : Bld (fun k => k = w.heap.size) (w.alloc (.cells #[.pointer none, .slice none 0 0] 122)) w.heap.size [] :=
  ⟨rfl, fun k hk => by simp [hk], _, _, .inl rfl, blk_new _ _, Row.empty _ _ _ _ _, fun g hg => by cases hg⟩
set_option maxHeartbeats 1000000 in
set_option maxRecDepth 100000 in
theorem copyCheck_used (b : Nat) (w : World) (h0 : w.cell? ⟨b, 0, none⟩ = some (.pointer (some ⟨b, 0, none⟩))) :
    Calls Tryd.prog 138 #[.pointer (some ⟨b, 0, none⟩)] w fun e w' => e = .returned (.tuple #[]) ∧ w = w' := by
  obtain ⟨j, hj, _⟩ := Option.map_eq_some_iff.1 info_bld
  go_enter Tryd.func138, Tryd.ntmps138
  go_wp2
  rw [Lib.run_neq_ptr_same w _ Tryd.underlying119 hj]
  go_wp2
  go_end0
  exact ⟨rfl, rfl⟩
set_option maxHeartbeats 1000000 in
set_option maxRecDepth 100000 in
theorem copyCheck_fresh (b : Nat) (w : World) (h0 : w.cell? ⟨b, 0, none⟩ = some (.pointer none)) (hsh : w.shape? b = some (122, 2)) (hfz : w.frozen? ⟨b, 0, none⟩ = false) :
    Calls Tryd.prog 138 #[.pointer (some ⟨b, 0, none⟩)] w fun e w' => e = .returned (.tuple #[]) ∧ w' = w.setCell ⟨b, 0, none⟩ (.pointer (some ⟨b, 0, none⟩)) := by
  obtain ⟨j, hj, hjs⟩ := Option.map_eq_some_iff.1 info_bld
  go_enter Tryd.func138, Tryd.ntmps138
  go_wp2
  rw [Lib.run_to_unsafe w ⟨b, 0, none⟩ Tryd.underlying119 Tryd.underlying186 hj (by rw [hjs]; decide) hsh (Nat.zero_lt_succ 1)]
  simp only [Result.andThen]
  rw [Oper.upon_value]
  go_wp2
  rw [run_callFunc_extern Tryd.func156 (by kernel_rfl) (by kernel_rfl) (by kernel_rfl) (e := Extern.AbiNoEscape.same) (by kernel_rfl)]
  rw [Lib.run_noEscape]
  simp only [Result.andThen]
  rw [Oper.upon_value]
  go_wp2
  rw [Lib.run_from_unsafe w ⟨b, 0, none⟩ Tryd.underlying186 Tryd.underlying119 hj hsh lies_bld]
  simp only [Result.andThen]
  rw [Oper.upon_value]
  go_wp2
  go_end0
  exact ⟨rfl, rfl⟩

theorem copyCheck_any (S : Nat → Prop) (b : Nat) (l : List UInt8) (w : World) (h : Bld S w b l) :
    Calls Tryd.prog 138 #[.pointer (some ⟨b, 0, none⟩)] w fun e w' => e = .returned (.tuple #[]) ∧ ∃ v, w'.heap[b]? = some (.cells #[.pointer (some ⟨b, 0, none⟩), v] 122 (0, 0)) ∧ Row w' 0 5 1 v (Lib.byteCells l) ∧
      (∀ g, blk v = some g → S g ∧ g ≠ b) ∧ Touch S w w' := by
  obtain ⟨h0, hl, p, v, h1, h2, h3, h4⟩ := h
  have hne : ∀ g, blk v = some g → S g ∧ g ≠ b := fun g hg => ⟨h4 g hg, h3.nblk h2 (by decide) g hg⟩
  rcases h1 with rfl | rfl
  · refine (copyCheck_fresh b w (blk_cell h2 0) (by simp [World.shape?, h2]) (blk_frozen h2 0)).mono ?_
    rintro e w' ⟨rfl, rfl⟩
    exact ⟨rfl, v, blk_set h2 0 _, h3.set (fun g hg => (hne g hg).2) _, hne, (Touch.of_set w _ _).mono fun k hk => by rw [hk]; exact h0⟩
  · refine (copyCheck_used b w (blk_cell h2 0)).mono ?_
    rintro e w' ⟨rfl, rfl⟩
    exact ⟨rfl, v, h2, h3, hne, Touch.refl _ _⟩
/-- What a call leaves: so many of the old blocks have turned, and what is its own now was so or is new. -/
def Grew (S S' : Nat → Prop) (w w' : World) : Prop := Touch S w w' ∧ ∀ k, S' k → S k ∨ (w.heap.size ≤ k ∧ k < w'.heap.size)
theorem Grew.trans {S S' S'' : Nat → Prop} {a b c : World} (h : Grew S S' a b) (k : Grew S' S'' b c) : Grew S S'' a c := by
  refine ⟨h.1.trans k.1 fun i hi => (h.2 i hi).imp id (·.1), fun i hi => ?_⟩
  rcases k.2 i hi with h1 | h1
  · rcases h.2 i h1 with h2 | h2
    · exact .inl h2
    · exact .inr ⟨h2.1, Nat.lt_of_lt_of_le h2.2 k.1.size⟩
  · exact .inr ⟨Nat.le_trans h.1.size h1.1, h1.2⟩
def WrRet (S : Nat → Prop) (b : Nat) (l : List UInt8) (s : ByteArray) (w : World) (e : Ending) (w' : World) : Prop :=
  e = .returned (.tuple #[.int .i64 s.size, .nilIface]) ∧ ∃ S', Bld S' w' b (l ++ s.data.toList) ∧ Grew S S' w w'
theorem byteCells_append (l m : List UInt8) : Lib.byteCells (l ++ m) = Lib.byteCells l ++ Lib.byteCells m := List.map_append
set_option maxHeartbeats 1000000 in
set_option maxRecDepth 100000 in
theorem writeString_any (S : Nat → Prop) (b : Nat) (l : List UInt8) (s : ByteArray) (w : World) (h : Bld S w b l) (hlen : l.length + s.size ≤ 140737488355328) :
    Calls Tryd.prog 91 #[.pointer (some ⟨b, 0, none⟩), .string s] w (WrRet S b l s w) := by
  have hlt := h.2.1
  have h0 := h.1
  go_enter Tryd.func91, Tryd.ntmps91
  go_wp2_with fail
  refine (copyCheck_any S b l _ h).mono ?_
  rintro e w1 ⟨rfl, v, hb, hr, hne, ht⟩
  obtain ⟨A, n, c, rfl, hn, -, -⟩ := hr.form
  rw [Lib.byteCells_length, Nat.mul_one] at hn
  subst hn
  have c0 := blk_cell hb 0
  have c1 := blk_cell hb 1
  go_wp2_with (at_builtin; refine append_str_ev rfl _ _ 120 9 rfl 5 Tryd.underlying120 Tryd.underlying9 info_byte 0 _ _ _ _ rfl hr s rfl ?c4 (Nat.zero_le _) ?_)
  case c4 => omega
  intro A1 k1 w2 hr2 hg2 hw2
  have hb2 : w2.heap[b]? = some (.cells #[.pointer (some ⟨b, 0, none⟩), .slice A l.length c] 122 (0, 0)) := by
    rw [hg2.block b (blk_lt hb) (fun e => (hne b e.symm).2 rfl)]
    exact hb
  have d0 := blk_cell hb2 0
  have d1 := blk_cell hb2 1
  have f1 := blk_frozen hb2 1
  have hne2 : ∀ g, blk (.slice A1 (l.length + s.size) k1) = some g → g ≠ b := fun g hg => hr2.nblk hb2 (by decide) g hg
  go_wp2
  go_ret2
  have ht2 : Touch S w1 w2 := (Touch.of_grown hg2).mono fun k hk => (hne k hk.symm).1
  have hsz := ht.size
  have hsz2 := hg2.size
  refine ⟨rfl, fun k => S k ∨ (w1.heap.size ≤ k ∧ k < w2.heap.size), ⟨.inl h0, fun k hk => ?_, _, .slice A1 (l.length + s.size) k1, .inr rfl, blk_set hb2 1 _, ?_, fun g hg => ?_⟩, ?_, fun k hk => ?_⟩
  · have : (w2.setCell ⟨b, 1, none⟩ (.slice A1 (l.length + s.size) k1)).heap.size = w2.heap.size := by simp [World.setCell]
    rcases hk with hk | hk
    · have := hlt k hk
      omega
    · omega
  · rw [byteCells_append]
    exact hr2.set hne2 _
  · rcases hw2 with e | e
    · rw [e] at hg
      exact .inl (hne g hg).1
    · rw [e] at hg
      cases hg
      have := (hr2.typed _ e).2.1
      exact .inr ⟨Nat.le_refl _, this⟩
  · exact (ht.trans ht2 fun i hi => .inl hi).trans ((Touch.of_set w2 _ _).mono fun k hk => by rw [hk]; exact h0) fun i hi => .inl hi
  · rcases hk with hk | hk
    · exact .inl hk
    · exact .inr ⟨by omega, by simpa [World.setCell] using hk.2⟩
theorem Touch.of_freeze (w : World) (g o n : Nat) : Touch (fun k => k = g) w (w.freeze ⟨g, o, none⟩ n) := by
  unfold World.freeze
  split
  · exact Touch.refl _ _
  · exact ⟨rfl, rfl, rfl, by simp, fun k _ hk => by
      simp only [Array.getElem?_modify]
      rw [if_neg (fun e => hk e.symm)]⟩
set_option maxHeartbeats 2000000 in
set_option maxRecDepth 100000 in
theorem string_any (S : Nat → Prop) (b : Nat) (l : List UInt8) (w : World) (h : Bld S w b l) (h0 : l ≠ []) :
    Calls Tryd.prog 93 #[.pointer (some ⟨b, 0, none⟩)] w fun e w' => e = .returned (.string ⟨l.toArray⟩) ∧ Touch S w w' := by
  obtain ⟨hS, hl, p, v, -, hbk, hr, hv⟩ := h
  have hl0 : l.length ≠ 0 := by simpa using h0
  obtain ⟨g, cap, cur, rfl, hg, hnc, hcm, hcs, htake⟩ : ∃ g cap cur, v = .slice (some ⟨g, 0, none⟩) l.length (cap + 1) ∧ w.heap[g]? = some (.cells cur 5 (0, 0)) ∧ l.length ≤ cap + 1 ∧ cap + 1 ≤ maxLen ∧ cur.size = (cap + 1) * 1 ∧ cur.toList.take (l.length * 1) = Lib.byteCells l := by
    rcases hr with ⟨hz, _⟩ | ⟨g, n, cap, cur, hv, _, hg, hn, hc, hs, hl2, ht⟩
    · exact absurd (by have := congrArg List.length hz; rwa [Lib.byteCells_length] at this) hl0
    · rw [Lib.byteCells_length, Nat.mul_one] at hl2
      subst hl2
      exact ⟨g, cap, cur, hv, hg, hn, hc, hs, ht⟩
  have hSg := hv g rfl
  have c1 : w.drew.cell? ⟨b, 1, none⟩ = some (.slice (some ⟨g, 0, none⟩) l.length (cap + 1)) := by
    have : w.drew.heap[b]? = some (.cells #[p, .slice (some ⟨g, 0, none⟩) l.length (cap + 1)] 122 (0, 0)) := hbk
    rw [Lib.cell_of_heap this]; rfl
  have hSD : (Builtin.unsafeSliceData_ #[120] 170 #[.slice (some ⟨g, 0, none⟩) l.length (cap + 1)]).run Tryd.prog w.drew = .ok (.pointer (some ⟨g, 0, none⟩)) w.drew :=
    Lib.run_unsafeSliceData_row _ _ _ _ _ _ (by omega)
  have hUS : (Builtin.unsafeString_ #[170, 3] 9 #[.pointer (some ⟨g, 0, none⟩), .int .i64 l.length]).run Tryd.prog w.drew = .ok (.string ⟨l.toArray⟩) (w.drew.freeze ⟨g, 0, none⟩ l.length) := by
    refine Lib.run_unsafeString_row w.drew 170 3 9 5 Tryd.underlying170 (by kernel_rfl) g cur.size (by have hg' : w.drew.heap[g]? = some (.cells cur 5 (0, 0)) := hg; simp [World.shape?, hg']) l h0 (by omega) (by unfold maxLen at hcm; omega) ?_
    intro j x hx
    have hj : (Lib.byteCells l)[j]? = some (.int .u8 x.toNat) := by simp [Lib.byteCells, hx]
    rw [← htake, List.getElem?_take] at hj
    split at hj
    · rw [Addr.add_lit, Nat.zero_add]
      show w.cell? _ = _
      rw [blk_cell hg, ← Array.getElem?_toList]
      exact hj
    · cases hj
  clear hv hr htake hcs hnc hl
  go_enter Tryd.func93, Tryd.ntmps93
  go_wp2
  go_region
  all_goals
    go_wp2
    go_ret
    refine ⟨rfl, Touch.trans (b := w.drew) (T := S) ⟨rfl, rfl, rfl, Nat.le_refl _, fun _ _ _ => rfl⟩ (Touch.mono (Touch.of_freeze w.drew g 0 l.length) fun k hk => ?_) fun i hi => .inl hi⟩
    rw [hk]
    exact hSg
end Go.Proofs.YtdgjgekefpfgiaaDoor
