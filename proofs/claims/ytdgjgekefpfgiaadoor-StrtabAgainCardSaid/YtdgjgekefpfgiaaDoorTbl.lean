/- Tables of texts: the program's. -/
import Derived.Test.YtdgjgekefpfgiaaDoorMap
import Derived.Test.YtdgjgekefpfgiaaDoorTab
import Derived.Test.YtdgjgekefpfgiaaDoorVpt
namespace Go.Proofs.YtdgjgekefpfgiaaDoor
open Go.RowKit

theorem numT_lt {l : List ByteArray} {s : ByteArray} (h : s ∈ l) : numT l s < l.length := by
  induction l with
  | nil => cases h
  | cons a l ih =>
    rw [numT]
    split
    · simp
    · rename_i hne
      rcases List.mem_cons.1 h with e | h
      · exact absurd e.symm hne
      · have := ih h
        simp only [List.length_cons]
        omega
theorem numT_le (l : List ByteArray) (s : ByteArray) : numT l s ≤ l.length := by
  induction l with
  | nil => simp [numT]
  | cons a l ih =>
    rw [numT]
    split
    · omega
    · simp only [List.length_cons]
      omega
theorem numT_not {l : List ByteArray} {s : ByteArray} (h : s ∉ l) : numT l s = l.length := by
  induction l with
  | nil => rfl
  | cons a l ih =>
    rw [List.mem_cons, not_or] at h
    rw [numT, if_neg (fun e => h.1 e.symm), ih h.2]
    rfl
theorem numT_append {l m : List ByteArray} {s : ByteArray} (h : s ∈ l) : numT (l ++ m) s = numT l s := by
  induction l with
  | nil => cases h
  | cons a l ih =>
    rw [List.cons_append, numT, numT]
    split
    · rfl
    · rename_i hne
      rcases List.mem_cons.1 h with e | h
      · exact absurd e.symm hne
      · rw [ih h]
theorem numT_snoc {l : List ByteArray} {s : ByteArray} (h : s ∉ l) : numT (l ++ [s]) s = l.length := by
  induction l with
  | nil => simp [numT]
  | cons a l ih =>
    rw [List.mem_cons, not_or] at h
    rw [List.cons_append, numT, if_neg (fun e => h.1 e.symm), ih h.2]
    rfl
theorem numT_get {l : List ByteArray} (hd : l.Nodup) (i : Nat) (hi : i < l.length) : numT l l[i] = i := by
  induction l generalizing i with
  | nil => simp at hi
  | cons a l ih =>
    rw [List.nodup_cons] at hd
    cases i with
    | zero => simp [numT]
    | succ i =>
      rw [List.getElem_cons_succ, numT, if_neg (fun e => hd.1 (by rw [e]; exact List.getElem_mem _)), ih hd.2]
theorem get_numT {l : List ByteArray} {s : ByteArray} (h : s ∈ l) : l[numT l s]? = some s := by
  induction l with
  | nil => cases h
  | cons a l ih =>
    rw [numT]
    split
    · rename_i e
      rw [e]
      rfl
    · rename_i hne
      rcases List.mem_cons.1 h with e | h
      · exact absurd e.symm hne
      · rw [List.getElem?_cons_succ]
        exact ih h
theorem internT_nodup {l : List ByteArray} {s : ByteArray} (h : l.Nodup) : (internT l s).Nodup := by
  unfold internT
  split
  · exact h
  · rename_i hn
    rw [List.nodup_append]
    exact ⟨h, by simp, fun a ha b hb => by simp at hb; subst hb; exact fun e => hn (e ▸ ha)⟩
/-- What a table of so many texts may be. -/
def Small (l : List ByteArray) : Prop := l.length ≤ 1000000 ∧ (∀ s ∈ l, s.size ≤ 1000000) ∧ totalT l ≤ 1000000000000
def fnT (l : List ByteArray) (s : ByteArray) : Option Int := if s ∈ l then some (numT l s) else none
def Tab (S : Nat → Prop) (w : World) (g : Nat) (l : List ByteArray) : Prop :=
  S g ∧ (∀ k, S k → k < w.heap.size) ∧ l.Nodup ∧ Small l ∧ ∃ A c m n, S m ∧ w.heap[g]? = some (.cells #[.slice A l.length c, .map (some m), .int .i64 (totalT l)] 117 (0, 0)) ∧
    Row w 0 9 1 (.slice A l.length c) (strs l) ∧ (∀ b, blk (.slice A l.length c) = some b → S b) ∧ StrMap w m n (fnT l) ∧ n ≤ l.length
theorem Tab.touch {S T : Nat → Prop} {w w' : World} {g : Nat} {l : List ByteArray} (h : Tab S w g l) (ht : Touch T w w') (hd : ∀ k, S k → ¬ T k) : Tab S w' g l := by
  obtain ⟨h0, hl, h1, h2, A, c, m, n, hm, hg, hr, hb, hmap, hn⟩ := h
  exact ⟨h0, fun k hk => Nat.lt_of_lt_of_le (hl k hk) ht.size, h1, h2, A, c, m, n, hm, ht.blk hg (hd g h0), hr.touch ht fun b hb' => hd b (hb b hb'), hb, hmap.touch ht (hd m hm), hn⟩
theorem Tab.later {S : Nat → Prop} {w w' : World} {g : Nat} {l : List ByteArray} (h : Tab S w g l) (hb : Below w.heap.size w w') : Tab S w' g l :=
  h.touch (T := fun _ => False) (Touch.of_below hb) fun _ _ h => h
def TabRet (v : Value) (S : Nat → Prop) (g : Nat) (l : List ByteArray) (w : World) (e : Ending) (w' : World) : Prop := e = .returned v ∧ ∃ S', Tab S' w' g l ∧ Grew S S' w w'
theorem Grew.refl (S : Nat → Prop) (w : World) : Grew S S w w := ⟨Touch.refl _ _, fun _ h => .inl h⟩

set_option maxHeartbeats 1000000 in
theorem tabNew_any (w : World) : Calls Tryd.prog 32 #[] w fun e w' => ∃ g, e = .returned (.pointer (some ⟨g, 0, none⟩)) ∧ (∃ S, Tab S w' g [] ∧ ∀ k, S k → w.heap.size ≤ k) ∧ Below w.heap.size w w' := by
  have hmm := @run_makeMap Tryd.prog
  go_enter Tryd.func32, Tryd.ntmps32
  go_wp2
  go_ret
  refine ⟨_, rfl, ⟨fun k => w.heap.size ≤ k ∧ k < w.heap.size + 2, ⟨⟨by omega, by omega⟩, fun k hk => by simp; omega, by simp, ⟨by simp, by simp, by simp [totalT]⟩, none, 0, w.heap.size, 0, ⟨by omega, by omega⟩, ?_, Row.empty _ _ _ _ _, (fun b hb => by cases hb), ?_, Nat.le_refl _⟩, fun k hk => hk.1⟩, below_alloc' (below_alloc' (Below.refl _ _) _) _⟩
  · have := blk_new (w.alloc (.map #[] 0)) (.cells #[.slice none 0 0, .map (some w.heap.size), .int .i64 0] 117)
    simpa [totalT] using this
  · have h1 : StrMap (w.alloc (.map #[] 0)) w.heap.size 0 (fnT []) := (StrMap.new w).congr fun s => by simp [fnT]
    exact h1.touch (S := fun _ => False) (Touch.of_below (below_alloc' (Below.refl _ _) _)) fun h => h
set_option maxRecDepth 100000 in
set_option maxHeartbeats 1000000 in
theorem tabHas_any (S : Nat → Prop) (g : Nat) (l : List ByteArray) (s : ByteArray) (w : World) (h : Tab S w g l) (hs : s.size ≤ 1000000) :
    Calls Tryd.prog 99 #[.pointer (some ⟨g, 0, none⟩), .string s] w fun e w' => e = .returned (.bool (decide (s ∈ l))) ∧ Below w.heap.size w w' := by
  obtain ⟨-, -, -, -, A, c, m, n, -, hg, -, -, hmap, -⟩ := h
  have c1 := blk_cell hg 1
  have hlook := hmap.look s (by omega)
  have hb : (fnT l s).isSome = decide (s ∈ l) := by
    unfold fnT
    split <;> simp_all
  rw [hb] at hlook
  generalize (fnT l s).getD 0 = x at hlook
  generalize decide (s ∈ l) = b at *
  clear hb hmap
  go_enter Tryd.func99, Tryd.ntmps99
  go_wp2
  go_ret
  first | exact ⟨rfl, Below.refl _ _⟩ | exact ⟨rfl, below_alloc' (Below.refl _ _) _⟩
set_option maxHeartbeats 1000000 in
theorem tabLen_any (S : Nat → Prop) (g : Nat) (l : List ByteArray) (w : World) (h : Tab S w g l) : Calls Tryd.prog 36 #[.pointer (some ⟨g, 0, none⟩)] w fun e w' => e = .returned (.int .i64 l.length) ∧ w = w' := by
  obtain ⟨-, -, -, -, A, c, m, n, -, hg, -, -, -, -⟩ := h
  have c0 := blk_cell hg 0
  go_enter Tryd.func36, Tryd.ntmps36
  go_wp2
  go_ret
  exact ⟨rfl, rfl⟩
set_option maxHeartbeats 1000000 in
theorem tabBytes_any (S : Nat → Prop) (g : Nat) (l : List ByteArray) (w : World) (h : Tab S w g l) : Calls Tryd.prog 37 #[.pointer (some ⟨g, 0, none⟩)] w fun e w' => e = .returned (.int .i64 (totalT l)) ∧ w = w' := by
  obtain ⟨-, -, -, -, A, c, m, n, -, hg, -, -, -, -⟩ := h
  have c2 := blk_cell hg 2
  go_enter Tryd.func37, Tryd.ntmps37
  go_wp2
  go_ret
  exact ⟨rfl, rfl⟩
/-- A text by its number. -/
def atT (l : List ByteArray) (i : Int) : Option ByteArray := if 0 ≤ i then l[i.toNat]? else none
set_option maxRecDepth 100000 in
set_option maxHeartbeats 1000000 in
theorem tabAt_any (S : Nat → Prop) (g : Nat) (l : List ByteArray) (i : Int) (w : World) (h : Tab S w g l) : Calls Tryd.prog 35 #[.pointer (some ⟨g, 0, none⟩), .int .i64 i] w fun e w' => e = .returned (.tuple #[.string ((atT l i).getD ⟨#[]⟩), .bool (atT l i).isSome]) ∧ w = w' := by
  obtain ⟨-, -, -, hsm, A, c, m, n, -, hg, hr, -, -, -⟩ := h
  have c0 := blk_cell hg 0
  have hlen := hsm.1
  by_cases h0 : i < 0
  · have hv : atT l i = none := if_neg (by omega)
    rw [hv]
    clear hv
    go_enter Tryd.func35, Tryd.ntmps35
    go_wp2
    go_ret2
    exact ⟨rfl, rfl⟩
  · obtain ⟨i, rfl⟩ := Int.eq_ofNat_of_zero_le (show 0 ≤ i by omega)
    have hv : atT l i = l[i]? := by rw [atT, if_pos (by omega), Int.toNat_natCast]
    rw [hv]
    clear hv
    by_cases hi : i < l.length
    · rw [List.getElem?_eq_getElem hi]
      obtain ⟨b, k, c', e, -, hc, -⟩ := hr.cell i (by simpa using hi)
      injection e with eA _ _
      subst eA
      simp only [strs, List.getElem_map] at hc
      go_enter Tryd.func35, Tryd.ntmps35
      go_wp2
      go_ret2
      exact ⟨rfl, rfl⟩
    · rw [List.getElem?_eq_none (by omega)]
      have hge : (l.length : Int) ≤ (i : Int) := by omega
      go_enter Tryd.func35, Tryd.ntmps35
      go_wp2
      go_ret2
      exact ⟨rfl, rfl⟩

theorem totalT_snoc (l : List ByteArray) (s : ByteArray) : totalT (l ++ [s]) = totalT l + s.size := by rw [totalT_append]; simp [totalT]
set_option maxRecDepth 100000 in
set_option maxHeartbeats 2000000 in
theorem tabIntern_any (S : Nat → Prop) (g : Nat) (l : List ByteArray) (s : ByteArray) (w : World) (h : Tab S w g l) (hs : s.size ≤ 1000000) (hsm : Small (internT l s)) :
    Calls Tryd.prog 34 #[.pointer (some ⟨g, 0, none⟩), .string s] w (TabRet (.int .i64 (numT l s)) S g (internT l s) w) := by
  have hT := h
  obtain ⟨hg0, hSlt, hnd, hsm0, A, c, m, n, hm, hg, hr, hb, hmap, hn⟩ := h
  have c0 := blk_cell hg 0
  have c1 := blk_cell hg 1
  have hlook := hmap.look s (by omega)
  have hlt := blk_lt hg
  by_cases hmem : s ∈ l
  · have hi : internT l s = l := if_pos hmem
    rw [hi]
    have hf : fnT l s = some (numT l s : Int) := if_pos hmem
    rw [hf] at hlook
    simp only [Option.getD_some, Option.isSome_some] at hlook
    clear hf hi hmap
    go_enter Tryd.func34, Tryd.ntmps34
    go_wp2
    go_ret
    first | exact ⟨rfl, S, hT, Grew.refl _ _⟩ | exact ⟨rfl, S, hT.later (below_alloc' (Below.refl _ _) _), Touch.of_below (below_alloc' (Below.refl _ _) _), fun _ h => .inl h⟩
  · have hi : internT l s = l ++ [s] := if_neg hmem
    rw [hi] at hsm ⊢
    have hnum : numT l s = l.length := numT_not hmem
    rw [hnum]
    have hf : fnT l s = none := if_neg hmem
    rw [hf] at hlook
    simp only [Option.getD_none, Option.isSome_none] at hlook
    obtain ⟨l1, l2, l3⟩ := hsm0
    obtain ⟨w1, hstore, hmap1, hgr⟩ := hmap.store s (by omega) (l.length : Int) ⟨by omega, by omega⟩ (by omega)
    have t1 : Touch S w w1 := (Touch.of_grown hgr).mono fun k hk => by cases hk; exact hm
    have hgm : g ≠ m := by
      rintro rfl
      obtain ⟨D, ⟨es, clock, hb', -⟩, -⟩ := hmap
      rw [hg] at hb'
      cases hb'
    have hg1 : w1.heap[g]? = some (.cells #[.slice A l.length c, .map (some m), .int .i64 (totalT l)] 117 (0, 0)) := (hgr.block g hlt (fun e => hgm (by cases e; rfl))).trans hg
    have hrm : ∀ b, blk (.slice A l.length c) = some b → b ≠ m := by
      rintro b hb' rfl
      obtain ⟨-, -, cur, hcur⟩ := hr.typed b hb'
      obtain ⟨D, ⟨es, clock, hb'', -⟩, -⟩ := hmap
      rw [hcur] at hb''
      cases hb''
    have hr1 : Row w1 0 9 1 (.slice A l.length c) (strs l) := hr.grown hgr fun b hb' e => hrm b hb' (by cases e; rfl)
    have d0 := blk_cell hg1 0
    have hls : l.length + 1 ≤ 1000000 := by have := hsm.1; rw [List.length_append] at this; exact this
    replace hnum := Lib.hid hnum
    replace hi := Lib.hid hi
    replace hf := Lib.hid hf
    go_enter Tryd.func34, Tryd.ntmps34
    go_wp2_with (at_builtin; refine append_ev rfl _ _ 23 9 (.string ⟨#[]⟩) 1 16 rfl Tryd.underlying23 info_str rfl (by decide) 0 A l.length c (strs l) rfl (hr1.later (below_alloc' (Below.refl _ _) _)) _ 1 1 [.string s] rfl rfl (Cells.one _ _ _) (by intro u hu; simp at hu; subst hu; rfl) ?c1 ?c2 (Nat.zero_le _) ?_)
    case c1 => omega
    case c2 => omega
    intro A1 k1 w2 hr2 hg2 hw2
    have hrg : ∀ b, blk (.slice A l.length c) = some b → b ≠ g := fun b hb' => hr1.nblk hg1 (by decide) b hb'
    have hg2' : w2.heap[g]? = some (.cells #[.slice A l.length c, .map (some m), .int .i64 (totalT l)] 117 (0, 0)) := by
      rw [hg2.block g (by simp; exact Nat.lt_succ_of_lt (blk_lt hg1)) (fun e => hrg g e.symm rfl)]
      exact (Below.heap_alloc w1 _ g (blk_lt hg1)).trans hg1
    have e0 := blk_cell hg2' 0
    have e2 := blk_cell hg2' 2
    have f0 := blk_frozen hg2' 0
    have f2 := blk_frozen hg2' 2
    have hl2 := blk_lt hg2'
    have hl1 := blk_lt hg1
    clear hmap hlook hstore
    go_wp2
    go_ret
    have tA : Touch S w1 w2 := (Touch.of_below (below_alloc' (Below.refl _ w1) (.cells #[.string s] 9))).trans ((Touch.of_grown hg2).mono fun k hk => hb k hk.symm) fun i hi => .inl hi
    have tB : ∀ (u : Value) (i : Nat) (W : World), Touch S W (W.setCell ⟨g, i, none⟩ u) := fun u i W => (Touch.of_set W _ _).mono fun k hk => by rw [hk]; exact hg0
    have z1 := t1.size
    have z2 := tA.size
    have zs : (w1.alloc (.cells #[.string s] 9)).heap.size ≤ w2.heap.size := hg2.size
    simp only [World.size_alloc] at zs
    refine ⟨rfl, fun k => S k ∨ (w.heap.size ≤ k ∧ k < w2.heap.size), ⟨.inl hg0, fun k hk => ?_, (by have := internT_nodup (s := s) hnd; rwa [hi.out] at this), hsm, A1, k1, m, n + 1, .inl hm, ?_, ?_, fun b hb' => ?_, ?_, ?_⟩, ((t1.trans tA fun i hi => .inl hi).trans (tB _ 0 _) fun i hi => .inl hi).trans (tB _ 2 _) fun i hi => .inl hi, fun k hk => ?_⟩
    · show k < ((w2.setCell _ _).setCell _ _).heap.size
      simp only [World.setCell, Array.size_modify]
      rcases hk with hk | hk
      · have := hSlt k hk
        omega
      · exact hk.2
    · rw [List.length_append]
      have s1 := blk_set hg2' 0 (.slice A1 (l.length + 1) k1)
      have s2 := blk_set s1 2 (.int .i64 (totalT l + s.size))
      rw [totalT_snoc]
      exact s2
    · rw [List.length_append]
      have hne : ∀ b, blk (.slice A1 (l.length + 1) k1) = some b → b ≠ g := fun b hb' => hr2.nblk hg2' (by decide) b hb'
      have := (hr2.set (p := ⟨g, 0, none⟩) hne (.slice A1 (l.length + 1) k1)).set (p := ⟨g, 2, none⟩) hne (.int .i64 (totalT l + s.size))
      rw [show strs (l ++ [s]) = strs l ++ [.string s] from by simp [strs]]
      exact this
    · rw [List.length_append] at hb'
      rcases hw2 with e | e
      · exact .inl (hb b (e.symm.trans hb'))
      · have hb3 := (hr2.typed b hb').2.1
        rw [show blk (.slice A1 (l.length + 1) k1) = some b from hb'] at e
        cases e
        exact .inr ⟨by omega, hb3⟩
    · have hm2 : StrMap w2 m (n + 1) (fun t => if t = s then some (l.length : Int) else fnT l t) := by
        have hme : ∀ b, blk (.slice A l.length c) = some b → ¬ (some m = some b) := fun b hb' e => hrm b hb' (by cases e; rfl)
        have h1 := hmap1.touch (S := fun _ => False) (Touch.of_below (below_alloc' (Below.refl _ w1) (.cells #[.string s] 9))) fun h => h
        exact h1.touch (Touch.of_grown hg2) fun e => (by
          obtain ⟨b, hb'⟩ : ∃ b, blk (.slice A l.length c) = some b := ⟨m, e.symm⟩
          exact hme b hb' (by rw [← hb']; exact e))
      have hm3 := (hm2.touch (Touch.of_set w2 ⟨g, 0, none⟩ (.slice A1 (l.length + 1) k1)) (fun e => hgm e.symm)).touch (Touch.of_set _ ⟨g, 2, none⟩ (.int .i64 (totalT l + s.size))) (fun e => hgm e.symm)
      refine hm3.congr fun t => ?_
      unfold fnT
      by_cases ht : t = s
      · subst ht
        rw [if_pos rfl, if_pos (by simp), numT_snoc hmem]
      · rw [if_neg ht]
        by_cases htl : t ∈ l
        · rw [if_pos htl, if_pos (by simp [htl]), numT_append htl]
        · rw [if_neg htl, if_neg (by simp [htl, ht])]
    · rw [List.length_append]
      exact Nat.succ_le_succ hn
    · rcases hk with hk | hk
      · exact .inl hk
      · refine .inr ⟨hk.1, ?_⟩
        show k < ((w2.setCell _ _).setCell _ _).heap.size
        simp only [World.setCell, Array.size_modify]
        exact hk.2
end Go.Proofs.YtdgjgekefpfgiaaDoor
