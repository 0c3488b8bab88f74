/- field.Copy, the reference's Copy: what is handed back is the call's own. -/
import Derived.Test.YtdgjgekefpfgiaaDoorClo
import Derived.Deep.RegionHeld3
import Derived.Test.YtdgjgekefpfgiaaDoorRel
namespace Go.Proofs.YtdgjgekefpfgiaaDoor
open Go.RowKit

/-- A node that is the call's own: three rows. -/
def OwnNd (w' : World) (base : Nat) (n : Nd) (vi vt vk : Value) : Prop := Row w' base 2 1 vi (ints n.ints) ∧ Row w' base 9 1 vt (strs n.texts) ∧ Row w' base 3 1 vk (ints n.kids)
def NdRet (w : World) (n : Nd) (x : Ending) (w' : World) : Prop :=
  ∃ A1 c1 A2 c2 A3 c3, x = .returned (.agg #[.int .i64 n.kind, .slice A1 n.ints.length c1, .slice A2 n.texts.length c2, .slice A3 n.kids.length c3]) ∧
    OwnNd w' w.heap.size n (.slice A1 n.ints.length c1) (.slice A2 n.texts.length c2) (.slice A3 n.kids.length c3) ∧ Below w.heap.size w w'
/-- A node's four cells are written into a block that is none of its rows. -/
theorem OwnNd.set4 {w : World} {base g : Nat} {n : Nd} {vi vt vk : Value} (h : OwnNd w base n vi vt vk) (hi : ∀ b, blk vi = some b → b ≠ g) (ht : ∀ b, blk vt = some b → b ≠ g) (hk : ∀ b, blk vk = some b → b ≠ g)
    (o1 o2 o3 o4 : Nat) (u1 u2 u3 u4 : Value) : OwnNd ((((w.setCell ⟨g, o1, none⟩ u1).setCell ⟨g, o2, none⟩ u2).setCell ⟨g, o3, none⟩ u3).setCell ⟨g, o4, none⟩ u4) base n vi vt vk :=
  ⟨(((h.1.set hi _).set hi _).set hi _).set hi _, (((h.2.1.set ht _).set ht _).set ht _).set ht _, (((h.2.2.set hk _).set hk _).set hk _).set hk _⟩
theorem below_set4 {w W : World} (h : Below w.heap.size w W) {g : Nat} (hg : w.heap.size ≤ g) (o1 o2 o3 o4 : Nat) (u1 u2 u3 u4 : Value) :
    Below w.heap.size w ((((W.setCell ⟨g, o1, none⟩ u1).setCell ⟨g, o2, none⟩ u2).setCell ⟨g, o3, none⟩ u3).setCell ⟨g, o4, none⟩ u4) := below_set (below_set (below_set (below_set h hg _) hg _) hg _) hg _

/-- The node that came in, in its box; and the block for the result. -/
theorem two_boxes (w : World) (cs ds : Array Value) (t u : TypeId) : ∃ W, W = (w.alloc (.cells cs t)).alloc (.cells ds u) ∧ W.heap[w.heap.size]? = some (.cells cs t (0, 0)) ∧ W.heap[w.heap.size + 1]? = some (.cells ds u (0, 0)) ∧ Below w.heap.size w W :=
  ⟨_, rfl, (Below.heap_alloc _ _ _ (by simp)).trans (blk_new _ _), by simpa using blk_new (w.alloc (.cells cs t)) _, below_alloc' (below_alloc' (Below.refl _ _) _) _⟩

set_option maxHeartbeats 1000000 in
theorem copy_any (n : Nd) (vi vt vk : Value) (w : World) (h : NdV Any w n vi vt vk) : Calls Tryd.prog 89 #[.agg #[.int .i64 n.kind, vi, vt, vk]] w (NdRet w n) := by
  go_enter Tryd.func89, Tryd.ntmps89
  go_wp2
  obtain ⟨W, hW, hbox, htgt, hbW⟩ := two_boxes w #[.int .i64 n.kind, vi, vt, vk] #[.int .i64 0, .slice none 0 0, .slice none 0 0, .slice none 0 0] 26 26
  rw [← hW]
  clear hW
  have c0 : W.cell? ⟨w.heap.size, 0, none⟩ = some (.int .i64 n.kind) := blk_cell hbox 0
  have c1 : W.cell? ⟨w.heap.size, 1, none⟩ = some vi := blk_cell hbox 1
  have c2 : W.cell? ⟨w.heap.size, 2, none⟩ = some vt := blk_cell hbox 2
  have c3 : W.cell? ⟨w.heap.size, 3, none⟩ = some vk := blk_cell hbox 3
  have hn := h.later hbW
  have hS : Below W.heap.size W W.drew := (Below.refl _ _).drew
  go_region_held3 (fun w' => w'.cell? ⟨w.heap.size, 0, none⟩ = some (.int .i64 n.kind) ∧ w'.cell? ⟨w.heap.size, 1, none⟩ = some vi ∧ w'.cell? ⟨w.heap.size, 2, none⟩ = some vt ∧ w'.cell? ⟨w.heap.size, 3, none⟩ = some vk)
    (first | exact ⟨cell_later' hS c0, cell_later' hS c1, cell_later' hS c2, cell_later' hS c3⟩ | go_keep)
    (first
      | (go_at_call 136; refine (clone_i64 _ _ _ (hn.2.1.later hS)).mono ?_; rintro x w1 ⟨A1, k1, rfl, ho1, hb1⟩; replace hS := below2 hS hb1)
      | (go_at_call 137; refine (clone_str _ _ _ (hn.2.2.1.later hS)).mono ?_; rintro x w2 ⟨A2, k2, rfl, ho2, hb2⟩; replace hS := below2 hS hb2)
      | (go_at_call 130; refine (clone_int _ _ _ (hn.2.2.2.later hS)).mono ?_; rintro x w3 ⟨A3, k3, rfl, ho3, hb3⟩; replace hS := below2 hS hb3; have d0 := cell_later' hS c0; have d1 := cell_later' hS c1; have d2 := cell_later' hS c2; have d3 := cell_later' hS c3; have t0 := blk_cell (blk_later hS htgt); have f0 := blk_frozen (blk_later hS htgt)))
  have hs : w.heap.size + 1 < W.heap.size := blk_lt htgt
  have hb2s := hb2.size
  have hb1s := hb1.size
  have e0 : W.drew.heap.size = W.heap.size := rfl
  have O : OwnNd w3 (w.heap.size + 2) n (.slice A1 (ints n.ints).length k1) (.slice A2 (strs n.texts).length k2) (.slice A3 (ints n.kids).length k3) :=
    ⟨((ho1.later hb2).later hb3).lower (by omega), (ho2.later hb3).lower (by omega), ho3.lower (by omega)⟩
  simp only [ints_length, strs_length] at O
  have hB : Below w.heap.size w w3 := below2 hbW hS
  go_wp2
  refine bodyPost_ret (v := .agg #[.int .i64 n.kind, .slice A1 n.ints.length k1, .slice A2 n.texts.length k2, .slice A3 n.kids.length k3]) (by simp [results, Tryd.results89, go_sem, t0]) rfl ⟨_, _, _, _, _, _, rfl, ?_, below_set4 hB (by omega) _ _ _ _ _ _ _ _⟩
  have hne : ∀ b : Nat, w.heap.size + 2 ≤ b → b ≠ w.heap.size + 1 := fun b h => by omega
  have := O.set4 (g := w.heap.size + 1) (fun b hb => hne b (O.1.typed b hb).1) (fun b hb => hne b (O.2.1.typed b hb).1) (fun b hb => hne b (O.2.2.typed b hb).1) 0 1 2 3 (.int .i64 n.kind) (.slice A1 n.ints.length k1) (.slice A2 n.texts.length k2) (.slice A3 n.kids.length k3)
  exact ⟨this.1.lower (by omega), this.2.1.lower (by omega), this.2.2.lower (by omega)⟩

/-- What each operation of the reference's Copy yields. -/
def CpyIs (g base : Nat) (n : Nd) (vi vt vk : Value) (k : Nat) (v : Value) (u : World) : Prop :=
  match k with
  | 0 => v = .pointer (some ⟨g, 0, none⟩)
  | 1 => v = .int .i64 n.kind
  | 2 => ∃ A, v = .slice A 0 0
  | 3 => v = .pointer (some ⟨g, 1, none⟩)
  | 4 => v = vi
  | 5 => ∃ A c, v = .slice A n.ints.length c ∧ Row u base 2 1 (.slice A n.ints.length c) (ints n.ints)
  | 6 => ∃ A, v = .slice A 0 0
  | 7 => v = .pointer (some ⟨g, 2, none⟩)
  | 8 => v = vt
  | 9 => ∃ A c, v = .slice A n.texts.length c ∧ Row u base 9 1 (.slice A n.texts.length c) (strs n.texts)
  | 10 => ∃ A, v = .slice A 0 0
  | 11 => v = .pointer (some ⟨g, 3, none⟩)
  | 12 => v = vk
  | 13 => ∃ A c, v = .slice A n.kids.length c ∧ Row u base 3 1 (.slice A n.kids.length c) (ints n.kids)
  | _ => True
theorem CpyIs.later {g base : Nat} {n : Nd} {vi vt vk : Value} {u u' : World} (hb : Below u.heap.size u u') : ∀ k v, CpyIs g base n vi vt vk k v u → CpyIs g base n vi vt vk k v u' := by
  intro k v h
  match k, h with
  | 0, h => exact h
  | 1, h => exact h
  | 2, h => exact h
  | 3, h => exact h
  | 4, h => exact h
  | 5, ⟨A, c, e, r⟩ => exact ⟨A, c, e, r.later hb⟩
  | 6, h => exact h
  | 7, h => exact h
  | 8, h => exact h
  | 9, ⟨A, c, e, r⟩ => exact ⟨A, c, e, r.later hb⟩
  | 10, h => exact h
  | 11, h => exact h
  | 12, h => exact h
  | 13, ⟨A, c, e, r⟩ => exact ⟨A, c, e, r.later hb⟩
  | k + 14, h => exact h

set_option maxHeartbeats 1000000 in
theorem refCopy_any (n : Nd) (vi vt vk : Value) (w : World) (h : NdV Any w n vi vt vk) : Calls Tryd.prog 63 #[.agg #[.int .i64 n.kind, vi, vt, vk]] w (NdRet w n) := by
  obtain ⟨B1, q1, rfl, -, L1⟩ := h.2.1.form
  obtain ⟨B2, q2, rfl, -, L2⟩ := h.2.2.1.form
  obtain ⟨B3, q3, rfl, -, L3⟩ := h.2.2.2.form
  go_enter Tryd.func63, Tryd.ntmps63
  go_wp2
  obtain ⟨W, hW, hbox, htgt, hbW⟩ := two_boxes w #[.int .i64 n.kind, .slice B1 n.ints.length q1, .slice B2 n.texts.length q2, .slice B3 n.kids.length q3] #[.int .i64 0, .slice none 0 0, .slice none 0 0, .slice none 0 0] 26 26
  rw [← hW]
  clear hW
  have hn := h.later hbW
  have hs : w.heap.size + 1 < W.heap.size := blk_lt htgt
  have hc : ∀ u, Below W.heap.size W u → u.cell? ⟨w.heap.size, 0, none⟩ = some (.int .i64 n.kind) ∧ u.cell? ⟨w.heap.size, 1, none⟩ = some (.slice B1 n.ints.length q1) ∧ u.cell? ⟨w.heap.size, 2, none⟩ = some (.slice B2 n.texts.length q2) ∧ u.cell? ⟨w.heap.size, 3, none⟩ = some (.slice B3 n.kids.length q3) :=
    fun u hu => ⟨blk_cell (blk_later hu hbox) 0, blk_cell (blk_later hu hbox) 1, blk_cell (blk_later hu hbox) 2, blk_cell (blk_later hu hbox) 3⟩
  refine wp_region_rel (fun x => { tmps := #[.agg #[.int .i64 n.kind, .slice B1 n.ints.length q1, .slice B2 n.texts.length q2, .slice B3 n.kids.length q3], .pointer (some ⟨w.heap.size, 0, none⟩), .pointer (some ⟨w.heap.size + 1, 0, none⟩), x 0, x 1, x 2, x 3, x 4, x 5, x 6, x 7, x 8, x 9, x 10, x 11, x 12, x 13, undef], defers := [] })
    (fun u => Below W.heap.size W u) (CpyIs w.heap.size (w.heap.size + 2) n (.slice B1 n.ints.length q1) (.slice B2 n.texts.length q2) (.slice B3 n.kids.length q3)) 14 (fun _ => undef) (by kernel_rfl) (by kernel_rfl) rfl (Below.refl _ _).drew ?_ ?_
  · refine ⟨?_, ?_, ?_, ?_, ?_, ?_, ?_, ?_, ?_, ?_, ?_, ?_, ?_, ?_, trivial⟩
    · exact relOp_run _ _ _ rfl (fun _ _ => rfl) fun x u hC _ => ⟨_, u, by go_simp, rfl, hC, fun _ _ h => h⟩
    · refine relOp_run _ _ _ rfl (fun _ _ => rfl) fun x u hC hd => ⟨_, u, ?_, rfl, hC, fun _ _ h => h⟩
      have d : x 0 = _ := hd ⟨0, .data⟩ (by simp) rfl
      have hcu := hc u hC
      clear hd
      go_simp
    · exact relOp_run _ _ _ rfl (fun _ _ => rfl) fun x u hC _ => ⟨.slice (some ⟨u.heap.size, 0, none⟩) 0 0, u.alloc (.cells #[] 2), by go_simp, ⟨_, rfl⟩, below_alloc' hC _, CpyIs.later (below_alloc' (Below.refl _ _) _)⟩
    · exact relOp_run _ _ _ rfl (fun _ _ => rfl) fun x u hC _ => ⟨_, u, by go_simp, rfl, hC, fun _ _ h => h⟩
    · refine relOp_run _ _ _ rfl (fun _ _ => rfl) fun x u hC hd => ⟨_, u, ?_, rfl, hC, fun _ _ h => h⟩
      have d : x 3 = _ := hd ⟨3, .data⟩ (by simp) rfl
      have hcu := hc u hC
      clear hd
      go_simp
    · refine relOp_append _ _ _ rfl (fun _ _ => rfl) (.tmp 5) (.tmp 7) 22 2 (.int .i64 0) 1 8 rfl Tryd.underlying22 info_i64 rfl (by decide) (w.heap.size + 2) 0 n.ints.length [] (ints n.ints) (ints_one _) (by simp) (by omega) (by omega) fun x u hC hd => ?_
      obtain ⟨A0, d1⟩ : ∃ A, x 2 = .slice A 0 0 := hd ⟨2, .data⟩ (by simp) rfl
      have d2 : x 4 = _ := hd ⟨4, .data⟩ (by simp) rfl
      have hz := hC.size
      refine ⟨A0, 0, _, _, d1, Row.empty _ _ _ _ _, d2, (hn.2.1.later hC).cells, by omega, fun A1 c1 u' h2 h3 _ => ?_⟩
      have hb := below_append h3
      rw [Nat.zero_add] at h2
      exact ⟨⟨A1, c1, by rw [Nat.zero_add], h2⟩, below2 hC hb, fun j y _ => CpyIs.later hb j y⟩
    · exact relOp_run _ _ _ rfl (fun _ _ => rfl) fun x u hC _ => ⟨.slice (some ⟨u.heap.size, 0, none⟩) 0 0, u.alloc (.cells #[] 9), by go_simp, ⟨_, rfl⟩, below_alloc' hC _, CpyIs.later (below_alloc' (Below.refl _ _) _)⟩
    · exact relOp_run _ _ _ rfl (fun _ _ => rfl) fun x u hC _ => ⟨_, u, by go_simp, rfl, hC, fun _ _ h => h⟩
    · refine relOp_run _ _ _ rfl (fun _ _ => rfl) fun x u hC hd => ⟨_, u, ?_, rfl, hC, fun _ _ h => h⟩
      have d : x 7 = _ := hd ⟨7, .data⟩ (by simp) rfl
      have hcu := hc u hC
      clear hd
      go_simp
    · refine relOp_append _ _ _ rfl (fun _ _ => rfl) (.tmp 9) (.tmp 11) 23 9 (.string ⟨#[]⟩) 1 16 rfl Tryd.underlying23 info_str rfl (by decide) (w.heap.size + 2) 0 n.texts.length [] (strs n.texts) (strs_one _) (by simp) (by omega) (by omega) fun x u hC hd => ?_
      obtain ⟨A0, d1⟩ : ∃ A, x 6 = .slice A 0 0 := hd ⟨6, .data⟩ (by simp) rfl
      have d2 : x 8 = _ := hd ⟨8, .data⟩ (by simp) rfl
      have hz := hC.size
      refine ⟨A0, 0, _, _, d1, Row.empty _ _ _ _ _, d2, (hn.2.2.1.later hC).cells, by omega, fun A1 c1 u' h2 h3 _ => ?_⟩
      have hb := below_append h3
      rw [Nat.zero_add] at h2
      exact ⟨⟨A1, c1, by rw [Nat.zero_add], h2⟩, below2 hC hb, fun j y _ => CpyIs.later hb j y⟩
    · exact relOp_run _ _ _ rfl (fun _ _ => rfl) fun x u hC _ => ⟨.slice (some ⟨u.heap.size, 0, none⟩) 0 0, u.alloc (.cells #[] 3), by go_simp, ⟨_, rfl⟩, below_alloc' hC _, CpyIs.later (below_alloc' (Below.refl _ _) _)⟩
    · exact relOp_run _ _ _ rfl (fun _ _ => rfl) fun x u hC _ => ⟨_, u, by go_simp, rfl, hC, fun _ _ h => h⟩
    · refine relOp_run _ _ _ rfl (fun _ _ => rfl) fun x u hC hd => ⟨_, u, ?_, rfl, hC, fun _ _ h => h⟩
      have d : x 11 = _ := hd ⟨11, .data⟩ (by simp) rfl
      have hcu := hc u hC
      clear hd
      go_simp
    · refine relOp_append _ _ _ rfl (fun _ _ => rfl) (.tmp 13) (.tmp 15) 24 3 (.int .i64 0) 1 8 rfl Tryd.underlying24 info_int rfl (by decide) (w.heap.size + 2) 0 n.kids.length [] (ints n.kids) (ints_one _) (by simp) (by omega) (by omega) fun x u hC hd => ?_
      obtain ⟨A0, d1⟩ : ∃ A, x 10 = .slice A 0 0 := hd ⟨10, .data⟩ (by simp) rfl
      have d2 : x 12 = _ := hd ⟨12, .data⟩ (by simp) rfl
      have hz := hC.size
      refine ⟨A0, 0, _, _, d1, Row.empty _ _ _ _ _, d2, (hn.2.2.2.later hC).cells, by omega, fun A1 c1 u' h2 h3 _ => ?_⟩
      have hb := below_append h3
      rw [Nat.zero_add] at h2
      exact ⟨⟨A1, c1, by rw [Nat.zero_add], h2⟩, below2 hC hb, fun j y _ => CpyIs.later hb j y⟩
  · intro x u hC hΦ
    have e1 : x 1 = _ := hΦ 1 (by decide)
    obtain ⟨A1, k1, e5, r1⟩ := hΦ 5 (by decide)
    obtain ⟨A2, k2, e9, r2⟩ := hΦ 9 (by decide)
    obtain ⟨A3, k3, e13, r3⟩ := hΦ 13 (by decide)
    have t0 := blk_cell (blk_later hC htgt)
    have f0 := blk_frozen (blk_later hC htgt)
    have hB : Below w.heap.size w u := below2 hbW hC
    have O : OwnNd u (w.heap.size + 2) n (.slice A1 n.ints.length k1) (.slice A2 n.texts.length k2) (.slice A3 n.kids.length k3) := ⟨r1, r2, r3⟩
    clear hΦ hc
    go_wp2
    refine bodyPost_ret (v := .agg #[.int .i64 n.kind, .slice A1 n.ints.length k1, .slice A2 n.texts.length k2, .slice A3 n.kids.length k3]) (by simp [results, Tryd.results63, go_sem, t0]) rfl ⟨_, _, _, _, _, _, rfl, ?_, below_set4 hB (by omega) _ _ _ _ _ _ _ _⟩
    have hne : ∀ b : Nat, w.heap.size + 2 ≤ b → b ≠ w.heap.size + 1 := fun b h => by omega
    have := O.set4 (g := w.heap.size + 1) (fun b hb => hne b (O.1.typed b hb).1) (fun b hb => hne b (O.2.1.typed b hb).1) (fun b hb => hne b (O.2.2.typed b hb).1) 0 1 2 3 (.int .i64 n.kind) (.slice A1 n.ints.length k1) (.slice A2 n.texts.length k2) (.slice A3 n.kids.length k3)
    exact ⟨this.1.lower (by omega), this.2.1.lower (by omega), this.2.2.lower (by omega)⟩
end Go.Proofs.YtdgjgekefpfgiaaDoor
