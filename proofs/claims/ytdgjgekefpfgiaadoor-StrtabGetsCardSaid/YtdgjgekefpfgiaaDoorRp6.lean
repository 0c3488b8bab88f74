/- The reference's table: its bytes; with a text more. -/
import Derived.Test.YtdgjgekefpfgiaaDoorRs1
import Derived.Test.YtdgjgekefpfgiaaDoorVpr
import Derived.Test.YtdgjgekefpfgiaaDoorRgl
namespace Go.Proofs.YtdgjgekefpfgiaaDoor
open Go.RowKit

theorem ba_append (a b : List UInt8) : (⟨a.toArray⟩ : ByteArray) ++ ⟨b.toArray⟩ = ⟨(a ++ b).toArray⟩ := by
  apply ByteArray.ext
  rw [ByteArray.data_append]
  simp
set_option maxRecDepth 100000 in
set_option maxHeartbeats 2000000 in
theorem refPutT_any (v : Value) (l : List ByteArray) (w : World) (h : RS Any w v l) (hsm : Small l) : Calls Tryd.prog 42 #[v] w fun e w' => e = .returned (.string ⟨(putT l).toArray⟩) ∧ Below w.heap.size w w' := by
  obtain ⟨A, c, rfl, hc, hm⟩ := h.form
  obtain ⟨l1, l2, l3⟩ := hsm
  have hU : U64 l.length := by show l.length < 18446744073709551616; omega
  have hv10 := vput_len10 hU
  have hpl := putL_le l l2
  have hp0 := refVput_any l.length
  go_enter Tryd.func42, Tryd.ntmps42
  go_wp2_with fail
  refine (hp0 _ hU).mono ?_
  rintro e w1 ⟨rfl, hb1⟩
  go_wp2
  go_loopw [3, 4] (fun out i wr => ∃ k : Nat, k ≤ l.length ∧ i = .int .i64 k ∧ out = .string ⟨(vput l.length ++ putL (l.take k)).toArray⟩ ∧ Below w.heap.size w wr) (fun _ i _ => l.length - (intOf i).toNat)
  case atStart => exact ⟨0, Nat.zero_le _, rfl, by simp [putL], hb1⟩
  case round =>
    clear hb1 w1
    obtain ⟨k, hk, rfl, rfl, hbw⟩ := hrel
    by_cases hlt : k < l.length
    · obtain ⟨b, o, rfl, hb, hx, hxs⟩ := (h.later hbw).at k hlt
      have hsz := l2 l[k] (List.getElem_mem hlt)
      have hUk : U64 l[k].size := by show l[k].size < 18446744073709551616; omega
      have hk10 := vput_len10 hUk
      have hput := refVput_any l[k].size
      have hstep := Lib.hid (putL_take hlt)
      have hlk : (putL (l.take k)).length ≤ 10 * l.length + totalT l := by
        have h1 := putL_le (l.take k) fun s hs => l2 s (List.mem_of_mem_take hs)
        have h2 := totalT_take l k
        have h3 := List.length_take_le k l
        omega
      have hcat1 : ¬ (9223372036854775807 < (vput l[k].size).length + l[k].size) := by omega
      have hcat2 : ¬ (9223372036854775807 < (vput l.length ++ putL (l.take k)).length + ((vput l[k].size).length + l[k].size)) := by rw [List.length_append]; omega
      generalize hP : vput l.length ++ putL (l.take k) = P at *
      generalize hQ : vput l[k].size = Q at *
      generalize hX : l[k] = X at *
      replace hP := Lib.hid hP
      replace hX := Lib.hid hX
      go_wp2
      refine' rel_region ([]) 14 (fun x => { tmps := #[Value.slice (some { block := b, off := o }) (List.length l) c, undef, Value.string { data := #[] }, Value.string { data := List.toArray P }, Value.int IntKind.i64 (↑k : Int), Value.slice (some { block := b, off := o }) (List.length l) c, Value.int IntKind.i64 (↑(List.length l) : Int), Value.int IntKind.u64 (↑(List.length l) : Int), Value.string { data := List.toArray (vput (List.length l)) }, Value.int IntKind.i64 (↑k : Int), Value.slice (some { block := b, off := o }) (List.length l) c, Value.int IntKind.i64 (↑(List.length l) : Int), Value.bool true, u13, u14, x 0, x 1, x 2, x 3, x 4, x 5, x 6, x 7, x 8, x 9, x 10, x 11, x 12, x 13, undef], defers := [] }) (fun k => List.getD [u15, u16, u17, u18, u19, u20, u21, u22, u23, u24, u25, u26, u27, u28] k undef) [plain 0 (fun v _ => v = Value.string { data := List.toArray P }), plain 1 (fun v _ => v = Value.slice (some { block := b, off := o }) (List.length l) c), plain 2 (fun v _ => v = Value.int IntKind.i64 (↑k : Int)), plain 3 (fun v _ => v = Value.pointer (some { block := b, off := o + k })), plain 4 (fun v _ => v = Value.string X), plain 5 (fun v _ => v = Value.int IntKind.i64 (↑(ByteArray.size X) : Int)), plain 6 (fun v _ => v = Value.int IntKind.u64 (IntKind.wrap IntKind.u64 (↑(ByteArray.size X) : Int))), plain 7 (fun v _ => v = .string ⟨Q.toArray⟩), plain 8 (fun v _ => v = Value.slice (some { block := b, off := o }) (List.length l) c), plain 9 (fun v _ => v = Value.int IntKind.i64 (↑k : Int)), plain 10 (fun v _ => v = Value.pointer (some { block := b, off := o + k })), plain 11 (fun v _ => v = Value.string X), plain 12 (fun v _ => v = .string (⟨Q.toArray⟩ ++ X)), plain 13 (fun v _ => v = .string (⟨P.toArray⟩ ++ (⟨Q.toArray⟩ ++ X)))] (by kernel_rfl) (by decide +kernel) (by decide +kernel) rfl ?_ ?_ ?_
      refine And.intro (fun k hj _ => Stays.x (Stays.eq _) 0 hj) ?_
      refine And.intro (fun k hj _ => Stays.x (Stays.eq _) 1 hj) ?_
      refine And.intro (fun k hj _ => Stays.x (Stays.eq _) 2 hj) ?_
      refine And.intro (fun k hj _ => Stays.x (Stays.eq _) 3 hj) ?_
      refine And.intro (fun k hj _ => Stays.x (Stays.eq _) 4 hj) ?_
      refine And.intro (fun k hj _ => Stays.x (Stays.eq _) 5 hj) ?_
      refine And.intro (fun k hj _ => Stays.x (Stays.eq _) 6 hj) ?_
      refine And.intro (fun k hj _ => Stays.x (Stays.eq _) 7 hj) ?_
      refine And.intro (fun k hj _ => Stays.x (Stays.eq _) 8 hj) ?_
      refine And.intro (fun k hj _ => Stays.x (Stays.eq _) 9 hj) ?_
      refine And.intro (fun k hj _ => Stays.x (Stays.eq _) 10 hj) ?_
      refine And.intro (fun k hj _ => Stays.x (Stays.eq _) 11 hj) ?_
      refine And.intro (fun k hj _ => Stays.x (Stays.eq _) 12 hj) ?_
      refine And.intro (fun k hj _ => Stays.x (Stays.eq _) 13 hj) ?_
      exact trivial
      intro hst
      refine' And.intro ?_ ?_
      · refine' rOp_run _ _ (Value.string { data := List.toArray P }) hst (fun _ _ => rfl) (fun x u hC hd => ?_) (fun _ _ => upd_eq (v := Value.string { data := List.toArray P }))
        refine' And.intro ?_ ?_
        · rfl
        · have hcu := (fun u (hC : Below wr.heap.size wr u) => cell_later' hC hx) u hC
          clear hd hC
          first | (go_simp; done) | (go_simp; rfl) | rfl
      refine' And.intro ?_ ?_
      · refine' rOp_run _ _ (Value.slice (some { block := b, off := o }) (List.length l) c) hst (fun _ _ => rfl) (fun x u hC hd => ?_) (fun _ _ => upd_eq (v := Value.slice (some { block := b, off := o }) (List.length l) c))
        refine' And.intro ?_ ?_
        · rfl
        · have hcu := (fun u (hC : Below wr.heap.size wr u) => cell_later' hC hx) u hC
          clear hd hC
          first | (go_simp; done) | (go_simp; rfl) | rfl
      refine' And.intro ?_ ?_
      · refine' rOp_run _ _ (Value.int IntKind.i64 (↑k : Int)) hst (fun _ _ => rfl) (fun x u hC hd => ?_) (fun _ _ => upd_eq (v := Value.int IntKind.i64 (↑k : Int)))
        refine' And.intro ?_ ?_
        · rfl
        · have hcu := (fun u (hC : Below wr.heap.size wr u) => cell_later' hC hx) u hC
          clear hd hC
          first | (go_simp; done) | (go_simp; rfl) | rfl
      refine' And.intro ?_ ?_
      · refine' rOp_run _ _ (Value.pointer (some { block := b, off := o + k })) hst (fun _ _ => rfl) (fun x u hC hd => ?_) (fun _ _ => upd_eq (v := Value.pointer (some { block := b, off := o + k })))
        refine' And.intro ?_ ?_
        · rfl
        · have d1 : x 1 = Value.slice (some { block := b, off := o }) (List.length l) c := at_edge hd 0 (by decide) rfl
          have d2 : x 2 = Value.int IntKind.i64 (↑k : Int) := at_edge hd 1 (by decide) rfl
          have hcu := (fun u (hC : Below wr.heap.size wr u) => cell_later' hC hx) u hC
          clear hd hC
          first | (go_simp; done) | (go_simp; rfl) | rfl
      refine' And.intro ?_ ?_
      · refine' rOp_run _ _ (Value.string X) hst (fun _ _ => rfl) (fun x u hC hd => ?_) (fun _ _ => upd_eq (v := Value.string X))
        refine' And.intro ?_ ?_
        · rfl
        · have d3 : x 3 = Value.pointer (some { block := b, off := o + k }) := at_edge hd 0 (by decide) rfl
          have hcu := (fun u (hC : Below wr.heap.size wr u) => cell_later' hC hx) u hC
          clear hd hC
          first | (go_simp; done) | (go_simp; rfl) | rfl
      refine' And.intro ?_ ?_
      · refine' rOp_run _ _ (Value.int IntKind.i64 (↑(ByteArray.size X) : Int)) hst (fun _ _ => rfl) (fun x u hC hd => ?_) (fun _ _ => upd_eq (v := Value.int IntKind.i64 (↑(ByteArray.size X) : Int)))
        refine' And.intro ?_ ?_
        · rfl
        · have d4 : x 4 = Value.string X := at_edge hd 0 (by decide) rfl
          have hcu := (fun u (hC : Below wr.heap.size wr u) => cell_later' hC hx) u hC
          clear hd hC
          first | (go_simp; done) | (go_simp; rfl) | rfl
      refine' And.intro ?_ ?_
      · refine' rOp_run _ _ (Value.int IntKind.u64 (IntKind.wrap IntKind.u64 (↑(ByteArray.size X) : Int))) hst (fun _ _ => rfl) (fun x u hC hd => ?_) (fun _ _ => upd_eq (v := Value.int IntKind.u64 (IntKind.wrap IntKind.u64 (↑(ByteArray.size X) : Int))))
        refine' And.intro ?_ ?_
        · rfl
        · have d5 : x 5 = Value.int IntKind.i64 (↑(ByteArray.size X) : Int) := at_edge hd 0 (by decide) rfl
          have hcu := (fun u (hC : Below wr.heap.size wr u) => cell_later' hC hx) u hC
          clear hd hC
          first | (go_simp; done) | (go_simp; rfl) | rfl
      refine' And.intro ?_ ?_
      refine' rOp_call _ _ hst (fun _ _ => rfl) (fun x u hC hd => ?_)
      refine' And.intro ?_ ?_
      · rfl
      have d6 : x 6 = Value.int IntKind.u64 (IntKind.wrap IntKind.u64 (↑(ByteArray.size X) : Int)) := at_edge hd 0 (by decide) rfl
      have hcu := (fun u (hC : Below wr.heap.size wr u) => cell_later' hC hx) u hC
      clear hd
      refine' Exists.intro (94) (Exists.intro (#[Value.int IntKind.u64 (IntKind.wrap IntKind.u64 (↑(ByteArray.size X) : Int))]) (And.intro ?_ ?_))
      · first | (go_simp; done) | (go_simp; exact ⟨rfl, rfl⟩) | (go_simp; rfl)
      show Calls _ _ _ _ (fun e u' => ∃ v, e = Ending.returned v ∧ v = Value.string { data := List.toArray Q } ∧ Below (Array.size (World.heap u)) u u')
      rotate_left
      refine' And.intro ?_ ?_
      · refine' rOp_run _ _ (Value.slice (some { block := b, off := o }) (List.length l) c) hst (fun _ _ => rfl) (fun x u hC hd => ?_) (fun _ _ => upd_eq (v := Value.slice (some { block := b, off := o }) (List.length l) c))
        refine' And.intro ?_ ?_
        · rfl
        · have hcu := (fun u (hC : Below wr.heap.size wr u) => cell_later' hC hx) u hC
          clear hd hC
          first | (go_simp; done) | (go_simp; rfl) | rfl
      refine' And.intro ?_ ?_
      · refine' rOp_run _ _ (Value.int IntKind.i64 (↑k : Int)) hst (fun _ _ => rfl) (fun x u hC hd => ?_) (fun _ _ => upd_eq (v := Value.int IntKind.i64 (↑k : Int)))
        refine' And.intro ?_ ?_
        · rfl
        · have hcu := (fun u (hC : Below wr.heap.size wr u) => cell_later' hC hx) u hC
          clear hd hC
          first | (go_simp; done) | (go_simp; rfl) | rfl
      refine' And.intro ?_ ?_
      · refine' rOp_run _ _ (Value.pointer (some { block := b, off := o + k })) hst (fun _ _ => rfl) (fun x u hC hd => ?_) (fun _ _ => upd_eq (v := Value.pointer (some { block := b, off := o + k })))
        refine' And.intro ?_ ?_
        · rfl
        · have d8 : x 8 = Value.slice (some { block := b, off := o }) (List.length l) c := at_edge hd 0 (by decide) rfl
          have d9 : x 9 = Value.int IntKind.i64 (↑k : Int) := at_edge hd 1 (by decide) rfl
          have hcu := (fun u (hC : Below wr.heap.size wr u) => cell_later' hC hx) u hC
          clear hd hC
          first | (go_simp; done) | (go_simp; rfl) | rfl
      refine' And.intro ?_ ?_
      · refine' rOp_run _ _ (Value.string X) hst (fun _ _ => rfl) (fun x u hC hd => ?_) (fun _ _ => upd_eq (v := Value.string X))
        refine' And.intro ?_ ?_
        · rfl
        · have d10 : x 10 = Value.pointer (some { block := b, off := o + k }) := at_edge hd 0 (by decide) rfl
          have hcu := (fun u (hC : Below wr.heap.size wr u) => cell_later' hC hx) u hC
          clear hd hC
          first | (go_simp; done) | (go_simp; rfl) | rfl
      refine' And.intro ?_ ?_
      refine' rOp_new _ _ hst (fun _ _ => rfl) (fun x u hC hd => ?_)
      refine' And.intro ?_ ?_
      · rfl
      have d7 : x 7 = Value.string { data := List.toArray Q } := at_edge hd 0 (by decide) rfl
      have d11 : x 11 = Value.string X := at_edge hd 1 (by decide) rfl
      have hcu := (fun u (hC : Below wr.heap.size wr u) => cell_later' hC hx) u hC
      clear hd
      show ∃ v u', Sem.run _ _ _ = Result.ok (Next.value v) u' ∧ v = Value.string ({ data := List.toArray Q } ++ X) ∧ Below (Array.size (World.heap u)) u u'
      rotate_left
      refine' And.intro ?_ ?_
      refine' rOp_new _ _ hst (fun _ _ => rfl) (fun x u hC hd => ?_)
      refine' And.intro ?_ ?_
      · rfl
      have d0 : x 0 = Value.string { data := List.toArray P } := at_edge hd 0 (by decide) rfl
      have d12 : x 12 = Value.string ({ data := List.toArray Q } ++ X) := at_edge hd 1 (by decide) rfl
      have hcu := (fun u (hC : Below wr.heap.size wr u) => cell_later' hC hx) u hC
      clear hd
      show ∃ v u', Sem.run _ _ _ = Result.ok (Next.value v) u' ∧ v = Value.string ({ data := List.toArray P } ++ ({ data := List.toArray Q } ++ X)) ∧ Below (Array.size (World.heap u)) u u'
      rotate_left
      exact trivial
      intro x u hC hphi
      have e0 : x 0 = Value.string { data := List.toArray P } := hphi 0 (by decide) (by simp)
      have e1 : x 1 = Value.slice (some { block := b, off := o }) (List.length l) c := hphi 1 (by decide) (by simp)
      have e2 : x 2 = Value.int IntKind.i64 (↑k : Int) := hphi 2 (by decide) (by simp)
      have e3 : x 3 = Value.pointer (some { block := b, off := o + k }) := hphi 3 (by decide) (by simp)
      have e4 : x 4 = Value.string X := hphi 4 (by decide) (by simp)
      have e5 : x 5 = Value.int IntKind.i64 (↑(ByteArray.size X) : Int) := hphi 5 (by decide) (by simp)
      have e6 : x 6 = Value.int IntKind.u64 (IntKind.wrap IntKind.u64 (↑(ByteArray.size X) : Int)) := hphi 6 (by decide) (by simp)
      have e7 : x 7 = Value.string { data := List.toArray Q } := hphi 7 (by decide) (by simp)
      have e8 : x 8 = Value.slice (some { block := b, off := o }) (List.length l) c := hphi 8 (by decide) (by simp)
      have e9 : x 9 = Value.int IntKind.i64 (↑k : Int) := hphi 9 (by decide) (by simp)
      have e10 : x 10 = Value.pointer (some { block := b, off := o + k }) := hphi 10 (by decide) (by simp)
      have e11 : x 11 = Value.string X := hphi 11 (by decide) (by simp)
      have e12 : x 12 = Value.string ({ data := List.toArray Q } ++ X) := hphi 12 (by decide) (by simp)
      have e13 : x 13 = Value.string ({ data := List.toArray P } ++ ({ data := List.toArray Q } ++ X)) := hphi 13 (by decide) (by simp)
      clear hphi
      rotate_left
      · have e : IntKind.u64.wrap (X.size : Int) = (X.size : Int) := wrap_u64 (by omega) (by omega)
        rw [e]
        refine (hput u hUk).mono ?_
        rintro e w' ⟨rfl, hb⟩
        exact ⟨_, rfl, rfl, hb⟩
      · exact ⟨.string (⟨Q.toArray⟩ ++ X), u, by go_simp, rfl, Below.refl _ _⟩
      · exact ⟨.string (⟨P.toArray⟩ ++ (⟨Q.toArray⟩ ++ X)), u, by go_simp, rfl, Below.refl _ _⟩
      · go_wp2
        go_roundw
        case rel =>
          refine ⟨k + 1, by omega, by go_num, ?_, below2 hbw hC⟩
          rw [hstep.out, ← List.append_assoc, hP.out, ← ba_append, ← ba_append]
        case measure => simp [intOf]; omega
    · obtain rfl : k = l.length := by omega
      rw [List.take_length]
      go_wp2
      go_ret
      exact ⟨rfl, hbw⟩
set_option maxRecDepth 100000 in
set_option maxHeartbeats 2000000 in
theorem refIntern_any (Z : Nat → Prop) (v : Value) (l : List ByteArray) (s : ByteArray) (w : World) (hZ : RS Z w v l) (hs : s.size ≤ 9223372036854775807) (hl : l.length ≤ 1000000) : Calls Tryd.prog 33 #[v, .string s] w fun e w' => ∃ u, e = .returned (.tuple #[u, .int .i64 (numT l s)]) ∧ RS (fun b => Z b ∨ w.heap.size ≤ b) w' u (internT l s) ∧ Below w.heap.size w w' := by
  have h := hZ.any
  have hfind := refFind_any v l s
  obtain ⟨A, c, rfl, hc, hm⟩ := h.form
  by_cases hmem : s ∈ l
  · have hi : internT l s = l := if_pos hmem
    have hf : findT l s = (numT l s : Nat) := if_pos hmem
    rw [hi]
    rw [hf] at hfind
    have h0 : (0 : Int) ≤ (numT l s : Int) := by omega
    go_enter Tryd.func33, Tryd.ntmps33
    go_wp2_with fail
    refine (hfind _ h hs).mono ?_
    rintro e w1 ⟨rfl, rfl⟩
    go_wp2
    go_ret2
    exact ⟨_, rfl, hZ.mono fun _ _ h => .inl h, Below.refl _ _⟩
  · have hi : internT l s = l ++ [s] := if_neg hmem
    have hf : findT l s = -1 := if_neg hmem
    rw [hi, numT_not hmem]
    rw [hf] at hfind
    have e1 : strs (l ++ [s]) = strs l ++ [.string s] := by simp only [strs, List.map_append, List.map_cons, List.map_nil]
    replace e1 := Lib.hid e1
    have hsz := h.sizes
    replace hi := Lib.hid hi
    go_enter Tryd.func33, Tryd.ntmps33
    go_wp2_with fail
    refine (hfind _ h hs).mono ?_
    rintro e w1 ⟨rfl, rfl⟩
    go_wp2_with (at_builtin; refine append_ev rfl _ _ 23 9 _ _ _ rfl Tryd.underlying23 info_str rfl (by decide) w.heap.size _ 0 0 [] rfl (Row.empty _ _ _ _ _) _ _ _ (strs l) rfl ?h2 ?h3 (strs_one l) ?h4 ?h5 ?h6 ?_)
    case h2 => simp
    case h3 => exact h.cells.later (below_alloc' (Below.refl _ _) _)
    case h4 => omega
    case h5 => omega
    case h6 => simp
    intro A1 c1 w1 hr1 hg1 hw1
    try simp only [List.nil_append] at hr1
    try simp only [Nat.zero_add] at hr1
    try simp only [Nat.zero_add] at hg1
    try simp only [Nat.zero_add]
    have b1 : Below w.heap.size w w1 := below_grown (below_alloc' (Below.refl _ _) _) hg1 fun b hb' => by
      simp [blk] at hb'
    go_wp2_with (at_builtin; refine append_ev rfl _ _ 23 9 (.string ⟨#[]⟩) 1 16 rfl Tryd.underlying23 info_str rfl (by decide) w.heap.size A1 l.length c1 (strs l) rfl (hr1.later (below_alloc' (Below.refl _ _) _)) _ 1 1 [.string s] rfl rfl (Cells.one _ _ _) (by intro u hu; simp at hu; subst hu; rfl) ?c1 ?c2 ?c3 ?_)
    case c1 => omega
    case c2 => omega
    case c3 => have := b1.size; simp; omega
    intro A2 c2 w2 hr2 hg2 hw2
    have b2 : Below w.heap.size w w2 := below_grown (below_alloc' b1 _) hg2 fun b hb' => by
      have := (hr1.typed b hb').1
      omega
    rw [← e1.out] at hr2
    go_wp2
    go_ret2
    refine ⟨_, rfl, RS.of_row hr2 (by rw [List.length_append]; simp only [List.length_cons, List.length_nil]; omega) (fun b hb => .inr (hr2.typed b hb).1) fun x hx => ?_, b2⟩
    rw [List.mem_append, List.mem_singleton] at hx
    rcases hx with hx | rfl
    · exact hsz x hx
    · exact hs
end Go.Proofs.YtdgjgekefpfgiaaDoor
