/- StrtabAgain: the walk. -/
import Derived.Test.YtdgjgekefpfgiaaDoorMpz
import Derived.BigQuiet
import Derived.Deep.DeepCutAuto
namespace Go.Proofs.YtdgjgekefpfgiaaDoor
open Go.RowKit

set_option maxRecDepth 100000 in
set_option maxHeartbeats 1000000 in
theorem again_any (v : Value) (l : List ByteArray) (by_ : Int) (w : World) (h : RS Any w v l) (hby : I64 by_) (hT : Lib.Utf8Tabs 0 1 w) :
    Calls Tryd.prog 8 #[v, .int .i64 by_] w fun e w' => e = .returned (.bool true) ∧ Below w.heap.size w w' := by
  obtain ⟨A, c, rfl, hc, hm⟩ := h.form
  have hle := greatB_not (l := l)
  generalize hLen0 : l.length = len at *
  have hLen := Lib.hid hLen0
  clear hLen0
  cases hg : greatB l with
  | true =>
    clear hle
    go_enter Tryd.func8, Tryd.ntmps8
    go_wp2_with fail
    refine (awake6_any _ hT).mono ?_
    rintro e w1 ⟨rfl, b1⟩
    go_wp2_with fail
    refine (refGreat_any _ l _ (h.later b1)).mono ?_
    rw [hg]
    rintro e w2 ⟨rfl, rfl⟩
    go_wp2_with fail
    refine (awake6_any _ (Utf8Tabs_below hT b1)).mono ?_
    rintro e w2 ⟨rfl, b2⟩
    go_wp2
    go_ret
    exact ⟨rfl, below2 b1 b2⟩
  | false =>
  by_cases hl0 : len = 0
  · subst hl0
    clear hle
    have hG := Lib.hid hg
    go_enter Tryd.func8, Tryd.ntmps8
    go_wp2_with fail
    refine (awake6_any _ hT).mono ?_
    rintro e w1 ⟨rfl, b1⟩
    go_wp2_with fail
    refine (refGreat_any _ l _ (h.later b1)).mono ?_
    rw [hG.out]
    rintro e w2 ⟨rfl, rfl⟩
    go_wp2_with fail
    refine (awake6_any _ (Utf8Tabs_below hT b1)).mono ?_
    rintro e w2 ⟨rfl, b2⟩
    go_wp2
    go_ret
    exact ⟨rfl, below2 b1 b2⟩
  · have hlb : ((len : Int) == 0) = false := by simp; omega
    have hsz := (hle hg).2
    have hlen := (hle hg).1
    clear hle
    have hG := Lib.hid hg
    have hmm := @run_makeMap Tryd.prog
    go_enter Tryd.func8, Tryd.ntmps8
    go_wp2_with fail
    refine (awake6_any _ hT).mono ?_
    rintro e w1 ⟨rfl, b1⟩
    go_wp2_with fail
    refine (refGreat_any _ l _ (h.later b1)).mono ?_
    rw [hG.out]
    rintro e w2 ⟨rfl, rfl⟩
    clear hg
    go_wp2_with fail
    refine (tabNew_any _).mono ?_
    rintro e w2 ⟨g, rfl, ⟨S, t2, hS⟩, b2⟩
    have b02 := below2 b1 b2
    replace hS : ∀ k, S k → w.heap.size ≤ k := fun k hk => by have := hS k hk; have := b1.size; omega
    have hmk := StrMapZ.new w2
    have hmS : ¬ S w2.heap.size := fun hs => by have := t2.2.1 _ hs; omega
    have hmw : w.heap.size ≤ w2.heap.size := b02.size
    have t3 : Tab S (w2.alloc (.map #[] 0)) g [] := t2.later (below_alloc' (Below.refl _ _) _)
    have b03 : Below w.heap.size w (w2.alloc (.map #[] 0)) := b02.alloc b02.size _
    clear b1 b2
    go_wp2
    generalize w2.heap.size = mk at *
    generalize w2.alloc (.map #[] 0) = w3 at *
    go_loopw [33] (fun i wr => ∃ (k : Nat) (S : Nat → Prop), k ≤ len ∧ i = .int .i64 k ∧ Tab S wr g (internL (l.take k)) ∧ ¬ S mk ∧ StrMapZ wr mk k (internL (l.take k)).length (fnT (internL (l.take k))) ∧ (∀ k, S k → w.heap.size ≤ k) ∧ Below w.heap.size w wr) (fun i _ => len - (intOf i).toNat)
    case atStart => exact ⟨0, S, Nat.zero_le _, rfl, t3, hmS, hmk.congr fun s => by simp [fnT, internL], hS, b03⟩
    case round =>
      clear t2 hS b02 hmS t3 b03 hmk S
      obtain ⟨k, S, hk, rfl, t2, hmS, hmap, hS, b2⟩ := hrel
      by_cases hlt0 : k < len
      · have hlt : k < l.length := by rw [hLen.out]; exact hlt0
        obtain ⟨bb, o, e, -, hcl, hx⟩ := (h.later b2).at k hlt
        subst e
        have hsmall := small_one hG.out hlt
        have hxs := hsz _ (List.getElem_mem hlt)
        have hint := fun w h => tabIntern_any S g (internL (l.take k)) l[k] w h (by omega) hsmall
        have hnb := numT_le (internL (l.take k)) l[k]
        have hq := (small_take hG.out k).1
        have hnx := Lib.hid (internL_take hlt)
        go_wp2_with fail
        refine (hint _ t2).mono ?_
        rintro e w4 ⟨rfl, S4, t4, g4⟩
        have hmap4 := hmap.touch g4.1 hmS
        have hmS4 : ¬ S4 mk := fun hs => by
          rcases g4.2 mk hs with h | h
          · exact hmS h
          · have := hmap.map.lt
            omega
        have hS4 : ∀ k, S4 k → w.heap.size ≤ k := fun j hj => by rcases g4.2 j hj with h | h; exact hS j h; have := b2.size; omega
        have b4 := b2.trans (g4.1.below b2.size hS)
        obtain ⟨w5, hstore, hmap5, hgr⟩ := hmap4.store l[k] hx (numT (internL (l.take k)) l[k] : Int) ⟨by omega, by omega⟩ (by omega)
        have t5 : Tab S4 w5 g _ := t4.touch (Touch.of_grown hgr) fun j hj e => hmS4 (by cases e; exact hj)
        have b5 : Below w.heap.size w w5 := below_grown b4 hgr fun j hj => by cases hj; exact hmw
        replace hmap5 := hmap5.congr fnT_intern
        rw [lenT_intern, ← hnx.out] at hmap5
        rw [← hnx.out] at t5
        clear t2 hmap t4 hmap4 b2 g4 hgr
        go_wp2
        go_roundw
        case rel => exact ⟨k + 1, S4, by omega, by go_num, t5, hmS4, hmap5, hS4, b5⟩
        case measure => simp [intOf]; omega
      · obtain rfl : k = len := by omega
        obtain ⟨q1, q2⟩ := small_take hG.out k
        rw [← hLen.out, List.take_length] at q1 q2
        rw [show l.take k = l from by rw [← hLen.out, List.take_length]] at t2 hmap
        go_wp2_with fail
        refine (tabPut_any _ _ _ _ t2).mono ?_
        rintro e w4 ⟨rfl, b4⟩
        have t4 := t2.later b4
        have hmap4 := hmap.later b4
        have b04 := below2 b2 b4
        clear t2 hmap b2 b4
        go_upto_region 13 with (fail)
        go_cut [10] (fun x wx => ∃ K : Nat, K < k ∧ x = .int .i64 K ∧ w4 = wx)
        case first =>
          obtain ⟨b', hb', hbl⟩ : ∃ b' : Nat, IntKind.u64.wrap by_ = (b' : Int) ∧ b' < 18446744073709551616 := ⟨(by_ % 18446744073709551616).toNat, (by show by_ % 18446744073709551616 = _; omega), by omega⟩
          have hmod : b' % k < k := Nat.mod_lt _ (by omega)
          have hw : Hid (wrap64 ((b' : Int).tmod (k : Int)) = ((b' % k : Nat) : Int)) := Lib.hid (by rw [show (b' : Int).tmod (k : Int) = ((b' % k : Nat) : Int) from rfl]; unfold wrap64; omega)
          replace hb' := Lib.hid hb'
          go_wp2
          go_meet
          exact ⟨b' % k, hmod, by rw [hb'.out, hw.out], rfl⟩
        obtain ⟨K, hK, rfl, rfl⟩ := hcut
        have hmem : ∀ x ∈ l, x ∈ internL l := fun x hx => internL_mem.2 hx
        have hqq : (putT (internL l) == putT (internL l)) = true := by simp
        go_wp2
        go_loopw [54] (fun i wr => ∃ q : Nat, q ≤ k ∧ i = .int .i64 q ∧ Tab S wr g (internL l) ∧ StrMapZ wr mk k (internL l).length (fnT (internL l)) ∧ Below w.heap.size w wr) (fun i _ => k - (intOf i).toNat)
        case atStart => exact ⟨0, Nat.zero_le _, rfl, t4, hmap4, b04⟩
        case round =>
          clear t4 hmap4 b04
          obtain ⟨q, hq, rfl, t4, hmap4, b04⟩ := hrel
          by_cases hqk : q < k
          · have hJ : (q + K) % k < l.length := by rw [hLen.out]; exact Nat.mod_lt _ (by omega)
            have heq : ((q : Int) + (K : Int)).tmod (k : Int) = (((q + K) % k : Nat) : Int) := rfl
            generalize (q + K) % k = J at *
            have hJk : J < k := by rw [← hLen.out]; exact hJ
            obtain ⟨bb, o, e, -, hcl, hx⟩ := (h.later b04).at J hJ
            subst e
            have hin := hmem _ (List.getElem_mem hJ)
            have hf : fnT (internL l) l[J] = some (numT (internL l) l[J] : Int) := if_pos hin
            have ha : atT (internL l) (numT (internL l) l[J] : Int) = some l[J] := by rw [atT, if_pos (by omega), Int.toNat_natCast, get_numT hin]
            have hL1 : ∀ n', _ := fun n' => ((hmap4.later (below_drewN' (Below.refl _ _) n')).map.look1 l[J] hx : (Instr.lookup 59 (.map (some mk)) (.string l[J]) false).run Tryd.prog (wr.drewN n') = _)
            have hL0 := hmap4.map.look1 l[J] hx
            have hA := tabAt_any S g (internL l) (numT (internL l) l[J]) wr t4
            have hI : ∀ n', _ := fun n' => tabSame_any S g (internL l) l[J] (wr.drewN n') (t4.later (below_drewN' (Below.refl _ _) n')) hin
            rw [hf] at hL1 hL0
            rw [ha] at hA
            simp only [Option.getD_some, Option.isSome_some] at hL1 hL0 hA
            have hse := seq (x := l[J]) rfl
            have hnb := numT_le (internL l) l[J]
            generalize numT (internL l) l[J] = N at *
            clear hf ha hin
            go_wp2_with fail
            refine hA.mono ?_
            rintro e w5 ⟨rfl, rfl⟩
            go_wp2
            go_quiet ((go_at_call 34; exact Calls.quiet_of_same (hI _)))
            go_wp2
            go_roundw
            case rel => exact ⟨q + 1, by omega, by go_num, t4.later (below_drewN' (Below.refl _ _) _), hmap4.later (below_drewN' (Below.refl _ _) _), below_drewN' b04 _⟩
            case measure => simp [intOf]; omega
          · obtain rfl : q = k := by omega
            go_wp2_with fail
            refine (tabPut_any _ _ _ _ t4).mono ?_
            rintro e w6 ⟨rfl, b6⟩
            have t6 := t4.later b6
            have hlenm := fun ty => (hmap4.later b6).len ty
            go_wp2_with fail
            refine (tabLen_any _ _ _ _ t6).mono ?_
            rintro e w7 ⟨rfl, rfl⟩
            go_wp2
            go_ret
            exact ⟨rfl, below2 b04 b6⟩
end Go.Proofs.YtdgjgekefpfgiaaDoor
