/- The reference's table: the texts whose table these bytes are. -/
import Derived.Test.YtdgjgekefpfgiaaDoorRp6
import Derived.Test.YtdgjgekefpfgiaaDoorRct
import Derived.Test.YtdgjgekefpfgiaaDoorRfr
import Derived.BigQuiet
import Derived.Deep.DeepCutAuto
namespace Go.Proofs.YtdgjgekefpfgiaaDoor
open Go.RowKit

def RGetRet (r : List ByteArray × Int) (w : World) (e : Ending) (w' : World) : Prop :=
  Below w.heap.size w w' ∧ ((r.2 = 0 ∧ ∃ A c, e = .returned (.tuple #[.slice A r.1.length c, .int .i64 0]) ∧ RS Any w' (.slice A r.1.length c) r.1) ∨ (r.2 ≠ 0 ∧ e = .returned (.tuple #[.slice none 0 0, .int .i64 r.2])))
theorem finT_err {n : Nat} {c : Cu} {l : List ByteArray} (h : c.e ≠ 0) : finT n (c, l) = ([], c.e) := if_neg h
set_option maxRecDepth 100000 in
set_option maxHeartbeats 2000000 in
theorem refGetT_any (s : ByteArray) (texts bytes : Int) (w : World) (hs : s.size ≤ 1000000) (ht : I64 texts) (hby : I64 bytes) :
    Calls Tryd.prog 44 #[.string s, .int .i64 texts, .int .i64 bytes] w (RGetRet (getT s texts bytes) w) := by
  obtain ⟨tx, htx, htl⟩ : ∃ m : Nat, texts.toNat = m ∧ (m : Int) ≤ 9223372036854775807 := ⟨texts.toNat, rfl, by have := ht.2; omega⟩
  obtain ⟨mb, hmb, hml⟩ : ∃ m : Nat, bytes.toNat = m ∧ (m : Int) ≤ 9223372036854775807 := ⟨bytes.toNat, rfl, by have := hby.2; omega⟩
  have hget : getT s texts bytes = finT s.size (tgo s mb (cuUint s ⟨0, 0⟩ tx).1 (cuUint s ⟨0, 0⟩ tx).2 []) := by
    rw [← htx, ← hmb]
    rfl
  have hun : ∀ g w, RcuAt w g s ⟨0, 0⟩ → Calls Tryd.prog 100 #[.pointer (some ⟨g, 0, none⟩), .int .u64 tx] w (RcRet (.int .i64 (cuUint s ⟨0, 0⟩ tx).1) g s (cuUint s ⟨0, 0⟩ tx).2 w) := fun g w h => refUint_any g s _ tx w h
  have hnle := cuUint_le (s := s) (c := ⟨0, 0⟩) (most := tx)
  generalize cuUint s ⟨0, 0⟩ tx = u at *
  obtain ⟨n0, cu0⟩ := u
  simp only at hun hget hnle
  generalize hR : tgo s mb n0 cu0 [] = R at *
  rw [hget]
  replace hR := Lib.hid hR
  clear hget
  go_enter Tryd.func44, Tryd.ntmps44
  go_upto_if 14 with (fail)
  go_cut [1] (fun x wx => x = .int .i64 tx ∧ w = wx)
  case first =>
    by_cases h0 : texts < 0
    · obtain rfl : tx = 0 := by omega
      go_wp2
      go_meet
      exact ⟨rfl, rfl⟩
    · have e : Hid (texts = (tx : Int)) := Lib.hid (by omega)
      go_wp2
      go_meet
      exact ⟨by rw [e.out], rfl⟩
  obtain ⟨rfl, rfl⟩ := hcut
  go_upto_if 16 with (fail)
  go_cut [2] (fun x wx => x = .int .i64 mb ∧ w = wx)
  case first =>
    by_cases h0 : bytes < 0
    · obtain rfl : mb = 0 := by omega
      go_wp2
      go_meet
      exact ⟨rfl, rfl⟩
    · have e : Hid (bytes = (mb : Int)) := Lib.hid (by omega)
      go_wp2
      go_meet
      exact ⟨by rw [e.out], rfl⟩
  obtain ⟨rfl, rfl⟩ := hcut
  replace htx := Lib.hid htx
  replace hmb := Lib.hid hmb
  have hnew : RcuAt (w.alloc (.cells #[.string s, .int .i64 0, .int .i64 0] 96)) w.heap.size s ⟨0, 0⟩ := ⟨blk_new _ _, Nat.zero_le _, by omega, (by decide : I64 0)⟩
  go_wp2_with fail
  refine (hun _ _ hnew).mono ?_
  rintro e w3 ⟨rfl, hc3, ht3⟩
  have hb3 : Below w.heap.size w w3 := (below_alloc' (Below.refl w.heap.size w) _).trans (ht3.below (by simp) fun k hk => by omega)
  clear ht3 hun hnew
  go_wp2
  go_loopw [10, 11] (fun out i wr => ∃ (m q : Nat) (cu : Cu) (l : List ByteArray) (A : Option Addr) (c : Nat), m ≤ 16777216 ∧ q + m = n0 ∧ i = .int .i64 q ∧ RcuAt wr w.heap.size s cu ∧ out = .slice A l.length c ∧ Row wr w.heap.size 9 1 (.slice A l.length c) (strs l) ∧ tgo s mb m cu l = R ∧ (cu.e = 0 → l.length + totalT l ≤ cu.at_) ∧ Below w.heap.size w wr) (fun _ i _ => n0 - (intOf i).toNat)
  case atStart => exact ⟨n0, 0, cu0, [], _, _, hnle, by omega, rfl, blk_later (below_alloc' (Below.refl _ _) _) hc3.1 |> fun h => ⟨h, hc3.2⟩, rfl, Row.empty _ _ _ _ _, hR.out, fun _ => Nat.zero_le _, below_alloc' hb3 _⟩
  case round =>
    clear hc3 hb3 hR
    obtain ⟨m, q, cu, l, A, c, hm16, hqm, rfl, hc, rfl, hrow, hgo, hinv, hbw⟩ := hrel
    have c0 := hc.c0
    have c1 := hc.c1
    have c2 := hc.c2
    by_cases hce : cu.e = 0
    · have hHC := Lib.hid hce
      replace hinv := hinv hce
      have hat := hc.2.1
      have hle : totalT l ≤ 1000000 := by omega
      have hrs := RS.of_row (S := Any) hrow (by omega) (fun _ _ => trivial) fun x hx => by have := mem_total hx; omega
      rw [hce] at c2
      by_cases hm0 : m = 0
      · subst hm0
        have hRf : Hid (R = (cu, l)) := Lib.hid (by rw [← hgo]; rfl)
        obtain rfl : q = n0 := by omega
        clear hgo hce
        have hd : decide ((q : Int) < q) = false := by simp
        by_cases hatl : cu.at_ < s.size
        · have hb : (cu.at_ : Int) < (s.size : Int) := by omega
          have hfin : Hid (finT s.size R = ([], 8)) := Lib.hid (by rw [hRf.out, finT, if_pos hHC.out, if_pos hatl])
          go_wp2
          go_ret2
          rw [hfin.out]
          exact ⟨hbw, .inr ⟨by decide, rfl⟩⟩
        · have hb : ¬ (cu.at_ : Int) < (s.size : Int) := by omega
          have hfin : Hid (finT s.size R = (l, 0)) := Lib.hid (by rw [hRf.out, finT, if_pos hHC.out, if_neg hatl])
          go_wp2
          go_ret2
          rw [hfin.out]
          exact ⟨hbw, .inl ⟨rfl, A, c, rfl, hrs⟩⟩
      · obtain ⟨m, rfl⟩ : ∃ m', m = m' + 1 := ⟨m - 1, by omega⟩
        have hd : decide ((q : Int) < n0) = true := by rw [decide_eq_true_eq]; omega
        have hdl : (q : Int) < (n0 : Int) := by omega
        rw [tgo, if_pos hce] at hgo
        have hxs := cuText_size s cu ((mb : Int) - totalT l)
        have hI : I64 ((mb : Int) - totalT l) := by constructor <;> omega
        have htxt : ∀ gg u, RcuAt u gg s cu → Calls Tryd.prog 101 #[.pointer (some ⟨gg, 0, none⟩), .int .i64 ((mb : Int) - totalT l)] u (RcRet (.string (cuText s cu ((mb : Int) - totalT l)).1) gg s (cuText s cu ((mb : Int) - totalT l)).2 u) := fun gg u h => refText_any gg s cu _ u h hI
        have hgt := fun x c' (h : cuText s cu ((mb : Int) - totalT l) = (x, c')) (h1 : c'.e = 0) => cuText_get h hce h1
        generalize cuText s cu ((mb : Int) - totalT l) = X at *
        obtain ⟨x, cx⟩ := X
        simp only at hgo htxt hxs
        have htot := fun (h : cx.e = 0) => hgt x cx rfl h
        clear hgt hce hm0
        go_wp2_with fail
        refine (refTotal_any _ l _ hrs (by omega)).mono ?_
        rintro e w4 ⟨rfl, rfl⟩
        go_wp2_with fail
        refine (htxt _ _ hc).mono ?_
        rintro e w5 ⟨rfl, hc5, ht5⟩
        have hrow5 := hrow.touch ht5 fun b hb => hrow.nblk hc.1 (by decide) b hb
        have hb5 : Below w.heap.size w w5 := hbw.trans (ht5.below hbw.size fun k hk => by omega)
        have d2 := hc5.c2
        clear hrow hc ht5 htxt c0 c1 c2 hbw hrs
        by_cases hxe : cx.e = 0
        · obtain ⟨-, hx16, -, hcx, hxat⟩ := htot hxe
          rw [if_pos hxe] at hgo
          rw [hxe] at d2
          have hv1 := vput_pos x.size
          have hatx : cu.at_ + 1 + x.size ≤ cx.at_ := by
            rw [hcx]
            simp only [List.length_append]
            have : x.data.toList.length = x.size := by rw [Array.length_toList]; rfl
            omega
          replace hcx := Lib.hid hcx
          clear hxe htot
          by_cases hr : rightS x = true
          · rw [if_pos hr] at hgo
            have hri := fun w => refRight_any x w (by omega)
            rw [hr] at hri
            have hrs6 := fun (w6 : World) (hb6 : Below w5.heap.size w5 w6) => RS.of_row (S := Any) (hrow5.later hb6) (by omega) (fun _ _ => trivial) fun x hx => by have := mem_total hx; omega
            have hfind := fun w h => refFind_any (.slice A l.length c) l x w h (by omega)
            clear hr
            by_cases hmem : x ∈ l
            · rw [if_pos hmem] at hgo
              have hf : findT l x = (numT l x : Nat) := if_pos hmem
              rw [hf] at hfind
              have h0 : (0 : Int) ≤ (numT l x : Int) := by omega
              have hfin : Hid (finT s.size R = ([], 17)) := Lib.hid (by rw [← hgo]; exact finT_err (by show (17 : Int) ≠ 0; decide))
              clear hgo hf hmem
              go_wp2_with fail
              refine (hri _).mono ?_
              rintro e w6 ⟨rfl, hb6⟩
              go_wp2_with fail
              refine (hfind _ (hrs6 _ hb6)).mono ?_
              rintro e w7 ⟨rfl, rfl⟩
              go_wp2
              go_ret2
              rw [hfin.out]
              exact ⟨below2 hb5 hb6, .inr ⟨by decide, rfl⟩⟩
            · rw [if_neg hmem] at hgo
              have hf : findT l x = -1 := if_neg hmem
              rw [hf] at hfind
              have e1 : strs (l ++ [x]) = strs l ++ [.string x] := by simp only [strs, List.map_append, List.map_cons, List.map_nil]
              replace e1 := Lib.hid e1
              replace hgo := Lib.hid hgo
              clear hf hmem
              go_wp2_with fail
              refine (hri _).mono ?_
              rintro e w6 ⟨rfl, hb6⟩
              have hrow6 := hrow5.later hb6
              have hb06 := below2 hb5 hb6
              have hc6 : RcuAt w6 w.heap.size s cx := hc5.touch (S := fun _ => False) (Touch.of_below hb6) fun h => h
              go_wp2_with fail
              refine (hfind _ (hrs6 _ hb6)).mono ?_
              rintro e w7 ⟨rfl, rfl⟩
              clear hrs6 hfind hri hrow5 hc5 hb5 hb6 d2
              go_wp2_with (at_builtin; refine append_ev rfl _ _ 23 9 (.string ⟨#[]⟩) 1 16 rfl Tryd.underlying23 info_str rfl (by decide) w.heap.size A l.length c (strs l) rfl (hrow6.later (below_alloc' (Below.refl _ _) _)) _ 1 1 [.string x] rfl rfl (Cells.one _ _ _) (by intro u hu; simp at hu; subst hu; rfl) ?c1 ?c2 ?c3 ?_)
              case c1 => omega
              case c2 => omega
              case c3 => have := hb06.size; simp; omega
              intro A1 k1 w2 hr2 hg2 hw2
              rw [← e1.out] at hr2
              have hb2 : Below w.heap.size w w2 := below_grown (below_alloc' hb06 _) hg2 fun b hb' => (hrow6.typed b hb').1
              have hc2 : RcuAt w2 w.heap.size s cx := (RcuAt.touch (S := fun _ => False) hc6 (Touch.of_below (below_alloc' (Below.refl _ w6) (.cells #[.string x] 9))) fun h => h).touch (Touch.of_grown hg2) fun h => hrow6.nblk hc6.1 (by decide) _ h.symm rfl
              have hll : (l ++ [x]).length = l.length + 1 := by simp
              have htt := totalT_snoc l x
              replace hll := Lib.hid hll
              replace htt := Lib.hid htt
              clear hrow6 hc6 hg2 hw2 hb06
              go_wp2
              go_roundw
              case rel => exact ⟨m, q + 1, cx, l ++ [x], A1, k1, by omega, by omega, by go_num, hc2, by rw [hll.out], by rw [hll.out]; exact hr2, hgo.out, fun _ => by rw [hll.out, htt.out]; omega, hb2⟩
              case measure => simp [intOf]; omega
          · rw [if_neg hr] at hgo
            have hri := fun w => refRight_any x w (by omega)
            rw [show rightS x = false from by simpa using hr] at hri
            have hfin : Hid (finT s.size R = ([], 11)) := Lib.hid (by rw [← hgo]; exact finT_err (by show (11 : Int) ≠ 0; decide))
            clear hgo hr
            go_wp2_with fail
            refine (hri _).mono ?_
            rintro e w6 ⟨rfl, hb6⟩
            go_wp2
            go_ret2
            rw [hfin.out]
            exact ⟨below2 hb5 hb6, .inr ⟨by decide, rfl⟩⟩
        · rw [if_neg hxe] at hgo
          have hfin : Hid (finT s.size R = ([], cx.e)) := Lib.hid (by rw [← hgo]; exact finT_err hxe)
          have hxb : ((cx.e : Int) != 0) = true := by simpa using hxe
          replace hxe := Lib.hid hxe
          clear hgo htot
          go_wp2
          go_quiet (fail)
          go_wp2
          go_ret2
          rw [hfin.out]
          exact ⟨below_drewN' hb5 _, .inr ⟨hxe.out, rfl⟩⟩
    · rw [tgo_err hce] at hgo
      have hfin : Hid (finT s.size R = ([], cu.e)) := Lib.hid (by rw [← hgo]; exact finT_err hce)
      have hxb : ((cu.e : Int) != 0) = true := by simpa using hce
      have hxb2 : ((cu.e : Int) == 0) = false := by simpa using hce
      replace hce := Lib.hid hce
      clear hgo hinv
      by_cases hqn : q < n0
      · have hqi : (q : Int) < (n0 : Int) := by omega
        go_wp2
        go_quiet (fail)
        go_wp2
        go_ret2
        rw [hfin.out]
        exact ⟨below_drewN' hbw _, .inr ⟨hce.out, rfl⟩⟩
      · have hqi : ¬ (q : Int) < (n0 : Int) := by omega
        go_wp2
        go_quiet (fail)
        go_wp2
        go_ret2
        rw [hfin.out]
        exact ⟨below_drewN' hbw _, .inr ⟨hce.out, rfl⟩⟩
end Go.Proofs.YtdgjgekefpfgiaaDoor
