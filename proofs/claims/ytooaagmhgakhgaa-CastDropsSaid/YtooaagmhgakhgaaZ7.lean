/- Texts put together: CastR. No statement is proved here. -/
import Derived.Test.YtooaagmhgakhgaaZ6
set_option linter.all false
section
namespace Go.Proofs.Ytooaagmhgakhgaa
set_option linter.unusedSimpArgs false
attribute [local push_cast] encB encI encC V.cells_mk V.cells_len Nat.mul_one Int.sub_zero List.map_nil beq_self_eq_true bne_self_eq_false List.head?_cons
open Go.RowKit
set_option maxRecDepth 10000
set_option maxHeartbeats 8000000
namespace Sch
def atV (t : Tm) (r : Rc) (w : Int) : List V := castL (verX t w).slots r.s
theorem lower_at {t : Tm} {r : Rc} {v w : Int} {x y : Vr} (hx : ver t v = some x) (hy : ver t r.v = some y) (hf : fitsL y.slots r.s = true) (h1 : v < w) (h2 : w ≤ r.v) : (1 ≤ w ∧ w ≤ last t) ∧ (∃ z, ver t w = some z ∧ atV t r w = castL z.slots r.s) ∧ castS t ⟨w, atV t r w⟩ (w - 1) = (⟨w - 1, atV t r (w - 1)⟩, 0) := by
  have hxb := ver_last hx
  have hyb := ver_last hy
  obtain ⟨z, hz⟩ := ver_some (t := t) (v := w) (by omega) (by omega)
  obtain ⟨z', hz'⟩ := ver_some (t := t) (v := w - 1) (by omega) (by omega)
  refine ⟨⟨by omega, by omega⟩, ⟨z, hz, ?_⟩, ?_⟩
  · unfold atV; rw [(ver_verB hz).2]
  · unfold atV
    rw [(ver_verB hz).2, (ver_verB hz').2, castS_eq (castS_valid hz) hz']
    show ((⟨w - 1, castL z'.slots (castL z.slots r.s)⟩ : Rc), (0 : Int)) = _
    rw [castL_down hf (ver_grow hz' hz (by omega)) (ver_grow hz hy h2) (ver_sok hz')]
end Sch
theorem castDropsLaw (hA0 : ∀ st, TrF Try.prog 21 [] st fun d st' => d = .b true ∧ st' = st) (t : Tm) (r : Rc) (v : Int) (hw : t.Wf) (hr : r.Wf) (st : St) : TrF Try.prog 6 [.agg t.cells, .agg r.cells, .i v] st fun d st' => d = .b true ∧ st' = st := by
  have hA := Lib.hid hA0
  have hG := cast12GreatF t hw r hr
  cases hg : Sch.great12 t r with
  | true =>
    rw [hg] at hG
    unfold Tm.cells Rc.cells at *
    generalize t.slots.map Sl.cells = SL at *
    generalize t.steps.map Stp.cells = TL at *
    generalize t.name = nm at *
    generalize r.s.map V.cells = RS at *
    generalize r.v = rv at *
    replace hG := Lib.hid hG
    refine trF_enter (ts := [6]) Try.func6 rfl (by rw [Try.ntmps6]; exact Nat.le_of_ble_eq_true rfl) (fun tmps w => by simp [results, Try.results6, go_sem, resVal]) ?_
    simp only [Try.ntmps6]
    repeat' (first | with_reducible refine Go1.go ?_ | ((with_reducible apply ev_go); (focus ((try simp (disch := omega) only [push_cast, simprocAttr, *]); (try exact rfl); done))) | ((with_reducible refine w_last ?_ ?_ ?_); kernel_rfl; rfl) | with_reducible refine Go2.go ?_ | ((with_reducible first | apply w_stepG | refine s_bi ?_ ?_ | refine blk_ne ?_ ?_); rfl) | ((with_reducible refine al_go ?_); intro b) | ((with_reducible apply (ck_le Try.call21)); exact LEL.refl _; exact hA.out _) | ((with_reducible apply (ck_le Try.call22)); exact LEL.refl _; exact hG.out _) | ((with_reducible first | refine w_region ?_ ?_ | refine w_dra ?_ ?_); kernel_rfl) | ((with_reducible refine Go3.go ?_ ?_); all_goals (intro hb; (try with_reducible intro hb1); (try (exfalso; first | contradiction | omega)))) | fail)
    all_goals (refine ret_eq (by simp) (by first | rfl | assumption) (by (repeat (first | exact List.Sublist.refl _ | apply List.Sublist.cons))) ?_; (try simp (disch := omega) only [push_cast, simprocAttr, *]); try (first | exact LE.refl _ | exact LE.sl _ _ | ((first | refine LE.tup ?_ | refine LE.agg ?_); (repeat' (first | exact LEL.nil | refine LEL.cons ?_ ?_ | exact LE.refl _ | exact LE.sl _ _ | refine LE.agg ?_)); done) | refine LE.of_eq ?_))
  | false =>
    have hL := not_great12 hw hr hg
    rw [hg] at hG
    have hV := refValid11F t hL.tq r hL.rq (by have := hL.rk.l; omega)
    cases hval : Sch.valid t r with
    | false =>
      rw [hval] at hV
      clear hg hL hval
      unfold Tm.cells Rc.cells at *
      generalize t.slots.map Sl.cells = SL at *
      generalize t.steps.map Stp.cells = TL at *
      generalize t.name = nm at *
      generalize r.s.map V.cells = RS at *
      generalize r.v = rv at *
      replace hG := Lib.hid hG
      replace hV := Lib.hid hV
      refine trF_enter (ts := [6]) Try.func6 rfl (by rw [Try.ntmps6]; exact Nat.le_of_ble_eq_true rfl) (fun tmps w => by simp [results, Try.results6, go_sem, resVal]) ?_
      simp only [Try.ntmps6]
      repeat' (first | with_reducible refine Go1.go ?_ | ((with_reducible apply ev_go); (focus ((try simp (disch := omega) only [push_cast, simprocAttr, *]); (try exact rfl); done))) | ((with_reducible refine w_last ?_ ?_ ?_); kernel_rfl; rfl) | with_reducible refine Go2.go ?_ | ((with_reducible first | apply w_stepG | refine s_bi ?_ ?_ | refine blk_ne ?_ ?_); rfl) | ((with_reducible refine al_go ?_); intro b) | ((with_reducible apply (ck_le Try.call21)); exact LEL.refl _; exact hA.out _) | ((with_reducible apply (ck_le Try.call22)); exact LEL.refl _; exact hG.out _) | ((with_reducible apply (ck_le Try.call26)); exact LEL.refl _; exact hV.out _) | ((with_reducible first | refine w_region ?_ ?_ | refine w_dra ?_ ?_); kernel_rfl) | ((with_reducible refine Go3.go ?_ ?_); all_goals (intro hb; (try with_reducible intro hb1); (try (exfalso; first | contradiction | omega)))) | fail)
      all_goals (refine ret_eq (by simp) (by first | rfl | assumption) (by (repeat (first | exact List.Sublist.refl _ | apply List.Sublist.cons))) ?_; (try simp (disch := omega) only [push_cast, simprocAttr, *]); try (first | exact LE.refl _ | exact LE.sl _ _ | ((first | refine LE.tup ?_ | refine LE.agg ?_); (repeat' (first | exact LEL.nil | refine LEL.cons ?_ ?_ | exact LE.refl _ | exact LE.sl _ _ | refine LE.agg ?_)); done) | refine LE.of_eq ?_))
    | true =>
      rw [hval] at hV
      have hD := castDownF t hL.tc r hL.rk v
      have hP := refAtF t hL.tq v
      by_cases hin : Sch.verB t v = true → ¬ v ≤ r.v
      · rw [Sch.down_none hval hin] at hD
        unfold Sch.zeroR at hD
        clear hg hL hval
        generalize Sch.verX t v = x at *
        generalize Sch.verB t v = ok at *
        cases x with
        | mk xs xc =>
        unfold Vr.cells at hP
        dsimp only [List.map_nil] at hP
        generalize xs.map Sl.cells = XS at *
        generalize xc.map encC = XC at *
        unfold Tm.cells Rc.cells at *
        generalize t.slots.map Sl.cells = SL at *
        generalize t.steps.map Stp.cells = TL at *
        generalize t.name = nm at *
        dsimp only [List.map_nil] at hD
        generalize r.s.map V.cells = RS at *
        generalize r.v = rv at *
        replace hG := Lib.hid hG
        replace hV := Lib.hid hV
        replace hD := Lib.hid hD
        replace hP := Lib.hid hP
        cases ok with
        | false =>
          clear hin
          refine trF_enter (ts := [6]) Try.func6 rfl (by rw [Try.ntmps6]; exact Nat.le_of_ble_eq_true rfl) (fun tmps w => by simp [results, Try.results6, go_sem, resVal]) ?_
          simp only [Try.ntmps6]
          repeat' (first | with_reducible refine Go1.go ?_ | ((with_reducible apply ev_go); (focus ((try simp (disch := omega) only [push_cast, simprocAttr, *]); (try exact rfl); done))) | ((with_reducible refine w_last ?_ ?_ ?_); kernel_rfl; rfl) | with_reducible refine Go2.go ?_ | ((with_reducible first | apply w_stepG | refine s_bi ?_ ?_ | refine blk_ne ?_ ?_); rfl) | ((with_reducible refine al_go ?_); intro b) | ((with_reducible apply (ck_le Try.call21)); exact LEL.refl _; exact hA.out _) | ((with_reducible apply (ck_le Try.call22)); exact LEL.refl _; exact hG.out _) | ((with_reducible apply (ck_le Try.call26)); exact LEL.refl _; exact hV.out _) | ((with_reducible apply (ck_le Try.call27)); exact LEL.refl _; exact hP.out _) | ((with_reducible apply (ck_le Try.call24)); exact LEL.refl _; exact hD.out _) | ((with_reducible first | refine w_region ?_ ?_ | refine w_dra ?_ ?_); kernel_rfl) | ((with_reducible refine Go3.go ?_ ?_); all_goals (intro hb; (try with_reducible intro hb1); (try (exfalso; first | contradiction | omega)))) | fail)
          all_goals (refine ret_eq (by simp) (by first | rfl | assumption) (by (repeat (first | exact List.Sublist.refl _ | apply List.Sublist.cons))) ?_; (try simp (disch := omega) only [push_cast, simprocAttr, *]); try (first | exact LE.refl _ | exact LE.sl _ _ | ((first | refine LE.tup ?_ | refine LE.agg ?_); (repeat' (first | exact LEL.nil | refine LEL.cons ?_ ?_ | exact LE.refl _ | exact LE.sl _ _ | refine LE.agg ?_)); done) | refine LE.of_eq ?_))
        | true =>
          replace hin := hin rfl
          refine trF_enter (ts := [6]) Try.func6 rfl (by rw [Try.ntmps6]; exact Nat.le_of_ble_eq_true rfl) (fun tmps w => by simp [results, Try.results6, go_sem, resVal]) ?_
          simp only [Try.ntmps6]
          repeat' (first | with_reducible refine Go1.go ?_ | ((with_reducible apply ev_go); (focus ((try simp (disch := omega) only [push_cast, simprocAttr, *]); (try exact rfl); done))) | ((with_reducible refine w_last ?_ ?_ ?_); kernel_rfl; rfl) | with_reducible refine Go2.go ?_ | ((with_reducible first | apply w_stepG | refine s_bi ?_ ?_ | refine blk_ne ?_ ?_); rfl) | ((with_reducible refine al_go ?_); intro b) | ((with_reducible apply (ck_le Try.call21)); exact LEL.refl _; exact hA.out _) | ((with_reducible apply (ck_le Try.call22)); exact LEL.refl _; exact hG.out _) | ((with_reducible apply (ck_le Try.call26)); exact LEL.refl _; exact hV.out _) | ((with_reducible apply (ck_le Try.call27)); exact LEL.refl _; exact hP.out _) | ((with_reducible apply (ck_le Try.call24)); exact LEL.refl _; exact hD.out _) | ((with_reducible first | refine w_region ?_ ?_ | refine w_dra ?_ ?_); kernel_rfl) | ((with_reducible refine Go3.go ?_ ?_); all_goals (intro hb; (try with_reducible intro hb1); (try (exfalso; first | contradiction | omega)))) | fail)
          all_goals (refine ret_eq (by simp) (by first | rfl | assumption) (by (repeat (first | exact List.Sublist.refl _ | apply List.Sublist.cons))) ?_; (try simp (disch := omega) only [push_cast, simprocAttr, *]); try (first | exact LE.refl _ | exact LE.sl _ _ | ((first | refine LE.tup ?_ | refine LE.agg ?_); (repeat' (first | exact LEL.nil | refine LEL.cons ?_ ?_ | exact LE.refl _ | exact LE.sl _ _ | refine LE.agg ?_)); done) | refine LE.of_eq ?_))
      · have hvb : Sch.verB t v = true := by
          cases h : Sch.verB t v with
          | true => rfl
          | false => exact absurd (fun h' => by rw [h] at h'; cases h') hin
        have hle : v ≤ r.v := by
          by_cases h : v ≤ r.v
          · exact h
          · exact absurd (fun _ => h) hin
        clear hin
        obtain ⟨x, hx⟩ := Sch.verB_some hvb
        obtain ⟨y, hy, hf⟩ := Sch.valid_iff.1 hval
        rw [Sch.downS_eq hval hx hle] at hD
        rw [hvb, (Sch.ver_verB hx).2] at hP
        have hLa := hL.cast hx
        have hVa := refValid11F t hL.tq _ hLa.rq (by have := hLa.rk.l; omega)
        rw [Sch.castS_valid hx] at hVa
        have hS := refSame11F ⟨v, Sch.castL x.slots r.s⟩ ⟨v, Sch.castL x.slots r.s⟩ (fun v h => (hLa.rq v h).ok) (by have := hLa.rk.l; omega)
        rw [Rc.same_self] at hS
        have hB0 : Sch.atV t r r.v = r.s := by
          unfold Sch.atV
          rw [(Sch.ver_verB hy).2]
          exact Sch.castL_self _ _ hf
        have hB1 : Sch.atV t r v = Sch.castL x.slots r.s := by
          unfold Sch.atV
          rw [(Sch.ver_verB hx).2]
        have hlo : ∀ w : Int, v < w → w ≤ r.v → ∀ st, TrF Try.prog 29 [.agg t.cells, .agg [.i w, .sl .shared ((Sch.atV t r w).map V.cells)]] st fun d st' => d = .tup [.agg [.i (w - 1), .sl .shared ((Sch.atV t r (w - 1)).map V.cells)], .i 0] ∧ st' = st := by
          intro w h1 h2 st
          obtain ⟨h3, ⟨z, hz, hz2⟩, h4⟩ := Sch.lower_at hx hy hf h1 h2
          have hl9 := (Sch.vers_len t).2
          have hrk := (hL.cast hz).rk
          rw [← hz2] at hrk
          have hb := Sch.ver_bounds hz
          have := castLowerF t hL.tc ⟨w, Sch.atV t r w⟩ hrk ⟨by show -100000 ≤ w; omega, by show w ≤ 100000; omega⟩ st
          dsimp only at this
          rw [h4] at this
          exact this
        have hxy := Sch.ver_grow hx hy hle
        have hyl : y.slots.length ≤ 16 := (Sch.vers_vi (ver_mem hy)).ls
        have hxl := hxy.len
        have hrl := Sch.fitsL_len _ _ hf
        have hrk := Lib.hid hL.rq
        have hkq := Lib.hid hLa.rq
        have hxt : Hid (∀ z ∈ x.slots, 0 ≤ z.types ∧ z.types ≤ 9223372036854775807) := Lib.hid fun z hz => by
          have := Sch.takes_iff.1 (Sch.ver_sok hx z hz).types
          omega
        have hb1 := Sch.ver_bounds hx
        have hb2 := Sch.ver_bounds hy
        have hl1 := Sch.castL_len x.slots r.s
        have hget := Lib.hid (Sch.castL_get? x.slots r.s)
        clear hg hL hLa hx hy hf hxy hvb hval
        generalize Sch.atV t r = BL at *
        unfold Tm.cells Rc.cells at *
        unfold Vr.cells at hP
        generalize t.slots.map Sl.cells = SL at *
        generalize t.steps.map Stp.cells = TL at *
        generalize t.name = nm at *
        cases r with
        | mk rv rs =>
        cases x with
        | mk xs xc =>
        dsimp only at *
        generalize Sch.castL xs rs = dl at *
        have hm1 : (xs.map Sl.cells).length = xs.length := List.length_map ..
        have hm3 : (rs.map V.cells).length = y.slots.length := by rw [List.length_map]; omega
        have hm4 : (dl.map V.cells).length = xs.length := by rw [List.length_map]; omega
        have hc1 : Hid (∀ (i : Nat) (s : Sl), xs[i]? = some s → (xs.map Sl.cells)[i]? = some s.cells) := fun i s h => by rw [List.getElem?_map, h]; rfl
        have hc3 : Hid (∀ (i : Nat) (v : V), rs[i]? = some v → (rs.map V.cells)[i]? = some v.cells) := fun i v h => by rw [List.getElem?_map, h]; rfl
        have hc4 : Hid (∀ (i : Nat) (v : V), dl[i]? = some v → (dl.map V.cells)[i]? = some v.cells) := fun i v h => by rw [List.getElem?_map, h]; rfl
        have hE1 : Hid ((BL v).map V.cells = dl.map V.cells) := Lib.hid (by rw [hB1])
        have hE0 : Hid ((BL rv).map V.cells = rs.map V.cells) := Lib.hid (by rw [hB0])
        clear hB0 hB1
        generalize hBC : (fun w => (BL w).map V.cells) = BC at *
        have hE1' : Hid (BC v = dl.map V.cells) := Lib.hid (by rw [← hE1.out, ← hBC])
        have hE0' : Hid (BC rv = rs.map V.cells) := Lib.hid (by rw [← hE0.out, ← hBC])
        have hlo' : Hid (∀ w : Int, v < w → w ≤ rv → ∀ st, TrF Try.prog 29 [.agg [.str nm, .sl .shared SL, .sl .shared TL], .agg [.i w, .sl .shared (BC w)]] st fun d st' => d = .tup [.agg [.i (w - 1), .sl .shared (BC (w - 1))], .i 0] ∧ st' = st) := Lib.hid (by rw [← hBC]; exact hlo)
        clear hE1 hE0 hlo hBC
        generalize xs.map Sl.cells = XS at *
        generalize xc.map encC = XC at *
        generalize rs.map V.cells = RS at *
        generalize dl.map V.cells = DS at *
        replace hG := Lib.hid hG
        replace hV := Lib.hid hV
        replace hVa := Lib.hid hVa
        replace hD := Lib.hid hD
        replace hP := Lib.hid hP
        replace hS := Lib.hid hS
        clear hl1
        refine trF_enter (ts := [6]) Try.func6 rfl (by rw [Try.ntmps6]; exact Nat.le_of_ble_eq_true rfl) (fun tmps w => by simp [results, Try.results6, go_sem, resVal]) ?_
        simp only [Try.ntmps6]
        repeat' (first | with_reducible refine Go1.go ?_ | ((with_reducible apply ev_go); (focus ((try simp (disch := omega) only [push_cast, simprocAttr, *]); (try exact rfl); done))) | ((with_reducible refine w_last ?_ ?_ ?_); kernel_rfl; rfl) | with_reducible refine Go2.go ?_ | ((with_reducible first | apply w_stepG | refine s_bi ?_ ?_ | refine blk_ne ?_ ?_); rfl) | ((with_reducible refine al_go ?_); intro b) | ((with_reducible apply (ck_le Try.call21)); exact LEL.refl _; exact hA.out _) | ((with_reducible apply (ck_le Try.call22)); exact LEL.refl _; exact hG.out _) | ((with_reducible apply (ck_le Try.call26)); exact LEL.refl _; exact hV.out _) | ((with_reducible apply (ck_le Try.call26)); exact LEL.refl _; exact hVa.out _) | ((with_reducible apply (ck_le Try.call27)); exact LEL.refl _; exact hP.out _) | ((with_reducible apply (ck_le Try.call24)); exact LEL.refl _; exact hD.out _) | ((with_reducible first | refine w_region ?_ ?_ | refine w_dra ?_ ?_); kernel_rfl) | ((with_reducible refine Go3.go ?_ ?_); all_goals (intro hb; (try with_reducible intro hb1); (try (exfalso; first | contradiction | omega)))) | fail)
        rename_i b7
        obtain ⟨b9, rfl⟩ : ∃ q, q = b := ⟨_, rfl⟩
        refine tr_loopd (ι := Nat) (fun i A st' => i ≤ xs.length ∧ A.df = [] ∧ A.e 2 = .i v ∧ A.e 3 = .ip [.str nm, .sl .shared SL, .sl .shared TL] ∧ A.e 4 = .ip [.i rv, .sl .shared RS] ∧ A.e 7 = .ptr b7 0 ∧ A.e 9 = .ptr b9 0 ∧ A.e 11 = .i i ∧ st' = .box b9 45 [.i v, .sl .shared DS] :: .box b7 52 [.sl .shared XS, .sl .shared XC] :: st) (fun i => xs.length - i) 0 ⟨Nat.zero_le _, ?_, ?_, ?_, ?_, ?_, ?_, ?_, rfl⟩ ?_
        iterate 7 (focus (first | rfl | assumption | omega | (simp (disch := omega) only [push_cast, simprocAttr, *]; try omega; done)))
        rintro i A st' ⟨hi, hdf, e2, e3, e4, e7, e9, e11, rfl⟩
        by_cases hlt : i < xs.length
        · skip
          obtain ⟨s, hs⟩ : ∃ s, xs[i]? = some s := ⟨_, List.getElem?_eq_getElem hlt⟩
          obtain ⟨u, hu⟩ : ∃ u, rs[i]? = some u := ⟨_, List.getElem?_eq_getElem (by omega)⟩
          have h1 := hc1.out i s hs
          have h2 := hc3.out i u hu
          have h3 := hget.out i
          rw [hs, hu] at h3
          replace h3 : dl[i]? = some (if Sch.fits s u = true then u else s.dv) := h3
          have h4 := hc4.out i _ h3
          have hkw := hkq.out _ (List.mem_of_getElem? h3)
          have huq := hrk.out u (List.mem_of_getElem? hu)
          have hF := refFits10F s u huq.ok huq.nodes huq.deep (hxt.out s (List.mem_of_getElem? hs))
          clear hs
          cases hq : Sch.fits s u with
          | true =>
            rw [hq] at hF h4
            rw [if_pos rfl] at h4
            have hC := refSameSelf u huq.ok
            clear hu h3 huq hkw hq
            cases s with
            | mk snm ty rq dv =>
            cases dv with
            | mk k n sv lv =>
            cases u with
            | mk k' n' sv' lv' =>
            rw [Sl.cells_mk] at h1 hF
            rw [V.cells_mk] at h2 h4 hF hC
            replace hF := Lib.hid hF
            replace hC := Lib.hid hC
            repeat' (first | with_reducible refine Go1.go ?_ | ((with_reducible apply ev_go); (focus ((try simp (disch := omega) only [push_cast, simprocAttr, *]); (try exact rfl); done))) | ((with_reducible refine w_drawRN ?_ ?_ ?_ ?_); (iterate 3 (focus kernel_rfl)); intro hne; simp only [nes, ne1, and_assoc] at hne; repeat (have hq := hne.1; replace hne := hne.2)) | ((with_reducible refine w_last ?_ ?_ ?_); kernel_rfl; rfl) | with_reducible refine Go2.go ?_ | ((with_reducible first | apply w_stepG | refine s_bi ?_ ?_ | refine blk_ne ?_ ?_); rfl) | ((with_reducible refine al_go ?_); intro b) | ((with_reducible apply (ck_le Try.call28)); exact LEL.refl _; exact hC.out _) | ((with_reducible apply (ck_le Try.call14)); exact LEL.refl _; exact hF.out _) | ((with_reducible first | refine w_region ?_ ?_ | refine w_dra ?_ ?_); kernel_rfl) | ((with_reducible refine Go3.go ?_ ?_); all_goals (intro hb; (try with_reducible intro hb1); (try (exfalso; first | contradiction | omega)))) | fail)
            refine ⟨i + 1, .box b9 45 [.i v, .sl .shared DS] :: .box b7 52 [.sl .shared XS, .sl .shared XC] :: st, (by (repeat (first | exact List.Sublist.refl _ | apply List.Sublist.cons))), ⟨hlt, ?_, ?_, ?_, ?_, ?_, ?_, ?_, rfl⟩, by omega⟩
            all_goals (first | rfl | assumption | omega | (simp (disch := omega) only [push_cast, simprocAttr, *]; try omega; done))
          | false =>
            rw [hq] at hF h4 hkw
            rw [if_neg Bool.false_ne_true] at h4 hkw
            have hC := refSameF s.dv u hkw.ok
            generalize (s.dv.cmp u == 0) = q at *
            clear hu h3 huq hkw hq
            cases s with
            | mk snm ty rq dv =>
            cases dv with
            | mk k n sv lv =>
            cases u with
            | mk k' n' sv' lv' =>
            dsimp only at h4 hC
            rw [Sl.cells_mk] at h1 hF
            rw [V.cells_mk] at h2 h4 hF hC
            rw [V.cells_mk] at hC
            replace hF := Lib.hid hF
            replace hC := Lib.hid hC
            cases q with
            | true =>
              repeat' (first | with_reducible refine Go1.go ?_ | ((with_reducible apply ev_go); (focus ((try simp (disch := omega) only [push_cast, simprocAttr, *]); (try exact rfl); done))) | ((with_reducible refine w_drawRN ?_ ?_ ?_ ?_); (iterate 3 (focus kernel_rfl)); intro hne; simp only [nes, ne1, and_assoc] at hne; repeat (have hq := hne.1; replace hne := hne.2)) | ((with_reducible refine w_last ?_ ?_ ?_); kernel_rfl; rfl) | with_reducible refine Go2.go ?_ | ((with_reducible first | apply w_stepG | refine s_bi ?_ ?_ | refine blk_ne ?_ ?_); rfl) | ((with_reducible refine al_go ?_); intro b) | ((with_reducible apply (ck_le Try.call28)); exact LEL.refl _; exact hC.out _) | ((with_reducible apply (ck_le Try.call14)); exact LEL.refl _; exact hF.out _) | ((with_reducible first | refine w_region ?_ ?_ | refine w_dra ?_ ?_); kernel_rfl) | ((with_reducible refine Go3.go ?_ ?_); all_goals (intro hb; (try with_reducible intro hb1); (try (exfalso; first | contradiction | omega)))) | fail)
              refine ⟨i + 1, .box b9 45 [.i v, .sl .shared DS] :: .box b7 52 [.sl .shared XS, .sl .shared XC] :: st, (by (repeat (first | exact List.Sublist.refl _ | apply List.Sublist.cons))), ⟨hlt, ?_, ?_, ?_, ?_, ?_, ?_, ?_, rfl⟩, by omega⟩
              all_goals (first | rfl | assumption | omega | (simp (disch := omega) only [push_cast, simprocAttr, *]; try omega; done))
            | false =>
              repeat' (first | with_reducible refine Go1.go ?_ | ((with_reducible apply ev_go); (focus ((try simp (disch := omega) only [push_cast, simprocAttr, *]); (try exact rfl); done))) | ((with_reducible refine w_drawRN ?_ ?_ ?_ ?_); (iterate 3 (focus kernel_rfl)); intro hne; simp only [nes, ne1, and_assoc] at hne; repeat (have hq := hne.1; replace hne := hne.2)) | ((with_reducible refine w_last ?_ ?_ ?_); kernel_rfl; rfl) | with_reducible refine Go2.go ?_ | ((with_reducible first | apply w_stepG | refine s_bi ?_ ?_ | refine blk_ne ?_ ?_); rfl) | ((with_reducible refine al_go ?_); intro b) | ((with_reducible apply (ck_le Try.call28)); exact LEL.refl _; exact hC.out _) | ((with_reducible apply (ck_le Try.call14)); exact LEL.refl _; exact hF.out _) | ((with_reducible first | refine w_region ?_ ?_ | refine w_dra ?_ ?_); kernel_rfl) | ((with_reducible refine Go3.go ?_ ?_); all_goals (intro hb; (try with_reducible intro hb1); (try (exfalso; first | contradiction | omega)))) | fail)
              refine ⟨i + 1, .box b9 45 [.i v, .sl .shared DS] :: .box b7 52 [.sl .shared XS, .sl .shared XC] :: st, (by (repeat (first | exact List.Sublist.refl _ | apply List.Sublist.cons))), ⟨hlt, ?_, ?_, ?_, ?_, ?_, ?_, ?_, rfl⟩, by omega⟩
              all_goals (first | rfl | assumption | omega | (simp (disch := omega) only [push_cast, simprocAttr, *]; try omega; done))
        · skip
          repeat' (first | with_reducible refine Go1.go ?_ | ((with_reducible apply ev_go); (focus ((try simp (disch := omega) only [push_cast, simprocAttr, *]); (try exact rfl); done))) | ((with_reducible refine w_last ?_ ?_ ?_); kernel_rfl; rfl) | with_reducible refine Go2.go ?_ | ((with_reducible first | apply w_stepG | refine s_bi ?_ ?_ | refine blk_ne ?_ ?_); rfl) | ((with_reducible refine al_go ?_); intro b) | ((with_reducible first | refine w_region ?_ ?_ | refine w_dra ?_ ?_); kernel_rfl) | ((with_reducible refine Go3.go ?_ ?_); all_goals (intro hb; (try with_reducible intro hb1); (try (exfalso; first | contradiction | omega)))) | fail)
          obtain ⟨b12, rfl⟩ : ∃ q, q = b := ⟨_, rfl⟩
          rw [← hE0'.out]
          refine tr_loopd (ι := Int) (fun w A st' => v ≤ w ∧ w ≤ rv ∧ A.df = [] ∧ A.e 2 = .i v ∧ A.e 3 = .ip [.str nm, .sl .shared SL, .sl .shared TL] ∧ A.e 9 = .ptr b9 0 ∧ A.e 12 = .ptr b12 0 ∧ st' = .box b12 45 [.i w, .sl .shared (BC w)] :: .box b9 45 [.i v, .sl .shared DS] :: .box b7 52 [.sl .shared XS, .sl .shared XC] :: st) (fun w => (w - v).toNat) rv ⟨hle, Int.le_refl _, ?_, ?_, ?_, ?_, ?_, rfl⟩ ?_
          iterate 5 (focus (first | rfl | assumption | omega | (simp (disch := omega) only [push_cast, simprocAttr, *]; try omega; done)))
          rintro w A st' ⟨hi1, hi2, hdf, e2, e3, e9, e12, rfl⟩
          by_cases hlt : v < w
          · have hLo := Lib.hid (hlo'.out w hlt hi2)
            repeat' (first | with_reducible refine Go1.go ?_ | ((with_reducible apply ev_go); (focus ((try simp (disch := omega) only [push_cast, simprocAttr, *]); (try exact rfl); done))) | ((with_reducible refine w_last ?_ ?_ ?_); kernel_rfl; rfl) | with_reducible refine Go2.go ?_ | ((with_reducible first | apply w_stepG | refine s_bi ?_ ?_ | refine blk_ne ?_ ?_); rfl) | ((with_reducible refine al_go ?_); intro b) | ((with_reducible apply (ck_le Try.call29)); exact LEL.refl _; exact hLo.out _) | ((with_reducible first | refine w_region ?_ ?_ | refine w_dra ?_ ?_); kernel_rfl) | ((with_reducible refine Go3.go ?_ ?_); all_goals (intro hb; (try with_reducible intro hb1); (try (exfalso; first | contradiction | omega)))) | fail)
            refine ⟨w - 1, .box b12 45 [.i (w - 1), .sl .shared (BC (w - 1))] :: .box b9 45 [.i v, .sl .shared DS] :: .box b7 52 [.sl .shared XS, .sl .shared XC] :: st, (by (repeat (first | exact List.Sublist.refl _ | apply List.Sublist.cons))), ⟨by omega, by omega, ?_, ?_, ?_, ?_, ?_, rfl⟩, by omega⟩
            all_goals (first | rfl | assumption | omega | (simp (disch := omega) only [push_cast, simprocAttr, *]; try omega; done))
          · obtain rfl : w = v := by omega
            rw [hE1'.out]
            repeat' (first | with_reducible refine Go1.go ?_ | ((with_reducible apply ev_go); (focus ((try simp (disch := omega) only [push_cast, simprocAttr, *]); (try exact rfl); done))) | ((with_reducible refine w_last ?_ ?_ ?_); kernel_rfl; rfl) | with_reducible refine Go2.go ?_ | ((with_reducible first | apply w_stepG | refine s_bi ?_ ?_ | refine blk_ne ?_ ?_); rfl) | ((with_reducible refine al_go ?_); intro b) | ((with_reducible apply (ck_le Try.call25)); exact LEL.refl _; exact hS.out _) | ((with_reducible first | refine w_region ?_ ?_ | refine w_dra ?_ ?_); kernel_rfl) | ((with_reducible refine Go3.go ?_ ?_); all_goals (intro hb; (try with_reducible intro hb1); (try (exfalso; first | contradiction | omega)))) | fail)
            all_goals (refine ret_eq (by simp) (by first | rfl | assumption) (by (repeat (first | exact List.Sublist.refl _ | apply List.Sublist.cons))) ?_; (try simp (disch := omega) only [push_cast, simprocAttr, *]); try (first | exact LE.refl _ | exact LE.sl _ _ | ((first | refine LE.tup ?_ | refine LE.agg ?_); (repeat' (first | exact LEL.nil | refine LEL.cons ?_ ?_ | exact LE.refl _ | exact LE.sl _ _ | refine LE.agg ?_)); done) | refine LE.of_eq ?_))
end Go.Proofs.Ytooaagmhgakhgaa
end
