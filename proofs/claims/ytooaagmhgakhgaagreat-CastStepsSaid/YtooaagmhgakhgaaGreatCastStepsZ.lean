/- The walk of the statement CastSteps. -/
import Derived.Test.YtooaagmhgakhgaaGreatZ6
set_option linter.all false
section
namespace Go.Proofs.YtooaagmhgakhgaaGreat
set_option linter.unusedSimpArgs false
attribute [local push_cast] encB encI encC V.cells_mk V.cells_len Nat.mul_one Int.sub_zero List.map_nil beq_self_eq_true bne_self_eq_false List.head?_cons
open Go.RowKit
set_option maxRecDepth 10000
set_option maxHeartbeats 8000000
theorem Sch.castS_up {t : Tm} {r : Rc} {w : Int} (h : r.v ≤ w) : Sch.castS t r w = Sch.upS t r w := by
  cases hv : Sch.valid t r with
  | false =>
    rw [Sch.up_bad hv]
    unfold Sch.castS
    rw [if_neg (by rw [hv]; exact Bool.false_ne_true)]
  | true =>
    cases hb : Sch.verB t w with
    | false =>
      rw [Sch.up_none hv (fun h => by rw [hb] at h; cases h)]
      unfold Sch.castS
      rw [if_pos hv, if_neg (by rw [hb]; exact Bool.false_ne_true)]
    | true =>
      obtain ⟨x, hx⟩ := Sch.verB_some hb
      rw [Sch.castS_eq hv hx, Sch.upS_eq hv hx h]
theorem Sch.castS_down {t : Tm} {r : Rc} {w : Int} (h : w ≤ r.v) : Sch.castS t r w = Sch.downS t r w := by
  cases hv : Sch.valid t r with
  | false =>
    rw [Sch.down_bad hv]
    unfold Sch.castS
    rw [if_neg (by rw [hv]; exact Bool.false_ne_true)]
  | true =>
    cases hb : Sch.verB t w with
    | false =>
      rw [Sch.down_none hv (fun h => by rw [hb] at h; cases h)]
      unfold Sch.castS
      rw [if_pos hv, if_neg (by rw [hb]; exact Bool.false_ne_true)]
    | true =>
      obtain ⟨x, hx⟩ := Sch.verB_some hb
      rw [Sch.castS_eq hv hx, Sch.downS_eq hv hx h]
theorem up_same {t : Tm} {r : Rc} (hL : Look t r) (v : Int) (st : St) : TrF Tryz.prog 13 [.agg (Sch.upS t r v).1.cells, .agg (Sch.upS t r v).1.cells] st fun d st' => d = .b true ∧ st' = st := by
  rcases Sch.upS_cases t r v with ⟨e, he, -⟩ | ⟨x, hx, -, -, he⟩
  · rw [he]
    have := refSame11F Sch.zeroR Sch.zeroR (fun v h => by cases h) (by decide) st
    rwa [Rc.same_self] at this
  · rw [he]
    have hLa := hL.cast hx
    have := refSame11F ⟨v, Sch.castL x.slots r.s⟩ ⟨v, Sch.castL x.slots r.s⟩ (fun v h => (hLa.rq v h).ok) (by have := hLa.rk.l; omega) st
    rwa [Rc.same_self] at this
theorem down_same {t : Tm} {r : Rc} (hL : Look t r) (v : Int) (st : St) : TrF Tryz.prog 13 [.agg (Sch.downS t r v).1.cells, .agg (Sch.downS t r v).1.cells] st fun d st' => d = .b true ∧ st' = st := by
  rcases Sch.downS_cases t r v with ⟨e, he, -⟩ | ⟨x, hx, -, -, he⟩
  · rw [he]
    have := refSame11F Sch.zeroR Sch.zeroR (fun v h => by cases h) (by decide) st
    rwa [Rc.same_self] at this
  · rw [he]
    have hLa := hL.cast hx
    have := refSame11F ⟨v, Sch.castL x.slots r.s⟩ ⟨v, Sch.castL x.slots r.s⟩ (fun v h => (hLa.rq v h).ok) (by have := hLa.rk.l; omega) st
    rwa [Rc.same_self] at this
theorem castGoesLaw (t : Tm) (r : Rc) (v : Int) (hw : t.Wf) (hr : r.Wf) (st : St) : TrF Tryz.prog 3 [.agg t.cells, .agg r.cells, .i v] st fun d st' => d = .b true ∧ st' = st := by
  have hA := Lib.hid cast12AliveF
  have hG := cast12GreatF t hw r hr
  cases hg : Sch.great12 t r with
  | true =>
    rw [hg] at hG
    unfold Tm.cells Rc.cells at *
    generalize t.slots.map Sl.cells = SL at *
    generalize t.steps.map Stp.cells = TL at *
    generalize t.name = nm at *
    generalize r.s.map V.cells = RS at *
    generalize r.v = rv at *
    replace hG := Lib.hid hG
    refine trF_enter (ts := [6]) Tryz.func3 rfl (by rw [Tryz.ntmps3]; exact Nat.le_of_ble_eq_true rfl) (fun tmps w => by simp [results, Tryz.results3, go_sem, resVal]) ?_
    simp only [Tryz.ntmps3]
    repeat' (first | with_reducible refine Go1.go ?_ | ((with_reducible apply ev_go); (focus ((try simp (disch := omega) only [push_cast, simprocAttr, *]); (try exact rfl); done))) | ((with_reducible refine w_last ?_ ?_ ?_); kernel_rfl; rfl) | with_reducible refine Go2.go ?_ | ((with_reducible first | apply w_stepG | refine s_bi ?_ ?_ | refine blk_ne ?_ ?_); rfl) | ((with_reducible refine al_go ?_); intro b) | ((with_reducible apply (ck_le Tryz.call5)); exact LEL.refl _; exact hA.out _) | ((with_reducible apply (ck_le Tryz.call6)); exact LEL.refl _; exact hG.out _) | ((with_reducible first | refine w_region ?_ ?_ | refine w_dra ?_ ?_); kernel_rfl) | ((with_reducible refine Go3.go ?_ ?_); all_goals (intro hb; (try with_reducible intro hb1); (try (exfalso; first | contradiction | omega)))) | fail)
    all_goals (refine ret_eq (by simp) (by first | rfl | assumption) (by (repeat (first | exact List.Sublist.refl _ | apply List.Sublist.cons))) ?_; (try simp (disch := omega) only [push_cast, simprocAttr, *]); try (first | exact LE.refl _ | exact LE.sl _ _ | ((first | refine LE.tup ?_ | refine LE.agg ?_); (repeat' (first | exact LEL.nil | refine LEL.cons ?_ ?_ | exact LE.refl _ | exact LE.sl _ _ | refine LE.agg ?_)); done) | refine LE.of_eq ?_))
  | false =>
    have hL := not_great12 hw hr hg
    rw [hg] at hG
    have hU := castUpF t hL.tc r hL.rk v
    have hD := castDownF t hL.tc r hL.rk v
    have hN := castNewestF t hL.tc r hL.rk
    have hU2 := refUp12F t r hL v
    have hD2 := refDown12F t r hL v
    have hN2 := refNewest12F t r hL
    have hS1 := up_same hL v
    have hS2 := down_same hL v
    have hS3 : ∀ st, TrF Tryz.prog 13 [.agg (Sch.newestS t r).1.cells, .agg (Sch.newestS t r).1.cells] st fun d st' => d = .b true ∧ st' = st := by
      unfold Sch.newestS
      exact up_same hL _
    clear hg hL
    generalize Sch.newestS t r = n at *
    generalize Sch.upS t r v = u at *
    generalize Sch.downS t r v = o at *
    unfold Tm.cells Rc.cells at *
    generalize t.slots.map Sl.cells = SL at *
    generalize t.steps.map Stp.cells = TL at *
    generalize t.name = nm at *
    generalize n.1.s.map V.cells = NS at *
    generalize n.1.v = nv at *
    generalize n.2 = ne at *
    generalize u.1.s.map V.cells = US at *
    generalize u.1.v = uv at *
    generalize u.2 = ue at *
    generalize o.1.s.map V.cells = OS at *
    generalize o.1.v = ov at *
    generalize o.2 = oe at *
    generalize r.s.map V.cells = RS at *
    generalize r.v = rv at *
    replace hG := Lib.hid hG
    replace hU := Lib.hid hU
    replace hD := Lib.hid hD
    replace hN := Lib.hid hN
    replace hU2 := Lib.hid hU2
    replace hD2 := Lib.hid hD2
    replace hN2 := Lib.hid hN2
    replace hS1 := Lib.hid hS1
    replace hS2 := Lib.hid hS2
    replace hS3 := Lib.hid hS3
    refine trF_enter (ts := [6]) Tryz.func3 rfl (by rw [Tryz.ntmps3]; exact Nat.le_of_ble_eq_true rfl) (fun tmps w => by simp [results, Tryz.results3, go_sem, resVal]) ?_
    simp only [Tryz.ntmps3]
    repeat' (first | with_reducible refine Go1.go ?_ | ((with_reducible apply ev_go); (focus ((try simp (disch := omega) only [push_cast, simprocAttr, *]); (try exact rfl); done))) | ((with_reducible refine w_last ?_ ?_ ?_); kernel_rfl; rfl) | with_reducible refine Go2.go ?_ | ((with_reducible first | apply w_stepG | refine s_bi ?_ ?_ | refine blk_ne ?_ ?_); rfl) | ((with_reducible refine al_go ?_); intro b) | ((with_reducible apply (ck_le Tryz.call5)); exact LEL.refl _; exact hA.out _) | ((with_reducible apply (ck_le Tryz.call6)); exact LEL.refl _; exact hG.out _) | ((with_reducible apply (ck_le Tryz.call7)); exact LEL.refl _; exact hU.out _) | ((with_reducible apply (ck_le Tryz.call9)); exact LEL.refl _; exact hD.out _) | ((with_reducible apply (ck_le Tryz.call11)); exact LEL.refl _; exact hN.out _) | ((with_reducible apply (ck_le Tryz.call8)); exact LEL.refl _; exact hU2.out _) | ((with_reducible apply (ck_le Tryz.call10)); exact LEL.refl _; exact hD2.out _) | ((with_reducible apply (ck_le Tryz.call12)); exact LEL.refl _; exact hN2.out _) | ((with_reducible apply (ck_le Tryz.call13)); exact LEL.refl _; exact hS1.out _) | ((with_reducible apply (ck_le Tryz.call13)); exact LEL.refl _; exact hS2.out _) | ((with_reducible apply (ck_le Tryz.call13)); exact LEL.refl _; exact hS3.out _) | ((with_reducible first | refine w_region ?_ ?_ | refine w_dra ?_ ?_); kernel_rfl) | ((with_reducible refine Go3.go ?_ ?_); all_goals (intro hb; (try with_reducible intro hb1); (try (exfalso; first | contradiction | omega)))) | fail)
    all_goals (refine ret_eq (by simp) (by first | rfl | assumption) (by (repeat (first | exact List.Sublist.refl _ | apply List.Sublist.cons))) ?_; (try simp (disch := omega) only [push_cast, simprocAttr, *]); try (first | exact LE.refl _ | exact LE.sl _ _ | ((first | refine LE.tup ?_ | refine LE.agg ?_); (repeat' (first | exact LEL.nil | refine LEL.cons ?_ ?_ | exact LE.refl _ | exact LE.sl _ _ | refine LE.agg ?_)); done) | refine LE.of_eq ?_))
theorem castStepsLaw (t : Tm) (r : Rc) (hw : t.Wf) (hr : r.Wf) (st : St) : TrF Tryz.prog 4 [.agg t.cells, .agg r.cells] st fun d st' => d = .b true ∧ st' = st := by
  have hA := Lib.hid cast12AliveF
  have hG := cast12GreatF t hw r hr
  cases hg : Sch.great12 t r with
  | true =>
    rw [hg] at hG
    unfold Tm.cells Rc.cells at *
    generalize t.slots.map Sl.cells = SL at *
    generalize t.steps.map Stp.cells = TL at *
    generalize t.name = nm at *
    generalize r.s.map V.cells = RS at *
    generalize r.v = rv at *
    replace hG := Lib.hid hG
    refine trF_enter (ts := [4]) Tryz.func4 rfl (by rw [Tryz.ntmps4]; exact Nat.le_of_ble_eq_true rfl) (fun tmps w => by simp [results, Tryz.results4, go_sem, resVal]) ?_
    simp only [Tryz.ntmps4]
    repeat' (first | with_reducible refine Go1.go ?_ | ((with_reducible apply ev_go); (focus ((try simp (disch := omega) only [push_cast, simprocAttr, *]); (try exact rfl); done))) | ((with_reducible refine w_last ?_ ?_ ?_); kernel_rfl; rfl) | with_reducible refine Go2.go ?_ | ((with_reducible first | apply w_stepG | refine s_bi ?_ ?_ | refine blk_ne ?_ ?_); rfl) | ((with_reducible refine al_go ?_); intro b) | ((with_reducible apply (ck_le Tryz.call5)); exact LEL.refl _; exact hA.out _) | ((with_reducible apply (ck_le Tryz.call6)); exact LEL.refl _; exact hG.out _) | ((with_reducible first | refine w_region ?_ ?_ | refine w_dra ?_ ?_); kernel_rfl) | ((with_reducible refine Go3.go ?_ ?_); all_goals (intro hb; (try with_reducible intro hb1); (try (exfalso; first | contradiction | omega)))) | fail)
    all_goals (refine ret_eq (by simp) (by first | rfl | assumption) (by (repeat (first | exact List.Sublist.refl _ | apply List.Sublist.cons))) ?_; (try simp (disch := omega) only [push_cast, simprocAttr, *]); try (first | exact LE.refl _ | exact LE.sl _ _ | ((first | refine LE.tup ?_ | refine LE.agg ?_); (repeat' (first | exact LEL.nil | refine LEL.cons ?_ ?_ | exact LE.refl _ | exact LE.sl _ _ | refine LE.agg ?_)); done) | refine LE.of_eq ?_))
  | false =>
    have hL := not_great12 hw hr hg
    rw [hg] at hG
    by_cases hb : -1000 ≤ r.v ∧ r.v ≤ 1000
    · have hU := castLiftF t hL.tc r hL.rk ⟨by omega, by omega⟩
      have hD := castLowerF t hL.tc r hL.rk ⟨by omega, by omega⟩
      rw [Sch.castS_up (by omega)] at hU
      rw [Sch.castS_down (by omega)] at hD
      have hU2 := refUp12F t r hL (r.v + 1)
      have hD2 := refDown12F t r hL (r.v - 1)
      have hS1 := up_same hL (r.v + 1)
      have hS2 := down_same hL (r.v - 1)
      clear hg hL
      generalize Sch.upS t r (r.v + 1) = u at *
      generalize Sch.downS t r (r.v - 1) = o at *
      unfold Tm.cells Rc.cells at *
      generalize t.slots.map Sl.cells = SL at *
      generalize t.steps.map Stp.cells = TL at *
      generalize t.name = nm at *
      generalize u.1.s.map V.cells = US at *
      generalize u.1.v = uv at *
      generalize u.2 = ue at *
      generalize o.1.s.map V.cells = OS at *
      generalize o.1.v = ov at *
      generalize o.2 = oe at *
      generalize r.s.map V.cells = RS at *
      generalize r.v = rv at *
      obtain ⟨hb1, hb2⟩ := hb
      replace hG := Lib.hid hG
      replace hU := Lib.hid hU
      replace hD := Lib.hid hD
      replace hU2 := Lib.hid hU2
      replace hD2 := Lib.hid hD2
      replace hS1 := Lib.hid hS1
      replace hS2 := Lib.hid hS2
      refine trF_enter (ts := [4]) Tryz.func4 rfl (by rw [Tryz.ntmps4]; exact Nat.le_of_ble_eq_true rfl) (fun tmps w => by simp [results, Tryz.results4, go_sem, resVal]) ?_
      simp only [Tryz.ntmps4]
      repeat' (first | with_reducible refine Go1.go ?_ | ((with_reducible apply ev_go); (focus ((try simp (disch := omega) only [push_cast, simprocAttr, *]); (try exact rfl); done))) | ((with_reducible refine w_last ?_ ?_ ?_); kernel_rfl; rfl) | with_reducible refine Go2.go ?_ | ((with_reducible first | apply w_stepG | refine s_bi ?_ ?_ | refine blk_ne ?_ ?_); rfl) | ((with_reducible refine al_go ?_); intro b) | ((with_reducible apply (ck_le Tryz.call5)); exact LEL.refl _; exact hA.out _) | ((with_reducible apply (ck_le Tryz.call6)); exact LEL.refl _; exact hG.out _) | ((with_reducible apply (ck_le Tryz.call14)); exact LEL.refl _; exact hU.out _) | ((with_reducible apply (ck_le Tryz.call15)); exact LEL.refl _; exact hD.out _) | ((with_reducible apply (ck_le Tryz.call8)); exact LEL.refl _; exact hU2.out _) | ((with_reducible apply (ck_le Tryz.call10)); exact LEL.refl _; exact hD2.out _) | ((with_reducible apply (ck_le Tryz.call13)); exact LEL.refl _; exact hS1.out _) | ((with_reducible apply (ck_le Tryz.call13)); exact LEL.refl _; exact hS2.out _) | ((with_reducible first | refine w_region ?_ ?_ | refine w_dra ?_ ?_); kernel_rfl) | ((with_reducible refine Go3.go ?_ ?_); all_goals (intro hb; (try with_reducible intro hb1); (try (exfalso; first | contradiction | omega)))) | fail)
      all_goals (refine ret_eq (by simp) (by first | rfl | assumption) (by (repeat (first | exact List.Sublist.refl _ | apply List.Sublist.cons))) ?_; (try simp (disch := omega) only [push_cast, simprocAttr, *]); try (first | exact LE.refl _ | exact LE.sl _ _ | ((first | refine LE.tup ?_ | refine LE.agg ?_); (repeat' (first | exact LEL.nil | refine LEL.cons ?_ ?_ | exact LE.refl _ | exact LE.sl _ _ | refine LE.agg ?_)); done) | refine LE.of_eq ?_))
    · clear hg hL
      unfold Tm.cells Rc.cells at *
      generalize t.slots.map Sl.cells = SL at *
      generalize t.steps.map Stp.cells = TL at *
      generalize t.name = nm at *
      generalize r.s.map V.cells = RS at *
      generalize r.v = rv at *
      replace hG := Lib.hid hG
      refine trF_enter (ts := [4]) Tryz.func4 rfl (by rw [Tryz.ntmps4]; exact Nat.le_of_ble_eq_true rfl) (fun tmps w => by simp [results, Tryz.results4, go_sem, resVal]) ?_
      simp only [Tryz.ntmps4]
      repeat' (first | with_reducible refine Go1.go ?_ | ((with_reducible apply ev_go); (focus ((try simp (disch := omega) only [push_cast, simprocAttr, *]); (try exact rfl); done))) | ((with_reducible refine w_last ?_ ?_ ?_); kernel_rfl; rfl) | with_reducible refine Go2.go ?_ | ((with_reducible first | apply w_stepG | refine s_bi ?_ ?_ | refine blk_ne ?_ ?_); rfl) | ((with_reducible refine al_go ?_); intro b) | ((with_reducible apply (ck_le Tryz.call5)); exact LEL.refl _; exact hA.out _) | ((with_reducible apply (ck_le Tryz.call6)); exact LEL.refl _; exact hG.out _) | ((with_reducible first | refine w_region ?_ ?_ | refine w_dra ?_ ?_); kernel_rfl) | ((with_reducible refine Go3.go ?_ ?_); all_goals (intro hb; (try with_reducible intro hb1); (try (exfalso; first | contradiction | omega)))) | fail)
      all_goals (refine ret_eq (by simp) (by first | rfl | assumption) (by (repeat (first | exact List.Sublist.refl _ | apply List.Sublist.cons))) ?_; (try simp (disch := omega) only [push_cast, simprocAttr, *]); try (first | exact LE.refl _ | exact LE.sl _ _ | ((first | refine LE.tup ?_ | refine LE.agg ?_); (repeat' (first | exact LEL.nil | refine LEL.cons ?_ ?_ | exact LE.refl _ | exact LE.sl _ _ | refine LE.agg ?_)); done) | refine LE.of_eq ?_))
end Go.Proofs.YtooaagmhgakhgaaGreat
end
