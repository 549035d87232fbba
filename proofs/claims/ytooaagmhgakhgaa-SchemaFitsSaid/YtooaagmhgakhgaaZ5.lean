/- Texts put together: SchA, SchB, AmRange, SchC, SchD, SchE, SchF, SchG, SchH, AmDraw2, AmPivot, AmRes. No statement is proved here. -/
import Derived.RangeFuncIn
import Derived.RangeFuncLeaves
import Derived.RangeFuncSeq
import Derived.Test.YtooaagmhgakhgaaZ4
set_option linter.all false
section
namespace Go.Proofs.Ytooaagmhgakhgaa
set_option linter.unusedSimpArgs false
open Go.RowKit
set_option maxRecDepth 10000
set_option maxHeartbeats 4000000
theorem schTakesF (t : Int) (st : St) : TrF Try.prog 102 [.i t] st fun x st' => x = .b (Sch.takes t) ∧ st' = st := by
  unfold Sch.takes
  refine trF_enter (ts := [2]) Try.func102 rfl (by rw [Try.ntmps102]; exact Nat.le_of_ble_eq_true rfl) (fun tmps w => by simp [results, Try.results102, go_sem, resVal]) ?_
  simp only [Try.ntmps102]
  repeat' (first | ((with_reducible apply ev_go); (focus (try simp (disch := omega) only [push_cast, Nat.reduceEqDiff, reduceCtorEq, ↓reduceIte, Nat.reduceAdd, Nat.reduceMul, Nat.reduceSub, Nat.reduceLT, Nat.reduceLeDiff, Int.reduceToNat, Int.reduceLT, Int.reduceLE, Int.reduceAdd, Int.reduceSub, Int.reduceMul, Int.reduceBEq, Int.reduceBNe, encB, encI, encC, V.cells_mk, V.cells_len, Nat.mul_one, Int.sub_zero, List.map_nil, beq_self_eq_true, *]); (try exact rfl); done)) | ((with_reducible refine w_last ?_ ?_ ?_); (focus kernel_rfl); (focus rfl)) | ((with_reducible apply w_stepG); (focus rfl)) | ((with_reducible apply lk_mem); (focus ((repeat (first | exact mm_h | apply mm_t)); done))) | with_reducible (first | refine w_step0 ?_ | refine w_nil ?_ | refine gd_tt ?_ | refine gd_ff ?_ | refine gd_tf ?_ | refine gd_ft ?_ | refine gd_un ?_ | refine s_move ?_ | refine s_assign ?_ | refine s_bin ?_ | refine s_un ?_ | refine s_conv ?_ | refine s_field ?_ | refine s_fieldAddr ?_ | refine s_ext ?_ | refine s_pick ?_ | refine s_nil ?_ | refine s_load ?_ | refine lk_ip ?_ | refine lk_ptr ?_ | refine s_index ?_ | refine s_indexAddr ?_ | refine s_slice ?_ | refine s_build ?_ | refine s_buildSlice ?_ | refine s_mk ?_ | refine s_store ?_ | refine s_alloc ?_ | refine s_call ?_ | refine s_ip ?_ | refine tr_seq ?_ | refine tr_block ?_ | refine tr_skip ?_ | refine tr_ret ?_ | refine tr_exit ?_ | refine tr_label ?_ | refine strip_norm ?_ | refine strip_ret ?_ | refine strip_exit ?_ | refine blk_norm ?_ | refine blk_ret ?_ | refine blk_same ?_ | refine tr_condT ?_ | refine tr_condCt ?_ | refine tr_condCf ?_) | ((with_reducible apply sto_go); (focus (intro cs'; repeat (first | exact ra_h | apply ra_t)))) | ((with_reducible refine al_go ?_); intro b) | ((with_reducible refine And.intro ?_ ?_); (focus ((repeat (first | exact keep_none | exact keep_nil | exact keep_ro | refine keep_cons ?_)); done))) | ((with_reducible refine s_bi ?_ ?_); (focus rfl)) | with_reducible refine blk_ne rfl ?_ | ((with_reducible refine w_region ?_ ?_); (focus kernel_rfl)) | ((with_reducible refine w_draw [] ?_ ?_ ?_ ?_ ?_); (iterate 3 (focus kernel_rfl)); (focus exact keeps_nil)) | ((with_reducible first | refine gd_d1 ?_ ?_ | refine gd_d0 ?_ ?_); all_goals (intro hb; (first | with_reducible replace hb := nt_t hb | with_reducible replace hb := nt_f hb | skip); (first | replace hb := dc_t hb | replace hb := dc_f hb | have hb1 := eq_b hb | have hb1 := ne_b hb | have hb1 := bne_t hb | have hb1 := bne_f hb | skip); (try (exfalso; first | contradiction | omega)))))
  all_goals (refine ret_eq (by first | exact .inl rfl | exact .inr rfl) (by first | rfl | assumption) (by (repeat (first | exact List.Sublist.refl _ | apply List.Sublist.cons))) ?_; (try simp (disch := omega) only [push_cast, Nat.reduceEqDiff, reduceCtorEq, ↓reduceIte, Nat.reduceAdd, Nat.reduceMul, Nat.reduceSub, Nat.reduceLT, Nat.reduceLeDiff, Int.reduceToNat, Int.reduceLT, Int.reduceLE, Int.reduceAdd, Int.reduceSub, Int.reduceMul, Int.reduceBEq, Int.reduceBNe, encB, encI, encC, V.cells_mk, V.cells_len, Nat.mul_one, Int.sub_zero, List.map_nil, beq_self_eq_true, *]); try (first | exact LE.refl _ | exact LE.sl _ _ | (refine LE.tup ?_; (repeat' (first | exact LEL.nil | refine LEL.cons ?_ ?_ | exact LE.refl _ | exact LE.sl _ _ | refine LE.agg ?_)); done) | (refine LE.agg ?_; (repeat' (first | exact LEL.nil | refine LEL.cons ?_ ?_ | exact LE.refl _ | exact LE.sl _ _)); done) | refine LE.of_eq ?_))
  all_goals (first | rfl | (refine congrArg D.b ?_; rw [Bool.eq_iff_iff]; simp only [Bool.true_and, Bool.false_and, Bool.and_true, Bool.and_false, Bool.or_false, Bool.or_true, Bool.true_or, Bool.false_or, true_and, and_true, Bool.not_eq_true', Bool.not_eq_false', decide_eq_true_eq, decide_eq_false_iff_not, beq_iff_eq, beq_eq_false_iff_ne, bne_iff_ne, ne_eq, reduceCtorEq, iff_true, true_iff, iff_false, false_iff, Bool.and_eq_true, Bool.or_eq_true, Bool.false_eq_true, Bool.true_eq_false]; first | done | omega))
theorem schFitsF (nm : ByteArray) (ty : Int) (rq : Bool) (dv v : V) (hB : v.nodes ≤ 4611686018427387904) (st : St) : TrF Try.prog 13 [.agg (Sl.mk nm ty rq dv).cells, .agg v.cells] st fun x st' => x = .b (Sch.fits (Sl.mk nm ty rq dv) v) ∧ st' = st := by
  have hR := valRightF v hB
  unfold Sch.fits
  cases hr : v.right with
  | false =>
    rw [hr] at hR
    cases v with
    | mk k n s l =>
    cases dv with
    | mk dk dn ds dl =>
    rw [V.cells_mk] at hR
    rw [Sl.cells_mk, V.cells_mk]
    replace hR := Lib.hid hR
    refine trF_enter (ts := [4]) Try.func13 rfl (by rw [Try.ntmps13]; exact Nat.le_of_ble_eq_true rfl) (fun tmps w => by simp [results, Try.results13, go_sem, resVal]) ?_
    simp only [Try.ntmps13]
    repeat' (first | ((with_reducible apply ev_go); (focus (try simp (disch := omega) only [push_cast, Nat.reduceEqDiff, reduceCtorEq, ↓reduceIte, Nat.reduceAdd, Nat.reduceMul, Nat.reduceSub, Nat.reduceLT, Nat.reduceLeDiff, Int.reduceToNat, Int.reduceLT, Int.reduceLE, Int.reduceAdd, Int.reduceSub, Int.reduceMul, Int.reduceBEq, Int.reduceBNe, encB, encI, encC, V.cells_mk, V.cells_len, Nat.mul_one, Int.sub_zero, List.map_nil, beq_self_eq_true, *]); (try exact rfl); done)) | ((with_reducible refine w_last ?_ ?_ ?_); (focus kernel_rfl); (focus rfl)) | ((with_reducible apply w_stepG); (focus rfl)) | ((with_reducible apply lk_mem); (focus ((repeat (first | exact mm_h | apply mm_t)); done))) | with_reducible (first | refine w_step0 ?_ | refine w_nil ?_ | refine gd_tt ?_ | refine gd_ff ?_ | refine gd_tf ?_ | refine gd_ft ?_ | refine gd_un ?_ | refine s_move ?_ | refine s_assign ?_ | refine s_bin ?_ | refine s_un ?_ | refine s_conv ?_ | refine s_field ?_ | refine s_fieldAddr ?_ | refine s_ext ?_ | refine s_pick ?_ | refine s_nil ?_ | refine s_load ?_ | refine lk_ip ?_ | refine lk_ptr ?_ | refine s_index ?_ | refine s_indexAddr ?_ | refine s_slice ?_ | refine s_build ?_ | refine s_buildSlice ?_ | refine s_mk ?_ | refine s_store ?_ | refine s_alloc ?_ | refine s_call ?_ | refine s_ip ?_ | refine tr_seq ?_ | refine tr_block ?_ | refine tr_skip ?_ | refine tr_ret ?_ | refine tr_exit ?_ | refine tr_label ?_ | refine strip_norm ?_ | refine strip_ret ?_ | refine strip_exit ?_ | refine blk_norm ?_ | refine blk_ret ?_ | refine blk_same ?_ | refine tr_condT ?_ | refine tr_condCt ?_ | refine tr_condCf ?_) | ((with_reducible apply sto_go); (focus (intro cs'; repeat (first | exact ra_h | apply ra_t)))) | ((with_reducible refine al_go ?_); intro b) | ((with_reducible refine And.intro ?_ ?_); (focus ((repeat (first | exact keep_none | exact keep_nil | exact keep_ro | refine keep_cons ?_)); done))) | ((with_reducible apply (ck_le Try.call42)); (focus exact LEL.refl _); (focus exact hR.out _)) | ((with_reducible refine s_bi ?_ ?_); (focus rfl)) | with_reducible refine blk_ne rfl ?_ | ((with_reducible refine w_region ?_ ?_); (focus kernel_rfl)) | ((with_reducible refine w_draw [] ?_ ?_ ?_ ?_ ?_); (iterate 3 (focus kernel_rfl)); (focus exact keeps_nil)) | ((with_reducible first | refine gd_d1 ?_ ?_ | refine gd_d0 ?_ ?_); all_goals (intro hb; (first | with_reducible replace hb := nt_t hb | with_reducible replace hb := nt_f hb | skip); (first | replace hb := dc_t hb | replace hb := dc_f hb | have hb1 := eq_b hb | have hb1 := ne_b hb | have hb1 := bne_t hb | have hb1 := bne_f hb | skip); (try (exfalso; first | contradiction | omega)))))
    all_goals (refine ret_eq (by first | exact .inl rfl | exact .inr rfl) (by first | rfl | assumption) (by (repeat (first | exact List.Sublist.refl _ | apply List.Sublist.cons))) ?_; (try simp (disch := omega) only [push_cast, Nat.reduceEqDiff, reduceCtorEq, ↓reduceIte, Nat.reduceAdd, Nat.reduceMul, Nat.reduceSub, Nat.reduceLT, Nat.reduceLeDiff, Int.reduceToNat, Int.reduceLT, Int.reduceLE, Int.reduceAdd, Int.reduceSub, Int.reduceMul, Int.reduceBEq, Int.reduceBNe, encB, encI, encC, V.cells_mk, V.cells_len, Nat.mul_one, Int.sub_zero, List.map_nil, beq_self_eq_true, *]); try (first | exact LE.refl _ | exact LE.sl _ _ | (refine LE.tup ?_; (repeat' (first | exact LEL.nil | refine LEL.cons ?_ ?_ | exact LE.refl _ | exact LE.sl _ _ | refine LE.agg ?_)); done) | (refine LE.agg ?_; (repeat' (first | exact LEL.nil | refine LEL.cons ?_ ?_ | exact LE.refl _ | exact LE.sl _ _)); done) | refine LE.of_eq ?_))
  | true =>
    rw [hr] at hR
    cases v with
    | mk k n s l =>
    cases dv with
    | mk dk dn ds dl =>
    have hk : 0 ≤ k ∧ k ≤ 5 := by
      have := (V.right_iff.1 hr).1
      rw [V.parts, Bool.and_eq_true, Bool.and_eq_true] at this
      have := this.1.1
      unfold V.sgl at this
      repeat' split at this
      all_goals (first | omega | exact absurd this (by decide))
    obtain ⟨hk1, hk2⟩ := hk
    rw [V.cells_mk] at hR
    rw [Sl.cells_mk, V.cells_mk]
    replace hR := Lib.hid hR
    unfold Sch.bit
    clear hr
    refine trF_enter (ts := [4]) Try.func13 rfl (by rw [Try.ntmps13]; exact Nat.le_of_ble_eq_true rfl) (fun tmps w => by simp [results, Try.results13, go_sem, resVal]) ?_
    simp only [Try.ntmps13]
    repeat' (first | ((with_reducible apply ev_go); (focus (try simp (disch := omega) only [push_cast, Nat.reduceEqDiff, reduceCtorEq, ↓reduceIte, Nat.reduceAdd, Nat.reduceMul, Nat.reduceSub, Nat.reduceLT, Nat.reduceLeDiff, Int.reduceToNat, Int.reduceLT, Int.reduceLE, Int.reduceAdd, Int.reduceSub, Int.reduceMul, Int.reduceBEq, Int.reduceBNe, encB, encI, encC, V.cells_mk, V.cells_len, Nat.mul_one, Int.sub_zero, List.map_nil, beq_self_eq_true, *]); (try exact rfl); done)) | ((with_reducible refine w_last ?_ ?_ ?_); (focus kernel_rfl); (focus rfl)) | ((with_reducible apply w_stepG); (focus rfl)) | ((with_reducible apply lk_mem); (focus ((repeat (first | exact mm_h | apply mm_t)); done))) | with_reducible (first | refine w_step0 ?_ | refine w_nil ?_ | refine gd_tt ?_ | refine gd_ff ?_ | refine gd_tf ?_ | refine gd_ft ?_ | refine gd_un ?_ | refine s_move ?_ | refine s_assign ?_ | refine s_bin ?_ | refine s_un ?_ | refine s_conv ?_ | refine s_field ?_ | refine s_fieldAddr ?_ | refine s_ext ?_ | refine s_pick ?_ | refine s_nil ?_ | refine s_load ?_ | refine lk_ip ?_ | refine lk_ptr ?_ | refine s_index ?_ | refine s_indexAddr ?_ | refine s_slice ?_ | refine s_build ?_ | refine s_buildSlice ?_ | refine s_mk ?_ | refine s_store ?_ | refine s_alloc ?_ | refine s_call ?_ | refine s_ip ?_ | refine tr_seq ?_ | refine tr_block ?_ | refine tr_skip ?_ | refine tr_ret ?_ | refine tr_exit ?_ | refine tr_label ?_ | refine strip_norm ?_ | refine strip_ret ?_ | refine strip_exit ?_ | refine blk_norm ?_ | refine blk_ret ?_ | refine blk_same ?_ | refine tr_condT ?_ | refine tr_condCt ?_ | refine tr_condCf ?_) | ((with_reducible apply sto_go); (focus (intro cs'; repeat (first | exact ra_h | apply ra_t)))) | ((with_reducible refine al_go ?_); intro b) | ((with_reducible refine And.intro ?_ ?_); (focus ((repeat (first | exact keep_none | exact keep_nil | exact keep_ro | refine keep_cons ?_)); done))) | ((with_reducible apply (ck_le Try.call42)); (focus exact LEL.refl _); (focus exact hR.out _)) | ((with_reducible refine s_bi ?_ ?_); (focus rfl)) | with_reducible refine blk_ne rfl ?_ | ((with_reducible refine w_region ?_ ?_); (focus kernel_rfl)) | ((with_reducible refine w_draw [] ?_ ?_ ?_ ?_ ?_); (iterate 3 (focus kernel_rfl)); (focus exact keeps_nil)) | ((with_reducible first | refine gd_d1 ?_ ?_ | refine gd_d0 ?_ ?_); all_goals (intro hb; (first | with_reducible replace hb := nt_t hb | with_reducible replace hb := nt_f hb | skip); (first | replace hb := dc_t hb | replace hb := dc_f hb | have hb1 := eq_b hb | have hb1 := ne_b hb | have hb1 := bne_t hb | have hb1 := bne_f hb | skip); (try (exfalso; first | contradiction | omega)))))
    all_goals (refine ret_eq (by first | exact .inl rfl | exact .inr rfl) (by first | rfl | assumption) (by (repeat (first | exact List.Sublist.refl _ | apply List.Sublist.cons))) ?_; (try simp (disch := omega) only [push_cast, Nat.reduceEqDiff, reduceCtorEq, ↓reduceIte, Nat.reduceAdd, Nat.reduceMul, Nat.reduceSub, Nat.reduceLT, Nat.reduceLeDiff, Int.reduceToNat, Int.reduceLT, Int.reduceLE, Int.reduceAdd, Int.reduceSub, Int.reduceMul, Int.reduceBEq, Int.reduceBNe, encB, encI, encC, V.cells_mk, V.cells_len, Nat.mul_one, Int.sub_zero, List.map_nil, beq_self_eq_true, *]); try (first | exact LE.refl _ | exact LE.sl _ _ | (refine LE.tup ?_; (repeat' (first | exact LEL.nil | refine LEL.cons ?_ ?_ | exact LE.refl _ | exact LE.sl _ _ | refine LE.agg ?_)); done) | (refine LE.agg ?_; (repeat' (first | exact LEL.nil | refine LEL.cons ?_ ?_ | exact LE.refl _ | exact LE.sl _ _)); done) | refine LE.of_eq ?_))

theorem schSoundF (s : Sl) (hB : s.dv.nodes ≤ 4611686018427387904) (st : St) : TrF Try.prog 87 [.agg s.cells] st fun x st' => x = .b (Sch.sound s) ∧ st' = st := by
  have hN := Lib.hid (valIsNameF s.name)
  have hT := Lib.hid (schTakesF s.types)
  have hF := schFitsF s.name s.types s.req s.dv s.dv hB
  unfold Sch.sound
  cases s with
  | mk nm ty rq dv =>
  dsimp only at hN hT hF ⊢
  generalize V.isName nm.data.toList = q1 at *
  generalize Sch.takes ty = q2 at *
  generalize Sch.fits (Sl.mk nm ty rq dv) dv = q3 at *
  cases dv with
  | mk k n s l =>
  rw [Sl.cells_mk, V.cells_mk] at hF
  rw [Sl.cells_mk]
  replace hF := Lib.hid hF
  cases q1 <;> cases q2 <;> cases q3
  all_goals skip
  all_goals (
    refine trF_enter (ts := [2]) Try.func87 rfl (by rw [Try.ntmps87]; exact Nat.le_of_ble_eq_true rfl) (fun tmps w => by simp [results, Try.results87, go_sem, resVal]) ?_
    simp only [Try.ntmps87]
    repeat' (first | ((with_reducible apply ev_go); (focus (try simp (disch := omega) only [push_cast, Nat.reduceEqDiff, reduceCtorEq, ↓reduceIte, Nat.reduceAdd, Nat.reduceMul, Nat.reduceSub, Nat.reduceLT, Nat.reduceLeDiff, Int.reduceToNat, Int.reduceLT, Int.reduceLE, Int.reduceAdd, Int.reduceSub, Int.reduceMul, Int.reduceBEq, Int.reduceBNe, encB, encI, encC, V.cells_mk, V.cells_len, Nat.mul_one, Int.sub_zero, List.map_nil, beq_self_eq_true, *]); (try exact rfl); done)) | ((with_reducible refine w_last ?_ ?_ ?_); (focus kernel_rfl); (focus rfl)) | ((with_reducible apply w_stepG); (focus rfl)) | ((with_reducible apply lk_mem); (focus ((repeat (first | exact mm_h | apply mm_t)); done))) | with_reducible (first | refine w_step0 ?_ | refine w_nil ?_ | refine gd_tt ?_ | refine gd_ff ?_ | refine gd_tf ?_ | refine gd_ft ?_ | refine gd_un ?_ | refine s_move ?_ | refine s_assign ?_ | refine s_bin ?_ | refine s_un ?_ | refine s_conv ?_ | refine s_field ?_ | refine s_fieldAddr ?_ | refine s_ext ?_ | refine s_pick ?_ | refine s_nil ?_ | refine s_load ?_ | refine lk_ip ?_ | refine lk_ptr ?_ | refine s_index ?_ | refine s_indexAddr ?_ | refine s_slice ?_ | refine s_build ?_ | refine s_buildSlice ?_ | refine s_mk ?_ | refine s_store ?_ | refine s_alloc ?_ | refine s_call ?_ | refine s_ip ?_ | refine tr_seq ?_ | refine tr_block ?_ | refine tr_skip ?_ | refine tr_ret ?_ | refine tr_exit ?_ | refine tr_label ?_ | refine strip_norm ?_ | refine strip_ret ?_ | refine strip_exit ?_ | refine blk_norm ?_ | refine blk_ret ?_ | refine blk_same ?_ | refine tr_condT ?_ | refine tr_condCt ?_ | refine tr_condCf ?_) | ((with_reducible apply sto_go); (focus (intro cs'; repeat (first | exact ra_h | apply ra_t)))) | ((with_reducible refine al_go ?_); intro b) | ((with_reducible refine And.intro ?_ ?_); (focus ((repeat (first | exact keep_none | exact keep_nil | exact keep_ro | refine keep_cons ?_)); done))) | ((with_reducible apply (ck_le Try.call86)); (focus exact LEL.refl _); (focus exact hN.out _)) | ((with_reducible apply (ck_le Try.call102)); (focus exact LEL.refl _); (focus exact hT.out _)) | ((with_reducible apply (ck_le Try.call13)); (focus exact LEL.refl _); (focus exact hF.out _)) | ((with_reducible refine s_bi ?_ ?_); (focus rfl)) | with_reducible refine blk_ne rfl ?_ | ((with_reducible refine w_region ?_ ?_); (focus kernel_rfl)) | ((with_reducible refine w_draw [] ?_ ?_ ?_ ?_ ?_); (iterate 3 (focus kernel_rfl)); (focus exact keeps_nil)) | ((with_reducible first | refine gd_d1 ?_ ?_ | refine gd_d0 ?_ ?_); all_goals (intro hb; (first | with_reducible replace hb := nt_t hb | with_reducible replace hb := nt_f hb | skip); (first | replace hb := dc_t hb | replace hb := dc_f hb | have hb1 := eq_b hb | have hb1 := ne_b hb | have hb1 := bne_t hb | have hb1 := bne_f hb | skip); (try (exfalso; first | contradiction | omega)))))
    all_goals (refine ret_eq (by first | exact .inl rfl | exact .inr rfl) (by first | rfl | assumption) (by (repeat (first | exact List.Sublist.refl _ | apply List.Sublist.cons))) ?_; (try simp (disch := omega) only [push_cast, Nat.reduceEqDiff, reduceCtorEq, ↓reduceIte, Nat.reduceAdd, Nat.reduceMul, Nat.reduceSub, Nat.reduceLT, Nat.reduceLeDiff, Int.reduceToNat, Int.reduceLT, Int.reduceLE, Int.reduceAdd, Int.reduceSub, Int.reduceMul, Int.reduceBEq, Int.reduceBNe, encB, encI, encC, V.cells_mk, V.cells_len, Nat.mul_one, Int.sub_zero, List.map_nil, beq_self_eq_true, *]); try (first | exact LE.refl _ | exact LE.sl _ _ | (refine LE.tup ?_; (repeat' (first | exact LEL.nil | refine LEL.cons ?_ ?_ | exact LE.refl _ | exact LE.sl _ _ | refine LE.agg ?_)); done) | (refine LE.agg ?_; (repeat' (first | exact LEL.nil | refine LEL.cons ?_ ?_ | exact LE.refl _ | exact LE.sl _ _)); done) | refine LE.of_eq ?_)))
theorem schBareF (s : Sl) (b1 b2 : Bool) (hB : s.dv.Bg) (st : St) : TrF Try.prog 104 [.agg s.cells, .b b1, .b b2] st fun x st' => x = .b (Sch.bare s b1 b2) ∧ st' = st := by
  have hS := valSameB s.dv Sch.zeroV hB (.mk (Nat.zero_le _) (Nat.zero_le _) fun x h => by cases h)
  unfold Sch.bare
  cases s with
  | mk nm ty rq dv =>
  dsimp only at hS ⊢
  have hE := isE_eq nm
  generalize decide (nm.size = 0) = q1 at *
  generalize (dv.cmp Sch.zeroV == 0) = q3 at *
  unfold Sch.zeroV at hS
  cases dv with
  | mk k n s l =>
  rw [V.cells_mk, V.cells_mk, List.map_nil] at hS
  rw [Sl.cells_mk]
  replace hS := Lib.hid hS
  obtain ⟨q2, h2⟩ : ∃ q2, (ty == 0) = q2 := ⟨_, rfl⟩
  rw [h2]
  refine trF_enter (ts := [6]) Try.func104 rfl (by rw [Try.ntmps104]; exact Nat.le_of_ble_eq_true rfl) (fun tmps w => by simp [results, Try.results104, go_sem, resVal]) ?_
  simp only [Try.ntmps104]
  cases b1 <;> cases b2 <;> cases q1 <;> cases q2 <;> cases rq
  all_goals skip
  all_goals (
    repeat' (first | ((with_reducible apply ev_go); (focus (try simp (disch := omega) only [push_cast, Nat.reduceEqDiff, reduceCtorEq, ↓reduceIte, Nat.reduceAdd, Nat.reduceMul, Nat.reduceSub, Nat.reduceLT, Nat.reduceLeDiff, Int.reduceToNat, Int.reduceLT, Int.reduceLE, Int.reduceAdd, Int.reduceSub, Int.reduceMul, Int.reduceBEq, Int.reduceBNe, encB, encI, encC, V.cells_mk, V.cells_len, Nat.mul_one, Int.sub_zero, List.map_nil, beq_self_eq_true, *]); (try exact rfl); done)) | ((with_reducible refine w_last ?_ ?_ ?_); (focus kernel_rfl); (focus rfl)) | ((with_reducible apply w_stepG); (focus rfl)) | ((with_reducible apply lk_mem); (focus ((repeat (first | exact mm_h | apply mm_t)); done))) | with_reducible (first | refine w_step0 ?_ | refine w_nil ?_ | refine gd_tt ?_ | refine gd_ff ?_ | refine gd_tf ?_ | refine gd_ft ?_ | refine gd_un ?_ | refine s_move ?_ | refine s_assign ?_ | refine s_bin ?_ | refine s_un ?_ | refine s_conv ?_ | refine s_field ?_ | refine s_fieldAddr ?_ | refine s_ext ?_ | refine s_pick ?_ | refine s_nil ?_ | refine s_load ?_ | refine lk_ip ?_ | refine lk_ptr ?_ | refine s_index ?_ | refine s_indexAddr ?_ | refine s_slice ?_ | refine s_build ?_ | refine s_buildSlice ?_ | refine s_mk ?_ | refine s_store ?_ | refine s_alloc ?_ | refine s_call ?_ | refine s_ip ?_ | refine tr_seq ?_ | refine tr_block ?_ | refine tr_skip ?_ | refine tr_ret ?_ | refine tr_exit ?_ | refine tr_label ?_ | refine strip_norm ?_ | refine strip_ret ?_ | refine strip_exit ?_ | refine blk_norm ?_ | refine blk_ret ?_ | refine blk_same ?_ | refine tr_condT ?_ | refine tr_condCt ?_ | refine tr_condCf ?_) | ((with_reducible apply sto_go); (focus (intro cs'; repeat (first | exact ra_h | apply ra_t)))) | ((with_reducible refine al_go ?_); intro b) | ((with_reducible refine And.intro ?_ ?_); (focus ((repeat (first | exact keep_none | exact keep_nil | exact keep_ro | refine keep_cons ?_)); done))) | ((with_reducible apply (ck_el Try.call83)); (focus exact hS.out _); (focus ((repeat' (first | exact LEL.nil | refine LEL.cons ?_ ?_ | exact LE.refl _ | exact LE.sl _ _ | refine LE.agg ?_)); done))) | ((with_reducible refine s_bi ?_ ?_); (focus rfl)) | with_reducible refine blk_ne rfl ?_ | ((with_reducible refine w_region ?_ ?_); (focus kernel_rfl)) | ((with_reducible refine w_draw [] ?_ ?_ ?_ ?_ ?_); (iterate 3 (focus kernel_rfl)); (focus exact keeps_nil)) | ((with_reducible first | refine gd_d1 ?_ ?_ | refine gd_d0 ?_ ?_); all_goals (intro hb; (first | with_reducible replace hb := nt_t hb | with_reducible replace hb := nt_f hb | skip); (first | replace hb := dc_t hb | replace hb := dc_f hb | have hb1 := eq_b hb | have hb1 := ne_b hb | have hb1 := bne_t hb | have hb1 := bne_f hb | skip); (try (exfalso; first | contradiction | omega)))))
    all_goals (refine ret_eq (by first | exact .inl rfl | exact .inr rfl) (by first | rfl | assumption) (by (repeat (first | exact List.Sublist.refl _ | apply List.Sublist.cons))) ?_; (try simp (disch := omega) only [push_cast, Nat.reduceEqDiff, reduceCtorEq, ↓reduceIte, Nat.reduceAdd, Nat.reduceMul, Nat.reduceSub, Nat.reduceLT, Nat.reduceLeDiff, Int.reduceToNat, Int.reduceLT, Int.reduceLE, Int.reduceAdd, Int.reduceSub, Int.reduceMul, Int.reduceBEq, Int.reduceBNe, encB, encI, encC, V.cells_mk, V.cells_len, Nat.mul_one, Int.sub_zero, List.map_nil, beq_self_eq_true, *]); try (first | exact LE.refl _ | exact LE.sl _ _ | (refine LE.tup ?_; (repeat' (first | exact LEL.nil | refine LEL.cons ?_ ?_ | exact LE.refl _ | exact LE.sl _ _ | refine LE.agg ?_)); done) | (refine LE.agg ?_; (repeat' (first | exact LEL.nil | refine LEL.cons ?_ ?_ | exact LE.refl _ | exact LE.sl _ _)); done) | refine LE.of_eq ?_)))
end Go.Proofs.Ytooaagmhgakhgaa
end

section
namespace Go.Proofs.Ytooaagmhgakhgaa
set_option linter.unusedSimpArgs false
open Go.RowKit
set_option maxRecDepth 10000
set_option maxHeartbeats 4000000
theorem colL_drop {slots : List Sl} {name : ByteArray} {cols : List Nat} {i c : Nat} (h : cols[i]? = some c) : Sch.colL slots name (cols.drop i) = if Sch.named slots name c then (c : Int) else Sch.colL slots name (cols.drop (i + 1)) := by
  obtain ⟨h1, rfl⟩ := List.getElem?_eq_some_iff.1 h
  rw [List.drop_eq_getElem_cons h1, Sch.colL]
theorem schColF (slots : List Sl) (cols : List Nat) (name : ByteArray) (hl : slots.length ≤ 1000000) (hc : cols.length ≤ 1000000) (st : St) : TrF Try.prog 38 [.agg [.sl .shared (slots.map Sl.cells), .sl .shared (cols.map encC)], .str name] st fun x st' => x = .i (Sch.colL slots name cols) ∧ st' = st := by
  obtain ⟨B, hB⟩ : ∃ B, Sch.colL slots name cols = B := ⟨_, rfl⟩
  have HB : Hid (Sch.colL slots name (cols.drop 0) = B) := hB
  rw [hB]
  clear hB
  refine trF_enter (ts := [4]) Try.func38 rfl (by rw [Try.ntmps38]; exact Nat.le_of_ble_eq_true rfl) (fun tmps w => by simp [results, Try.results38, go_sem, resVal]) ?_
  simp only [Try.ntmps38]
  repeat' (first | ((with_reducible apply ev_go); (focus (try simp (disch := omega) only [push_cast, Nat.reduceEqDiff, reduceCtorEq, ↓reduceIte, Nat.reduceAdd, Nat.reduceMul, Nat.reduceSub, Nat.reduceLT, Nat.reduceLeDiff, Int.reduceToNat, Int.reduceLT, Int.reduceLE, Int.reduceAdd, Int.reduceSub, Int.reduceMul, Int.reduceBEq, Int.reduceBNe, encB, encI, encC, V.cells_mk, V.cells_len, Nat.mul_one, Int.sub_zero, List.map_nil, beq_self_eq_true, *]); (try exact rfl); done)) | ((with_reducible refine w_last ?_ ?_ ?_); (focus kernel_rfl); (focus rfl)) | ((with_reducible apply w_stepG); (focus rfl)) | ((with_reducible apply lk_mem); (focus ((repeat (first | exact mm_h | apply mm_t)); done))) | with_reducible (first | refine w_step0 ?_ | refine w_nil ?_ | refine gd_tt ?_ | refine gd_ff ?_ | refine gd_tf ?_ | refine gd_ft ?_ | refine gd_un ?_ | refine s_move ?_ | refine s_assign ?_ | refine s_bin ?_ | refine s_un ?_ | refine s_conv ?_ | refine s_field ?_ | refine s_fieldAddr ?_ | refine s_ext ?_ | refine s_pick ?_ | refine s_nil ?_ | refine s_load ?_ | refine lk_ip ?_ | refine lk_ptr ?_ | refine s_index ?_ | refine s_indexAddr ?_ | refine s_slice ?_ | refine s_build ?_ | refine s_buildSlice ?_ | refine s_mk ?_ | refine s_store ?_ | refine s_alloc ?_ | refine s_call ?_ | refine s_ip ?_ | refine tr_seq ?_ | refine tr_block ?_ | refine tr_skip ?_ | refine tr_ret ?_ | refine tr_exit ?_ | refine tr_label ?_ | refine strip_norm ?_ | refine strip_ret ?_ | refine strip_exit ?_ | refine blk_norm ?_ | refine blk_ret ?_ | refine blk_same ?_ | refine tr_condT ?_ | refine tr_condCt ?_ | refine tr_condCf ?_) | ((with_reducible apply sto_go); (focus (intro cs'; repeat (first | exact ra_h | apply ra_t)))) | ((with_reducible refine al_go ?_); intro b) | ((with_reducible refine And.intro ?_ ?_); (focus ((repeat (first | exact keep_none | exact keep_nil | exact keep_ro | refine keep_cons ?_)); done))) | ((with_reducible refine s_bi ?_ ?_); (focus rfl)) | with_reducible refine blk_ne rfl ?_ | ((with_reducible refine w_region ?_ ?_); (focus kernel_rfl)) | ((with_reducible refine w_draw [] ?_ ?_ ?_ ?_ ?_); (iterate 3 (focus kernel_rfl)); (focus exact keeps_nil)) | ((with_reducible first | refine gd_d1 ?_ ?_ | refine gd_d0 ?_ ?_); all_goals (intro hb; (first | with_reducible replace hb := nt_t hb | with_reducible replace hb := nt_f hb | skip); (first | replace hb := dc_t hb | replace hb := dc_f hb | have hb1 := eq_b hb | have hb1 := ne_b hb | have hb1 := bne_t hb | have hb1 := bne_f hb | skip); (try (exfalso; first | contradiction | omega)))))
  refine tr_loop (ι := Nat) (fun i A st' => i ≤ cols.length ∧ Hid (Sch.colL slots name (cols.drop i) = B) ∧ A.df = [] ∧ A.e 1 = .str name ∧ A.e 2 = .ip [.sl .shared (slots.map Sl.cells), .sl .shared (cols.map encC)] ∧ A.e 8 = .sl .shared (cols.map encC) ∧ A.e 9 = .i cols.length ∧ A.e 10 = .i i ∧ st = st') (fun i => cols.length - i) 0 ⟨Nat.zero_le _, HB, ?_, ?_, ?_, ?_, ?_, ?_, rfl⟩ ?_
  iterate 6 (focus (first | rfl | assumption | omega | (simp (disch := omega) only [push_cast, Nat.reduceEqDiff, reduceCtorEq, ↓reduceIte, Nat.reduceAdd, Nat.reduceMul, Nat.reduceSub, Nat.reduceLT, Nat.reduceLeDiff, Int.reduceToNat, Int.reduceLT, Int.reduceLE, Int.reduceAdd, Int.reduceSub, Int.reduceMul, Int.reduceBEq, Int.reduceBNe, encB, encI, encC, V.cells_mk, V.cells_len, Nat.mul_one, Int.sub_zero, List.map_nil, beq_self_eq_true, *]; try omega; done)))
  rintro i A st' ⟨hi, HT, hdf, e1, e2, e8, e9, e10, rfl⟩
  by_cases hlt : i < cols.length
  · obtain ⟨c, hx⟩ : ∃ c, cols[i]? = some c := ⟨_, List.getElem?_eq_getElem hlt⟩
    have HE := HT.out
    rw [colL_drop hx] at HE
    clear HT HB
    by_cases hcs : c < slots.length
    · obtain ⟨s, hs⟩ : ∃ s, slots[c]? = some s := ⟨_, List.getElem?_eq_getElem hcs⟩
      cases s with
      | mk nm ty rq dv =>
      cases dv with
      | mk k n sv l =>
      obtain ⟨q, hq⟩ : ∃ q, (nm.toList == name.toList) = q := ⟨_, rfl⟩
      have hnm : Sch.named slots name c = q := by
        unfold Sch.named
        rw [hs, ← hq]; rfl
      rw [hnm] at HE
      clear hnm
      have hcell : (slots.map Sl.cells)[c]? = some [.str nm, .i ty, .b rq, .i k, .i n, .str sv, .sl .shared (l.map V.cells)] := by
        rw [List.getElem?_map, hs, ← Sl.cells_mk]; rfl
      clear hs
      have hsl : (slots.map Sl.cells).length = slots.length := List.length_map ..
      generalize slots.map Sl.cells = SL at *
      cases q with
      | true =>
        rw [if_pos rfl] at HE
        rw [← HE]
        clear HE
        repeat' (first | ((with_reducible apply ev_go); (focus (try simp (disch := omega) only [push_cast, Nat.reduceEqDiff, reduceCtorEq, ↓reduceIte, Nat.reduceAdd, Nat.reduceMul, Nat.reduceSub, Nat.reduceLT, Nat.reduceLeDiff, Int.reduceToNat, Int.reduceLT, Int.reduceLE, Int.reduceAdd, Int.reduceSub, Int.reduceMul, Int.reduceBEq, Int.reduceBNe, encB, encI, encC, V.cells_mk, V.cells_len, Nat.mul_one, Int.sub_zero, List.map_nil, beq_self_eq_true, *]); (try exact rfl); done)) | ((with_reducible refine w_last ?_ ?_ ?_); (focus kernel_rfl); (focus rfl)) | ((with_reducible apply w_stepG); (focus rfl)) | ((with_reducible apply lk_mem); (focus ((repeat (first | exact mm_h | apply mm_t)); done))) | with_reducible (first | refine w_step0 ?_ | refine w_nil ?_ | refine gd_tt ?_ | refine gd_ff ?_ | refine gd_tf ?_ | refine gd_ft ?_ | refine gd_un ?_ | refine s_move ?_ | refine s_assign ?_ | refine s_bin ?_ | refine s_un ?_ | refine s_conv ?_ | refine s_field ?_ | refine s_fieldAddr ?_ | refine s_ext ?_ | refine s_pick ?_ | refine s_nil ?_ | refine s_load ?_ | refine lk_ip ?_ | refine lk_ptr ?_ | refine s_index ?_ | refine s_indexAddr ?_ | refine s_slice ?_ | refine s_build ?_ | refine s_buildSlice ?_ | refine s_mk ?_ | refine s_store ?_ | refine s_alloc ?_ | refine s_call ?_ | refine s_ip ?_ | refine tr_seq ?_ | refine tr_block ?_ | refine tr_skip ?_ | refine tr_ret ?_ | refine tr_exit ?_ | refine tr_label ?_ | refine strip_norm ?_ | refine strip_ret ?_ | refine strip_exit ?_ | refine blk_norm ?_ | refine blk_ret ?_ | refine blk_same ?_ | refine tr_condT ?_ | refine tr_condCt ?_ | refine tr_condCf ?_) | ((with_reducible apply sto_go); (focus (intro cs'; repeat (first | exact ra_h | apply ra_t)))) | ((with_reducible refine al_go ?_); intro b) | ((with_reducible refine And.intro ?_ ?_); (focus ((repeat (first | exact keep_none | exact keep_nil | exact keep_ro | refine keep_cons ?_)); done))) | ((with_reducible refine s_bi ?_ ?_); (focus rfl)) | with_reducible refine blk_ne rfl ?_ | ((with_reducible refine w_region ?_ ?_); (focus kernel_rfl)) | ((with_reducible refine w_draw [] ?_ ?_ ?_ ?_ ?_); (iterate 3 (focus kernel_rfl)); (focus exact keeps_nil)) | ((with_reducible first | refine gd_d1 ?_ ?_ | refine gd_d0 ?_ ?_); all_goals (intro hb; (first | with_reducible replace hb := nt_t hb | with_reducible replace hb := nt_f hb | skip); (first | replace hb := dc_t hb | replace hb := dc_f hb | have hb1 := eq_b hb | have hb1 := ne_b hb | have hb1 := bne_t hb | have hb1 := bne_f hb | skip); (try (exfalso; first | contradiction | omega)))))
        all_goals (refine ret_eq (by first | exact .inl rfl | exact .inr rfl) (by first | rfl | assumption) (by (repeat (first | exact List.Sublist.refl _ | apply List.Sublist.cons))) ?_; (try simp (disch := omega) only [push_cast, Nat.reduceEqDiff, reduceCtorEq, ↓reduceIte, Nat.reduceAdd, Nat.reduceMul, Nat.reduceSub, Nat.reduceLT, Nat.reduceLeDiff, Int.reduceToNat, Int.reduceLT, Int.reduceLE, Int.reduceAdd, Int.reduceSub, Int.reduceMul, Int.reduceBEq, Int.reduceBNe, encB, encI, encC, V.cells_mk, V.cells_len, Nat.mul_one, Int.sub_zero, List.map_nil, beq_self_eq_true, *]); try (first | exact LE.refl _ | exact LE.sl _ _ | (refine LE.tup ?_; (repeat' (first | exact LEL.nil | refine LEL.cons ?_ ?_ | exact LE.refl _ | exact LE.sl _ _ | refine LE.agg ?_)); done) | (refine LE.agg ?_; (repeat' (first | exact LEL.nil | refine LEL.cons ?_ ?_ | exact LE.refl _ | exact LE.sl _ _)); done) | refine LE.of_eq ?_))
      | false =>
        rw [if_neg (by decide)] at HE
        replace HE := Lib.hid HE
        repeat' (first | ((with_reducible apply ev_go); (focus (try simp (disch := omega) only [push_cast, Nat.reduceEqDiff, reduceCtorEq, ↓reduceIte, Nat.reduceAdd, Nat.reduceMul, Nat.reduceSub, Nat.reduceLT, Nat.reduceLeDiff, Int.reduceToNat, Int.reduceLT, Int.reduceLE, Int.reduceAdd, Int.reduceSub, Int.reduceMul, Int.reduceBEq, Int.reduceBNe, encB, encI, encC, V.cells_mk, V.cells_len, Nat.mul_one, Int.sub_zero, List.map_nil, beq_self_eq_true, *]); (try exact rfl); done)) | ((with_reducible refine w_last ?_ ?_ ?_); (focus kernel_rfl); (focus rfl)) | ((with_reducible apply w_stepG); (focus rfl)) | ((with_reducible apply lk_mem); (focus ((repeat (first | exact mm_h | apply mm_t)); done))) | with_reducible (first | refine w_step0 ?_ | refine w_nil ?_ | refine gd_tt ?_ | refine gd_ff ?_ | refine gd_tf ?_ | refine gd_ft ?_ | refine gd_un ?_ | refine s_move ?_ | refine s_assign ?_ | refine s_bin ?_ | refine s_un ?_ | refine s_conv ?_ | refine s_field ?_ | refine s_fieldAddr ?_ | refine s_ext ?_ | refine s_pick ?_ | refine s_nil ?_ | refine s_load ?_ | refine lk_ip ?_ | refine lk_ptr ?_ | refine s_index ?_ | refine s_indexAddr ?_ | refine s_slice ?_ | refine s_build ?_ | refine s_buildSlice ?_ | refine s_mk ?_ | refine s_store ?_ | refine s_alloc ?_ | refine s_call ?_ | refine s_ip ?_ | refine tr_seq ?_ | refine tr_block ?_ | refine tr_skip ?_ | refine tr_ret ?_ | refine tr_exit ?_ | refine tr_label ?_ | refine strip_norm ?_ | refine strip_ret ?_ | refine strip_exit ?_ | refine blk_norm ?_ | refine blk_ret ?_ | refine blk_same ?_ | refine tr_condT ?_ | refine tr_condCt ?_ | refine tr_condCf ?_) | ((with_reducible apply sto_go); (focus (intro cs'; repeat (first | exact ra_h | apply ra_t)))) | ((with_reducible refine al_go ?_); intro b) | ((with_reducible refine And.intro ?_ ?_); (focus ((repeat (first | exact keep_none | exact keep_nil | exact keep_ro | refine keep_cons ?_)); done))) | ((with_reducible refine s_bi ?_ ?_); (focus rfl)) | with_reducible refine blk_ne rfl ?_ | ((with_reducible refine w_region ?_ ?_); (focus kernel_rfl)) | ((with_reducible refine w_draw [] ?_ ?_ ?_ ?_ ?_); (iterate 3 (focus kernel_rfl)); (focus exact keeps_nil)) | ((with_reducible first | refine gd_d1 ?_ ?_ | refine gd_d0 ?_ ?_); all_goals (intro hb; (first | with_reducible replace hb := nt_t hb | with_reducible replace hb := nt_f hb | skip); (first | replace hb := dc_t hb | replace hb := dc_f hb | have hb1 := eq_b hb | have hb1 := ne_b hb | have hb1 := bne_t hb | have hb1 := bne_f hb | skip); (try (exfalso; first | contradiction | omega)))))
        refine ⟨i + 1, ⟨hlt, HE, ?_, ?_, ?_, ?_, ?_, ?_, rfl⟩, ?_⟩
        all_goals (first | rfl | assumption | omega | (simp (disch := omega) only [push_cast, Nat.reduceEqDiff, reduceCtorEq, ↓reduceIte, Nat.reduceAdd, Nat.reduceMul, Nat.reduceSub, Nat.reduceLT, Nat.reduceLeDiff, Int.reduceToNat, Int.reduceLT, Int.reduceLE, Int.reduceAdd, Int.reduceSub, Int.reduceMul, Int.reduceBEq, Int.reduceBNe, encB, encI, encC, V.cells_mk, V.cells_len, Nat.mul_one, Int.sub_zero, List.map_nil, beq_self_eq_true, *]; try omega; done))
    · have hnm : Sch.named slots name c = false := by
        unfold Sch.named
        rw [List.getElem?_eq_none (by omega)]; rfl
      rw [hnm, if_neg (by decide)] at HE
      replace HE := Lib.hid HE
      clear hnm
      repeat' (first | ((with_reducible apply ev_go); (focus (try simp (disch := omega) only [push_cast, Nat.reduceEqDiff, reduceCtorEq, ↓reduceIte, Nat.reduceAdd, Nat.reduceMul, Nat.reduceSub, Nat.reduceLT, Nat.reduceLeDiff, Int.reduceToNat, Int.reduceLT, Int.reduceLE, Int.reduceAdd, Int.reduceSub, Int.reduceMul, Int.reduceBEq, Int.reduceBNe, encB, encI, encC, V.cells_mk, V.cells_len, Nat.mul_one, Int.sub_zero, List.map_nil, beq_self_eq_true, *]); (try exact rfl); done)) | ((with_reducible refine w_last ?_ ?_ ?_); (focus kernel_rfl); (focus rfl)) | ((with_reducible apply w_stepG); (focus rfl)) | ((with_reducible apply lk_mem); (focus ((repeat (first | exact mm_h | apply mm_t)); done))) | with_reducible (first | refine w_step0 ?_ | refine w_nil ?_ | refine gd_tt ?_ | refine gd_ff ?_ | refine gd_tf ?_ | refine gd_ft ?_ | refine gd_un ?_ | refine s_move ?_ | refine s_assign ?_ | refine s_bin ?_ | refine s_un ?_ | refine s_conv ?_ | refine s_field ?_ | refine s_fieldAddr ?_ | refine s_ext ?_ | refine s_pick ?_ | refine s_nil ?_ | refine s_load ?_ | refine lk_ip ?_ | refine lk_ptr ?_ | refine s_index ?_ | refine s_indexAddr ?_ | refine s_slice ?_ | refine s_build ?_ | refine s_buildSlice ?_ | refine s_mk ?_ | refine s_store ?_ | refine s_alloc ?_ | refine s_call ?_ | refine s_ip ?_ | refine tr_seq ?_ | refine tr_block ?_ | refine tr_skip ?_ | refine tr_ret ?_ | refine tr_exit ?_ | refine tr_label ?_ | refine strip_norm ?_ | refine strip_ret ?_ | refine strip_exit ?_ | refine blk_norm ?_ | refine blk_ret ?_ | refine blk_same ?_ | refine tr_condT ?_ | refine tr_condCt ?_ | refine tr_condCf ?_) | ((with_reducible apply sto_go); (focus (intro cs'; repeat (first | exact ra_h | apply ra_t)))) | ((with_reducible refine al_go ?_); intro b) | ((with_reducible refine And.intro ?_ ?_); (focus ((repeat (first | exact keep_none | exact keep_nil | exact keep_ro | refine keep_cons ?_)); done))) | ((with_reducible refine s_bi ?_ ?_); (focus rfl)) | with_reducible refine blk_ne rfl ?_ | ((with_reducible refine w_region ?_ ?_); (focus kernel_rfl)) | ((with_reducible refine w_draw [] ?_ ?_ ?_ ?_ ?_); (iterate 3 (focus kernel_rfl)); (focus exact keeps_nil)) | ((with_reducible first | refine gd_d1 ?_ ?_ | refine gd_d0 ?_ ?_); all_goals (intro hb; (first | with_reducible replace hb := nt_t hb | with_reducible replace hb := nt_f hb | skip); (first | replace hb := dc_t hb | replace hb := dc_f hb | have hb1 := eq_b hb | have hb1 := ne_b hb | have hb1 := bne_t hb | have hb1 := bne_f hb | skip); (try (exfalso; first | contradiction | omega)))))
      refine ⟨i + 1, ⟨hlt, HE, ?_, ?_, ?_, ?_, ?_, ?_, rfl⟩, ?_⟩
      all_goals (first | rfl | assumption | omega | (simp (disch := omega) only [push_cast, Nat.reduceEqDiff, reduceCtorEq, ↓reduceIte, Nat.reduceAdd, Nat.reduceMul, Nat.reduceSub, Nat.reduceLT, Nat.reduceLeDiff, Int.reduceToNat, Int.reduceLT, Int.reduceLE, Int.reduceAdd, Int.reduceSub, Int.reduceMul, Int.reduceBEq, Int.reduceBNe, encB, encI, encC, V.cells_mk, V.cells_len, Nat.mul_one, Int.sub_zero, List.map_nil, beq_self_eq_true, *]; try omega; done))
  · have HE := HT.out
    rw [List.drop_of_length_le (by omega), Sch.colL] at HE
    rw [← HE]
    clear HE HT HB
    repeat' (first | ((with_reducible apply ev_go); (focus (try simp (disch := omega) only [push_cast, Nat.reduceEqDiff, reduceCtorEq, ↓reduceIte, Nat.reduceAdd, Nat.reduceMul, Nat.reduceSub, Nat.reduceLT, Nat.reduceLeDiff, Int.reduceToNat, Int.reduceLT, Int.reduceLE, Int.reduceAdd, Int.reduceSub, Int.reduceMul, Int.reduceBEq, Int.reduceBNe, encB, encI, encC, V.cells_mk, V.cells_len, Nat.mul_one, Int.sub_zero, List.map_nil, beq_self_eq_true, *]); (try exact rfl); done)) | ((with_reducible refine w_last ?_ ?_ ?_); (focus kernel_rfl); (focus rfl)) | ((with_reducible apply w_stepG); (focus rfl)) | ((with_reducible apply lk_mem); (focus ((repeat (first | exact mm_h | apply mm_t)); done))) | with_reducible (first | refine w_step0 ?_ | refine w_nil ?_ | refine gd_tt ?_ | refine gd_ff ?_ | refine gd_tf ?_ | refine gd_ft ?_ | refine gd_un ?_ | refine s_move ?_ | refine s_assign ?_ | refine s_bin ?_ | refine s_un ?_ | refine s_conv ?_ | refine s_field ?_ | refine s_fieldAddr ?_ | refine s_ext ?_ | refine s_pick ?_ | refine s_nil ?_ | refine s_load ?_ | refine lk_ip ?_ | refine lk_ptr ?_ | refine s_index ?_ | refine s_indexAddr ?_ | refine s_slice ?_ | refine s_build ?_ | refine s_buildSlice ?_ | refine s_mk ?_ | refine s_store ?_ | refine s_alloc ?_ | refine s_call ?_ | refine s_ip ?_ | refine tr_seq ?_ | refine tr_block ?_ | refine tr_skip ?_ | refine tr_ret ?_ | refine tr_exit ?_ | refine tr_label ?_ | refine strip_norm ?_ | refine strip_ret ?_ | refine strip_exit ?_ | refine blk_norm ?_ | refine blk_ret ?_ | refine blk_same ?_ | refine tr_condT ?_ | refine tr_condCt ?_ | refine tr_condCf ?_) | ((with_reducible apply sto_go); (focus (intro cs'; repeat (first | exact ra_h | apply ra_t)))) | ((with_reducible refine al_go ?_); intro b) | ((with_reducible refine And.intro ?_ ?_); (focus ((repeat (first | exact keep_none | exact keep_nil | exact keep_ro | refine keep_cons ?_)); done))) | ((with_reducible refine s_bi ?_ ?_); (focus rfl)) | with_reducible refine blk_ne rfl ?_ | ((with_reducible refine w_region ?_ ?_); (focus kernel_rfl)) | ((with_reducible refine w_draw [] ?_ ?_ ?_ ?_ ?_); (iterate 3 (focus kernel_rfl)); (focus exact keeps_nil)) | ((with_reducible first | refine gd_d1 ?_ ?_ | refine gd_d0 ?_ ?_); all_goals (intro hb; (first | with_reducible replace hb := nt_t hb | with_reducible replace hb := nt_f hb | skip); (first | replace hb := dc_t hb | replace hb := dc_f hb | have hb1 := eq_b hb | have hb1 := ne_b hb | have hb1 := bne_t hb | have hb1 := bne_f hb | skip); (try (exfalso; first | contradiction | omega)))))
    all_goals (refine ret_eq (by first | exact .inl rfl | exact .inr rfl) (by first | rfl | assumption) (by (repeat (first | exact List.Sublist.refl _ | apply List.Sublist.cons))) ?_; (try simp (disch := omega) only [push_cast, Nat.reduceEqDiff, reduceCtorEq, ↓reduceIte, Nat.reduceAdd, Nat.reduceMul, Nat.reduceSub, Nat.reduceLT, Nat.reduceLeDiff, Int.reduceToNat, Int.reduceLT, Int.reduceLE, Int.reduceAdd, Int.reduceSub, Int.reduceMul, Int.reduceBEq, Int.reduceBNe, encB, encI, encC, V.cells_mk, V.cells_len, Nat.mul_one, Int.sub_zero, List.map_nil, beq_self_eq_true, *]); try (first | exact LE.refl _ | exact LE.sl _ _ | (refine LE.tup ?_; (repeat' (first | exact LEL.nil | refine LEL.cons ?_ ?_ | exact LE.refl _ | exact LE.sl _ _ | refine LE.agg ?_)); done) | (refine LE.agg ?_; (repeat' (first | exact LEL.nil | refine LEL.cons ?_ ?_ | exact LE.refl _ | exact LE.sl _ _)); done) | refine LE.of_eq ?_))
theorem schColumnF (x : Vr) (s : Stp) (st : St) (ho : s.order.length ≤ 9223372036854775807) (hc : x.cols.length ≤ 1000000) : TrF Try.prog 103 [.ip x.cells, .agg s.cells] st fun d st' => d = .b (Sch.column x s) ∧ st' = st := by
  unfold Sch.column Vr.cells Stp.cells
  cases s with
  | mk kd col slot order =>
  cases slot with
  | mk nm ty rq dv =>
  cases dv with
  | mk k n sv l =>
  rw [Sl.cells_mk]
  dsimp only [List.cons_append, List.nil_append] at ho ⊢
  refine trF_enter (ts := [4]) Try.func103 rfl (by rw [Try.ntmps103]; exact Nat.le_of_ble_eq_true rfl) (fun tmps w => by simp [results, Try.results103, go_sem, resVal]) ?_
  simp only [Try.ntmps103]
  repeat' (first | ((with_reducible apply ev_go); (focus (try simp (disch := omega) only [push_cast, Nat.reduceEqDiff, reduceCtorEq, ↓reduceIte, Nat.reduceAdd, Nat.reduceMul, Nat.reduceSub, Nat.reduceLT, Nat.reduceLeDiff, Int.reduceToNat, Int.reduceLT, Int.reduceLE, Int.reduceAdd, Int.reduceSub, Int.reduceMul, Int.reduceBEq, Int.reduceBNe, encB, encI, encC, V.cells_mk, V.cells_len, Nat.mul_one, Int.sub_zero, List.map_nil, beq_self_eq_true, *]); (try exact rfl); done)) | ((with_reducible refine w_last ?_ ?_ ?_); (focus kernel_rfl); (focus rfl)) | ((with_reducible apply w_stepG); (focus rfl)) | ((with_reducible apply lk_mem); (focus ((repeat (first | exact mm_h | apply mm_t)); done))) | with_reducible (first | refine w_step0 ?_ | refine w_nil ?_ | refine gd_tt ?_ | refine gd_ff ?_ | refine gd_tf ?_ | refine gd_ft ?_ | refine gd_un ?_ | refine s_move ?_ | refine s_assign ?_ | refine s_bin ?_ | refine s_un ?_ | refine s_conv ?_ | refine s_field ?_ | refine s_fieldAddr ?_ | refine s_ext ?_ | refine s_pick ?_ | refine s_nil ?_ | refine s_load ?_ | refine lk_ip ?_ | refine lk_ptr ?_ | refine s_index ?_ | refine s_indexAddr ?_ | refine s_slice ?_ | refine s_build ?_ | refine s_buildSlice ?_ | refine s_mk ?_ | refine s_store ?_ | refine s_alloc ?_ | refine s_call ?_ | refine s_ip ?_ | refine tr_seq ?_ | refine tr_block ?_ | refine tr_skip ?_ | refine tr_ret ?_ | refine tr_exit ?_ | refine tr_label ?_ | refine strip_norm ?_ | refine strip_ret ?_ | refine strip_exit ?_ | refine blk_norm ?_ | refine blk_ret ?_ | refine blk_same ?_ | refine tr_condT ?_ | refine tr_condCt ?_ | refine tr_condCf ?_) | ((with_reducible apply sto_go); (focus (intro cs'; repeat (first | exact ra_h | apply ra_t)))) | ((with_reducible refine al_go ?_); intro b) | ((with_reducible refine And.intro ?_ ?_); (focus ((repeat (first | exact keep_none | exact keep_nil | exact keep_ro | refine keep_cons ?_)); done))) | ((with_reducible refine s_bi ?_ ?_); (focus rfl)) | with_reducible refine blk_ne rfl ?_ | ((with_reducible refine w_region ?_ ?_); (focus kernel_rfl)) | ((with_reducible refine w_draw [] ?_ ?_ ?_ ?_ ?_); (iterate 3 (focus kernel_rfl)); (focus exact keeps_nil)) | ((with_reducible first | refine gd_d1 ?_ ?_ | refine gd_d0 ?_ ?_); all_goals (intro hb; (first | with_reducible replace hb := nt_t hb | with_reducible replace hb := nt_f hb | skip); (first | replace hb := dc_t hb | replace hb := dc_f hb | have hb1 := eq_b hb | have hb1 := ne_b hb | have hb1 := bne_t hb | have hb1 := bne_f hb | skip); (try (exfalso; first | contradiction | omega)))))
  all_goals (refine ret_eq (by first | exact .inl rfl | exact .inr rfl) (by first | rfl | assumption) (by (repeat (first | exact List.Sublist.refl _ | apply List.Sublist.cons))) ?_; (try simp (disch := omega) only [push_cast, Nat.reduceEqDiff, reduceCtorEq, ↓reduceIte, Nat.reduceAdd, Nat.reduceMul, Nat.reduceSub, Nat.reduceLT, Nat.reduceLeDiff, Int.reduceToNat, Int.reduceLT, Int.reduceLE, Int.reduceAdd, Int.reduceSub, Int.reduceMul, Int.reduceBEq, Int.reduceBNe, encB, encI, encC, V.cells_mk, V.cells_len, Nat.mul_one, Int.sub_zero, List.map_nil, beq_self_eq_true, *]); try (first | exact LE.refl _ | exact LE.sl _ _ | (refine LE.tup ?_; (repeat' (first | exact LEL.nil | refine LEL.cons ?_ ?_ | exact LE.refl _ | exact LE.sl _ _ | refine LE.agg ?_)); done) | (refine LE.agg ?_; (repeat' (first | exact LEL.nil | refine LEL.cons ?_ ?_ | exact LE.refl _ | exact LE.sl _ _)); done) | refine LE.of_eq ?_))
  all_goals (first | rfl | (refine congrArg D.b ?_; rw [Bool.eq_iff_iff]; simp only [Bool.true_and, Bool.false_and, Bool.and_true, Bool.and_false, Bool.or_false, Bool.or_true, Bool.true_or, Bool.false_or, true_and, and_true, Bool.not_eq_true', Bool.not_eq_false', decide_eq_true_eq, decide_eq_false_iff_not, beq_iff_eq, beq_eq_false_iff_ne, bne_iff_ne, ne_eq, reduceCtorEq, iff_true, true_iff, iff_false, false_iff, Bool.and_eq_true, Bool.or_eq_true, Bool.false_eq_true, Bool.true_eq_false]; first | done | omega))
end Go.Proofs.Ytooaagmhgakhgaa
end

section
namespace Go.Proofs.Ytooaagmhgakhgaa
set_option linter.unusedSimpArgs false
open Go.RowKit

def RoundC (P : Program) (l : Nat) (args : List D) (st : St) (R : D → St → Prop) : Prop :=
  ∀ (vs : Array Value) w, RepL (OwnS st) w vs.toList args → Holds st w → YieldAt (FR none) 0 P l vs w fun e w' => ∃ v, e = .returned v ∧ PostV st w R v w'
theorem yield_mono {F : Fence} {m : Nat} {P : Program} {l : Nat} {args : Array Value} {W : World} {R R' : Ending → World → Prop} (h : YieldAt F m P l args W R) (hr : ∀ e w, R e w → R' e w) : YieldAt F m P l args W R' := by
  obtain ⟨fn, t, a, b, h1, h2⟩ := h
  exact ⟨fn, t, a, b, h1, h2.mono hr⟩
theorem RoundC.perm {P : Program} {l : Nat} {args : List D} {st st1 : St} {R R' : D → St → Prop} (hp : st.Perm st1) (h : RoundC P l args st1 R) (hR : ∀ d s, R d s → ∃ s', s'.Perm s ∧ R' d s') : RoundC P l args st R' := by
  intro vs w h1 h2
  have e := OwnS.perm hp
  refine yield_mono (h vs w (by rw [← e]; exact h1) (h2.perm hp)) fun _ _ ⟨v, ev, d, s, k1, k2, k3, k4⟩ => ?_
  obtain ⟨s', q1, q2⟩ := hR d s k4
  have e' := OwnS.perm q1
  exact ⟨v, ev, d, s', by rw [e']; exact k1, k2.perm q1.symm, by rw [e, e']; exact k3, q2⟩
theorem RoundC.le {P : Program} {l : Nat} {args args' : List D} {st : St} {R : D → St → Prop} (h : RoundC P l args' st R) (hl : LEL args args') : RoundC P l args st R := fun vs w h1 h2 => h vs w (hl.repL h1) h2
def Yields (P : Program) (l : Nat) {X : Type} (args : X → List D) (L : List X) (J Jx : Nat → St → Prop) : Prop :=
  (∀ (i : Nat) (x : X) (C : St), L[i]? = some x → J i C → (∃ C', J (i + 1) C') ∨ ∃ C', Jx (i + 1) C') ∧ ∀ (i : Nat) (x : X) (C K : St), L[i]? = some x → J i C → RoundC P l (args x) (C ++ K) fun d st' => ∃ C', st' = C' ++ K ∧ ((d = .s (.bool true) ∧ J (i + 1) C') ∨ (d = .s (.bool false) ∧ Jx (i + 1) C'))
def IterC (P : Program) (g : FuncId) (caps : List D) {X : Type} (args : X → List D) (L : List X) (K0 : St) (Kend : St → Prop) (Kstop : Nat → St → Prop) : Prop :=
  ∀ (l : Nat) (C : St) (J Jx : Nat → St → Prop), Yields P l args L J Jx → J 0 C → TrF P g (.fn (.yield l) [] [] :: caps) (K0 ++ C) fun _ st' => ∃ K1 C', st' = K1 ++ C' ∧ ((Kend K1 ∧ J L.length C') ∨ ∃ i, Kstop i K1 ∧ Jx i C')
theorem tl_nil : ∀ C : St, C = [] ++ C := fun _ => rfl
theorem tl_cons {f : St → St} {K : St} {x : Res} (h : ∀ C, f C = K ++ C) : ∀ C, x :: f C = (x :: K) ++ C := fun C => by rw [h]; rfl
section
variable {P : Program} {N : Nat} {r : Option Nat} {A : AA} {st : St} {w : World} {Q : Exit → AA → St → Prop} {m : Option Ro} {k : D → St → Prop} {dst : Option Tmp} {ty : TypeId} {pos : String} {aft : Array Edge} {gd : Option (Nat × Bool)} {o : Oper}
theorem opC_yield {c : Call} {e : Nat → D} {g : Operand} {l : Nat} {ds : List D} {K : D → St → Prop} (ho : o.op = .call c) (hc : c.callee = .value g) (hg : ev e g = some (.fn (.yield l) [] []))
    (hargs : evL e c.args.toList = some ds) (h : RoundC P l ds st K) : OpC P r o e st K := by
  intro ρ w h1 h2
  rw [ho] at h1
  have hfn := h1 g (by simp [Op.operands, Call.operands, hc]) _ hg
  have hds := evL_rep h1 (fun x hx => by simp only [Op.operands, Call.operands, Array.mem_append]; exact .inr (by simpa using hx)) hargs
  rw [Oper.semAt_eq r ρ o (by rw [ho]; intro c hc; cases hc)]
  unfold execOp
  rw [ho]
  simp only [resolve, hc]
  generalize ρ g = gv at hfn
  cases hfn with
  | fn _ us1 us2 _ _ l1 l2 r1 r2 =>
    obtain rfl : us1 = [] := List.eq_nil_of_length_eq_zero l1
    obtain ⟨fn, tmps, assign, body, hy, hr⟩ := h (c.args.map ρ) w (by simpa using hds) h2
    have hy' : (Instr.yield l (#[] ++ c.args.map ρ)).run P w = .ok (.round l fn tmps assign body) w := by simpa using hy
    simp only [Deferred.ofValue, Sem.run_bind, Sem.run_pure, Result.andThen_ok, invoke, hy']
    exact hr.mono fun ev w' ⟨v, e, hp⟩ => ⟨v, e, hp⟩
theorem s_yield {l : Nat} {X : Type} {args : X → List D} {L : List X} {J Jx : Nat → St → Prop} {f : St → St} {K C : St} {i : Nat} {x : X} {g : Operand} {oas : Array Operand} {tys : Array TypeId} {ds : List D}
    (hY : Yields P l args L J Jx) (hJ : J i C) (hx : L[i]? = some x) (hg : ev A.e g = some (.fn (.yield l) [] [])) (ha : evL A.e oas.toList = some ds) (hle : LEL ds (args x)) (hf : ∀ C, f C = K ++ C)
    (hk1 : ∀ C', J (i + 1) C' → Keep m (f C') ∧ k (.s (.bool true)) (f C')) (hk0 : ∀ C', Jx (i + 1) C' → Keep m (f C') ∧ k (.s (.bool false)) (f C')) : S P r m ⟨dst, .call ⟨.value g, oas, tys⟩, ty, pos, aft, gd⟩ A (f C) k := by
  refine s_chain (R := fun d st' => ∃ C', st' = f C' ∧ ((d = .s (.bool true) ∧ J (i + 1) C') ∨ (d = .s (.bool false) ∧ Jx (i + 1) C'))) rfl (opC_yield rfl rfl hg ha ?_) ?_ ?_
  · refine (RoundC.perm (by rw [hf]; exact List.perm_append_comm) (hY.2 i x C K hx hJ) ?_).le hle
    rintro d s ⟨C', rfl, hc⟩
    exact ⟨f C', by rw [hf]; exact List.perm_append_comm, C', rfl, hc⟩
  · rcases hY.1 i x C hx hJ with ⟨C', hC⟩ | ⟨C', hC⟩
    · exact ⟨_, _, C', rfl, .inl ⟨rfl, hC⟩⟩
    · exact ⟨_, _, C', rfl, .inr ⟨rfl, hC⟩⟩
  · rintro d st' ⟨C', rfl, ⟨rfl, h⟩ | ⟨rfl, h⟩⟩
    · exact hk1 C' h
    · exact hk0 C' h
theorem Holds.know (h : Holds st w) {f : Nat → Value} {e : Nat → D} (hk : ∀ t, Rep (OwnS st) w (f t) (e t)) : Holds (.know f e :: st) w ∧ Ext (OwnS st) w (OwnS (.know f e :: st)) w := by
  have he : Ext (OwnS st) w (OwnS (.know f e :: st)) w := (Ext.refl _ w).less fun b off ho => (OwnS.cons_iff.1 ho).elim (fun x => by cases x.1) id
  exact ⟨h.push he (fun _ _ _ _ => rfl) (fun t => (hk t).ext he) (fun x _ b e => by cases e), he⟩
theorem raw_set {b : Nat} {o o' : Obj} (h : Holds (.raw b o :: st) w) (hn : ∀ c E fr, o ≠ .cells c E fr) : Holds (.raw b o' :: st) (w.putObj b o') ∧ Ext (OwnS (.raw b o :: st)) w (OwnS (.raw b o' :: st)) (w.putObj b o') := by
  have hb : w.heap[b]? = some o := h.2 _ (List.mem_cons_self ..)
  have hlt := (Array.getElem?_eq_some_iff.1 hb).1
  have hown : ∀ c off, OwnS (.raw b o' :: st) c off → OwnS (.raw b o :: st) c off := fun c off ho => OwnS.cons_iff.2 ((OwnS.cons_iff.1 ho).imp id id)
  have he : Ext (OwnS (.raw b o :: st)) w (OwnS (.raw b o' :: st)) (w.putObj b o') := by
    refine ⟨rfl, rfl, rfl, by simp, fun c off _ ho => hown c off ho, fun c hc hno => World.putObj_heap_other fun e => hno 0 (OwnS.cons_iff.2 (.inl ⟨by rw [e]; rfl, Nat.zero_le _⟩)), fun c cs E fr hc => ⟨cs, fr, ?_, rfl, fun _ _ => rfl⟩⟩
    refine (World.putObj_heap_other fun e => ?_).trans hc
    subst e
    rw [hb] at hc
    cases hc
    exact hn _ _ _ rfl
  refine ⟨h.put he (fun x hx c hc => World.putObj_heap_other fun e => (List.pairwise_cons.1 h.1).1 x hx b rfl (e ▸ hc)) (World.putObj_heap_same hlt) fun x hx c hc hc' => (List.pairwise_cons.1 h.1).1 x hx c hc hc', he⟩
theorem raw_at {C T : St} {b : Nat} {o o' : Obj} (h : Holds (C ++ .raw b o :: T) w) (hn : ∀ c E fr, o ≠ .cells c E fr) : Holds (C ++ .raw b o' :: T) (w.putObj b o') ∧ Ext (OwnS (C ++ .raw b o :: T)) w (OwnS (C ++ .raw b o' :: T)) (w.putObj b o') := by
  have h1 := raw_set (o' := o') (h.perm List.perm_middle) hn
  exact ⟨h1.1.perm List.perm_middle.symm, h1.2.perm List.perm_middle List.perm_middle⟩
def setA : AA → List Tmp → List D → AA
  | A, p :: ps, d :: ds => setA (A.put (some p) d) ps ds
  | A, _, _ => A
theorem setA_rel {O : Nat → Nat → Prop} : ∀ (ps : List Tmp) (vs : List Value) (ds : List D) (tm : Array Value) (A : AA), (∀ p ∈ ps, p < N) → RelA N O w ⟨tm, []⟩ A → RepL O w vs ds → RelA N O w ⟨(ps.zip vs).foldl (fun t (p, v) => t.setIfInBounds p v) tm, []⟩ (setA A ps ds)
  | [], vs, ds, tm, A, _, h, _ => by cases vs <;> exact h
  | p :: ps, [], ds, tm, A, _, h, hv => by
    obtain rfl : ds = [] := List.eq_nil_of_length_eq_zero hv.1.symm
    exact h
  | p :: ps, v :: vs, [], tm, A, _, h, hv => by have := hv.1; simp at this
  | p :: ps, v :: vs, d :: ds, tm, A, hp, h, hv => by
    obtain ⟨u, t, e, h1, h2⟩ := hv.inv_cons
    cases e
    exact setA_rel ps vs ds _ _ (fun q hq => hp q (List.mem_cons_of_mem _ hq)) (h.put (dst := some p) (by simp [dstOk, hp p (List.mem_cons_self ..)]) h1) h2
def roundQ (K : St) (i : Nat) (J : Nat → St → Prop) (Jx : Code → Nat → St → Prop) : Exit → AA → St → Prop
  | .normal, _, st' => ∃ C', (C' ++ K).Sublist st' ∧ J i C'
  | .ret, _, st' => ∃ C', (C' ++ K).Sublist st' ∧ Jx .ret i C'
  | .exit id, _, st' => ∃ C', (C' ++ K).Sublist st' ∧ Jx (.exit id) i C'
  | .goto t, _, st' => ∃ C', (C' ++ K).Sublist st' ∧ Jx (.goto t) i C'
  | _, _, _ => False
abbrev lrec (fn : FuncId) (tmps : Array Value) (ps : Array Tmp) (assign body : Code) (d : Nat) (s : LoopState) (pe : Option Code) : Loop := { state := s, pending := pe, fn, tmps, params := ps, assign, body, defers := d }
theorem perm_know {K C : St} {x y z : Res} : (z :: x :: y :: (K ++ C)).Perm (K ++ (C ++ [x, y, z])) := by
  rw [← List.append_assoc]
  refine List.Perm.trans ?_ List.perm_append_comm
  exact (List.Perm.swap _ _ _).trans (.cons _ (.swap _ _ _))
theorem tr_rangeS {X : Type} {g : Operand} {ps : Array Tmp} {assign body : Code} {gf : FuncId} {caps : List D} {args : X → List D} {L : List X} {K0 C : St} {Kend : St → Prop} {Kstop : Nat → St → Prop}
    (hit : IterC P gf caps args L K0 Kend Kstop) (hent : ∀ args w, (callFunc gf args).run P w = .ok (.enter gf args) w) (hg : ev A.e g = some (.fn (.func gf) [] caps)) (hps : ∀ x, (args x).length = ps.size) (hpN : ps.toList.all (fun t => decide (t < N)) = true)
    (J : Nat → St → Prop) (Jx : Code → Nat → St → Prop) (h0 : J 0 C) (hne : ∀ (i : Nat) (x : X) (C : St), L[i]? = some x → J i C → (∃ C', J (i + 1) C') ∨ ∃ c C', Jx c (i + 1) C')
    (hround : ∀ l i x C K, L[i]? = some x → J i C → Tr P N (some l) assign (setA ⟨A.e, []⟩ ps.toList (args x)) (C ++ K) (thenA (fun A' st' => ∃ C1, (C1 ++ K).Sublist st' ∧ ∀ K', Tr P N (some l) body A' (C1 ++ K') (roundQ K' (i + 1) J Jx)) (fun _ _ _ => False)))
    (hdone : ∀ d K1 C', Kend K1 → J L.length C' → Q .normal ⟨A.e, mark d :: A.df⟩ (markR d :: (K1 ++ C')))
    (hstop : ∀ c d i K1 C', Kstop i K1 → Jx c i C' → Tr P N none c ⟨A.e, mark d :: A.df⟩ (markR d :: (K1 ++ C')) Q) :
    Tr P N none (.rangeFunc g ps assign body) A (K0 ++ C) Q := by
  intro a w h1 h2
  have hr := ev_rep h1 hg
  generalize hgv : a.eval g = gv at hr
  cases hr with
  | fn _ us1 us2 _ _ l1 l2 r1 r2 =>
  obtain rfl : us1 = [] := List.eq_nil_of_length_eq_zero l1
  refine wpIn_rangeFunc fun fn hfn => ?_
  obtain ⟨d, hd⟩ : ∃ d, d = w.heap.size := ⟨_, rfl⟩
  obtain ⟨rec, hrec⟩ : ∃ rec, rec = lrec fn a.tmps ps assign body d := ⟨_, rfl⟩
  have n1 := new_own h2 (Res.raw d (.deferred (some []))) (fun b e => by cases e; exact hd) (.deferred (some [])) (fun _ => by rw [hd]; exact heap_alloc_new w _)
  obtain ⟨w1, hw1⟩ : ∃ w1, w1 = w.alloc (.deferred (some [])) := ⟨_, rfl⟩
  rw [← hw1] at n1
  have hs1 : w1.heap.size = d + 1 := by rw [hw1, hd]; simp
  have n2 := new_own n1.1 (Res.raw (d + 1) (.loop (rec .ready none))) (fun b e => by cases e; exact hs1.symm) (.loop (rec .ready none)) (fun _ => by rw [← hs1]; exact heap_alloc_new w1 _)
  obtain ⟨W1, hW1⟩ : ∃ W1, W1 = w1.alloc (.loop (rec .ready none)) := ⟨_, rfl⟩
  rw [← hW1] at n2
  obtain ⟨tm, htm⟩ : ∃ tm : Nat → Value, tm = fun t => a.tmps.getD t undef := ⟨_, rfl⟩
  have n3 := n2.1.know (f := tm) (e := A.e) (fun t => by rw [htm]; exact ((h1.ext n1.2).ext n2.2).2.2 t)
  obtain ⟨B, hB⟩ : ∃ B : LoopState → Option Code → St, B = fun s pe => [Res.raw (d + 1) (.loop (rec s pe)), Res.raw d (.deferred (some [])), Res.know tm A.e] := ⟨_, rfl⟩
  have hp : (Res.know tm A.e :: Res.raw (d + 1) (.loop (rec .ready none)) :: Res.raw d (.deferred (some [])) :: (K0 ++ C)).Perm (K0 ++ (C ++ B .ready none)) := by rw [hB]; exact perm_know
  have E3 : Ext (OwnS (K0 ++ C)) w (OwnS (K0 ++ (C ++ B .ready none))) W1 := by rw [← OwnS.perm hp]; exact n1.2.trans (n2.2.trans n3.2)
  have H3 := n3.1.perm hp
  have hnl : ∀ (x : Loop) c E fr, Obj.loop x ≠ .cells c E fr := fun _ _ _ _ e => by cases e
  have hY : Yields P (d + 1) args L (fun i C' => ∃ C, C' = C ++ B .ready none ∧ J i C) (fun i C' => ∃ c C, C' = C ++ B .done (some c) ∧ Jx c i C) := by
    refine ⟨fun i x C' hx ⟨C, _, hJ⟩ => (hne i x C hx hJ).elim (fun ⟨C1, h⟩ => .inl ⟨_, C1, rfl, h⟩) fun ⟨c, C1, h⟩ => .inr ⟨_, c, C1, rfl, h⟩, ?_⟩
    rintro i x C' K hx ⟨Cn, rfl, hJ⟩ vs w2 hv hh
    rw [List.append_assoc] at hv hh
    have hl : w2.heap[d + 1]? = some (.loop (rec .ready none)) := hh.2 (Res.raw (d + 1) (.loop (rec .ready none))) (by rw [hB]; simp)
    have hkn : ∀ t, Rep (OwnS (Cn ++ (B .ready none ++ K))) w2 (tm t) (A.e t) := hh.2 (Res.know tm A.e) (by rw [hB]; simp)
    have hy := run_yield (P := P) (args := vs) hl (by rw [hrec, ← Array.length_toList, hv.1]; exact hps x)
    rw [hrec] at hy
    refine ⟨fn, _, assign, body, hy, roundIn_of_wpIn hfn ?_⟩
    clear hy
    have hz : (ps.zip vs).foldl (fun tmps (t, a) => tmps.setIfInBounds t a) a.tmps = (ps.toList.zip vs.toList).foldl (fun t (p, v) => t.setIfInBounds p v) a.tmps := by
      rw [← Array.foldl_toList, Array.toList_zip]
    have hrel : RelA N (OwnS (Cn ++ (B .ready none ++ K))) w2 ⟨(ps.zip vs).foldl (fun tmps (t, a) => tmps.setIfInBounds t a) a.tmps, []⟩ (setA ⟨A.e, []⟩ ps.toList (args x)) := by
      rw [hz]
      refine setA_rel _ _ _ _ _ (fun p hp => by simpa using List.all_eq_true.1 hpN p hp) ⟨h1.1, rfl, fun t => ?_⟩ hv
      have := hkn t
      rw [htm] at this
      exact this
    refine wpIn_mono (hround (d + 1) i x Cn (B .ready none ++ K) hx hJ _ w2 hrel hh) ?_
    rintro e a3 w3 ⟨A3, st3, k1, k2, k3, k4⟩
    cases e with
    | normal =>
      obtain ⟨C1, hsub, hbody⟩ := k4
      have e3 := Ext.drop (fun _ h => hsub.subset h) w3
      have H4 := k2.sub hsub
      have hl3 : w3.heap[d + 1]? = some (.loop (rec .ready none)) := H4.2 (Res.raw (d + 1) (.loop (rec .ready none))) (by rw [hB]; simp)
      refine ⟨_, run_beginRound hl3 (by rw [hrec]), ?_⟩
      have q := raw_at (C := C1) (T := [Res.raw d (.deferred (some [])), Res.know tm A.e] ++ K) (o' := .loop { rec .ready none with state := .busy }) (by rw [hB] at H4; exact H4) (hnl _)
      have hbz : C1 ++ (Res.raw (d + 1) (.loop { rec .ready none with state := .busy }) :: ([Res.raw d (.deferred (some [])), Res.know tm A.e] ++ K)) = C1 ++ (B .busy none ++ K) := by rw [hB, hrec]; rfl
      have hbr : C1 ++ (Res.raw (d + 1) (.loop (rec .ready none)) :: ([Res.raw d (.deferred (some [])), Res.know tm A.e] ++ K)) = C1 ++ (B .ready none ++ K) := by rw [hB]; rfl
      rw [hbz] at q
      rw [hbr] at q
      have E4 := (k3.trans e3).trans q.2
      refine wpIn_mono (hbody (B .busy none ++ K) _ _ ((k1.ext e3).ext q.2) q.1) ?_
      have fin : ∀ (jump : Option Code) (C5 st5 : St) (w5 : World), (C5 ++ (B .busy none ++ K)).Sublist st5 → Holds st5 w5 → Ext (OwnS (C1 ++ (B .busy none ++ K))) (w3.putObj (d + 1) (.loop { rec .ready none with state := .busy })) (OwnS st5) w5 →
          (Instr.endRound (d + 1) jump).run P w5 = .ok (.bool jump.isNone) (w5.putObj (d + 1) (.loop (rec (if jump.isNone then .ready else .done) jump))) ∧
          Holds (C5 ++ B (if jump.isNone then .ready else .done) jump ++ K) (w5.putObj (d + 1) (.loop (rec (if jump.isNone then .ready else .done) jump))) ∧
          Ext (OwnS (Cn ++ B .ready none ++ K)) w2 (OwnS (C5 ++ B (if jump.isNone then .ready else .done) jump ++ K)) (w5.putObj (d + 1) (.loop (rec (if jump.isNone then .ready else .done) jump))) := fun jump C5 st5 w5 hs5 hh5 he5 => by
        have e5 := Ext.drop (fun _ h => hs5.subset h) w5
        have H6 := hh5.sub hs5
        have hl5 : w5.heap[d + 1]? = some (.loop (rec .busy none)) := H6.2 (Res.raw (d + 1) (.loop (rec .busy none))) (by rw [hB]; simp)
        have hr5 := run_endRound (P := P) jump hl5
        rw [hrec] at hr5 ⊢
        have q5 := raw_at (C := C5) (T := [Res.raw d (.deferred (some [])), Res.know tm A.e] ++ K) (o' := .loop (lrec fn a.tmps ps assign body d (if jump.isNone then .ready else .done) jump)) (by rw [hB] at H6; exact H6) (hnl _)
        have hbz5 : C5 ++ (Res.raw (d + 1) (.loop (lrec fn a.tmps ps assign body d (if jump.isNone then .ready else .done) jump)) :: ([Res.raw d (.deferred (some [])), Res.know tm A.e] ++ K)) = C5 ++ B (if jump.isNone then .ready else .done) jump ++ K := by rw [hB, hrec, List.append_assoc]; rfl
        have hbr5 : C5 ++ (Res.raw (d + 1) (.loop (rec .busy none)) :: ([Res.raw d (.deferred (some [])), Res.know tm A.e] ++ K)) = C5 ++ (B .busy none ++ K) := by rw [hB]; rfl
        rw [hbz5] at q5
        rw [hbr5] at q5
        refine ⟨hr5, q5.1, ?_⟩
        rw [show Cn ++ B .ready none ++ K = Cn ++ (B .ready none ++ K) by rw [List.append_assoc]]
        exact (E4.trans (he5.trans e5)).trans q5.2
      rintro e a5 w5 ⟨A5, st5, m1, m2, m3, m4⟩
      cases e with
      | normal =>
        obtain ⟨C5, hs5, hJ5⟩ := m4
        obtain ⟨f1, f2, f3⟩ := fin none C5 st5 w5 hs5 m2 m3
        exact ⟨_, _, f1, _, rfl, .s (.bool true), _, .s _ rfl, f2, f3, _, rfl, .inl ⟨rfl, C5, rfl, hJ5⟩⟩
      | ret =>
        obtain ⟨C5, hs5, hJ5⟩ := m4
        obtain ⟨f1, f2, f3⟩ := fin (some .ret) C5 st5 w5 hs5 m2 m3
        exact ⟨_, _, f1, _, rfl, .s (.bool false), _, .s _ rfl, f2, f3, _, rfl, .inr ⟨rfl, .ret, C5, rfl, hJ5⟩⟩
      | exit id =>
        obtain ⟨C5, hs5, hJ5⟩ := m4
        obtain ⟨f1, f2, f3⟩ := fin (some (.exit id)) C5 st5 w5 hs5 m2 m3
        exact ⟨_, _, f1, _, rfl, .s (.bool false), _, .s _ rfl, f2, f3, _, rfl, .inr ⟨rfl, .exit id, C5, rfl, hJ5⟩⟩
      | goto t =>
        obtain ⟨C5, hs5, hJ5⟩ := m4
        obtain ⟨f1, f2, f3⟩ := fin (some (.goto t)) C5 st5 w5 hs5 m2 m3
        exact ⟨_, _, f1, _, rfl, .s (.bool false), _, .s _ rfl, f2, f3, _, rfl, .inr ⟨rfl, .goto t, C5, rfl, hJ5⟩⟩
      | panic c => exact m4.elim
      | outgrown => exact m4.elim
    | exit id => exact k4.elim
    | goto t => exact k4.elim
    | ret => exact k4.elim
    | panic c => exact k4.elim
    | outgrown => exact k4.elim
  refine ⟨d + 1, [mark d], W1, { target := .fn (.func gf) us2.toArray, args := #[.func (.yield (d + 1)) #[] #[]] }, W1, gf, #[.func (.yield (d + 1)) #[] #[]] ++ us2.toArray, W1, ?_, ?_, fun _ _ => trivial, ?_, (fun h => by cases h), ?_⟩
  · rw [hW1, hrec, hw1, hd]
    exact run_enterLoop_outer _ _ _ _ _
  · simp only [resolve, hgv]
    simp [go_sem]
  · simp [invoke, go_sem, hent]
  · have hcall := hit (d + 1) (C ++ B .ready none) _ _ hY ⟨C, rfl, h0⟩ (#[.func (.yield (d + 1)) #[] #[]] ++ us2.toArray) W1 (by
      have hvs : (#[Value.func (.yield (d + 1)) #[] #[]] ++ us2.toArray).toList = Value.func (.yield (d + 1)) #[] #[] :: us2 := by simp
      rw [hvs]
      refine RepL.cons ?_ ?_
      · exact .fn (.yield (d + 1)) [] [] [] [] rfl rfl (fun i h => absurd h (Nat.not_lt_zero _)) (fun i h => absurd h (Nat.not_lt_zero _))
      · exact ⟨l2, fun i h h' => (r2 i h h').ext E3⟩) H3
    refine (callsIn_wide.2 hcall).mono ?_
    rintro e w2 ⟨v, rfl, dd, st2, -, q2, q3, K1, C2, rfl, ⟨hk, Cn, rfl, hJ⟩ | ⟨i, hk, c, Cn, rfl, hJ⟩⟩
    · have hl : w2.heap[d + 1]? = some (.loop (rec .ready none)) := q2.2 (Res.raw (d + 1) (.loop (rec .ready none))) (by rw [hB]; simp)
      have hend : (Instr.endLoop (d + 1)).run P w2 = .ok none (w2.putObj (d + 1) (.loop { rec .ready none with state := .exhausted })) := by
        subst hrec; exact run_endLoop (P := P) hl (by simp)
      have q2' : Holds ((K1 ++ Cn) ++ Res.raw (d + 1) (.loop (rec .ready none)) :: [Res.raw d (.deferred (some [])), Res.know tm A.e]) w2 := by rw [hB, ← List.append_assoc] at q2; exact q2
      have q := raw_at (o' := .loop { rec .ready none with state := .exhausted }) q2' (hnl _)
      have hsub : (markR d :: (K1 ++ Cn)).Sublist (markR d :: (K1 ++ Cn ++ [Res.raw (d + 1) (.loop { rec .ready none with state := .exhausted }), Res.know tm A.e])) := (List.sublist_append_left _ _).cons_cons _
      have hpm : (K1 ++ Cn ++ Res.raw (d + 1) (.loop { rec .ready none with state := .exhausted }) :: [Res.raw d (.deferred (some [])), Res.know tm A.e]).Perm (markR d :: (K1 ++ Cn ++ [Res.raw (d + 1) (.loop { rec .ready none with state := .exhausted }), Res.know tm A.e])) := by
        refine (List.Perm.append_left _ (.swap _ _ _)).trans ?_
        exact List.perm_middle
      have hq3 : Ext (OwnS (K0 ++ C)) w (OwnS ((K1 ++ Cn) ++ Res.raw (d + 1) (.loop (rec .ready none)) :: [Res.raw d (.deferred (some [])), Res.know tm A.e])) w2 := by
        have := E3.trans q3
        rw [hB, ← List.append_assoc] at this
        exact this
      have Ef : Ext (OwnS (K0 ++ C)) w (OwnS (markR d :: (K1 ++ Cn))) (w2.putObj (d + 1) (.loop { rec .ready none with state := .exhausted })) := by
        refine ((hq3.trans q.2).trans ?_)
        rw [OwnS.perm hpm]
        exact Ext.drop (fun _ h => hsub.subset h) _
      exact ⟨none, _, hend, ⟨A.e, mark d :: A.df⟩, _, ⟨h1.1, by show mark d :: a.defers = mark d :: A.df; rw [h1.2.1], fun t => (h1.2.2 t).ext Ef⟩, (q.1.perm hpm).sub hsub, Ef, hdone d K1 Cn hk hJ⟩
    · have hl : w2.heap[d + 1]? = some (.loop (rec .done (some c))) := q2.2 (Res.raw (d + 1) (.loop (rec .done (some c)))) (by rw [hB]; simp)
      have hend : (Instr.endLoop (d + 1)).run P w2 = .ok (some c) (w2.putObj (d + 1) (.loop { rec .done (some c) with state := .exhausted })) := by
        subst hrec; exact run_endLoop (P := P) hl (by simp)
      have q2' : Holds ((K1 ++ Cn) ++ Res.raw (d + 1) (.loop (rec .done (some c))) :: [Res.raw d (.deferred (some [])), Res.know tm A.e]) w2 := by rw [hB, ← List.append_assoc] at q2; exact q2
      have q := raw_at (o' := .loop { rec .done (some c) with state := .exhausted }) q2' (hnl _)
      have hsub : (markR d :: (K1 ++ Cn)).Sublist (markR d :: (K1 ++ Cn ++ [Res.raw (d + 1) (.loop { rec .done (some c) with state := .exhausted }), Res.know tm A.e])) := (List.sublist_append_left _ _).cons_cons _
      have hpm : (K1 ++ Cn ++ Res.raw (d + 1) (.loop { rec .done (some c) with state := .exhausted }) :: [Res.raw d (.deferred (some [])), Res.know tm A.e]).Perm (markR d :: (K1 ++ Cn ++ [Res.raw (d + 1) (.loop { rec .done (some c) with state := .exhausted }), Res.know tm A.e])) := by
        refine (List.Perm.append_left _ (.swap _ _ _)).trans ?_
        exact List.perm_middle
      have hq3 : Ext (OwnS (K0 ++ C)) w (OwnS ((K1 ++ Cn) ++ Res.raw (d + 1) (.loop (rec .done (some c))) :: [Res.raw d (.deferred (some [])), Res.know tm A.e])) w2 := by
        have := E3.trans q3
        rw [hB, ← List.append_assoc] at this
        exact this
      have Ef : Ext (OwnS (K0 ++ C)) w (OwnS (markR d :: (K1 ++ Cn))) (w2.putObj (d + 1) (.loop { rec .done (some c) with state := .exhausted })) := by
        refine ((hq3.trans q.2).trans ?_)
        rw [OwnS.perm hpm]
        exact Ext.drop (fun _ h => hsub.subset h) _
      exact ⟨some c, _, hend, wpIn_mono (hstop c d i K1 Cn hk hJ _ _ ⟨h1.1, by show mark d :: a.defers = mark d :: A.df; rw [h1.2.1], fun t => (h1.2.2 t).ext Ef⟩ ((q.1.perm hpm).sub hsub)) fun _ _ _ => PostA.ext Ef⟩
theorem tr_range {X : Type} {g : Operand} {ps : Array Tmp} {assign body : Code} {gf : FuncId} {caps : List D} {args : X → List D} {L : List X} {K0 C : St} {Kend : St → Prop} {Kstop : Nat → St → Prop}
    (hit : IterC P gf caps args L K0 Kend Kstop) (hent : ∀ args w, (callFunc gf args).run P w = .ok (.enter gf args) w) (hg : ev A.e g = some (.fn (.func gf) [] caps)) (hps : ∀ x, (args x).length = ps.size) (hpN : ps.toList.all (fun t => decide (t < N)) = true)
    (J : Nat → St → Prop) (Jx : Code → Nat → St → Prop) (h0 : J 0 C) (hne : ∀ i, i ≤ L.length → ∃ C, J i C)
    (hround : ∀ l i x C K, L[i]? = some x → J i C → Tr P N (some l) assign (setA ⟨A.e, []⟩ ps.toList (args x)) (C ++ K) (thenA (fun A' st' => ∃ C1, (C1 ++ K).Sublist st' ∧ ∀ K', Tr P N (some l) body A' (C1 ++ K') (roundQ K' (i + 1) J Jx)) (fun _ _ _ => False)))
    (hdone : ∀ d K1 C', Kend K1 → J L.length C' → Q .normal ⟨A.e, mark d :: A.df⟩ (markR d :: (K1 ++ C')))
    (hstop : ∀ c d i K1 C', Kstop i K1 → Jx c i C' → Tr P N none c ⟨A.e, mark d :: A.df⟩ (markR d :: (K1 ++ C')) Q) :
    Tr P N none (.rangeFunc g ps assign body) A (K0 ++ C) Q :=
  tr_rangeS hit hent hg hps hpN J Jx h0 (fun i x C hx _ => .inl (hne (i + 1) (List.getElem?_eq_some_iff.1 hx).1)) hround hdone hstop
end
theorem out_here {r : Res} {s : St} : (r :: s).Perm (r :: s) := .refl _
theorem out_there {r x : Res} {s s2 : St} (h : s.Perm (r :: s2)) : (x :: s).Perm (r :: x :: s2) := (h.cons _).trans (.swap _ _ _)
theorem retA_mark {ts : List Tmp} {R : D → St → Prop} {ex : Exit} {A : AA} {X : D} {st st0 s2 : St} {d : Nat} (hex : ex = .normal ∨ ex = .ret) (hdf : A.df = [mark d]) (hp : st.Perm (markR d :: s2)) (hs : st0.Sublist s2) (hd : LE (resD ts A.e) X) (hR : R X st0) : retA ts R ex A st := by
  rcases hex with rfl | rfl <;> exact ⟨[d], X, s2, st0, hdf, hp, hs, hd, hR⟩
theorem keep_more {b : Nat} {ty : TypeId} {cs : List D} {ro : Ro} {st : St} (h : Res.box b ty cs ∈ st) (k : Keep (some ro) st) : Keep (some ((b, cs) :: ro)) st := fun b' cs' hl => by
  rw [List.lookup_cons] at hl
  split at hl
  · rename_i he
    cases hl
    have : b' = b := eq_of_beq he
    subst this
    exact ⟨ty, h⟩
  · exact k b' cs' hl
inductive At2 (a b a' b' : Res) : St → St → Prop
  | here {s : St} : At2 a b a' b' (a :: b :: s) (a' :: b' :: s)
  | there {x : Res} {s s' : St} (h : At2 a b a' b' s s') : At2 a b a' b' (x :: s) (x :: s')
theorem At2.perm {a b a' b' : Res} {s s' : St} (h : At2 a b a' b' s s') : ∃ s0, s.Perm (a :: b :: s0) ∧ s'.Perm (a' :: b' :: s0) := by
  induction h with
  | here => exact ⟨_, .refl _, .refl _⟩
  | there h ih =>
    obtain ⟨s0, h1, h2⟩ := ih
    exact ⟨_, (h1.cons _).trans ((List.Perm.swap _ _ _).trans (.cons _ (.swap _ _ _))), (h2.cons _).trans ((List.Perm.swap _ _ _).trans (.cons _ (.swap _ _ _)))⟩
theorem perm_cons_out {r : Res} {st s s' : St} (h : st.Perm (r :: s)) (k : s.Perm s') : st.Perm (r :: s') := h.trans (k.cons _)
end Go.Proofs.Ytooaagmhgakhgaa
end

section
namespace Go.Proofs.Ytooaagmhgakhgaa
set_option linter.unusedSimpArgs false
open Go.RowKit
set_option maxRecDepth 10000
set_option maxHeartbeats 4000000
abbrev VB (bx gs cS : Nat) (zS : List D) (gc cC : Nat) (zC : List D) (x : Vr) (s : St) : St :=
  .box bx 38 [.ar gs 0 x.slots.length cS, .ar gc 0 x.cols.length cC] :: .box gs 26 (slotC x.slots ++ zS) :: .box gc 3 (colC x.cols ++ zC) :: s
def VL (cS : Nat) (zS : List D) (cC : Nat) (zC : List D) (x : Vr) : Prop := (slotC x.slots ++ zS).length = cS * 7 ∧ (colC x.cols ++ zC).length = cC * 1
structure VW (x : Vr) : Prop where
  ls : x.slots.length ≤ 1000
  lc : x.cols.length ≤ 8
  cs : ∀ c ∈ x.cols, c < x.slots.length
def Stp.Ok (s : Stp) : Prop := s.slot.dv.nodes ≤ 1000 ∧ s.slot.dv.Bg ∧ s.order.length ≤ 1000
theorem slotC_flat (x : Vr) : (x.slots.map Sl.cells).flatten = slotC x.slots := rfl
theorem colC_flat (x : Vr) : (x.cols.map encC).flatten = colC x.cols := rfl
theorem slots_each (l : List Sl) : ∀ e ∈ l.map Sl.cells, e.length = 7 := fun e he => by
  obtain ⟨x, -, rfl⟩ := List.mem_map.1 he
  exact Sl.cells_len x
theorem cols_each (l : List Nat) : ∀ e ∈ l.map encC, e.length = 1 := fun e he => by
  obtain ⟨x, -, rfl⟩ := List.mem_map.1 he
  rfl
def StepR (F : Vr → Stp → Option Vr) (x : Vr) (stp : Stp) (bx : Nat) (s : St) (d : D) (st' : St) : Prop :=
  (F x stp = none ∧ d = .b false ∧ st' = s) ∨ ∃ x' gs cS zS gc cC zC, F x stp = some x' ∧ VL cS zS cC zC x' ∧ d = .b true ∧ st' = VB bx gs cS zS gc cC zC x' s
theorem slotC_add (l : List Sl) (s : Sl) : slotC (l ++ [s]) = slotC l ++ [s.cells].flatten := by
  unfold slotC; simp
theorem colC_add (l : List Nat) (c : Nat) : colC (l ++ [c]) = colC l ++ [[D.i c]].flatten := by
  unfold colC; simp [encC]
theorem schAddF (bx gs cS gc cC : Nat) (zS zC : List D) (x : Vr) (stp : Stp) (hx : VW x) (hs : stp.Ok) (hz : VL cS zS cC zC x) (s : St) : TrF Try.prog 90 [.ptr bx 0, .agg stp.cells] (VB bx gs cS zS gc cC zC x s) (StepR Sch.addS x stp bx s) := by
  obtain ⟨ls, lc, -⟩ := hx
  obtain ⟨hn, -, ho⟩ := hs
  obtain ⟨hz1, hz2⟩ := hz
  have hS := schSoundF stp.slot (by omega)
  have hC := schColF x.slots x.cols stp.slot.name (by omega) (by omega) []
  have hr1 := slotC_len x.slots
  have hr2 := colC_len x.cols
  have e1 := Lib.hid (slots_each x.slots)
  have e2 := Lib.hid (cols_each x.cols)
  have f1 := Lib.hid (slotC_flat x)
  have f2 := Lib.hid (colC_flat x)
  have l1 : Hid ((x.slots.map Sl.cells).length = x.slots.length) := List.length_map ..
  have l2 : Hid ((x.cols.map encC).length = x.cols.length) := List.length_map ..
  have g1 := Lib.hid (slotC_add x.slots stp.slot)
  have g2 := Lib.hid (colC_add x.cols x.slots.length)
  have g3 : Hid ((x.slots ++ [stp.slot]).length = x.slots.length + 1) := List.length_append
  have g4 : Hid ((x.cols ++ [x.slots.length]).length = x.cols.length + 1) := List.length_append
  obtain ⟨x', hx'⟩ : ∃ x' : Vr, x' = ⟨x.slots ++ [stp.slot], x.cols ++ [x.slots.length]⟩ := ⟨_, rfl⟩
  have hF : Hid (Sch.addS x stp = if stp.col = 0 ∧ stp.order.length = 0 ∧ x.cols.length < 8 ∧ Sch.sound stp.slot = true ∧ stp.slot.req = false ∧ Sch.colL x.slots stp.slot.name x.cols < 0 then some x' else none) := by rw [hx']; rfl
  have s1 : Hid (x'.slots = x.slots ++ [stp.slot]) := by rw [hx']; rfl
  have s2 : Hid (x'.cols = x.cols ++ [x.slots.length]) := by rw [hx']; rfl
  clear hx'
  unfold StepR VL VB Stp.cells
  generalize Sch.addS x stp = F at *
  cases stp with
  | mk kd col slot order =>
  cases slot with
  | mk nm ty rq dv =>
  cases dv with
  | mk k n sv l =>
  dsimp only at hS hC ho hF ⊢
  generalize Sch.sound _ = q at *
  generalize Sch.colL _ _ _ = cv at *
  generalize slotC x.slots = R1 at *
  generalize colC x.cols = R2 at *
  generalize x.slots.map Sl.cells = L1 at *
  generalize x.cols.map encC = L2 at *
  rw [Sl.cells_mk] at *
  dsimp only [List.cons_append, List.nil_append] at ho ⊢
  generalize x.slots.length = m1 at *
  generalize x.cols.length = m2 at *
  replace hS := Lib.hid hS
  replace hC := Lib.hid hC
  refine trF_enter (ts := [4]) Try.func90 rfl (by rw [Try.ntmps90]; exact Nat.le_of_ble_eq_true rfl) (fun tmps w => by simp [results, Try.results90, go_sem, resVal]) ?_
  simp only [Try.ntmps90]
  repeat' (first | ((with_reducible refine w_draw [(bx, [.ar gs 0 m1 cS, .ar gc 0 m2 cC])] ?_ ?_ ?_ ?_ ?_); (iterate 3 (focus kernel_rfl)); (focus ((repeat (first | exact keep_nil | refine keep_more (by repeat (first | exact mm_h | apply mm_t)) ?_)); done))) | ((with_reducible refine And.intro ?_ ?_); (focus ((repeat (first | exact keep_nil | refine keep_more (by (repeat (first | exact mm_h | apply mm_t)); done) ?_)); done))) | ((with_reducible refine w_draw [(bx, [.ar gs 0 m1 cS, .ar gc' 0 (m2 + 1) cC'])] ?_ ?_ ?_ ?_ ?_); (iterate 3 (focus kernel_rfl)); (focus ((repeat (first | exact keep_nil | refine keep_more (by repeat (first | exact mm_h | apply mm_t)) ?_)); done))) | ((with_reducible refine And.intro ?_ ?_); (focus ((repeat (first | exact keep_nil | refine keep_more (by (repeat (first | exact mm_h | apply mm_t)); done) ?_)); done))) | with_reducible refine s_appR ?_ | with_reducible refine rk_go ?_ | ((with_reducible apply (r2_go hr1 hz1)); (focus (intro g' cs'; repeat (first | exact ra_h | apply ra_t))); (focus exact len_one rfl); (focus (simp only [List.length_cons, List.length_nil]; omega)); (focus (simp only [List.length_cons, List.length_nil]; omega)); intro gs' cS' zS' hcs hls) | ((with_reducible apply (r2_go hr2 hz2)); (focus (intro g' cs'; repeat (first | exact ra_h | apply ra_t))); (focus exact len_one rfl); (focus (simp only [List.length_cons, List.length_nil]; omega)); (focus (simp only [List.length_cons, List.length_nil]; omega)); intro gc' cC' zC' hcc hlc) | ((with_reducible apply ev_go); (focus (try simp (disch := omega) only [push_cast, Nat.reduceEqDiff, reduceCtorEq, ↓reduceIte, Nat.reduceAdd, Nat.reduceMul, Nat.reduceSub, Nat.reduceLT, Nat.reduceLeDiff, Int.reduceToNat, Int.reduceLT, Int.reduceLE, Int.reduceAdd, Int.reduceSub, Int.reduceMul, Int.reduceBEq, Int.reduceBNe, encB, encI, encC, V.cells_mk, V.cells_len, Nat.mul_one, Int.sub_zero, List.map_nil, beq_self_eq_true, *]); (try exact rfl); done)) | ((with_reducible refine w_last ?_ ?_ ?_); (focus kernel_rfl); (focus rfl)) | ((with_reducible apply w_stepG); (focus rfl)) | ((with_reducible apply lk_mem); (focus ((repeat (first | exact mm_h | apply mm_t)); done))) | with_reducible (first | refine w_step0 ?_ | refine w_nil ?_ | refine gd_tt ?_ | refine gd_ff ?_ | refine gd_tf ?_ | refine gd_ft ?_ | refine gd_un ?_ | refine s_move ?_ | refine s_assign ?_ | refine s_bin ?_ | refine s_un ?_ | refine s_conv ?_ | refine s_field ?_ | refine s_fieldAddr ?_ | refine s_ext ?_ | refine s_pick ?_ | refine s_nil ?_ | refine s_load ?_ | refine lk_ip ?_ | refine lk_ptr ?_ | refine s_index ?_ | refine s_indexAddr ?_ | refine s_slice ?_ | refine s_build ?_ | refine s_buildSlice ?_ | refine s_mk ?_ | refine s_store ?_ | refine s_alloc ?_ | refine s_call ?_ | refine s_ip ?_ | refine tr_seq ?_ | refine tr_block ?_ | refine tr_skip ?_ | refine tr_ret ?_ | refine tr_exit ?_ | refine tr_label ?_ | refine strip_norm ?_ | refine strip_ret ?_ | refine strip_exit ?_ | refine blk_norm ?_ | refine blk_ret ?_ | refine blk_same ?_ | refine tr_condT ?_ | refine tr_condCt ?_ | refine tr_condCf ?_) | ((with_reducible apply sto_go); (focus (intro cs'; repeat (first | exact ra_h | apply ra_t)))) | ((with_reducible refine al_go ?_); intro b) | ((with_reducible refine And.intro ?_ ?_); (focus ((repeat (first | exact keep_none | exact keep_nil | exact keep_ro | refine keep_cons ?_)); done))) | ((with_reducible apply (ck_le Try.call87)); (focus exact LEL.refl _); (focus exact hS.out _)) | ((with_reducible apply (ck_lend Try.call38)); (focus exact hC.out); (focus exact ⟨Lend.agg ⟨Lend.rowE (by repeat (first | exact mm_h | apply mm_t)) f1.out (by decide) e1.out l1.out, Lend.rowE (by repeat (first | exact mm_h | apply mm_t)) f2.out (by decide) e2.out l2.out, trivial⟩, Lend.refl _, trivial⟩)) | ((with_reducible refine s_bi ?_ ?_); (focus rfl)) | with_reducible refine blk_ne rfl ?_ | ((with_reducible refine w_region ?_ ?_); (focus kernel_rfl)) | ((with_reducible refine w_draw [] ?_ ?_ ?_ ?_ ?_); (iterate 3 (focus kernel_rfl)); (focus exact keeps_nil)) | ((with_reducible first | refine gd_d1 ?_ ?_ | refine gd_d0 ?_ ?_); all_goals (intro hb; (first | with_reducible replace hb := nt_t hb | with_reducible replace hb := nt_f hb | skip); (first | replace hb := dc_t hb | replace hb := dc_f hb | have hb1 := eq_b hb | have hb1 := ne_b hb | have hb1 := bne_t hb | have hb1 := bne_f hb | skip); (try (exfalso; first | contradiction | omega)))))
  all_goals first
    | ((refine retA_mk (by first | exact .inl rfl | exact .inr rfl) (by first | rfl | assumption) (by (repeat (first | exact List.Sublist.refl _ | apply List.Sublist.cons))) (LE.of_eq ?_) (.inl ⟨?_, rfl, rfl⟩)); (focus simp (disch := omega) only [push_cast, Nat.reduceEqDiff, reduceCtorEq, ↓reduceIte, Nat.reduceAdd, Nat.reduceMul, Nat.reduceSub, Nat.reduceLT, Nat.reduceLeDiff, Int.reduceToNat, Int.reduceLT, Int.reduceLE, Int.reduceAdd, Int.reduceSub, Int.reduceMul, Int.reduceBEq, Int.reduceBNe, encB, encI, encC, V.cells_mk, V.cells_len, Nat.mul_one, Int.sub_zero, List.map_nil, beq_self_eq_true, *]); (focus (rw [hF.out]; refine if_neg ?_; rintro ⟨h1, h2, h3, h4, h5, h6⟩; (first | omega | exact Bool.noConfusion (h4.symm.trans (by assumption) : true = false) | exact Bool.noConfusion (h5.symm.trans (by assumption) : false = true)))))
    | ((refine retA_mk (by first | exact .inl rfl | exact .inr rfl) (by first | rfl | assumption) (List.Sublist.refl _) (LE.of_eq ?_) (.inr ⟨x', gs', cS', zS', gc', cC', zC', ?_, ⟨?_, ?_⟩, rfl, ?_⟩)); (focus simp (disch := omega) only [push_cast, Nat.reduceEqDiff, reduceCtorEq, ↓reduceIte, Nat.reduceAdd, Nat.reduceMul, Nat.reduceSub, Nat.reduceLT, Nat.reduceLeDiff, Int.reduceToNat, Int.reduceLT, Int.reduceLE, Int.reduceAdd, Int.reduceSub, Int.reduceMul, Int.reduceBEq, Int.reduceBNe, encB, encI, encC, V.cells_mk, V.cells_len, Nat.mul_one, Int.sub_zero, List.map_nil, beq_self_eq_true, *]); (focus (rw [hF.out]; refine if_pos ⟨?_, ?_, ?_, ?_, ?_, ?_⟩ <;> first | assumption | omega)); (focus (rw [s1.out, g1.out, (by assumption : rq = false)]; exact hls)); (focus (rw [s2.out, g2.out]; exact hlc)); (focus (rw [s1.out, s2.out, g1.out, g2.out, g3.out, g4.out, (by assumption : rq = false)])))
end Go.Proofs.Ytooaagmhgakhgaa
end

section
namespace Go.Proofs.Ytooaagmhgakhgaa
set_option linter.unusedSimpArgs false
open Go.RowKit
set_option maxRecDepth 10000
set_option maxHeartbeats 4000000
theorem row_drop {sz o : Nat} {e : List D} (zs : List D) : ∀ (es : List (List D)) (c : Nat), (∀ x ∈ es, x.length = sz) → es[c]? = some e → o ≤ sz → ∃ tl, (es.flatten ++ zs).drop (c * sz + o) = e.drop o ++ tl
  | [], c, _, h, _ => by simp at h
  | x :: es, 0, hs, h, ho => by
    simp only [List.getElem?_cons_zero, Option.some.injEq] at h
    subst h
    have hx := hs x (List.mem_cons_self ..)
    refine ⟨es.flatten ++ zs, ?_⟩
    rw [List.flatten_cons, List.append_assoc, Nat.zero_mul, Nat.zero_add, List.drop_append_of_le_length (by omega)]
  | x :: es, c + 1, hs, h, ho => by
    rw [List.getElem?_cons_succ] at h
    obtain ⟨tl, ht⟩ := row_drop zs es c (fun y hy => hs y (List.mem_cons_of_mem _ hy)) h ho
    have hx := hs x (List.mem_cons_self ..)
    refine ⟨tl, ?_⟩
    rw [List.flatten_cons, List.append_assoc, show (c + 1) * sz + o = sz + (c * sz + o) by rw [Nat.succ_mul]; omega, ← List.drop_drop, List.drop_left' hx, ht]
theorem splice_app {e R ds : List D} {sz o : Nat} (he : e.length = sz) : splice (e ++ R) (sz + o) ds = e ++ splice R o ds := by
  unfold splice
  rw [List.take_append, List.take_of_length_le (l := e) (by omega), show sz + o - e.length = o by omega, show sz + o + ds.length = sz + (o + ds.length) by omega, ← List.drop_drop, List.drop_left' he]
  simp only [List.append_assoc]
theorem row_splice {sz o : Nat} {e ds : List D} (zs : List D) : ∀ (es : List (List D)) (c : Nat), (∀ x ∈ es, x.length = sz) → es[c]? = some e → o + ds.length ≤ sz → splice (es.flatten ++ zs) (c * sz + o) ds = (es.set c (splice e o ds)).flatten ++ zs
  | [], c, _, h, _ => by simp at h
  | x :: es, 0, hs, h, ho => by
    simp only [List.getElem?_cons_zero, Option.some.injEq] at h
    subst h
    have hx := hs x (List.mem_cons_self ..)
    rw [List.set_cons_zero, List.flatten_cons, List.flatten_cons, Nat.zero_mul, Nat.zero_add]
    unfold splice
    rw [show x ++ es.flatten ++ zs = x ++ (es.flatten ++ zs) from List.append_assoc .., List.take_append_of_le_length (by omega), List.drop_append_of_le_length (by omega)]
    simp only [List.append_assoc]
  | x :: es, c + 1, hs, h, ho => by
    rw [List.getElem?_cons_succ] at h
    have := row_splice zs es c (fun y hy => hs y (List.mem_cons_of_mem _ hy)) h ho
    have hx := hs x (List.mem_cons_self ..)
    rw [List.set_cons_succ, List.flatten_cons, List.flatten_cons, List.append_assoc, List.append_assoc, show (c + 1) * sz + o = sz + (c * sz + o) by rw [Nat.succ_mul]; omega, splice_app hx, this]
theorem w_draw_ne3 {P : Program} {N : Nat} {r : Option Nat} {A : AA} {b b' b'' : Nat} {ty ty' ty'' : TypeId} {cs cs' cs'' : List D} {s : St} {Q : Exit → AA → St → Prop} {l : List Oper} {id : Nat} (hm : P.follows .mixedOrders = true) (hB : mixBA .any l.toArray = true) (hok : opsOk N l = true)
    (h : (b' == b) = false → (b'' == b) = false → (b'' == b') = false → W P r (some (roOf (.box b ty cs :: .box b' ty' cs' :: .box b'' ty'' cs'' :: s))) l.toArray (Q .normal) l A (.box b ty cs :: .box b' ty' cs' :: .box b'' ty'' cs'' :: s)) : Tr P N r (.region id l.toArray true) A (.box b ty cs :: .box b' ty' cs' :: .box b'' ty'' cs'' :: s) Q := by
  intro a w ha hh
  have h1 := List.pairwise_cons.1 hh.1
  have h2 := List.pairwise_cons.1 h1.2
  have n1 : b' ≠ b := fun e => h1.1 (.box b' ty' cs') (List.Mem.head _) b rfl (by rw [← e]; rfl)
  have n2 : b'' ≠ b := fun e => h1.1 (.box b'' ty'' cs'') (List.Mem.tail _ (List.Mem.head _)) b rfl (by rw [← e]; rfl)
  have n3 : b'' ≠ b' := fun e => h2.1 (.box b'' ty'' cs'') (List.Mem.head _) b' rfl (by rw [← e]; rfl)
  exact w_draw _ hm hB hok (keeps_roOf _) (h (beq_eq_false_iff_ne.2 n1) (beq_eq_false_iff_ne.2 n2) (beq_eq_false_iff_ne.2 n3)) a w ha hh
theorem lendP {st : St} {bx gs gc m1 m2 cS cC : Nat} {T T1 T2 : TypeId} {R1 R2 zS zC : List D} {L1 L2 : List (List D)} (h1 : Res.box bx T [.ar gs 0 m1 cS, .ar gc 0 m2 cC] ∈ st) (h2 : Res.box gs T1 (R1 ++ zS) ∈ st) (h3 : Res.box gc T2 (R2 ++ zC) ∈ st)
    (f1 : L1.flatten = R1) (e1 : ∀ e ∈ L1, e.length = 7) (l1 : L1.length = m1) (f2 : L2.flatten = R2) (e2 : ∀ e ∈ L2, e.length = 1) (l2 : L2.length = m2) : Lend st (.ptr bx 0) (.ip [.sl .shared L1, .sl .shared L2]) :=
  Lend.ptr h1 ⟨Lend.rowE h2 f1 (by decide) e1 l1, Lend.rowE h3 f2 (by decide) e2 l2, trivial⟩ (by
    intro d hd
    simp only [List.mem_cons, List.not_mem_nil, or_false] at hd
    rcases hd with rfl | rfl <;> rfl)
theorem schLoseF (bx gs cS gc cC : Nat) (zS zC : List D) (x : Vr) (stp : Stp) (hx : VW x) (hs : stp.Ok) (hz : VL cS zS cC zC x) (s : St) : TrF Try.prog 91 [.ptr bx 0, .agg stp.cells] (VB bx gs cS zS gc cC zC x s) (StepR Sch.loseS x stp bx s) := by
  obtain ⟨ls, lc, hcs⟩ := hx
  obtain ⟨hn, hbg, ho⟩ := hs
  obtain ⟨hz1, hz2⟩ := hz
  have hK := schColumnF x stp [] (by omega) (by omega)
  have hB := schBareF stp.slot false false hbg
  have hF : Hid (Sch.loseS x stp = if Sch.column x stp = true ∧ Sch.bare stp.slot false false = true ∧ x.cols.length ≠ 1 then some ⟨x.slots, x.cols.eraseIdx stp.col.toNat⟩ else none) := rfl
  have e1 := Lib.hid (slots_each x.slots)
  have e2 := Lib.hid (cols_each x.cols)
  have f1 := Lib.hid (slotC_flat x)
  have f2 := Lib.hid (colC_flat x)
  have l1 : Hid ((x.slots.map Sl.cells).length = x.slots.length) := List.length_map ..
  have l2 : Hid ((x.cols.map encC).length = x.cols.length) := List.length_map ..
  unfold StepR VL VB Stp.cells
  generalize Sch.loseS x stp = F at *
  cases hcl : Sch.column x stp with
  | false =>
    rw [hcl] at hK hF
    unfold Vr.cells Stp.cells at hK
    clear hcl
    cases stp with
    | mk kd col slot order =>
    cases slot with
    | mk nm ty rq dv =>
    cases dv with
    | mk k n sv l =>
    dsimp only at ho ⊢
    generalize slotC x.slots = R1 at *
    generalize colC x.cols = R2 at *
    generalize x.slots.map Sl.cells = L1 at *
    generalize x.cols.map encC = L2 at *
    rw [Sl.cells_mk] at *
    dsimp only [List.cons_append, List.nil_append] at hK ⊢
    generalize x.slots.length = m1 at *
    generalize x.cols.length = m2 at *
    replace hK := Lib.hid hK
    refine trF_enter (ts := [4]) Try.func91 rfl (by rw [Try.ntmps91]; exact Nat.le_of_ble_eq_true rfl) (fun tmps w => by simp [results, Try.results91, go_sem, resVal]) ?_
    simp only [Try.ntmps91]
    repeat' (first | ((with_reducible apply ev_go); (focus (try simp (disch := omega) only [push_cast, Nat.reduceEqDiff, reduceCtorEq, ↓reduceIte, Nat.reduceAdd, Nat.reduceMul, Nat.reduceSub, Nat.reduceLT, Nat.reduceLeDiff, Int.reduceToNat, Int.reduceLT, Int.reduceLE, Int.reduceAdd, Int.reduceSub, Int.reduceMul, Int.reduceBEq, Int.reduceBNe, encB, encI, encC, V.cells_mk, V.cells_len, Nat.mul_one, Int.sub_zero, List.map_nil, beq_self_eq_true, List.head?_cons, *]); (try exact rfl); done)) | ((with_reducible refine w_last ?_ ?_ ?_); (focus kernel_rfl); (focus rfl)) | ((with_reducible apply w_stepG); (focus rfl)) | ((with_reducible apply lk_mem); (focus ((repeat (first | exact mm_h | apply mm_t)); done))) | with_reducible (first | refine w_step0 ?_ | refine w_nil ?_ | refine gd_tt ?_ | refine gd_ff ?_ | refine gd_tf ?_ | refine gd_ft ?_ | refine gd_un ?_ | refine s_move ?_ | refine s_assign ?_ | refine s_bin ?_ | refine s_un ?_ | refine s_conv ?_ | refine s_field ?_ | refine s_fieldAddr ?_ | refine s_ext ?_ | refine s_pick ?_ | refine s_nil ?_ | refine s_load ?_ | refine lk_ip ?_ | refine lk_ptr ?_ | refine s_index ?_ | refine s_indexAddr ?_ | refine s_slice ?_ | refine s_build ?_ | refine s_buildSlice ?_ | refine s_mk ?_ | refine s_store ?_ | refine s_alloc ?_ | refine s_call ?_ | refine s_ip ?_ | refine tr_seq ?_ | refine tr_block ?_ | refine tr_skip ?_ | refine tr_ret ?_ | refine tr_exit ?_ | refine tr_label ?_ | refine strip_norm ?_ | refine strip_ret ?_ | refine strip_exit ?_ | refine blk_norm ?_ | refine blk_ret ?_ | refine blk_same ?_ | refine tr_condT ?_ | refine tr_condCt ?_ | refine tr_condCf ?_) | ((with_reducible apply sto_go); (focus (intro cs'; repeat (first | exact ra_h | apply ra_t)))) | ((with_reducible refine al_go ?_); intro b) | ((with_reducible refine And.intro ?_ ?_); (focus ((repeat (first | exact keep_none | exact keep_nil | exact keep_ro | refine keep_cons ?_)); done))) | ((with_reducible apply (ck_lend Try.call103)); (focus exact hK.out); (focus exact ⟨lendP (by repeat (first | exact mm_h | apply mm_t)) (by repeat (first | exact mm_h | apply mm_t)) (by repeat (first | exact mm_h | apply mm_t)) f1.out e1.out l1.out f2.out e2.out l2.out, Lend.refl _, trivial⟩)) | ((with_reducible refine s_bi ?_ ?_); (focus rfl)) | with_reducible refine blk_ne rfl ?_ | ((with_reducible refine w_region ?_ ?_); (focus kernel_rfl)) | ((with_reducible refine w_draw [] ?_ ?_ ?_ ?_ ?_); (iterate 3 (focus kernel_rfl)); (focus exact keeps_nil)) | ((with_reducible first | refine gd_d1 ?_ ?_ | refine gd_d0 ?_ ?_); all_goals (intro hb; (first | with_reducible replace hb := nt_t hb | with_reducible replace hb := nt_f hb | skip); (first | replace hb := dc_t hb | replace hb := dc_f hb | have hb1 := eq_b hb | have hb1 := ne_b hb | have hb1 := bne_t hb | have hb1 := bne_f hb | skip); (try (exfalso; first | contradiction | omega)))))
    all_goals ((refine retA_mk (by first | exact .inl rfl | exact .inr rfl) (by first | rfl | assumption) (by (repeat (first | exact List.Sublist.refl _ | apply List.Sublist.cons))) (LE.of_eq ?_) (.inl ⟨?_, rfl, rfl⟩)); (focus simp (disch := omega) only [push_cast, Nat.reduceEqDiff, reduceCtorEq, ↓reduceIte, Nat.reduceAdd, Nat.reduceMul, Nat.reduceSub, Nat.reduceLT, Nat.reduceLeDiff, Int.reduceToNat, Int.reduceLT, Int.reduceLE, Int.reduceAdd, Int.reduceSub, Int.reduceMul, Int.reduceBEq, Int.reduceBNe, encB, encI, encC, V.cells_mk, V.cells_len, Nat.mul_one, Int.sub_zero, List.map_nil, beq_self_eq_true, List.head?_cons, *]); (focus (rw [hF.out]; refine if_neg ?_; rintro ⟨h1, h2, h3⟩; (first | omega | exact Bool.noConfusion (h1.symm.trans (by assumption) : true = false) | exact Bool.noConfusion (h2.symm.trans (by assumption) : true = false) | exact Bool.noConfusion (h3.symm.trans (by assumption) : true = false) | (exact Bool.noConfusion (h1 : false = true))))))
  | true =>
    obtain ⟨hk1, hk2, hk3⟩ : 0 ≤ stp.col ∧ stp.col < x.cols.length ∧ stp.order.length = 0 := by
      unfold Sch.column at hcl
      simpa [and_assoc] using hcl
    obtain ⟨i, hi⟩ := Int.eq_ofNat_of_zero_le hk1
    have hlt : i < x.cols.length := by omega
    rw [hcl] at hK hF
    unfold Vr.cells Stp.cells at hK
    clear hcl hk1 hk2
    have hD := fun s => deleteF gc cC i x.cols zC hlt hz2 s
    have hcl2 := colC_len (x.cols.eraseIdx i)
    have hcl := colC_len x.cols
    have hel : (x.cols.eraseIdx i).length + 1 = x.cols.length := by rw [List.length_eraseIdx_of_lt hlt]; omega
    obtain ⟨x', hx'⟩ : ∃ x' : Vr, x' = ⟨x.slots, x.cols.eraseIdx stp.col.toNat⟩ := ⟨_, rfl⟩
    rw [← hx'] at hF
    rw [hi, Int.toNat_natCast] at hx'
    have s1 : Hid (x'.slots = x.slots) := Lib.hid (by rw [hx'])
    have s2 : Hid (x'.cols = x.cols.eraseIdx i) := Lib.hid (by rw [hx'])
    clear hx'
    generalize hE : x.cols.eraseIdx i = ec at *
    generalize Sch.bare stp.slot false false = q at *
    generalize hRE : colC ec = RE at *
    generalize hme : ec.length = me at *
    replace hE := Lib.hid hE
    replace hRE := Lib.hid hRE
    replace hme := Lib.hid hme
    replace hel := Lib.hid hel
    replace hcl2 := Lib.hid hcl2
    replace hcl := Lib.hid hcl
    cases stp with
    | mk kd col slot order =>
    cases slot with
    | mk nm ty rq dv =>
    cases dv with
    | mk k n sv l =>
    dsimp only at hB ho hi hF ⊢
    subst hi
    generalize hR1 : slotC x.slots = R1 at *
    generalize hR2 : colC x.cols = R2 at *
    generalize x.slots.map Sl.cells = L1 at *
    generalize x.cols.map encC = L2 at *
    rw [Sl.cells_mk] at *
    dsimp only [List.cons_append, List.nil_append] at hK ⊢
    generalize hm1 : x.slots.length = m1 at *
    generalize hm2 : x.cols.length = m2 at *
    replace hR1 := Lib.hid hR1
    replace hR2 := Lib.hid hR2
    replace hm1 := Lib.hid hm1
    replace hm2 := Lib.hid hm2
    replace hK := Lib.hid hK
    replace hB := Lib.hid hB
    replace hD := Lib.hid hD
    refine trF_enter (ts := [4]) Try.func91 rfl (by rw [Try.ntmps91]; exact Nat.le_of_ble_eq_true rfl) (fun tmps w => by simp [results, Try.results91, go_sem, resVal]) ?_
    simp only [Try.ntmps91]
    repeat' (first | ((with_reducible refine w_draw [(bx, [.ar gs 0 m1 cS, .ar gc 0 m2 cC])] ?_ ?_ ?_ ?_ ?_); (iterate 3 (focus kernel_rfl)); (focus ((repeat (first | exact keep_nil | refine keep_more (by repeat (first | exact mm_h | apply mm_t)) ?_)); done))) | ((with_reducible refine And.intro ?_ ?_); (focus ((repeat (first | exact keep_nil | refine keep_more (by (repeat (first | exact mm_h | apply mm_t)); done) ?_)); done))) | ((with_reducible apply ev_go); (focus (try simp (disch := omega) only [push_cast, Nat.reduceEqDiff, reduceCtorEq, ↓reduceIte, Nat.reduceAdd, Nat.reduceMul, Nat.reduceSub, Nat.reduceLT, Nat.reduceLeDiff, Int.reduceToNat, Int.reduceLT, Int.reduceLE, Int.reduceAdd, Int.reduceSub, Int.reduceMul, Int.reduceBEq, Int.reduceBNe, encB, encI, encC, V.cells_mk, V.cells_len, Nat.mul_one, Int.sub_zero, List.map_nil, beq_self_eq_true, List.head?_cons, *]); (try exact rfl); done)) | ((with_reducible refine w_last ?_ ?_ ?_); (focus kernel_rfl); (focus rfl)) | ((with_reducible apply w_stepG); (focus rfl)) | ((with_reducible apply lk_mem); (focus ((repeat (first | exact mm_h | apply mm_t)); done))) | with_reducible (first | refine w_step0 ?_ | refine w_nil ?_ | refine gd_tt ?_ | refine gd_ff ?_ | refine gd_tf ?_ | refine gd_ft ?_ | refine gd_un ?_ | refine s_move ?_ | refine s_assign ?_ | refine s_bin ?_ | refine s_un ?_ | refine s_conv ?_ | refine s_field ?_ | refine s_fieldAddr ?_ | refine s_ext ?_ | refine s_pick ?_ | refine s_nil ?_ | refine s_load ?_ | refine lk_ip ?_ | refine lk_ptr ?_ | refine s_index ?_ | refine s_indexAddr ?_ | refine s_slice ?_ | refine s_build ?_ | refine s_buildSlice ?_ | refine s_mk ?_ | refine s_store ?_ | refine s_alloc ?_ | refine s_call ?_ | refine s_ip ?_ | refine tr_seq ?_ | refine tr_block ?_ | refine tr_skip ?_ | refine tr_ret ?_ | refine tr_exit ?_ | refine tr_label ?_ | refine strip_norm ?_ | refine strip_ret ?_ | refine strip_exit ?_ | refine blk_norm ?_ | refine blk_ret ?_ | refine blk_same ?_ | refine tr_condT ?_ | refine tr_condCt ?_ | refine tr_condCf ?_) | ((with_reducible apply sto_go); (focus (intro cs'; repeat (first | exact ra_h | apply ra_t)))) | ((with_reducible refine al_go ?_); intro b) | ((with_reducible refine And.intro ?_ ?_); (focus ((repeat (first | exact keep_none | exact keep_nil | exact keep_ro | refine keep_cons ?_)); done))) | ((with_reducible apply (ck_lend Try.call103)); (focus exact hK.out); (focus exact ⟨lendP (by repeat (first | exact mm_h | apply mm_t)) (by repeat (first | exact mm_h | apply mm_t)) (by repeat (first | exact mm_h | apply mm_t)) f1.out e1.out l1.out f2.out e2.out l2.out, Lend.refl _, trivial⟩)) | ((with_reducible apply (ck_le Try.call104)); (focus exact LEL.refl _); (focus exact hB.out _)) | ((with_reducible apply (ck_at Try.call105)); (focus exact LEL.refl _); (focus exact hD.out); (focus ((repeat (first | exact ra_h | apply ra_t)); done))) | ((with_reducible refine s_bi ?_ ?_); (focus rfl)) | with_reducible refine blk_ne rfl ?_ | ((with_reducible refine w_region ?_ ?_); (focus kernel_rfl)) | ((with_reducible refine w_draw [] ?_ ?_ ?_ ?_ ?_); (iterate 3 (focus kernel_rfl)); (focus exact keeps_nil)) | ((with_reducible first | refine gd_d1 ?_ ?_ | refine gd_d0 ?_ ?_); all_goals (intro hb; (first | with_reducible replace hb := nt_t hb | with_reducible replace hb := nt_f hb | skip); (first | replace hb := dc_t hb | replace hb := dc_f hb | have hb1 := eq_b hb | have hb1 := ne_b hb | have hb1 := bne_t hb | have hb1 := bne_f hb | skip); (try (exfalso; first | contradiction | omega)))))
    all_goals first
      | ((refine retA_mk (by first | exact .inl rfl | exact .inr rfl) (by first | rfl | assumption) (by (repeat (first | exact List.Sublist.refl _ | apply List.Sublist.cons))) (LE.of_eq ?_) (.inl ⟨?_, rfl, rfl⟩)); (focus simp (disch := omega) only [push_cast, Nat.reduceEqDiff, reduceCtorEq, ↓reduceIte, Nat.reduceAdd, Nat.reduceMul, Nat.reduceSub, Nat.reduceLT, Nat.reduceLeDiff, Int.reduceToNat, Int.reduceLT, Int.reduceLE, Int.reduceAdd, Int.reduceSub, Int.reduceMul, Int.reduceBEq, Int.reduceBNe, encB, encI, encC, V.cells_mk, V.cells_len, Nat.mul_one, Int.sub_zero, List.map_nil, beq_self_eq_true, List.head?_cons, *]); (focus (rw [hF.out]; refine if_neg ?_; rintro ⟨h1, h2, h3⟩; (first | omega | exact Bool.noConfusion (h1.symm.trans (by assumption) : true = false) | exact Bool.noConfusion (h2.symm.trans (by assumption) : true = false) | exact Bool.noConfusion (h3.symm.trans (by assumption) : true = false) | (exact Bool.noConfusion (h1 : false = true))))))
      | ((refine retA_mk (by first | exact .inl rfl | exact .inr rfl) (by first | rfl | assumption) (List.Sublist.refl _) (LE.of_eq ?_) (.inr ⟨x', gs, cS, zS, gc, cC, D.i 0 :: zC, ?_, ⟨?_, ?_⟩, rfl, ?_⟩)); (focus simp (disch := omega) only [push_cast, Nat.reduceEqDiff, reduceCtorEq, ↓reduceIte, Nat.reduceAdd, Nat.reduceMul, Nat.reduceSub, Nat.reduceLT, Nat.reduceLeDiff, Int.reduceToNat, Int.reduceLT, Int.reduceLE, Int.reduceAdd, Int.reduceSub, Int.reduceMul, Int.reduceBEq, Int.reduceBNe, encB, encI, encC, V.cells_mk, V.cells_len, Nat.mul_one, Int.sub_zero, List.map_nil, beq_self_eq_true, List.head?_cons, *]); (focus (rw [hF.out]; refine if_pos ⟨rfl, ?_, ?_⟩ <;> first | assumption | omega)); (focus (rw [s1.out, hR1.out]; exact hz1)); (focus (rw [s2.out, hRE.out]; have h1 := hel.out; have h2 := hcl2.out; have h3 := hcl.out; rw [List.length_append] at hz2 ⊢; rw [List.length_cons]; omega)); (focus (rw [s1.out, s2.out, hR1.out, hRE.out, hm1.out, hme.out])))
end Go.Proofs.Ytooaagmhgakhgaa
end

section
namespace Go.Proofs.Ytooaagmhgakhgaa
set_option linter.unusedSimpArgs false
open Go.RowKit
set_option maxRecDepth 10000
set_option maxHeartbeats 4000000
theorem modify_set {α : Type} {l : List α} {f : α → α} {i : Nat} {y : α} (h : l[i]? = some y) : l.modify i f = l.set i (f y) := by
  apply List.ext_getElem?
  intro j
  rw [List.getElem?_modify, List.getElem?_set]
  by_cases hj : i = j
  · subst hj
    obtain ⟨hlt, rfl⟩ := List.getElem?_eq_some_iff.1 h
    simp [hlt]
  · simp [hj]
theorem schRenameF (bx gs cS gc cC : Nat) (zS zC : List D) (x : Vr) (stp : Stp) (hx : VW x) (hs : stp.Ok) (hz : VL cS zS cC zC x) (s : St) : TrF Try.prog 92 [.ptr bx 0, .agg stp.cells] (VB bx gs cS zS gc cC zC x s) (StepR Sch.renameS x stp bx s) := by
  obtain ⟨ls, lc, hcs⟩ := hx
  obtain ⟨hn, hbg, ho⟩ := hs
  obtain ⟨hz1, hz2⟩ := hz
  have hK := schColumnF x stp [] (by omega) (by omega)
  have hB := schBareF stp.slot true false hbg
  have hN := valIsNameF stp.slot.name
  have hC := schColF x.slots x.cols stp.slot.name (by omega) (by omega) []
  have hF : Hid (Sch.renameS x stp = if Sch.column x stp = true ∧ Sch.bare stp.slot true false = true ∧ V.isName stp.slot.name.data.toList = true ∧ Sch.colL x.slots stp.slot.name x.cols < 0 then some ⟨x.slots.modify (Sch.at_ x stp) fun y => { y with name := stp.slot.name }, x.cols⟩ else none) := rfl
  have e1 := Lib.hid (slots_each x.slots)
  have e2 := Lib.hid (cols_each x.cols)
  have f1 := Lib.hid (slotC_flat x)
  have f2 := Lib.hid (colC_flat x)
  have l1 : Hid ((x.slots.map Sl.cells).length = x.slots.length) := List.length_map ..
  have l2 : Hid ((x.cols.map encC).length = x.cols.length) := List.length_map ..
  unfold StepR VL VB Stp.cells
  generalize Sch.renameS x stp = F at *
  cases hcl : Sch.column x stp with
  | false =>
    rw [hcl] at hK hF
    unfold Vr.cells Stp.cells at hK
    clear hcl
    cases stp with
    | mk kd col slot order =>
    cases slot with
    | mk nm ty rq dv =>
    cases dv with
    | mk k n sv l =>
    dsimp only at ho ⊢
    generalize slotC x.slots = R1 at *
    generalize colC x.cols = R2 at *
    generalize x.slots.map Sl.cells = L1 at *
    generalize x.cols.map encC = L2 at *
    rw [Sl.cells_mk] at *
    dsimp only [List.cons_append, List.nil_append] at hK ⊢
    generalize x.slots.length = m1 at *
    generalize x.cols.length = m2 at *
    replace hK := Lib.hid hK
    refine trF_enter (ts := [4]) Try.func92 rfl (by rw [Try.ntmps92]; exact Nat.le_of_ble_eq_true rfl) (fun tmps w => by simp [results, Try.results92, go_sem, resVal]) ?_
    simp only [Try.ntmps92]
    repeat' (first | ((with_reducible apply ev_go); (focus (try simp (disch := omega) only [push_cast, Nat.reduceEqDiff, reduceCtorEq, ↓reduceIte, Nat.reduceAdd, Nat.reduceMul, Nat.reduceSub, Nat.reduceLT, Nat.reduceLeDiff, Int.reduceToNat, Int.reduceLT, Int.reduceLE, Int.reduceAdd, Int.reduceSub, Int.reduceMul, Int.reduceBEq, Int.reduceBNe, encB, encI, encC, V.cells_mk, V.cells_len, Nat.mul_one, Int.sub_zero, List.map_nil, beq_self_eq_true, List.head?_cons, *]); (try exact rfl); done)) | ((with_reducible refine w_last ?_ ?_ ?_); (focus kernel_rfl); (focus rfl)) | ((with_reducible apply w_stepG); (focus rfl)) | ((with_reducible apply lk_mem); (focus ((repeat (first | exact mm_h | apply mm_t)); done))) | with_reducible (first | refine w_step0 ?_ | refine w_nil ?_ | refine gd_tt ?_ | refine gd_ff ?_ | refine gd_tf ?_ | refine gd_ft ?_ | refine gd_un ?_ | refine s_move ?_ | refine s_assign ?_ | refine s_bin ?_ | refine s_un ?_ | refine s_conv ?_ | refine s_field ?_ | refine s_fieldAddr ?_ | refine s_ext ?_ | refine s_pick ?_ | refine s_nil ?_ | refine s_load ?_ | refine lk_ip ?_ | refine lk_ptr ?_ | refine s_index ?_ | refine s_indexAddr ?_ | refine s_slice ?_ | refine s_build ?_ | refine s_buildSlice ?_ | refine s_mk ?_ | refine s_store ?_ | refine s_alloc ?_ | refine s_call ?_ | refine s_ip ?_ | refine tr_seq ?_ | refine tr_block ?_ | refine tr_skip ?_ | refine tr_ret ?_ | refine tr_exit ?_ | refine tr_label ?_ | refine strip_norm ?_ | refine strip_ret ?_ | refine strip_exit ?_ | refine blk_norm ?_ | refine blk_ret ?_ | refine blk_same ?_ | refine tr_condT ?_ | refine tr_condCt ?_ | refine tr_condCf ?_) | ((with_reducible apply sto_go); (focus (intro cs'; repeat (first | exact ra_h | apply ra_t)))) | ((with_reducible refine al_go ?_); intro b) | ((with_reducible refine And.intro ?_ ?_); (focus ((repeat (first | exact keep_none | exact keep_nil | exact keep_ro | refine keep_cons ?_)); done))) | ((with_reducible apply (ck_lend Try.call103)); (focus exact hK.out); (focus exact ⟨lendP (by repeat (first | exact mm_h | apply mm_t)) (by repeat (first | exact mm_h | apply mm_t)) (by repeat (first | exact mm_h | apply mm_t)) f1.out e1.out l1.out f2.out e2.out l2.out, Lend.refl _, trivial⟩)) | ((with_reducible refine s_bi ?_ ?_); (focus rfl)) | with_reducible refine blk_ne rfl ?_ | ((with_reducible refine w_region ?_ ?_); (focus kernel_rfl)) | ((with_reducible refine w_draw [] ?_ ?_ ?_ ?_ ?_); (iterate 3 (focus kernel_rfl)); (focus exact keeps_nil)) | ((with_reducible first | refine gd_d1 ?_ ?_ | refine gd_d0 ?_ ?_); all_goals (intro hb; (first | with_reducible replace hb := nt_t hb | with_reducible replace hb := nt_f hb | skip); (first | replace hb := dc_t hb | replace hb := dc_f hb | have hb1 := eq_b hb | have hb1 := ne_b hb | have hb1 := bne_t hb | have hb1 := bne_f hb | skip); (try (exfalso; first | contradiction | omega)))))
    all_goals ((refine retA_mk (by first | exact .inl rfl | exact .inr rfl) (by first | rfl | assumption) (by (repeat (first | exact List.Sublist.refl _ | apply List.Sublist.cons))) (LE.of_eq ?_) (.inl ⟨?_, rfl, rfl⟩)); (focus simp (disch := omega) only [push_cast, Nat.reduceEqDiff, reduceCtorEq, ↓reduceIte, Nat.reduceAdd, Nat.reduceMul, Nat.reduceSub, Nat.reduceLT, Nat.reduceLeDiff, Int.reduceToNat, Int.reduceLT, Int.reduceLE, Int.reduceAdd, Int.reduceSub, Int.reduceMul, Int.reduceBEq, Int.reduceBNe, encB, encI, encC, V.cells_mk, V.cells_len, Nat.mul_one, Int.sub_zero, List.map_nil, beq_self_eq_true, List.head?_cons, *]); (focus (rw [hF.out]; refine if_neg ?_; rintro ⟨h1, h2, h3, h4⟩; (first | omega | exact Bool.noConfusion (h1.symm.trans (by assumption) : true = false) | exact Bool.noConfusion (h2.symm.trans (by assumption) : true = false) | exact Bool.noConfusion (h3.symm.trans (by assumption) : true = false) | exact Bool.noConfusion (h4.symm.trans (by assumption) : true = false) | (exact Bool.noConfusion (h1 : false = true))))))
  | true =>
    obtain ⟨hk1, hk2, hk3⟩ : 0 ≤ stp.col ∧ stp.col < x.cols.length ∧ stp.order.length = 0 := by
      unfold Sch.column at hcl
      simpa [and_assoc] using hcl
    obtain ⟨i, hi⟩ := Int.eq_ofNat_of_zero_le hk1
    have hlt : i < x.cols.length := by omega
    rw [hcl] at hK hF
    unfold Vr.cells Stp.cells at hK
    clear hcl hk1 hk2
    obtain ⟨c, hc⟩ : ∃ c, x.cols[i]? = some c := ⟨_, List.getElem?_eq_getElem hlt⟩
    have hcm : c < x.slots.length := hcs c (List.mem_of_getElem? hc)
    obtain ⟨y, hy⟩ : ∃ y, x.slots[c]? = some y := ⟨_, List.getElem?_eq_getElem hcm⟩
    have hat : Sch.at_ x stp = c := by
      unfold Sch.at_
      rw [hi, Int.toNat_natCast, List.getD_eq_getElem?_getD, hc]; rfl
    have hL2 : (x.cols.map encC)[i]? = some [D.i c] := by rw [List.getElem?_map, hc]; rfl
    have hL1 : (x.slots.map Sl.cells)[c]? = some y.cells := by rw [List.getElem?_map, hy]; rfl
    obtain ⟨t1, hld⟩ : ∃ tl, List.drop i (colC x.cols ++ zC) = D.i c :: tl := by
      obtain ⟨tl, h⟩ := row_drop (sz := 1) (o := 0) zC _ i (cols_each x.cols) hL2 (by omega)
      rw [Nat.mul_one, Nat.add_zero] at h
      exact ⟨tl, h⟩
    obtain ⟨x', hx'⟩ : ∃ x' : Vr, x' = ⟨x.slots.modify (Sch.at_ x stp) fun y => { y with name := stp.slot.name }, x.cols⟩ := ⟨_, rfl⟩
    rw [← hx'] at hF
    rw [hat, modify_set hy] at hx'
    have s1 : Hid (x'.slots = x.slots.set c { y with name := stp.slot.name }) := Lib.hid (by rw [hx'])
    have s2 : Hid (x'.cols = x.cols) := Lib.hid (by rw [hx'])
    have s3 : Hid ((x.slots.set c { y with name := stp.slot.name }).length = x.slots.length) := List.length_set
    have hsp : List.take (c * 7) (slotC x.slots ++ zS) ++ [D.str stp.slot.name] ++ List.drop (c * 7 + 1) (slotC x.slots ++ zS) = slotC (x.slots.set c { y with name := stp.slot.name }) ++ zS := by
      have h := row_splice (o := 0) (ds := [D.str stp.slot.name]) zS _ c (slots_each x.slots) hL1 (by simp)
      rw [show splice y.cells 0 [D.str stp.slot.name] = Sl.cells { y with name := stp.slot.name } from rfl, show (x.slots.map Sl.cells).set c (Sl.cells { y with name := stp.slot.name }) = (x.slots.set c { y with name := stp.slot.name }).map Sl.cells from (List.map_set ..).symm] at h
      exact h
    have hle : c * 7 + 1 ≤ cS * 7 := by
      have := slotC_len x.slots
      rw [List.length_append] at hz1
      omega
    have hl3 : (slotC (x.slots.set c { y with name := stp.slot.name }) ++ zS).length = cS * 7 := by
      rw [List.length_append] at hz1 ⊢
      rw [slotC_len, List.length_set, ← slotC_len]; exact hz1
    clear hx' hat hL1 hL2 hy hc
    generalize Sch.bare stp.slot true false = q at *
    generalize V.isName stp.slot.name.data.toList = qn at *
    generalize Sch.colL x.slots stp.slot.name x.cols = cv at *
    generalize hRE : slotC (x.slots.set c { y with name := stp.slot.name }) = RE at *
    replace hRE := Lib.hid hRE
    replace hl3 := Lib.hid hl3
    cases stp with
    | mk kd col slot order =>
    cases slot with
    | mk nm ty rq dv =>
    cases dv with
    | mk k n sv l =>
    dsimp only at hB hN hC ho hi hF ⊢
    subst hi
    generalize hR1 : slotC x.slots = R1 at *
    generalize hR2 : colC x.cols = R2 at *
    generalize x.slots.map Sl.cells = L1 at *
    generalize x.cols.map encC = L2 at *
    rw [Sl.cells_mk] at *
    dsimp only [List.cons_append, List.nil_append] at hK ⊢
    generalize hm1 : x.slots.length = m1 at *
    generalize hm2 : x.cols.length = m2 at *
    replace hR1 := Lib.hid hR1
    replace hR2 := Lib.hid hR2
    replace hm1 := Lib.hid hm1
    replace hm2 := Lib.hid hm2
    replace hK := Lib.hid hK
    replace hB := Lib.hid hB
    replace hN := Lib.hid hN
    replace hC := Lib.hid hC
    refine trF_enter (ts := [4]) Try.func92 rfl (by rw [Try.ntmps92]; exact Nat.le_of_ble_eq_true rfl) (fun tmps w => by simp [results, Try.results92, go_sem, resVal]) ?_
    simp only [Try.ntmps92]
    repeat' (first | ((with_reducible refine w_draw_ne3 ?_ ?_ ?_ ?_); (iterate 3 (focus kernel_rfl)); intro hne1 hne2 hne3) | ((with_reducible apply ev_go); (focus (try simp (disch := omega) only [push_cast, Nat.reduceEqDiff, reduceCtorEq, ↓reduceIte, Nat.reduceAdd, Nat.reduceMul, Nat.reduceSub, Nat.reduceLT, Nat.reduceLeDiff, Int.reduceToNat, Int.reduceLT, Int.reduceLE, Int.reduceAdd, Int.reduceSub, Int.reduceMul, Int.reduceBEq, Int.reduceBNe, encB, encI, encC, V.cells_mk, V.cells_len, Nat.mul_one, Int.sub_zero, List.map_nil, beq_self_eq_true, List.head?_cons, *]); (try exact rfl); done)) | ((with_reducible refine w_last ?_ ?_ ?_); (focus kernel_rfl); (focus rfl)) | ((with_reducible apply w_stepG); (focus rfl)) | ((with_reducible apply lk_mem); (focus ((repeat (first | exact mm_h | apply mm_t)); done))) | with_reducible (first | refine w_step0 ?_ | refine w_nil ?_ | refine gd_tt ?_ | refine gd_ff ?_ | refine gd_tf ?_ | refine gd_ft ?_ | refine gd_un ?_ | refine s_move ?_ | refine s_assign ?_ | refine s_bin ?_ | refine s_un ?_ | refine s_conv ?_ | refine s_field ?_ | refine s_fieldAddr ?_ | refine s_ext ?_ | refine s_pick ?_ | refine s_nil ?_ | refine s_load ?_ | refine lk_ip ?_ | refine lk_ptr ?_ | refine s_index ?_ | refine s_indexAddr ?_ | refine s_slice ?_ | refine s_build ?_ | refine s_buildSlice ?_ | refine s_mk ?_ | refine s_store ?_ | refine s_alloc ?_ | refine s_call ?_ | refine s_ip ?_ | refine tr_seq ?_ | refine tr_block ?_ | refine tr_skip ?_ | refine tr_ret ?_ | refine tr_exit ?_ | refine tr_label ?_ | refine strip_norm ?_ | refine strip_ret ?_ | refine strip_exit ?_ | refine blk_norm ?_ | refine blk_ret ?_ | refine blk_same ?_ | refine tr_condT ?_ | refine tr_condCt ?_ | refine tr_condCf ?_) | ((with_reducible apply sto_go); (focus (intro cs'; repeat (first | exact ra_h | apply ra_t)))) | ((with_reducible refine al_go ?_); intro b) | ((with_reducible refine And.intro ?_ ?_); (focus ((repeat (first | exact keep_none | exact keep_nil | exact keep_ro | refine keep_cons ?_)); done))) | ((with_reducible apply (ck_lend Try.call103)); (focus exact hK.out); (focus exact ⟨lendP (by repeat (first | exact mm_h | apply mm_t)) (by repeat (first | exact mm_h | apply mm_t)) (by repeat (first | exact mm_h | apply mm_t)) f1.out e1.out l1.out f2.out e2.out l2.out, Lend.refl _, trivial⟩)) | ((with_reducible apply (ck_lend Try.call38)); (focus exact hC.out); (focus exact ⟨Lend.agg ⟨Lend.rowE (by repeat (first | exact mm_h | apply mm_t)) f1.out (by decide) e1.out l1.out, Lend.rowE (by repeat (first | exact mm_h | apply mm_t)) f2.out (by decide) e2.out l2.out, trivial⟩, Lend.refl _, trivial⟩)) | ((with_reducible apply (ck_le Try.call104)); (focus exact LEL.refl _); (focus exact hB.out _)) | ((with_reducible apply (ck_le Try.call86)); (focus exact LEL.refl _); (focus exact hN.out _)) | ((with_reducible refine s_bi ?_ ?_); (focus rfl)) | with_reducible refine blk_ne rfl ?_ | ((with_reducible refine w_region ?_ ?_); (focus kernel_rfl)) | ((with_reducible refine w_draw [] ?_ ?_ ?_ ?_ ?_); (iterate 3 (focus kernel_rfl)); (focus exact keeps_nil)) | ((with_reducible first | refine gd_d1 ?_ ?_ | refine gd_d0 ?_ ?_); all_goals (intro hb; (first | with_reducible replace hb := nt_t hb | with_reducible replace hb := nt_f hb | skip); (first | replace hb := dc_t hb | replace hb := dc_f hb | have hb1 := eq_b hb | have hb1 := ne_b hb | have hb1 := bne_t hb | have hb1 := bne_f hb | skip); (try (exfalso; first | contradiction | omega)))))
    all_goals first
      | ((refine retA_mk (by first | exact .inl rfl | exact .inr rfl) (by first | rfl | assumption) (by (repeat (first | exact List.Sublist.refl _ | apply List.Sublist.cons))) (LE.of_eq ?_) (.inl ⟨?_, rfl, rfl⟩)); (focus simp (disch := omega) only [push_cast, Nat.reduceEqDiff, reduceCtorEq, ↓reduceIte, Nat.reduceAdd, Nat.reduceMul, Nat.reduceSub, Nat.reduceLT, Nat.reduceLeDiff, Int.reduceToNat, Int.reduceLT, Int.reduceLE, Int.reduceAdd, Int.reduceSub, Int.reduceMul, Int.reduceBEq, Int.reduceBNe, encB, encI, encC, V.cells_mk, V.cells_len, Nat.mul_one, Int.sub_zero, List.map_nil, beq_self_eq_true, List.head?_cons, *]); (focus (rw [hF.out]; refine if_neg ?_; rintro ⟨h1, h2, h3, h4⟩; (first | omega | exact Bool.noConfusion (h1.symm.trans (by assumption) : true = false) | exact Bool.noConfusion (h2.symm.trans (by assumption) : true = false) | exact Bool.noConfusion (h3.symm.trans (by assumption) : true = false) | exact Bool.noConfusion (h4.symm.trans (by assumption) : true = false) | (exact Bool.noConfusion (h1 : false = true))))))
      | ((refine retA_mk (by first | exact .inl rfl | exact .inr rfl) (by first | rfl | assumption) (List.Sublist.refl _) (LE.of_eq ?_) (.inr ⟨x', gs, cS, zS, gc, cC, zC, ?_, ⟨?_, ?_⟩, rfl, ?_⟩)); (focus simp (disch := omega) only [push_cast, Nat.reduceEqDiff, reduceCtorEq, ↓reduceIte, Nat.reduceAdd, Nat.reduceMul, Nat.reduceSub, Nat.reduceLT, Nat.reduceLeDiff, Int.reduceToNat, Int.reduceLT, Int.reduceLE, Int.reduceAdd, Int.reduceSub, Int.reduceMul, Int.reduceBEq, Int.reduceBNe, encB, encI, encC, V.cells_mk, V.cells_len, Nat.mul_one, Int.sub_zero, List.map_nil, beq_self_eq_true, List.head?_cons, *]); (focus (rw [hF.out]; refine if_pos ⟨rfl, ?_, ?_, ?_⟩ <;> first | assumption | omega)); (focus (rw [s1.out, hRE.out]; exact hl3.out)); (focus (rw [s2.out, hR2.out]; exact hz2)); (focus (rw [s1.out, s2.out, s3.out, hRE.out, hR2.out, hm2.out])))
end Go.Proofs.Ytooaagmhgakhgaa
end

section
namespace Go.Proofs.Ytooaagmhgakhgaa
set_option linter.unusedSimpArgs false
open Go.RowKit
set_option maxRecDepth 10000
set_option maxHeartbeats 4000000
theorem schWidenF (bx gs cS gc cC : Nat) (zS zC : List D) (x : Vr) (stp : Stp) (hx : VW x) (hs : stp.Ok) (hz : VL cS zS cC zC x) (s : St) : TrF Try.prog 93 [.ptr bx 0, .agg stp.cells] (VB bx gs cS zS gc cC zC x s) (StepR Sch.widenS x stp bx s) := by
  obtain ⟨ls, lc, hcs⟩ := hx
  obtain ⟨hn, hbg, ho⟩ := hs
  obtain ⟨hz1, hz2⟩ := hz
  have hK := schColumnF x stp [] (by omega) (by omega)
  have hB := schBareF stp.slot false true hbg
  have hT := schTakesF stp.slot.types
  have hF : Hid (Sch.widenS x stp = if Sch.column x stp = true ∧ Sch.bare stp.slot false true = true ∧ Sch.takes stp.slot.types = true ∧ (x.slots[Sch.at_ x stp]?).any (fun y => bits .or .i64 y.types stp.slot.types != y.types) = true then some ⟨x.slots.modify (Sch.at_ x stp) fun y => { y with types := bits .or .i64 y.types stp.slot.types }, x.cols⟩ else none) := rfl
  have e1 := Lib.hid (slots_each x.slots)
  have e2 := Lib.hid (cols_each x.cols)
  have f1 := Lib.hid (slotC_flat x)
  have f2 := Lib.hid (colC_flat x)
  have l1 : Hid ((x.slots.map Sl.cells).length = x.slots.length) := List.length_map ..
  have l2 : Hid ((x.cols.map encC).length = x.cols.length) := List.length_map ..
  unfold StepR VL VB Stp.cells
  generalize Sch.widenS x stp = F at *
  cases hcl : Sch.column x stp with
  | false =>
    rw [hcl] at hK hF
    unfold Vr.cells Stp.cells at hK
    clear hcl
    cases stp with
    | mk kd col slot order =>
    cases slot with
    | mk nm ty rq dv =>
    cases dv with
    | mk k n sv l =>
    dsimp only at ho ⊢
    generalize slotC x.slots = R1 at *
    generalize colC x.cols = R2 at *
    generalize x.slots.map Sl.cells = L1 at *
    generalize x.cols.map encC = L2 at *
    rw [Sl.cells_mk] at *
    dsimp only [List.cons_append, List.nil_append] at hK ⊢
    generalize x.slots.length = m1 at *
    generalize x.cols.length = m2 at *
    replace hK := Lib.hid hK
    refine trF_enter (ts := [4]) Try.func93 rfl (by rw [Try.ntmps93]; exact Nat.le_of_ble_eq_true rfl) (fun tmps w => by simp [results, Try.results93, go_sem, resVal]) ?_
    simp only [Try.ntmps93]
    repeat' (first | ((with_reducible apply ev_go); (focus (try simp (disch := omega) only [push_cast, Nat.reduceEqDiff, reduceCtorEq, ↓reduceIte, Nat.reduceAdd, Nat.reduceMul, Nat.reduceSub, Nat.reduceLT, Nat.reduceLeDiff, Int.reduceToNat, Int.reduceLT, Int.reduceLE, Int.reduceAdd, Int.reduceSub, Int.reduceMul, Int.reduceBEq, Int.reduceBNe, encB, encI, encC, V.cells_mk, V.cells_len, Nat.mul_one, Int.sub_zero, List.map_nil, beq_self_eq_true, List.head?_cons, *]); (try exact rfl); done)) | ((with_reducible refine w_last ?_ ?_ ?_); (focus kernel_rfl); (focus rfl)) | ((with_reducible apply w_stepG); (focus rfl)) | ((with_reducible apply lk_mem); (focus ((repeat (first | exact mm_h | apply mm_t)); done))) | with_reducible (first | refine w_step0 ?_ | refine w_nil ?_ | refine gd_tt ?_ | refine gd_ff ?_ | refine gd_tf ?_ | refine gd_ft ?_ | refine gd_un ?_ | refine s_move ?_ | refine s_assign ?_ | refine s_bin ?_ | refine s_un ?_ | refine s_conv ?_ | refine s_field ?_ | refine s_fieldAddr ?_ | refine s_ext ?_ | refine s_pick ?_ | refine s_nil ?_ | refine s_load ?_ | refine lk_ip ?_ | refine lk_ptr ?_ | refine s_index ?_ | refine s_indexAddr ?_ | refine s_slice ?_ | refine s_build ?_ | refine s_buildSlice ?_ | refine s_mk ?_ | refine s_store ?_ | refine s_alloc ?_ | refine s_call ?_ | refine s_ip ?_ | refine tr_seq ?_ | refine tr_block ?_ | refine tr_skip ?_ | refine tr_ret ?_ | refine tr_exit ?_ | refine tr_label ?_ | refine strip_norm ?_ | refine strip_ret ?_ | refine strip_exit ?_ | refine blk_norm ?_ | refine blk_ret ?_ | refine blk_same ?_ | refine tr_condT ?_ | refine tr_condCt ?_ | refine tr_condCf ?_) | ((with_reducible apply sto_go); (focus (intro cs'; repeat (first | exact ra_h | apply ra_t)))) | ((with_reducible refine al_go ?_); intro b) | ((with_reducible refine And.intro ?_ ?_); (focus ((repeat (first | exact keep_none | exact keep_nil | exact keep_ro | refine keep_cons ?_)); done))) | ((with_reducible apply (ck_lend Try.call103)); (focus exact hK.out); (focus exact ⟨lendP (by repeat (first | exact mm_h | apply mm_t)) (by repeat (first | exact mm_h | apply mm_t)) (by repeat (first | exact mm_h | apply mm_t)) f1.out e1.out l1.out f2.out e2.out l2.out, Lend.refl _, trivial⟩)) | ((with_reducible refine s_bi ?_ ?_); (focus rfl)) | with_reducible refine blk_ne rfl ?_ | ((with_reducible refine w_region ?_ ?_); (focus kernel_rfl)) | ((with_reducible refine w_draw [] ?_ ?_ ?_ ?_ ?_); (iterate 3 (focus kernel_rfl)); (focus exact keeps_nil)) | ((with_reducible first | refine gd_d1 ?_ ?_ | refine gd_d0 ?_ ?_); all_goals (intro hb; (first | with_reducible replace hb := nt_t hb | with_reducible replace hb := nt_f hb | skip); (first | replace hb := dc_t hb | replace hb := dc_f hb | have hb1 := eq_b hb | have hb1 := ne_b hb | have hb1 := bne_t hb | have hb1 := bne_f hb | skip); (try (exfalso; first | contradiction | omega)))))
    all_goals ((refine retA_mk (by first | exact .inl rfl | exact .inr rfl) (by first | rfl | assumption) (by (repeat (first | exact List.Sublist.refl _ | apply List.Sublist.cons))) (LE.of_eq ?_) (.inl ⟨?_, rfl, rfl⟩)); (focus simp (disch := omega) only [push_cast, Nat.reduceEqDiff, reduceCtorEq, ↓reduceIte, Nat.reduceAdd, Nat.reduceMul, Nat.reduceSub, Nat.reduceLT, Nat.reduceLeDiff, Int.reduceToNat, Int.reduceLT, Int.reduceLE, Int.reduceAdd, Int.reduceSub, Int.reduceMul, Int.reduceBEq, Int.reduceBNe, encB, encI, encC, V.cells_mk, V.cells_len, Nat.mul_one, Int.sub_zero, List.map_nil, beq_self_eq_true, List.head?_cons, *]); (focus (rw [hF.out]; refine if_neg ?_; rintro ⟨h1, h2, h3, h4⟩; (first | omega | exact Bool.noConfusion (h1.symm.trans (by assumption) : true = false) | exact Bool.noConfusion (h2.symm.trans (by assumption) : true = false) | exact Bool.noConfusion (h3.symm.trans (by assumption) : true = false) | exact Bool.noConfusion (h4.symm.trans (by assumption) : true = false) | (exact Bool.noConfusion (h1 : false = true))))))
  | true =>
    obtain ⟨hk1, hk2, hk3⟩ : 0 ≤ stp.col ∧ stp.col < x.cols.length ∧ stp.order.length = 0 := by
      unfold Sch.column at hcl
      simpa [and_assoc] using hcl
    obtain ⟨i, hi⟩ := Int.eq_ofNat_of_zero_le hk1
    have hlt : i < x.cols.length := by omega
    rw [hcl] at hK hF
    unfold Vr.cells Stp.cells at hK
    clear hcl hk1 hk2
    obtain ⟨c, hc⟩ : ∃ c, x.cols[i]? = some c := ⟨_, List.getElem?_eq_getElem hlt⟩
    have hcm : c < x.slots.length := hcs c (List.mem_of_getElem? hc)
    obtain ⟨y, hy⟩ : ∃ y, x.slots[c]? = some y := ⟨_, List.getElem?_eq_getElem hcm⟩
    have hat : Sch.at_ x stp = c := by
      unfold Sch.at_
      rw [hi, Int.toNat_natCast, List.getD_eq_getElem?_getD, hc]; rfl
    have hL2 : (x.cols.map encC)[i]? = some [D.i c] := by rw [List.getElem?_map, hc]; rfl
    have hL1 : (x.slots.map Sl.cells)[c]? = some y.cells := by rw [List.getElem?_map, hy]; rfl
    obtain ⟨t1, hld⟩ : ∃ tl, List.drop i (colC x.cols ++ zC) = D.i c :: tl := by
      obtain ⟨tl, h⟩ := row_drop (sz := 1) (o := 0) zC _ i (cols_each x.cols) hL2 (by omega)
      rw [Nat.mul_one, Nat.add_zero] at h
      exact ⟨tl, h⟩
    obtain ⟨w, hw⟩ : ∃ w, bits .or .i64 y.types stp.slot.types = w := ⟨_, rfl⟩
    obtain ⟨wb, hwb⟩ : ∃ wb, (w != y.types) = wb := ⟨_, rfl⟩
    obtain ⟨x', hx'⟩ : ∃ x' : Vr, x' = ⟨x.slots.modify (Sch.at_ x stp) fun y => { y with types := bits .or .i64 y.types stp.slot.types }, x.cols⟩ := ⟨_, rfl⟩
    rw [← hx'] at hF
    rw [hat, hy, Option.any_some, hw, hwb] at hF
    rw [hat, modify_set hy] at hx'
    rw [hw] at hx'
    have s1 : Hid (x'.slots = x.slots.set c { y with types := w }) := Lib.hid (by rw [hx'])
    have s2 : Hid (x'.cols = x.cols) := Lib.hid (by rw [hx'])
    have s3 : Hid ((x.slots.set c { y with types := w }).length = x.slots.length) := List.length_set
    have hsp : List.take (c * 7 + 1) (slotC x.slots ++ zS) ++ [D.i w] ++ List.drop (c * 7 + 1 + 1) (slotC x.slots ++ zS) = slotC (x.slots.set c { y with types := w }) ++ zS := by
      have h := row_splice (o := 1) (ds := [D.i w]) zS _ c (slots_each x.slots) hL1 (by simp)
      rw [show splice y.cells 1 [D.i w] = Sl.cells { y with types := w } from rfl, show (x.slots.map Sl.cells).set c (Sl.cells { y with types := w }) = (x.slots.set c { y with types := w }).map Sl.cells from (List.map_set ..).symm] at h
      exact h
    obtain ⟨t2, hld2⟩ : ∃ tl, List.drop (c * 7 + 1) (slotC x.slots ++ zS) = D.i y.types :: tl := by
      obtain ⟨tl, h⟩ := row_drop (sz := 7) (o := 1) zS _ c (slots_each x.slots) hL1 (by omega)
      exact ⟨_, h⟩
    obtain ⟨t3, hld3⟩ : ∃ tl, List.drop (c * 7 + 1) (slotC (x.slots.set c { y with types := w }) ++ zS) = D.i w :: tl := by
      obtain ⟨tl, h⟩ := row_drop (sz := 7) (o := 1) (e := Sl.cells { y with types := w }) zS _ c (slots_each (x.slots.set c { y with types := w })) (by rw [List.getElem?_map, List.getElem?_set_self hcm]; rfl) (by omega)
      exact ⟨_, h⟩
    have hle : c * 7 + 1 + 1 ≤ cS * 7 := by
      have := slotC_len x.slots
      rw [List.length_append] at hz1
      omega
    have hl3 : (slotC (x.slots.set c { y with types := w }) ++ zS).length = cS * 7 := by
      rw [List.length_append] at hz1 ⊢
      rw [slotC_len, List.length_set, ← slotC_len]; exact hz1
    clear hx' hat hL1 hL2 hy hc
    generalize Sch.bare stp.slot false true = q at *
    generalize Sch.takes stp.slot.types = qt at *
    generalize hRE : slotC (x.slots.set c { y with types := w }) = RE at *
    replace hRE := Lib.hid hRE
    replace hl3 := Lib.hid hl3
    generalize y.types = yt at *
    cases stp with
    | mk kd col slot order =>
    cases slot with
    | mk nm ty rq dv =>
    cases dv with
    | mk k n sv l =>
    dsimp only at hB hT ho hi hF ⊢
    subst hi
    generalize hR1 : slotC x.slots = R1 at *
    generalize hR2 : colC x.cols = R2 at *
    generalize x.slots.map Sl.cells = L1 at *
    generalize x.cols.map encC = L2 at *
    rw [Sl.cells_mk] at *
    dsimp only [List.cons_append, List.nil_append] at hK ⊢
    generalize hm1 : x.slots.length = m1 at *
    generalize hm2 : x.cols.length = m2 at *
    replace hR1 := Lib.hid hR1
    replace hR2 := Lib.hid hR2
    replace hm1 := Lib.hid hm1
    replace hm2 := Lib.hid hm2
    replace hK := Lib.hid hK
    replace hB := Lib.hid hB
    replace hT := Lib.hid hT
    cases wb
    all_goals skip
    all_goals (
      refine trF_enter (ts := [4]) Try.func93 rfl (by rw [Try.ntmps93]; exact Nat.le_of_ble_eq_true rfl) (fun tmps w => by simp [results, Try.results93, go_sem, resVal]) ?_
      simp only [Try.ntmps93]
      repeat' (first | ((with_reducible refine w_draw_ne3 ?_ ?_ ?_ ?_); (iterate 3 (focus kernel_rfl)); intro hne1 hne2 hne3) | ((with_reducible apply ev_go); (focus (try simp (disch := omega) only [push_cast, Nat.reduceEqDiff, reduceCtorEq, ↓reduceIte, Nat.reduceAdd, Nat.reduceMul, Nat.reduceSub, Nat.reduceLT, Nat.reduceLeDiff, Int.reduceToNat, Int.reduceLT, Int.reduceLE, Int.reduceAdd, Int.reduceSub, Int.reduceMul, Int.reduceBEq, Int.reduceBNe, encB, encI, encC, V.cells_mk, V.cells_len, Nat.mul_one, Int.sub_zero, List.map_nil, beq_self_eq_true, List.head?_cons, *]); (try exact rfl); done)) | ((with_reducible refine w_last ?_ ?_ ?_); (focus kernel_rfl); (focus rfl)) | ((with_reducible apply w_stepG); (focus rfl)) | ((with_reducible apply lk_mem); (focus ((repeat (first | exact mm_h | apply mm_t)); done))) | with_reducible (first | refine w_step0 ?_ | refine w_nil ?_ | refine gd_tt ?_ | refine gd_ff ?_ | refine gd_tf ?_ | refine gd_ft ?_ | refine gd_un ?_ | refine s_move ?_ | refine s_assign ?_ | refine s_bin ?_ | refine s_un ?_ | refine s_conv ?_ | refine s_field ?_ | refine s_fieldAddr ?_ | refine s_ext ?_ | refine s_pick ?_ | refine s_nil ?_ | refine s_load ?_ | refine lk_ip ?_ | refine lk_ptr ?_ | refine s_index ?_ | refine s_indexAddr ?_ | refine s_slice ?_ | refine s_build ?_ | refine s_buildSlice ?_ | refine s_mk ?_ | refine s_store ?_ | refine s_alloc ?_ | refine s_call ?_ | refine s_ip ?_ | refine tr_seq ?_ | refine tr_block ?_ | refine tr_skip ?_ | refine tr_ret ?_ | refine tr_exit ?_ | refine tr_label ?_ | refine strip_norm ?_ | refine strip_ret ?_ | refine strip_exit ?_ | refine blk_norm ?_ | refine blk_ret ?_ | refine blk_same ?_ | refine tr_condT ?_ | refine tr_condCt ?_ | refine tr_condCf ?_) | ((with_reducible apply sto_go); (focus (intro cs'; repeat (first | exact ra_h | apply ra_t)))) | ((with_reducible refine al_go ?_); intro b) | ((with_reducible refine And.intro ?_ ?_); (focus ((repeat (first | exact keep_none | exact keep_nil | exact keep_ro | refine keep_cons ?_)); done))) | ((with_reducible apply (ck_lend Try.call103)); (focus exact hK.out); (focus exact ⟨lendP (by repeat (first | exact mm_h | apply mm_t)) (by repeat (first | exact mm_h | apply mm_t)) (by repeat (first | exact mm_h | apply mm_t)) f1.out e1.out l1.out f2.out e2.out l2.out, Lend.refl _, trivial⟩)) | ((with_reducible apply (ck_le Try.call104)); (focus exact LEL.refl _); (focus exact hB.out _)) | ((with_reducible apply (ck_le Try.call102)); (focus exact LEL.refl _); (focus exact hT.out _)) | ((with_reducible refine s_bi ?_ ?_); (focus rfl)) | with_reducible refine blk_ne rfl ?_ | ((with_reducible refine w_region ?_ ?_); (focus kernel_rfl)) | ((with_reducible refine w_draw [] ?_ ?_ ?_ ?_ ?_); (iterate 3 (focus kernel_rfl)); (focus exact keeps_nil)) | ((with_reducible first | refine gd_d1 ?_ ?_ | refine gd_d0 ?_ ?_); all_goals (intro hb; (first | with_reducible replace hb := nt_t hb | with_reducible replace hb := nt_f hb | skip); (first | replace hb := dc_t hb | replace hb := dc_f hb | have hb1 := eq_b hb | have hb1 := ne_b hb | have hb1 := bne_t hb | have hb1 := bne_f hb | skip); (try (exfalso; first | contradiction | omega)))))
      all_goals first
        | ((refine retA_mk (by first | exact .inl rfl | exact .inr rfl) (by first | rfl | assumption) (by (repeat (first | exact List.Sublist.refl _ | apply List.Sublist.cons))) (LE.of_eq ?_) (.inl ⟨?_, rfl, rfl⟩)); (focus simp (disch := omega) only [push_cast, Nat.reduceEqDiff, reduceCtorEq, ↓reduceIte, Nat.reduceAdd, Nat.reduceMul, Nat.reduceSub, Nat.reduceLT, Nat.reduceLeDiff, Int.reduceToNat, Int.reduceLT, Int.reduceLE, Int.reduceAdd, Int.reduceSub, Int.reduceMul, Int.reduceBEq, Int.reduceBNe, encB, encI, encC, V.cells_mk, V.cells_len, Nat.mul_one, Int.sub_zero, List.map_nil, beq_self_eq_true, List.head?_cons, *]); (focus (rw [hF.out]; refine if_neg ?_; rintro ⟨h1, h2, h3, h4⟩; (first | omega | exact Bool.noConfusion (h1.symm.trans (by assumption) : true = false) | exact Bool.noConfusion (h2.symm.trans (by assumption) : true = false) | exact Bool.noConfusion (h3.symm.trans (by assumption) : true = false) | exact Bool.noConfusion (h4.symm.trans (by assumption) : true = false) | (exact Bool.noConfusion (h1 : false = true))))))
        | ((refine retA_mk (by first | exact .inl rfl | exact .inr rfl) (by first | rfl | assumption) (by (repeat (first | exact List.Sublist.refl _ | apply List.Sublist.cons))) (LE.of_eq ?_) (.inl ⟨?_, rfl, rfl⟩)); (focus (simp (disch := omega) only [push_cast, Nat.reduceEqDiff, reduceCtorEq, ↓reduceIte, Nat.reduceAdd, Nat.reduceMul, Nat.reduceSub, Nat.reduceLT, Nat.reduceLeDiff, Int.reduceToNat, Int.reduceLT, Int.reduceLE, Int.reduceAdd, Int.reduceSub, Int.reduceMul, Int.reduceBEq, Int.reduceBNe, encB, encI, encC, V.cells_mk, V.cells_len, Nat.mul_one, Int.sub_zero, List.map_nil, beq_self_eq_true, List.head?_cons, *]; done)); (focus (rw [hF.out]; refine if_neg ?_; rintro ⟨h1, h2, h3, h4⟩; exact Bool.noConfusion h4)))
        | ((refine retA_mk (by first | exact .inl rfl | exact .inr rfl) (by first | rfl | assumption) (List.Sublist.refl _) (LE.of_eq ?_) (.inr ⟨x', gs, cS, zS, gc, cC, zC, ?_, ⟨?_, ?_⟩, rfl, ?_⟩)); (focus simp (disch := omega) only [push_cast, Nat.reduceEqDiff, reduceCtorEq, ↓reduceIte, Nat.reduceAdd, Nat.reduceMul, Nat.reduceSub, Nat.reduceLT, Nat.reduceLeDiff, Int.reduceToNat, Int.reduceLT, Int.reduceLE, Int.reduceAdd, Int.reduceSub, Int.reduceMul, Int.reduceBEq, Int.reduceBNe, encB, encI, encC, V.cells_mk, V.cells_len, Nat.mul_one, Int.sub_zero, List.map_nil, beq_self_eq_true, List.head?_cons, *]); (focus (rw [hF.out]; refine if_pos ⟨rfl, ?_, ?_, ?_⟩ <;> first | assumption | omega | rfl)); (focus (rw [s1.out, hRE.out]; exact hl3.out)); (focus (rw [s2.out, hR2.out]; exact hz2)); (focus (rw [s1.out, s2.out, s3.out, hRE.out, hR2.out, hm2.out]))))
end Go.Proofs.Ytooaagmhgakhgaa
end

section
namespace Go.Proofs.Ytooaagmhgakhgaa
set_option linter.unusedSimpArgs false
open Go.RowKit
set_option maxRecDepth 10000
set_option maxHeartbeats 4000000
theorem retA_perm {ts : List Tmp} {R : D → St → Prop} {ex : Exit} {A : AA} {X : D} {st st0 s2 : St} (hex : ex = .normal ∨ ex = .ret) (hdf : A.df = []) (hp : st.Perm s2) (hs : st0.Sublist s2) (hd : LE (resD ts A.e) X) (hR : R X st0) : retA ts R ex A st := by
  rcases hex with rfl | rfl <;> exact ⟨[], X, s2, st0, hdf, hp, hs, hd, hR⟩
theorem reo_drop {cols : List Nat} {order : List Int} {j : Nat} {k : Int} {out : List Nat} (h : order[j]? = some k) : Sch.reo cols (order.drop j) out = if 0 ≤ k ∧ k < cols.length ∧ cols.getD k.toNat 0 ∉ out then Sch.reo cols (order.drop (j + 1)) (out ++ [cols.getD k.toNat 0]) else none := by
  obtain ⟨h1, rfl⟩ := List.getElem?_eq_some_iff.1 h
  rw [List.drop_eq_getElem_cons h1, Sch.reo]
theorem schReorderF (bx gs cS gc cC : Nat) (zS zC : List D) (x : Vr) (stp : Stp) (hx : VW x) (hc1 : 1 ≤ x.cols.length) (hs : stp.Ok) (hz : VL cS zS cC zC x) (s : St) : TrF Try.prog 94 [.ptr bx 0, .agg stp.cells] (VB bx gs cS zS gc cC zC x s) (StepR Sch.reorderS x stp bx s) := by
  obtain ⟨ls, lc, hcs⟩ := hx
  obtain ⟨hn, hbg, ho⟩ := hs
  obtain ⟨hz1, hz2⟩ := hz
  have hB := schBareF stp.slot false false hbg
  have e2 := Lib.hid (cols_each x.cols)
  have f2 := Lib.hid (colC_flat x)
  have l2 : Hid ((x.cols.map encC).length = x.cols.length) := List.length_map ..
  have hF : Hid (Sch.reorderS x stp = if stp.col = 0 ∧ Sch.bare stp.slot false false = true ∧ stp.order.length = x.cols.length then (Sch.reo x.cols stp.order []).map fun c => ⟨x.slots, c⟩ else none) := rfl
  by_cases hno : ¬ (stp.col = 0 ∧ Sch.bare stp.slot false false = true ∧ stp.order.length = x.cols.length)
  · have hF2 : Hid (Sch.reorderS x stp = none) := Lib.hid (by rw [hF.out, if_neg hno])
    unfold StepR VL VB Stp.cells
    generalize Sch.reorderS x stp = F at *
    clear hF
    cases stp with
    | mk kd col slot order =>
    cases slot with
    | mk nm ty rq dv =>
    cases dv with
    | mk k n sv l =>
    dsimp only at hB ho hno ⊢
    generalize Sch.bare _ false false = q at *
    generalize slotC x.slots = R1 at *
    generalize colC x.cols = R2 at *
    rw [Sl.cells_mk] at *
    dsimp only [List.cons_append, List.nil_append] at ⊢
    generalize x.slots.length = m1 at *
    generalize x.cols.length = m2 at *
    replace hB := Lib.hid hB
    have hno' : col ≠ 0 ∨ (col = 0 ∧ q = false) ∨ (col = 0 ∧ q = true ∧ (order.length : Int) ≠ m2) := by
      by_cases h1 : col = 0
      · cases q
        · exact .inr (.inl ⟨h1, rfl⟩)
        · refine .inr (.inr ⟨h1, rfl, fun h => hno ⟨h1, rfl, by omega⟩⟩)
      · exact .inl h1
    clear hno
    rcases hno' with h0 | ⟨rfl, rfl⟩ | ⟨rfl, rfl, h0⟩
    all_goals skip
    all_goals (
      refine trF_enter (ts := [4]) Try.func94 rfl (by rw [Try.ntmps94]; exact Nat.le_of_ble_eq_true rfl) (fun tmps w => by simp [results, Try.results94, go_sem, resVal]) ?_
      simp only [Try.ntmps94]
      repeat' (first | ((with_reducible refine w_draw [(bx, [.ar gs 0 m1 cS, .ar gc 0 m2 cC])] ?_ ?_ ?_ ?_ ?_); (iterate 3 (focus kernel_rfl)); (focus ((repeat (first | exact keep_nil | refine keep_more (by repeat (first | exact mm_h | apply mm_t)) ?_)); done))) | ((with_reducible refine And.intro ?_ ?_); (focus ((repeat (first | exact keep_nil | refine keep_more (by (repeat (first | exact mm_h | apply mm_t)); done) ?_)); done))) | ((with_reducible apply ev_go); (focus (try simp (disch := omega) only [push_cast, Nat.reduceEqDiff, reduceCtorEq, ↓reduceIte, Nat.reduceAdd, Nat.reduceMul, Nat.reduceSub, Nat.reduceLT, Nat.reduceLeDiff, Int.reduceToNat, Int.reduceLT, Int.reduceLE, Int.reduceAdd, Int.reduceSub, Int.reduceMul, Int.reduceBEq, Int.reduceBNe, encB, encI, encC, V.cells_mk, V.cells_len, Nat.mul_one, Int.sub_zero, List.map_nil, beq_self_eq_true, List.head?_cons, *]); (try exact rfl); done)) | ((with_reducible refine w_last ?_ ?_ ?_); (focus kernel_rfl); (focus rfl)) | ((with_reducible apply w_stepG); (focus rfl)) | ((with_reducible apply lk_mem); (focus ((repeat (first | exact mm_h | apply mm_t)); done))) | with_reducible (first | refine w_step0 ?_ | refine w_nil ?_ | refine gd_tt ?_ | refine gd_ff ?_ | refine gd_tf ?_ | refine gd_ft ?_ | refine gd_un ?_ | refine s_move ?_ | refine s_assign ?_ | refine s_bin ?_ | refine s_un ?_ | refine s_conv ?_ | refine s_field ?_ | refine s_fieldAddr ?_ | refine s_ext ?_ | refine s_pick ?_ | refine s_nil ?_ | refine s_load ?_ | refine lk_ip ?_ | refine lk_ptr ?_ | refine s_index ?_ | refine s_indexAddr ?_ | refine s_slice ?_ | refine s_build ?_ | refine s_buildSlice ?_ | refine s_mk ?_ | refine s_store ?_ | refine s_alloc ?_ | refine s_call ?_ | refine s_ip ?_ | refine tr_seq ?_ | refine tr_block ?_ | refine tr_skip ?_ | refine tr_ret ?_ | refine tr_exit ?_ | refine tr_label ?_ | refine strip_norm ?_ | refine strip_ret ?_ | refine strip_exit ?_ | refine blk_norm ?_ | refine blk_ret ?_ | refine blk_same ?_ | refine tr_condT ?_ | refine tr_condCt ?_ | refine tr_condCf ?_) | ((with_reducible apply sto_go); (focus (intro cs'; repeat (first | exact ra_h | apply ra_t)))) | ((with_reducible refine al_go ?_); intro b) | ((with_reducible refine And.intro ?_ ?_); (focus ((repeat (first | exact keep_none | exact keep_nil | exact keep_ro | refine keep_cons ?_)); done))) | ((with_reducible apply (ck_le Try.call104)); (focus exact LEL.refl _); (focus exact hB.out _)) | ((with_reducible refine s_bi ?_ ?_); (focus rfl)) | with_reducible refine blk_ne rfl ?_ | ((with_reducible refine w_region ?_ ?_); (focus kernel_rfl)) | ((with_reducible refine w_draw [] ?_ ?_ ?_ ?_ ?_); (iterate 3 (focus kernel_rfl)); (focus exact keeps_nil)) | ((with_reducible first | refine gd_d1 ?_ ?_ | refine gd_d0 ?_ ?_); all_goals (intro hb; (first | with_reducible replace hb := nt_t hb | with_reducible replace hb := nt_f hb | skip); (first | replace hb := dc_t hb | replace hb := dc_f hb | have hb1 := eq_b hb | have hb1 := ne_b hb | have hb1 := bne_t hb | have hb1 := bne_f hb | skip); (try (exfalso; first | contradiction | omega)))))
      all_goals ((refine retA_mk (by first | exact .inl rfl | exact .inr rfl) (by first | rfl | assumption) (by (repeat (first | exact List.Sublist.refl _ | apply List.Sublist.cons))) (LE.of_eq ?_) (.inl ⟨hF2.out, rfl, rfl⟩)); simp (disch := omega) only [push_cast, Nat.reduceEqDiff, reduceCtorEq, ↓reduceIte, Nat.reduceAdd, Nat.reduceMul, Nat.reduceSub, Nat.reduceLT, Nat.reduceLeDiff, Int.reduceToNat, Int.reduceLT, Int.reduceLE, Int.reduceAdd, Int.reduceSub, Int.reduceMul, Int.reduceBEq, Int.reduceBNe, encB, encI, encC, V.cells_mk, V.cells_len, Nat.mul_one, Int.sub_zero, List.map_nil, beq_self_eq_true, List.head?_cons, *]))
  have hyes := Decidable.of_not_not hno
  obtain ⟨h1, h2, h3⟩ := hyes
  have hF2 : Hid (Sch.reorderS x stp = (Sch.reo x.cols stp.order []).map fun c => ⟨x.slots, c⟩) := Lib.hid (by rw [hF.out, if_pos ⟨h1, h2, h3⟩])
  clear hF hno
  rw [h2] at hB
  clear h2
  have hcl := colC_len x.cols
  have hle2 : x.cols.length ≤ cC := by rw [List.length_append] at hz2; omega
  have hcell : Hid (∀ (i c : Nat), x.cols[i]? = some c → ∃ tl, List.drop i (colC x.cols ++ zC) = D.i c :: tl) := fun i c hc => by
    have hL2 : (x.cols.map encC)[i]? = some [D.i c] := by rw [List.getElem?_map, hc]; rfl
    obtain ⟨tl, h⟩ := row_drop (sz := 1) (o := 0) zC _ i (cols_each x.cols) hL2 (by omega)
    rw [Nat.mul_one, Nat.add_zero] at h
    exact ⟨tl, h⟩
  unfold StepR VL VB Stp.cells
  generalize Sch.reorderS x stp = F at *
  cases stp with
  | mk kd col slot order =>
  cases slot with
  | mk nm ty rq dv =>
  cases dv with
  | mk k n sv l =>
  dsimp only at hB ho h1 h3 hF2 ⊢
  subst h1
  rw [Sl.cells_mk] at *
  dsimp only [List.cons_append, List.nil_append] at ⊢
  obtain ⟨R1, hR1⟩ : ∃ R1, slotC x.slots = R1 := ⟨_, rfl⟩
  obtain ⟨R2, hR2⟩ : ∃ R2, colC x.cols = R2 := ⟨_, rfl⟩
  obtain ⟨m1, hm1⟩ : ∃ m1, x.slots.length = m1 := ⟨_, rfl⟩
  obtain ⟨m2, hm2⟩ : ∃ m2, x.cols.length = m2 := ⟨_, rfl⟩
  simp only [hR1, hR2, hm1, hm2] at hz1 hz2 hcl hle2 h3 hc1 hcell lc ls ⊢
  replace hR1 := Lib.hid hR1
  replace hR2 := Lib.hid hR2
  replace hm1 := Lib.hid hm1
  replace hm2 := Lib.hid hm2
  replace hB := Lib.hid hB
  obtain ⟨B, hBr⟩ : ∃ B, Sch.reo x.cols order [] = B := ⟨_, rfl⟩
  have HB : Hid (Sch.reo x.cols (order.drop 0) [] = B) := hBr
  rw [hBr] at hF2
  clear hBr
  refine trF_enter (ts := [4]) Try.func94 rfl (by rw [Try.ntmps94]; exact Nat.le_of_ble_eq_true rfl) (fun tmps w => by simp [results, Try.results94, go_sem, resVal]) ?_
  simp only [Try.ntmps94]
  repeat' (first | ((with_reducible refine w_draw [(bx, [.ar gs 0 m1 cS, .ar gc 0 m2 cC])] ?_ ?_ ?_ ?_ ?_); (iterate 3 (focus kernel_rfl)); (focus ((repeat (first | exact keep_nil | refine keep_more (by repeat (first | exact mm_h | apply mm_t)) ?_)); done))) | ((with_reducible refine And.intro ?_ ?_); (focus ((repeat (first | exact keep_nil | refine keep_more (by (repeat (first | exact mm_h | apply mm_t)); done) ?_)); done))) | ((with_reducible apply ev_go); (focus (try simp (disch := omega) only [push_cast, Nat.reduceEqDiff, reduceCtorEq, ↓reduceIte, Nat.reduceAdd, Nat.reduceMul, Nat.reduceSub, Nat.reduceLT, Nat.reduceLeDiff, Int.reduceToNat, Int.reduceLT, Int.reduceLE, Int.reduceAdd, Int.reduceSub, Int.reduceMul, Int.reduceBEq, Int.reduceBNe, encB, encI, encC, V.cells_mk, V.cells_len, Nat.mul_one, Int.sub_zero, List.map_nil, beq_self_eq_true, List.head?_cons, *]); (try exact rfl); done)) | ((with_reducible refine w_last ?_ ?_ ?_); (focus kernel_rfl); (focus rfl)) | ((with_reducible apply w_stepG); (focus rfl)) | ((with_reducible apply lk_mem); (focus ((repeat (first | exact mm_h | apply mm_t)); done))) | with_reducible (first | refine w_step0 ?_ | refine w_nil ?_ | refine gd_tt ?_ | refine gd_ff ?_ | refine gd_tf ?_ | refine gd_ft ?_ | refine gd_un ?_ | refine s_move ?_ | refine s_assign ?_ | refine s_bin ?_ | refine s_un ?_ | refine s_conv ?_ | refine s_field ?_ | refine s_fieldAddr ?_ | refine s_ext ?_ | refine s_pick ?_ | refine s_nil ?_ | refine s_load ?_ | refine lk_ip ?_ | refine lk_ptr ?_ | refine s_index ?_ | refine s_indexAddr ?_ | refine s_slice ?_ | refine s_build ?_ | refine s_buildSlice ?_ | refine s_mk ?_ | refine s_store ?_ | refine s_alloc ?_ | refine s_call ?_ | refine s_ip ?_ | refine tr_seq ?_ | refine tr_block ?_ | refine tr_skip ?_ | refine tr_ret ?_ | refine tr_exit ?_ | refine tr_label ?_ | refine strip_norm ?_ | refine strip_ret ?_ | refine strip_exit ?_ | refine blk_norm ?_ | refine blk_ret ?_ | refine blk_same ?_ | refine tr_condT ?_ | refine tr_condCt ?_ | refine tr_condCf ?_) | ((with_reducible apply sto_go); (focus (intro cs'; repeat (first | exact ra_h | apply ra_t)))) | ((with_reducible refine al_go ?_); intro b) | ((with_reducible refine And.intro ?_ ?_); (focus ((repeat (first | exact keep_none | exact keep_nil | exact keep_ro | refine keep_cons ?_)); done))) | ((with_reducible apply (ck_le Try.call104)); (focus exact LEL.refl _); (focus exact hB.out _)) | ((with_reducible refine s_bi ?_ ?_); (focus rfl)) | with_reducible refine blk_ne rfl ?_ | ((with_reducible refine w_region ?_ ?_); (focus kernel_rfl)) | ((with_reducible refine w_draw [] ?_ ?_ ?_ ?_ ?_); (iterate 3 (focus kernel_rfl)); (focus exact keeps_nil)) | ((with_reducible first | refine gd_d1 ?_ ?_ | refine gd_d0 ?_ ?_); all_goals (intro hb; (first | with_reducible replace hb := nt_t hb | with_reducible replace hb := nt_f hb | skip); (first | replace hb := dc_t hb | replace hb := dc_f hb | have hb1 := eq_b hb | have hb1 := ne_b hb | have hb1 := bne_t hb | have hb1 := bne_f hb | skip); (try (exfalso; first | contradiction | omega)))))
  refine tr_loopd (ι := Nat) (fun j A st' => j ≤ order.length ∧ A.df = [] ∧ A.e 0 = .ptr bx 0 ∧ A.e 29 = .sl .shared (order.map encI) ∧ A.e 30 = .i order.length ∧ A.e 31 = .i j ∧ ∃ out : List Nat, out.length = j ∧ Hid (Sch.reo x.cols (order.drop j) out = B) ∧ ((j = 0 ∧ A.e 5 = .sl .tight [] ∧ st' = .box bx 38 [.ar gs 0 m1 cS, .ar gc 0 m2 cC] :: .box gs 26 (R1 ++ zS) :: .box gc 3 (R2 ++ zC) :: s) ∨
    (0 < j ∧ ∃ go co zo, A.e 5 = .ar go 0 j co ∧ (colC out ++ zo).length = co * 1 ∧ st' = .box go 3 (colC out ++ zo) :: .box bx 38 [.ar gs 0 m1 cS, .ar gc 0 m2 cC] :: .box gs 26 (R1 ++ zS) :: .box gc 3 (R2 ++ zC) :: s))) (fun j => order.length - j) 0 ⟨Nat.zero_le _, by (first | rfl | assumption | omega | (simp (disch := omega) only [push_cast, Nat.reduceEqDiff, reduceCtorEq, ↓reduceIte, Nat.reduceAdd, Nat.reduceMul, Nat.reduceSub, Nat.reduceLT, Nat.reduceLeDiff, Int.reduceToNat, Int.reduceLT, Int.reduceLE, Int.reduceAdd, Int.reduceSub, Int.reduceMul, Int.reduceBEq, Int.reduceBNe, encB, encI, encC, V.cells_mk, V.cells_len, Nat.mul_one, Int.sub_zero, List.map_nil, beq_self_eq_true, List.head?_cons, *]; try omega; done)), by (first | rfl | assumption | omega | (simp (disch := omega) only [push_cast, Nat.reduceEqDiff, reduceCtorEq, ↓reduceIte, Nat.reduceAdd, Nat.reduceMul, Nat.reduceSub, Nat.reduceLT, Nat.reduceLeDiff, Int.reduceToNat, Int.reduceLT, Int.reduceLE, Int.reduceAdd, Int.reduceSub, Int.reduceMul, Int.reduceBEq, Int.reduceBNe, encB, encI, encC, V.cells_mk, V.cells_len, Nat.mul_one, Int.sub_zero, List.map_nil, beq_self_eq_true, List.head?_cons, *]; try omega; done)), by (first | rfl | assumption | omega | (simp (disch := omega) only [push_cast, Nat.reduceEqDiff, reduceCtorEq, ↓reduceIte, Nat.reduceAdd, Nat.reduceMul, Nat.reduceSub, Nat.reduceLT, Nat.reduceLeDiff, Int.reduceToNat, Int.reduceLT, Int.reduceLE, Int.reduceAdd, Int.reduceSub, Int.reduceMul, Int.reduceBEq, Int.reduceBNe, encB, encI, encC, V.cells_mk, V.cells_len, Nat.mul_one, Int.sub_zero, List.map_nil, beq_self_eq_true, List.head?_cons, *]; try omega; done)), by (first | rfl | assumption | omega | (simp (disch := omega) only [push_cast, Nat.reduceEqDiff, reduceCtorEq, ↓reduceIte, Nat.reduceAdd, Nat.reduceMul, Nat.reduceSub, Nat.reduceLT, Nat.reduceLeDiff, Int.reduceToNat, Int.reduceLT, Int.reduceLE, Int.reduceAdd, Int.reduceSub, Int.reduceMul, Int.reduceBEq, Int.reduceBNe, encB, encI, encC, V.cells_mk, V.cells_len, Nat.mul_one, Int.sub_zero, List.map_nil, beq_self_eq_true, List.head?_cons, *]; try omega; done)), by (first | rfl | assumption | omega | (simp (disch := omega) only [push_cast, Nat.reduceEqDiff, reduceCtorEq, ↓reduceIte, Nat.reduceAdd, Nat.reduceMul, Nat.reduceSub, Nat.reduceLT, Nat.reduceLeDiff, Int.reduceToNat, Int.reduceLT, Int.reduceLE, Int.reduceAdd, Int.reduceSub, Int.reduceMul, Int.reduceBEq, Int.reduceBNe, encB, encI, encC, V.cells_mk, V.cells_len, Nat.mul_one, Int.sub_zero, List.map_nil, beq_self_eq_true, List.head?_cons, *]; try omega; done)), [], rfl, HB, .inl ⟨rfl, by (first | rfl | assumption | omega | (simp (disch := omega) only [push_cast, Nat.reduceEqDiff, reduceCtorEq, ↓reduceIte, Nat.reduceAdd, Nat.reduceMul, Nat.reduceSub, Nat.reduceLT, Nat.reduceLeDiff, Int.reduceToNat, Int.reduceLT, Int.reduceLE, Int.reduceAdd, Int.reduceSub, Int.reduceMul, Int.reduceBEq, Int.reduceBNe, encB, encI, encC, V.cells_mk, V.cells_len, Nat.mul_one, Int.sub_zero, List.map_nil, beq_self_eq_true, List.head?_cons, *]; try omega; done)), rfl⟩⟩ ?_
  rintro j A st' ⟨hj, hdf, e0, e29, e30, e31, out, hol, HT, hcase⟩
  clear HB
  by_cases hlt : j < order.length
  · obtain ⟨k, hk⟩ : ∃ k, order[j]? = some k := ⟨_, List.getElem?_eq_getElem hlt⟩
    have HE := HT.out
    rw [reo_drop hk, hm2.out] at HE
    clear HT
    by_cases hkr : 0 ≤ k ∧ k < (m2 : Int)
    · obtain ⟨hk0, hk1⟩ := hkr
      obtain ⟨kn, rfl⟩ := Int.eq_ofNat_of_zero_le hk0
      obtain ⟨c, hc⟩ : ∃ c, x.cols[kn]? = some c := ⟨_, List.getElem?_eq_getElem (by rw [hm2.out]; omega)⟩
      obtain ⟨t1, hld⟩ := hcell.out kn c hc
      have hgd : x.cols.getD kn 0 = c := by rw [List.getD_eq_getElem?_getD, hc]; rfl
      rw [Int.toNat_natCast, hgd] at HE
      have hCt := containsF .shared out c []
      have f3 : Hid ((out.map encC).flatten = colC out) := rfl
      have e3 := Lib.hid (cols_each out)
      have l3 : Hid ((out.map encC).length = j) := Lib.hid (by rw [List.length_map, hol])
      have g3 := Lib.hid (colC_add out c)
      have hro : (colC out).length = j * 1 := by rw [colC_len, hol]
      clear hgd hc
      by_cases hmem : c ∈ out
      · rw [if_neg (fun h => h.2.2 hmem)] at HE
        replace HE := Lib.hid HE
        rw [decide_eq_true hmem] at hCt
        replace hCt := Lib.hid hCt
        rcases hcase with ⟨rfl, e5, rfl⟩ | ⟨hj0, go, co, zo, e5, hlo, rfl⟩
        · rw [List.eq_nil_of_length_eq_zero hol] at hmem; cases hmem
        · generalize colC out = Ro at *
          generalize out.map encC = Lo at *
          repeat' (first | ((with_reducible apply ev_go); (focus (try simp (disch := omega) only [push_cast, Nat.reduceEqDiff, reduceCtorEq, ↓reduceIte, Nat.reduceAdd, Nat.reduceMul, Nat.reduceSub, Nat.reduceLT, Nat.reduceLeDiff, Int.reduceToNat, Int.reduceLT, Int.reduceLE, Int.reduceAdd, Int.reduceSub, Int.reduceMul, Int.reduceBEq, Int.reduceBNe, encB, encI, encC, V.cells_mk, V.cells_len, Nat.mul_one, Int.sub_zero, List.map_nil, beq_self_eq_true, List.head?_cons, *]); (try exact rfl); done)) | ((with_reducible refine w_last ?_ ?_ ?_); (focus kernel_rfl); (focus rfl)) | ((with_reducible apply w_stepG); (focus rfl)) | ((with_reducible apply lk_mem); (focus ((repeat (first | exact mm_h | apply mm_t)); done))) | with_reducible (first | refine w_step0 ?_ | refine w_nil ?_ | refine gd_tt ?_ | refine gd_ff ?_ | refine gd_tf ?_ | refine gd_ft ?_ | refine gd_un ?_ | refine s_move ?_ | refine s_assign ?_ | refine s_bin ?_ | refine s_un ?_ | refine s_conv ?_ | refine s_field ?_ | refine s_fieldAddr ?_ | refine s_ext ?_ | refine s_pick ?_ | refine s_nil ?_ | refine s_load ?_ | refine lk_ip ?_ | refine lk_ptr ?_ | refine s_index ?_ | refine s_indexAddr ?_ | refine s_slice ?_ | refine s_build ?_ | refine s_buildSlice ?_ | refine s_mk ?_ | refine s_store ?_ | refine s_alloc ?_ | refine s_call ?_ | refine s_ip ?_ | refine tr_seq ?_ | refine tr_block ?_ | refine tr_skip ?_ | refine tr_ret ?_ | refine tr_exit ?_ | refine tr_label ?_ | refine strip_norm ?_ | refine strip_ret ?_ | refine strip_exit ?_ | refine blk_norm ?_ | refine blk_ret ?_ | refine blk_same ?_ | refine tr_condT ?_ | refine tr_condCt ?_ | refine tr_condCf ?_) | ((with_reducible apply sto_go); (focus (intro cs'; repeat (first | exact ra_h | apply ra_t)))) | ((with_reducible refine al_go ?_); intro b) | ((with_reducible refine And.intro ?_ ?_); (focus ((repeat (first | exact keep_none | exact keep_nil | exact keep_ro | refine keep_cons ?_)); done))) | ((with_reducible apply (ck_lend Try.call106)); (focus exact hCt.out); (focus exact ⟨Lend.rowE (by repeat (first | exact mm_h | apply mm_t)) f3.out (by decide) e3.out l3.out, Lend.refl _, trivial⟩)) | ((with_reducible refine s_bi ?_ ?_); (focus rfl)) | with_reducible refine blk_ne rfl ?_ | ((with_reducible refine w_region ?_ ?_); (focus kernel_rfl)) | ((with_reducible refine w_draw [] ?_ ?_ ?_ ?_ ?_); (iterate 3 (focus kernel_rfl)); (focus exact keeps_nil)) | ((with_reducible first | refine gd_d1 ?_ ?_ | refine gd_d0 ?_ ?_); all_goals (intro hb; (first | with_reducible replace hb := nt_t hb | with_reducible replace hb := nt_f hb | skip); (first | replace hb := dc_t hb | replace hb := dc_f hb | have hb1 := eq_b hb | have hb1 := ne_b hb | have hb1 := bne_t hb | have hb1 := bne_f hb | skip); (try (exfalso; first | contradiction | omega)))))
          all_goals ((refine retA_mk (by first | exact .inl rfl | exact .inr rfl) (by first | rfl | assumption) (by (repeat (first | exact List.Sublist.refl _ | apply List.Sublist.cons))) (LE.of_eq ?_) (.inl ⟨by rw [hF2.out, ← HE.out]; rfl, rfl, rfl⟩)); simp (disch := omega) only [push_cast, Nat.reduceEqDiff, reduceCtorEq, ↓reduceIte, Nat.reduceAdd, Nat.reduceMul, Nat.reduceSub, Nat.reduceLT, Nat.reduceLeDiff, Int.reduceToNat, Int.reduceLT, Int.reduceLE, Int.reduceAdd, Int.reduceSub, Int.reduceMul, Int.reduceBEq, Int.reduceBNe, encB, encI, encC, V.cells_mk, V.cells_len, Nat.mul_one, Int.sub_zero, List.map_nil, beq_self_eq_true, List.head?_cons, *])
      · rw [if_pos ⟨hk0, hk1, hmem⟩] at HE
        replace HE := Lib.hid HE
        rw [decide_eq_false hmem] at hCt
        replace hCt := Lib.hid hCt
        rcases hcase with ⟨rfl, e5, rfl⟩ | ⟨hj0, go, co, zo, e5, hlo, rfl⟩
        · have hno := List.eq_nil_of_length_eq_zero hol
          subst hno
          rw [List.map_nil] at hCt
          repeat' (first | with_reducible refine s_appN ?_ | with_reducible refine rn_go ?_ | ((with_reducible apply rn2_go); (focus (simp only [List.length_cons, List.length_nil]; omega)); (focus exact len_one rfl); (focus (simp only [List.length_cons, List.length_nil]; omega)); (focus (simp only [List.length_cons, List.length_nil]; omega)); intro go' co' zo' hco hlo') | ((with_reducible apply ev_go); (focus (try simp (disch := omega) only [push_cast, Nat.reduceEqDiff, reduceCtorEq, ↓reduceIte, Nat.reduceAdd, Nat.reduceMul, Nat.reduceSub, Nat.reduceLT, Nat.reduceLeDiff, Int.reduceToNat, Int.reduceLT, Int.reduceLE, Int.reduceAdd, Int.reduceSub, Int.reduceMul, Int.reduceBEq, Int.reduceBNe, encB, encI, encC, V.cells_mk, V.cells_len, Nat.mul_one, Int.sub_zero, List.map_nil, beq_self_eq_true, List.head?_cons, *]); (try exact rfl); done)) | ((with_reducible refine w_last ?_ ?_ ?_); (focus kernel_rfl); (focus rfl)) | ((with_reducible apply w_stepG); (focus rfl)) | ((with_reducible apply lk_mem); (focus ((repeat (first | exact mm_h | apply mm_t)); done))) | with_reducible (first | refine w_step0 ?_ | refine w_nil ?_ | refine gd_tt ?_ | refine gd_ff ?_ | refine gd_tf ?_ | refine gd_ft ?_ | refine gd_un ?_ | refine s_move ?_ | refine s_assign ?_ | refine s_bin ?_ | refine s_un ?_ | refine s_conv ?_ | refine s_field ?_ | refine s_fieldAddr ?_ | refine s_ext ?_ | refine s_pick ?_ | refine s_nil ?_ | refine s_load ?_ | refine lk_ip ?_ | refine lk_ptr ?_ | refine s_index ?_ | refine s_indexAddr ?_ | refine s_slice ?_ | refine s_build ?_ | refine s_buildSlice ?_ | refine s_mk ?_ | refine s_store ?_ | refine s_alloc ?_ | refine s_call ?_ | refine s_ip ?_ | refine tr_seq ?_ | refine tr_block ?_ | refine tr_skip ?_ | refine tr_ret ?_ | refine tr_exit ?_ | refine tr_label ?_ | refine strip_norm ?_ | refine strip_ret ?_ | refine strip_exit ?_ | refine blk_norm ?_ | refine blk_ret ?_ | refine blk_same ?_ | refine tr_condT ?_ | refine tr_condCt ?_ | refine tr_condCf ?_) | ((with_reducible apply sto_go); (focus (intro cs'; repeat (first | exact ra_h | apply ra_t)))) | ((with_reducible refine al_go ?_); intro b) | ((with_reducible refine And.intro ?_ ?_); (focus ((repeat (first | exact keep_none | exact keep_nil | exact keep_ro | refine keep_cons ?_)); done))) | ((with_reducible apply (ck_lend Try.call106)); (focus exact hCt.out); (focus exact ⟨Lend.sl _ _, Lend.refl _, trivial⟩)) | ((with_reducible refine s_bi ?_ ?_); (focus rfl)) | with_reducible refine blk_ne rfl ?_ | ((with_reducible refine w_region ?_ ?_); (focus kernel_rfl)) | ((with_reducible refine w_draw [] ?_ ?_ ?_ ?_ ?_); (iterate 3 (focus kernel_rfl)); (focus exact keeps_nil)) | ((with_reducible first | refine gd_d1 ?_ ?_ | refine gd_d0 ?_ ?_); all_goals (intro hb; (first | with_reducible replace hb := nt_t hb | with_reducible replace hb := nt_f hb | skip); (first | replace hb := dc_t hb | replace hb := dc_f hb | have hb1 := eq_b hb | have hb1 := ne_b hb | have hb1 := bne_t hb | have hb1 := bne_f hb | skip); (try (exfalso; first | contradiction | omega)))))
          refine ⟨1, .box go' 3 ([[.i c]].flatten ++ zo') :: .box bx 38 [.ar gs 0 m1 cS, .ar gc 0 m2 cC] :: .box gs 26 (R1 ++ zS) :: .box gc 3 (R2 ++ zC) :: s, (by (repeat (first | exact List.Sublist.refl _ | apply List.Sublist.cons))), ⟨hlt, ?_, ?_, ?_, ?_, ?_, [c], rfl, HE, .inr ⟨Nat.zero_lt_one, go', co', zo', ?_, ?_, ?_⟩⟩, ?_⟩
          · (first | rfl | assumption | omega | (simp (disch := omega) only [push_cast, Nat.reduceEqDiff, reduceCtorEq, ↓reduceIte, Nat.reduceAdd, Nat.reduceMul, Nat.reduceSub, Nat.reduceLT, Nat.reduceLeDiff, Int.reduceToNat, Int.reduceLT, Int.reduceLE, Int.reduceAdd, Int.reduceSub, Int.reduceMul, Int.reduceBEq, Int.reduceBNe, encB, encI, encC, V.cells_mk, V.cells_len, Nat.mul_one, Int.sub_zero, List.map_nil, beq_self_eq_true, List.head?_cons, *]; try omega; done))
          · (first | rfl | assumption | omega | (simp (disch := omega) only [push_cast, Nat.reduceEqDiff, reduceCtorEq, ↓reduceIte, Nat.reduceAdd, Nat.reduceMul, Nat.reduceSub, Nat.reduceLT, Nat.reduceLeDiff, Int.reduceToNat, Int.reduceLT, Int.reduceLE, Int.reduceAdd, Int.reduceSub, Int.reduceMul, Int.reduceBEq, Int.reduceBNe, encB, encI, encC, V.cells_mk, V.cells_len, Nat.mul_one, Int.sub_zero, List.map_nil, beq_self_eq_true, List.head?_cons, *]; try omega; done))
          · (first | rfl | assumption | omega | (simp (disch := omega) only [push_cast, Nat.reduceEqDiff, reduceCtorEq, ↓reduceIte, Nat.reduceAdd, Nat.reduceMul, Nat.reduceSub, Nat.reduceLT, Nat.reduceLeDiff, Int.reduceToNat, Int.reduceLT, Int.reduceLE, Int.reduceAdd, Int.reduceSub, Int.reduceMul, Int.reduceBEq, Int.reduceBNe, encB, encI, encC, V.cells_mk, V.cells_len, Nat.mul_one, Int.sub_zero, List.map_nil, beq_self_eq_true, List.head?_cons, *]; try omega; done))
          · (first | rfl | assumption | omega | (simp (disch := omega) only [push_cast, Nat.reduceEqDiff, reduceCtorEq, ↓reduceIte, Nat.reduceAdd, Nat.reduceMul, Nat.reduceSub, Nat.reduceLT, Nat.reduceLeDiff, Int.reduceToNat, Int.reduceLT, Int.reduceLE, Int.reduceAdd, Int.reduceSub, Int.reduceMul, Int.reduceBEq, Int.reduceBNe, encB, encI, encC, V.cells_mk, V.cells_len, Nat.mul_one, Int.sub_zero, List.map_nil, beq_self_eq_true, List.head?_cons, *]; try omega; done))
          · (first | rfl | assumption | omega | (simp (disch := omega) only [push_cast, Nat.reduceEqDiff, reduceCtorEq, ↓reduceIte, Nat.reduceAdd, Nat.reduceMul, Nat.reduceSub, Nat.reduceLT, Nat.reduceLeDiff, Int.reduceToNat, Int.reduceLT, Int.reduceLE, Int.reduceAdd, Int.reduceSub, Int.reduceMul, Int.reduceBEq, Int.reduceBNe, encB, encI, encC, V.cells_mk, V.cells_len, Nat.mul_one, Int.sub_zero, List.map_nil, beq_self_eq_true, List.head?_cons, *]; try omega; done))
          · (first | rfl | assumption | omega | (simp (disch := omega) only [push_cast, Nat.reduceEqDiff, reduceCtorEq, ↓reduceIte, Nat.reduceAdd, Nat.reduceMul, Nat.reduceSub, Nat.reduceLT, Nat.reduceLeDiff, Int.reduceToNat, Int.reduceLT, Int.reduceLE, Int.reduceAdd, Int.reduceSub, Int.reduceMul, Int.reduceBEq, Int.reduceBNe, encB, encI, encC, V.cells_mk, V.cells_len, Nat.mul_one, Int.sub_zero, List.map_nil, beq_self_eq_true, List.head?_cons, *]; try omega; done))
          · exact hlo'
          · rfl
          · omega
        · generalize colC out = Ro at *
          generalize out.map encC = Lo at *
          repeat' (first | with_reducible refine s_appR ?_ | with_reducible refine rk_go ?_ | ((with_reducible apply (r2_go hro hlo)); (focus (intro g' cs'; repeat (first | exact ra_h | apply ra_t))); (focus exact len_one rfl); (focus (simp only [List.length_cons, List.length_nil]; omega)); (focus (simp only [List.length_cons, List.length_nil]; omega)); intro go' co' zo' hco hlo') | ((with_reducible apply ev_go); (focus (try simp (disch := omega) only [push_cast, Nat.reduceEqDiff, reduceCtorEq, ↓reduceIte, Nat.reduceAdd, Nat.reduceMul, Nat.reduceSub, Nat.reduceLT, Nat.reduceLeDiff, Int.reduceToNat, Int.reduceLT, Int.reduceLE, Int.reduceAdd, Int.reduceSub, Int.reduceMul, Int.reduceBEq, Int.reduceBNe, encB, encI, encC, V.cells_mk, V.cells_len, Nat.mul_one, Int.sub_zero, List.map_nil, beq_self_eq_true, List.head?_cons, *]); (try exact rfl); done)) | ((with_reducible refine w_last ?_ ?_ ?_); (focus kernel_rfl); (focus rfl)) | ((with_reducible apply w_stepG); (focus rfl)) | ((with_reducible apply lk_mem); (focus ((repeat (first | exact mm_h | apply mm_t)); done))) | with_reducible (first | refine w_step0 ?_ | refine w_nil ?_ | refine gd_tt ?_ | refine gd_ff ?_ | refine gd_tf ?_ | refine gd_ft ?_ | refine gd_un ?_ | refine s_move ?_ | refine s_assign ?_ | refine s_bin ?_ | refine s_un ?_ | refine s_conv ?_ | refine s_field ?_ | refine s_fieldAddr ?_ | refine s_ext ?_ | refine s_pick ?_ | refine s_nil ?_ | refine s_load ?_ | refine lk_ip ?_ | refine lk_ptr ?_ | refine s_index ?_ | refine s_indexAddr ?_ | refine s_slice ?_ | refine s_build ?_ | refine s_buildSlice ?_ | refine s_mk ?_ | refine s_store ?_ | refine s_alloc ?_ | refine s_call ?_ | refine s_ip ?_ | refine tr_seq ?_ | refine tr_block ?_ | refine tr_skip ?_ | refine tr_ret ?_ | refine tr_exit ?_ | refine tr_label ?_ | refine strip_norm ?_ | refine strip_ret ?_ | refine strip_exit ?_ | refine blk_norm ?_ | refine blk_ret ?_ | refine blk_same ?_ | refine tr_condT ?_ | refine tr_condCt ?_ | refine tr_condCf ?_) | ((with_reducible apply sto_go); (focus (intro cs'; repeat (first | exact ra_h | apply ra_t)))) | ((with_reducible refine al_go ?_); intro b) | ((with_reducible refine And.intro ?_ ?_); (focus ((repeat (first | exact keep_none | exact keep_nil | exact keep_ro | refine keep_cons ?_)); done))) | ((with_reducible apply (ck_lend Try.call106)); (focus exact hCt.out); (focus exact ⟨Lend.rowE (by repeat (first | exact mm_h | apply mm_t)) f3.out (by decide) e3.out l3.out, Lend.refl _, trivial⟩)) | ((with_reducible refine s_bi ?_ ?_); (focus rfl)) | with_reducible refine blk_ne rfl ?_ | ((with_reducible refine w_region ?_ ?_); (focus kernel_rfl)) | ((with_reducible refine w_draw [] ?_ ?_ ?_ ?_ ?_); (iterate 3 (focus kernel_rfl)); (focus exact keeps_nil)) | ((with_reducible first | refine gd_d1 ?_ ?_ | refine gd_d0 ?_ ?_); all_goals (intro hb; (first | with_reducible replace hb := nt_t hb | with_reducible replace hb := nt_f hb | skip); (first | replace hb := dc_t hb | replace hb := dc_f hb | have hb1 := eq_b hb | have hb1 := ne_b hb | have hb1 := bne_t hb | have hb1 := bne_f hb | skip); (try (exfalso; first | contradiction | omega)))))
          refine ⟨j + 1, .box go' 3 (Ro ++ [[.i c]].flatten ++ zo') :: .box bx 38 [.ar gs 0 m1 cS, .ar gc 0 m2 cC] :: .box gs 26 (R1 ++ zS) :: .box gc 3 (R2 ++ zC) :: s, (by (repeat (first | exact List.Sublist.refl _ | apply List.Sublist.cons))), ⟨hlt, ?_, ?_, ?_, ?_, ?_, out ++ [c], by rw [List.length_append, hol]; rfl, HE, .inr ⟨Nat.succ_pos _, go', co', zo', ?_, ?_, ?_⟩⟩, ?_⟩
          · (first | rfl | assumption | omega | (simp (disch := omega) only [push_cast, Nat.reduceEqDiff, reduceCtorEq, ↓reduceIte, Nat.reduceAdd, Nat.reduceMul, Nat.reduceSub, Nat.reduceLT, Nat.reduceLeDiff, Int.reduceToNat, Int.reduceLT, Int.reduceLE, Int.reduceAdd, Int.reduceSub, Int.reduceMul, Int.reduceBEq, Int.reduceBNe, encB, encI, encC, V.cells_mk, V.cells_len, Nat.mul_one, Int.sub_zero, List.map_nil, beq_self_eq_true, List.head?_cons, *]; try omega; done))
          · (first | rfl | assumption | omega | (simp (disch := omega) only [push_cast, Nat.reduceEqDiff, reduceCtorEq, ↓reduceIte, Nat.reduceAdd, Nat.reduceMul, Nat.reduceSub, Nat.reduceLT, Nat.reduceLeDiff, Int.reduceToNat, Int.reduceLT, Int.reduceLE, Int.reduceAdd, Int.reduceSub, Int.reduceMul, Int.reduceBEq, Int.reduceBNe, encB, encI, encC, V.cells_mk, V.cells_len, Nat.mul_one, Int.sub_zero, List.map_nil, beq_self_eq_true, List.head?_cons, *]; try omega; done))
          · (first | rfl | assumption | omega | (simp (disch := omega) only [push_cast, Nat.reduceEqDiff, reduceCtorEq, ↓reduceIte, Nat.reduceAdd, Nat.reduceMul, Nat.reduceSub, Nat.reduceLT, Nat.reduceLeDiff, Int.reduceToNat, Int.reduceLT, Int.reduceLE, Int.reduceAdd, Int.reduceSub, Int.reduceMul, Int.reduceBEq, Int.reduceBNe, encB, encI, encC, V.cells_mk, V.cells_len, Nat.mul_one, Int.sub_zero, List.map_nil, beq_self_eq_true, List.head?_cons, *]; try omega; done))
          · (first | rfl | assumption | omega | (simp (disch := omega) only [push_cast, Nat.reduceEqDiff, reduceCtorEq, ↓reduceIte, Nat.reduceAdd, Nat.reduceMul, Nat.reduceSub, Nat.reduceLT, Nat.reduceLeDiff, Int.reduceToNat, Int.reduceLT, Int.reduceLE, Int.reduceAdd, Int.reduceSub, Int.reduceMul, Int.reduceBEq, Int.reduceBNe, encB, encI, encC, V.cells_mk, V.cells_len, Nat.mul_one, Int.sub_zero, List.map_nil, beq_self_eq_true, List.head?_cons, *]; try omega; done))
          · (first | rfl | assumption | omega | (simp (disch := omega) only [push_cast, Nat.reduceEqDiff, reduceCtorEq, ↓reduceIte, Nat.reduceAdd, Nat.reduceMul, Nat.reduceSub, Nat.reduceLT, Nat.reduceLeDiff, Int.reduceToNat, Int.reduceLT, Int.reduceLE, Int.reduceAdd, Int.reduceSub, Int.reduceMul, Int.reduceBEq, Int.reduceBNe, encB, encI, encC, V.cells_mk, V.cells_len, Nat.mul_one, Int.sub_zero, List.map_nil, beq_self_eq_true, List.head?_cons, *]; try omega; done))
          · (first | rfl | assumption | omega | (simp (disch := omega) only [push_cast, Nat.reduceEqDiff, reduceCtorEq, ↓reduceIte, Nat.reduceAdd, Nat.reduceMul, Nat.reduceSub, Nat.reduceLT, Nat.reduceLeDiff, Int.reduceToNat, Int.reduceLT, Int.reduceLE, Int.reduceAdd, Int.reduceSub, Int.reduceMul, Int.reduceBEq, Int.reduceBNe, encB, encI, encC, V.cells_mk, V.cells_len, Nat.mul_one, Int.sub_zero, List.map_nil, beq_self_eq_true, List.head?_cons, *]; try omega; done))
          · rw [g3.out]; exact hlo'
          · rw [g3.out]
          · omega
    · rw [if_neg (fun h => hkr ⟨h.1, h.2.1⟩)] at HE
      replace HE := Lib.hid HE
      have hkr' : k < 0 ∨ (0 ≤ k ∧ (m2 : Int) ≤ k) := by omega
      clear hkr
      rcases hkr' with hk0 | ⟨hk0, hk1⟩ <;> rcases hcase with ⟨rfl, e5, rfl⟩ | ⟨hj0, go, co, zo, e5, hlo, rfl⟩
      all_goals skip
      all_goals (
        repeat' (first | ((with_reducible apply ev_go); (focus (try simp (disch := omega) only [push_cast, Nat.reduceEqDiff, reduceCtorEq, ↓reduceIte, Nat.reduceAdd, Nat.reduceMul, Nat.reduceSub, Nat.reduceLT, Nat.reduceLeDiff, Int.reduceToNat, Int.reduceLT, Int.reduceLE, Int.reduceAdd, Int.reduceSub, Int.reduceMul, Int.reduceBEq, Int.reduceBNe, encB, encI, encC, V.cells_mk, V.cells_len, Nat.mul_one, Int.sub_zero, List.map_nil, beq_self_eq_true, List.head?_cons, *]); (try exact rfl); done)) | ((with_reducible refine w_last ?_ ?_ ?_); (focus kernel_rfl); (focus rfl)) | ((with_reducible apply w_stepG); (focus rfl)) | ((with_reducible apply lk_mem); (focus ((repeat (first | exact mm_h | apply mm_t)); done))) | with_reducible (first | refine w_step0 ?_ | refine w_nil ?_ | refine gd_tt ?_ | refine gd_ff ?_ | refine gd_tf ?_ | refine gd_ft ?_ | refine gd_un ?_ | refine s_move ?_ | refine s_assign ?_ | refine s_bin ?_ | refine s_un ?_ | refine s_conv ?_ | refine s_field ?_ | refine s_fieldAddr ?_ | refine s_ext ?_ | refine s_pick ?_ | refine s_nil ?_ | refine s_load ?_ | refine lk_ip ?_ | refine lk_ptr ?_ | refine s_index ?_ | refine s_indexAddr ?_ | refine s_slice ?_ | refine s_build ?_ | refine s_buildSlice ?_ | refine s_mk ?_ | refine s_store ?_ | refine s_alloc ?_ | refine s_call ?_ | refine s_ip ?_ | refine tr_seq ?_ | refine tr_block ?_ | refine tr_skip ?_ | refine tr_ret ?_ | refine tr_exit ?_ | refine tr_label ?_ | refine strip_norm ?_ | refine strip_ret ?_ | refine strip_exit ?_ | refine blk_norm ?_ | refine blk_ret ?_ | refine blk_same ?_ | refine tr_condT ?_ | refine tr_condCt ?_ | refine tr_condCf ?_) | ((with_reducible apply sto_go); (focus (intro cs'; repeat (first | exact ra_h | apply ra_t)))) | ((with_reducible refine al_go ?_); intro b) | ((with_reducible refine And.intro ?_ ?_); (focus ((repeat (first | exact keep_none | exact keep_nil | exact keep_ro | refine keep_cons ?_)); done))) | ((with_reducible refine s_bi ?_ ?_); (focus rfl)) | with_reducible refine blk_ne rfl ?_ | ((with_reducible refine w_region ?_ ?_); (focus kernel_rfl)) | ((with_reducible refine w_draw [] ?_ ?_ ?_ ?_ ?_); (iterate 3 (focus kernel_rfl)); (focus exact keeps_nil)) | ((with_reducible first | refine gd_d1 ?_ ?_ | refine gd_d0 ?_ ?_); all_goals (intro hb; (first | with_reducible replace hb := nt_t hb | with_reducible replace hb := nt_f hb | skip); (first | replace hb := dc_t hb | replace hb := dc_f hb | have hb1 := eq_b hb | have hb1 := ne_b hb | have hb1 := bne_t hb | have hb1 := bne_f hb | skip); (try (exfalso; first | contradiction | omega)))))
        all_goals ((refine retA_mk (by first | exact .inl rfl | exact .inr rfl) (by first | rfl | assumption) (by (repeat (first | exact List.Sublist.refl _ | apply List.Sublist.cons))) (LE.of_eq ?_) (.inl ⟨by rw [hF2.out, ← HE.out]; rfl, rfl, rfl⟩)); simp (disch := omega) only [push_cast, Nat.reduceEqDiff, reduceCtorEq, ↓reduceIte, Nat.reduceAdd, Nat.reduceMul, Nat.reduceSub, Nat.reduceLT, Nat.reduceLeDiff, Int.reduceToNat, Int.reduceLT, Int.reduceLE, Int.reduceAdd, Int.reduceSub, Int.reduceMul, Int.reduceBEq, Int.reduceBNe, encB, encI, encC, V.cells_mk, V.cells_len, Nat.mul_one, Int.sub_zero, List.map_nil, beq_self_eq_true, List.head?_cons, *]))
  · have HE := HT.out
    rw [List.drop_of_length_le (by omega), Sch.reo] at HE
    have hjm : j = m2 := by omega
    subst hjm
    rcases hcase with ⟨rfl, e5, rfl⟩ | ⟨hj0, go, co, zo, e5, hlo, rfl⟩
    · omega
    · have hco : Hid (colC out = colC out) := rfl
      generalize hRo : colC out = Ro at *
      replace hRo := Lib.hid hRo
      replace HE := Lib.hid HE
      clear HT
      repeat' (first | ((with_reducible apply ev_go); (focus (try simp (disch := omega) only [push_cast, Nat.reduceEqDiff, reduceCtorEq, ↓reduceIte, Nat.reduceAdd, Nat.reduceMul, Nat.reduceSub, Nat.reduceLT, Nat.reduceLeDiff, Int.reduceToNat, Int.reduceLT, Int.reduceLE, Int.reduceAdd, Int.reduceSub, Int.reduceMul, Int.reduceBEq, Int.reduceBNe, encB, encI, encC, V.cells_mk, V.cells_len, Nat.mul_one, Int.sub_zero, List.map_nil, beq_self_eq_true, List.head?_cons, *]); (try exact rfl); done)) | ((with_reducible refine w_last ?_ ?_ ?_); (focus kernel_rfl); (focus rfl)) | ((with_reducible apply w_stepG); (focus rfl)) | ((with_reducible apply lk_mem); (focus ((repeat (first | exact mm_h | apply mm_t)); done))) | with_reducible (first | refine w_step0 ?_ | refine w_nil ?_ | refine gd_tt ?_ | refine gd_ff ?_ | refine gd_tf ?_ | refine gd_ft ?_ | refine gd_un ?_ | refine s_move ?_ | refine s_assign ?_ | refine s_bin ?_ | refine s_un ?_ | refine s_conv ?_ | refine s_field ?_ | refine s_fieldAddr ?_ | refine s_ext ?_ | refine s_pick ?_ | refine s_nil ?_ | refine s_load ?_ | refine lk_ip ?_ | refine lk_ptr ?_ | refine s_index ?_ | refine s_indexAddr ?_ | refine s_slice ?_ | refine s_build ?_ | refine s_buildSlice ?_ | refine s_mk ?_ | refine s_store ?_ | refine s_alloc ?_ | refine s_call ?_ | refine s_ip ?_ | refine tr_seq ?_ | refine tr_block ?_ | refine tr_skip ?_ | refine tr_ret ?_ | refine tr_exit ?_ | refine tr_label ?_ | refine strip_norm ?_ | refine strip_ret ?_ | refine strip_exit ?_ | refine blk_norm ?_ | refine blk_ret ?_ | refine blk_same ?_ | refine tr_condT ?_ | refine tr_condCt ?_ | refine tr_condCf ?_) | ((with_reducible apply sto_go); (focus (intro cs'; repeat (first | exact ra_h | apply ra_t)))) | ((with_reducible refine al_go ?_); intro b) | ((with_reducible refine And.intro ?_ ?_); (focus ((repeat (first | exact keep_none | exact keep_nil | exact keep_ro | refine keep_cons ?_)); done))) | ((with_reducible refine s_bi ?_ ?_); (focus rfl)) | with_reducible refine blk_ne rfl ?_ | ((with_reducible refine w_region ?_ ?_); (focus kernel_rfl)) | ((with_reducible refine w_draw [] ?_ ?_ ?_ ?_ ?_); (iterate 3 (focus kernel_rfl)); (focus exact keeps_nil)) | ((with_reducible first | refine gd_d1 ?_ ?_ | refine gd_d0 ?_ ?_); all_goals (intro hb; (first | with_reducible replace hb := nt_t hb | with_reducible replace hb := nt_f hb | skip); (first | replace hb := dc_t hb | replace hb := dc_f hb | have hb1 := eq_b hb | have hb1 := ne_b hb | have hb1 := bne_t hb | have hb1 := bne_f hb | skip); (try (exfalso; first | contradiction | omega)))))
      all_goals ((refine retA_perm (s2 := .box bx 38 [.ar gs 0 m1 cS, .ar go 0 j co] :: .box gs 26 (R1 ++ zS) :: .box go 3 (Ro ++ zo) :: .box gc 3 (R2 ++ zC) :: s) (st0 := .box bx 38 [.ar gs 0 m1 cS, .ar go 0 j co] :: .box gs 26 (R1 ++ zS) :: .box go 3 (Ro ++ zo) :: s) (by first | exact .inl rfl | exact .inr rfl) (by first | rfl | assumption) ?_ (((List.sublist_cons_self _ _).cons₂ _).cons₂ _ |>.cons₂ _) (LE.of_eq ?_) (.inr ⟨⟨x.slots, out⟩, gs, cS, zS, go, co, zo, ?_, ⟨?_, ?_⟩, rfl, ?_⟩)); (focus exact (List.Perm.swap _ _ _).trans (.cons _ (.swap _ _ _))); (focus simp (disch := omega) only [push_cast, Nat.reduceEqDiff, reduceCtorEq, ↓reduceIte, Nat.reduceAdd, Nat.reduceMul, Nat.reduceSub, Nat.reduceLT, Nat.reduceLeDiff, Int.reduceToNat, Int.reduceLT, Int.reduceLE, Int.reduceAdd, Int.reduceSub, Int.reduceMul, Int.reduceBEq, Int.reduceBNe, encB, encI, encC, V.cells_mk, V.cells_len, Nat.mul_one, Int.sub_zero, List.map_nil, beq_self_eq_true, List.head?_cons, *]); (focus (rw [hF2.out, ← HE.out]; rfl)); (focus (rw [hR1.out]; exact hz1)); (focus (rw [hRo.out]; exact hlo)); (focus (rw [hR1.out, hRo.out, hm1.out, hol])))
end Go.Proofs.Ytooaagmhgakhgaa
end

section
namespace Go.Proofs.Ytooaagmhgakhgaa
set_option linter.unusedSimpArgs false
open Go.RowKit
set_option maxRecDepth 10000
set_option maxHeartbeats 4000000
theorem schCopiedF (gs cS gc cC : Nat) (zS zC : List D) (x : Vr) (h1 : x.slots ≠ []) (h2 : x.cols ≠ []) (hx : VW x) (st : St) (m1 : Res.box gs 26 (slotC x.slots ++ zS) ∈ st) (m2 : Res.box gc 3 (colC x.cols ++ zC) ∈ st) : TrF Try.prog 72 [.agg [.ar gs 0 x.slots.length cS, .ar gc 0 x.cols.length cC]] st fun d st' => d = .agg x.cells ∧ st' = st := by
  have hA := Lib.hid fun b cs => cloneSF gs cS x.slots zS h1 (by have := hx.ls; omega) (.box b 38 cs :: st) (List.mem_cons_of_mem _ m1)
  have hB := Lib.hid fun b cs => cloneIF gc cC x.cols zC h2 (by have := hx.lc; omega) (.box b 38 cs :: st) (List.mem_cons_of_mem _ m2)
  unfold Vr.cells
  refine trF_enterC (G := cellA 2 38 Try.prog) Try.func72 rfl (by rw [Try.ntmps72]; exact Nat.le_of_ble_eq_true rfl) (fun h1 h2 h3 => res_cell rfl h1 h2 h3) ?_
  simp only [Try.ntmps72]
  repeat' (first | ((with_reducible apply ev_go); (focus (try simp (disch := omega) only [push_cast, Nat.reduceEqDiff, reduceCtorEq, ↓reduceIte, Nat.reduceAdd, Nat.reduceMul, Nat.reduceSub, Nat.reduceLT, Nat.reduceLeDiff, Int.reduceToNat, Int.reduceLT, Int.reduceLE, Int.reduceAdd, Int.reduceSub, Int.reduceMul, Int.reduceBEq, Int.reduceBNe, encB, encI, encC, V.cells_mk, V.cells_len, Nat.mul_one, Int.sub_zero, List.map_nil, beq_self_eq_true, List.head?_cons, *]); (try exact rfl); done)) | ((with_reducible refine w_last ?_ ?_ ?_); (focus kernel_rfl); (focus rfl)) | ((with_reducible apply w_stepG); (focus rfl)) | ((with_reducible apply lk_mem); (focus ((repeat (first | exact mm_h | apply mm_t)); done))) | with_reducible (first | refine w_step0 ?_ | refine w_nil ?_ | refine gd_tt ?_ | refine gd_ff ?_ | refine gd_tf ?_ | refine gd_ft ?_ | refine gd_un ?_ | refine s_move ?_ | refine s_assign ?_ | refine s_bin ?_ | refine s_un ?_ | refine s_conv ?_ | refine s_field ?_ | refine s_fieldAddr ?_ | refine s_ext ?_ | refine s_pick ?_ | refine s_nil ?_ | refine s_load ?_ | refine lk_ip ?_ | refine lk_ptr ?_ | refine s_index ?_ | refine s_indexAddr ?_ | refine s_slice ?_ | refine s_build ?_ | refine s_buildSlice ?_ | refine s_mk ?_ | refine s_store ?_ | refine s_alloc ?_ | refine s_call ?_ | refine s_ip ?_ | refine tr_seq ?_ | refine tr_block ?_ | refine tr_skip ?_ | refine tr_ret ?_ | refine tr_exit ?_ | refine tr_label ?_ | refine strip_norm ?_ | refine strip_ret ?_ | refine strip_exit ?_ | refine blk_norm ?_ | refine blk_ret ?_ | refine blk_same ?_ | refine tr_condT ?_ | refine tr_condCt ?_ | refine tr_condCf ?_) | ((with_reducible apply sto_go); (focus (intro cs'; repeat (first | exact ra_h | apply ra_t)))) | ((with_reducible refine al_go ?_); intro b) | ((with_reducible refine And.intro ?_ ?_); (focus ((repeat (first | exact keep_none | exact keep_nil | exact keep_ro | refine keep_cons ?_)); done))) | ((with_reducible apply (ck_le Try.call88)); (focus exact LEL.refl _); (focus exact hA.out _ _)) | ((with_reducible apply (ck_le Try.call89)); (focus exact LEL.refl _); (focus exact hB.out _ _)) | ((with_reducible refine s_bi ?_ ?_); (focus rfl)) | with_reducible refine blk_ne rfl ?_ | ((with_reducible refine w_region ?_ ?_); (focus kernel_rfl)) | ((with_reducible refine w_draw [] ?_ ?_ ?_ ?_ ?_); (iterate 3 (focus kernel_rfl)); (focus exact keeps_nil)) | ((with_reducible first | refine gd_d1 ?_ ?_ | refine gd_d0 ?_ ?_); all_goals (intro hb; (first | with_reducible replace hb := nt_t hb | with_reducible replace hb := nt_f hb | skip); (first | replace hb := dc_t hb | replace hb := dc_f hb | have hb1 := eq_b hb | have hb1 := ne_b hb | have hb1 := bne_t hb | have hb1 := bne_f hb | skip); (try (exfalso; first | contradiction | omega)))))
  all_goals (refine retC_cell (by first | exact .inl rfl | exact .inr rfl) (by first | rfl | assumption) (by simp (disch := omega) only [push_cast, Nat.reduceEqDiff, reduceCtorEq, ↓reduceIte, Nat.reduceAdd, Nat.reduceMul, Nat.reduceSub, Nat.reduceLT, Nat.reduceLeDiff, Int.reduceToNat, Int.reduceLT, Int.reduceLE, Int.reduceAdd, Int.reduceSub, Int.reduceMul, Int.reduceBEq, Int.reduceBNe, encB, encI, encC, V.cells_mk, V.cells_len, Nat.mul_one, Int.sub_zero, List.map_nil, beq_self_eq_true, List.head?_cons, *]; exact rfl) (by repeat (first | exact mm_h | apply mm_t)) (by simp (disch := omega) only [push_cast, Nat.reduceEqDiff, reduceCtorEq, ↓reduceIte, Nat.reduceAdd, Nat.reduceMul, Nat.reduceSub, Nat.reduceLT, Nat.reduceLeDiff, Int.reduceToNat, Int.reduceLT, Int.reduceLE, Int.reduceAdd, Int.reduceSub, Int.reduceMul, Int.reduceBEq, Int.reduceBNe, encB, encI, encC, V.cells_mk, V.cells_len, Nat.mul_one, Int.sub_zero, List.map_nil, beq_self_eq_true, List.head?_cons, *]; exact rfl) (by (try simp (disch := omega) only [push_cast, Nat.reduceEqDiff, reduceCtorEq, ↓reduceIte, Nat.reduceAdd, Nat.reduceMul, Nat.reduceSub, Nat.reduceLT, Nat.reduceLeDiff, Int.reduceToNat, Int.reduceLT, Int.reduceLE, Int.reduceAdd, Int.reduceSub, Int.reduceMul, Int.reduceBEq, Int.reduceBNe, encB, encI, encC, V.cells_mk, V.cells_len, Nat.mul_one, Int.sub_zero, List.map_nil, beq_self_eq_true, List.head?_cons, *]); (try exact rfl); done) (by (repeat (first | exact List.Sublist.refl _ | apply List.Sublist.cons))) ?_ ⟨rfl, rfl⟩; (try simp (disch := omega) only [push_cast, Nat.reduceEqDiff, reduceCtorEq, ↓reduceIte, Nat.reduceAdd, Nat.reduceMul, Nat.reduceSub, Nat.reduceLT, Nat.reduceLeDiff, Int.reduceToNat, Int.reduceLT, Int.reduceLE, Int.reduceAdd, Int.reduceSub, Int.reduceMul, Int.reduceBEq, Int.reduceBNe, encB, encI, encC, V.cells_mk, V.cells_len, Nat.mul_one, Int.sub_zero, List.map_nil, beq_self_eq_true, List.head?_cons, *]); try (first | exact LE.refl _ | exact LE.sl _ _ | (refine LE.tup ?_; (repeat' (first | exact LEL.nil | refine LEL.cons ?_ ?_ | exact LE.refl _ | exact LE.sl _ _ | refine LE.agg ?_)); done) | (refine LE.agg ?_; (repeat' (first | exact LEL.nil | refine LEL.cons ?_ ?_ | exact LE.refl _ | exact LE.sl _ _)); done) | refine LE.of_eq ?_))
theorem schDoersF (st : St) : TrF Try.prog 73 [] st fun d st' => d = .agg [.s .nilFunc, .fn (.func 90) [] [], .fn (.func 91) [] [], .fn (.func 92) [] [], .fn (.func 93) [] [], .fn (.func 94) [] []] ∧ st' = st := by
  refine trF_enterC (G := cellA 0 97 Try.prog) Try.func73 rfl (by rw [Try.ntmps73]; exact Nat.le_of_ble_eq_true rfl) (fun h1 h2 h3 => res_cell rfl h1 h2 h3) ?_
  simp only [Try.ntmps73]
  repeat' (first | ((with_reducible apply ev_go); (focus (try simp (disch := omega) only [push_cast, Nat.reduceEqDiff, reduceCtorEq, ↓reduceIte, Nat.reduceAdd, Nat.reduceMul, Nat.reduceSub, Nat.reduceLT, Nat.reduceLeDiff, Int.reduceToNat, Int.reduceLT, Int.reduceLE, Int.reduceAdd, Int.reduceSub, Int.reduceMul, Int.reduceBEq, Int.reduceBNe, encB, encI, encC, V.cells_mk, V.cells_len, Nat.mul_one, Int.sub_zero, List.map_nil, beq_self_eq_true, List.head?_cons, *]); (try exact rfl); done)) | ((with_reducible refine w_last ?_ ?_ ?_); (focus kernel_rfl); (focus rfl)) | ((with_reducible apply w_stepG); (focus rfl)) | ((with_reducible apply lk_mem); (focus ((repeat (first | exact mm_h | apply mm_t)); done))) | with_reducible (first | refine w_step0 ?_ | refine w_nil ?_ | refine gd_tt ?_ | refine gd_ff ?_ | refine gd_tf ?_ | refine gd_ft ?_ | refine gd_un ?_ | refine s_move ?_ | refine s_assign ?_ | refine s_bin ?_ | refine s_un ?_ | refine s_conv ?_ | refine s_field ?_ | refine s_fieldAddr ?_ | refine s_ext ?_ | refine s_pick ?_ | refine s_nil ?_ | refine s_load ?_ | refine lk_ip ?_ | refine lk_ptr ?_ | refine s_index ?_ | refine s_indexAddr ?_ | refine s_slice ?_ | refine s_build ?_ | refine s_buildSlice ?_ | refine s_mk ?_ | refine s_store ?_ | refine s_alloc ?_ | refine s_call ?_ | refine s_ip ?_ | refine tr_seq ?_ | refine tr_block ?_ | refine tr_skip ?_ | refine tr_ret ?_ | refine tr_exit ?_ | refine tr_label ?_ | refine strip_norm ?_ | refine strip_ret ?_ | refine strip_exit ?_ | refine blk_norm ?_ | refine blk_ret ?_ | refine blk_same ?_ | refine tr_condT ?_ | refine tr_condCt ?_ | refine tr_condCf ?_) | ((with_reducible apply sto_go); (focus (intro cs'; repeat (first | exact ra_h | apply ra_t)))) | ((with_reducible refine al_go ?_); intro b) | ((with_reducible refine And.intro ?_ ?_); (focus ((repeat (first | exact keep_none | exact keep_nil | exact keep_ro | refine keep_cons ?_)); done))) | ((with_reducible refine s_bi ?_ ?_); (focus rfl)) | with_reducible refine blk_ne rfl ?_ | ((with_reducible refine w_region ?_ ?_); (focus kernel_rfl)) | ((with_reducible refine w_draw [] ?_ ?_ ?_ ?_ ?_); (iterate 3 (focus kernel_rfl)); (focus exact keeps_nil)) | ((with_reducible first | refine gd_d1 ?_ ?_ | refine gd_d0 ?_ ?_); all_goals (intro hb; (first | with_reducible replace hb := nt_t hb | with_reducible replace hb := nt_f hb | skip); (first | replace hb := dc_t hb | replace hb := dc_f hb | have hb1 := eq_b hb | have hb1 := ne_b hb | have hb1 := bne_t hb | have hb1 := bne_f hb | skip); (try (exfalso; first | contradiction | omega)))))
  all_goals (refine retC_cell (by first | exact .inl rfl | exact .inr rfl) (by first | rfl | assumption) (by simp (disch := omega) only [push_cast, Nat.reduceEqDiff, reduceCtorEq, ↓reduceIte, Nat.reduceAdd, Nat.reduceMul, Nat.reduceSub, Nat.reduceLT, Nat.reduceLeDiff, Int.reduceToNat, Int.reduceLT, Int.reduceLE, Int.reduceAdd, Int.reduceSub, Int.reduceMul, Int.reduceBEq, Int.reduceBNe, encB, encI, encC, V.cells_mk, V.cells_len, Nat.mul_one, Int.sub_zero, List.map_nil, beq_self_eq_true, List.head?_cons, *]; exact rfl) (by repeat (first | exact mm_h | apply mm_t)) (by simp (disch := omega) only [push_cast, Nat.reduceEqDiff, reduceCtorEq, ↓reduceIte, Nat.reduceAdd, Nat.reduceMul, Nat.reduceSub, Nat.reduceLT, Nat.reduceLeDiff, Int.reduceToNat, Int.reduceLT, Int.reduceLE, Int.reduceAdd, Int.reduceSub, Int.reduceMul, Int.reduceBEq, Int.reduceBNe, encB, encI, encC, V.cells_mk, V.cells_len, Nat.mul_one, Int.sub_zero, List.map_nil, beq_self_eq_true, List.head?_cons, *]; exact rfl) (by (try simp (disch := omega) only [push_cast, Nat.reduceEqDiff, reduceCtorEq, ↓reduceIte, Nat.reduceAdd, Nat.reduceMul, Nat.reduceSub, Nat.reduceLT, Nat.reduceLeDiff, Int.reduceToNat, Int.reduceLT, Int.reduceLE, Int.reduceAdd, Int.reduceSub, Int.reduceMul, Int.reduceBEq, Int.reduceBNe, encB, encI, encC, V.cells_mk, V.cells_len, Nat.mul_one, Int.sub_zero, List.map_nil, beq_self_eq_true, List.head?_cons, *]); (try exact rfl); done) (by (repeat (first | exact List.Sublist.refl _ | apply List.Sublist.cons))) ?_ ⟨rfl, rfl⟩; (try simp (disch := omega) only [push_cast, Nat.reduceEqDiff, reduceCtorEq, ↓reduceIte, Nat.reduceAdd, Nat.reduceMul, Nat.reduceSub, Nat.reduceLT, Nat.reduceLeDiff, Int.reduceToNat, Int.reduceLT, Int.reduceLE, Int.reduceAdd, Int.reduceSub, Int.reduceMul, Int.reduceBEq, Int.reduceBNe, encB, encI, encC, V.cells_mk, V.cells_len, Nat.mul_one, Int.sub_zero, List.map_nil, beq_self_eq_true, List.head?_cons, *]); try (first | exact LE.refl _ | exact LE.sl _ _ | (refine LE.tup ?_; (repeat' (first | exact LEL.nil | refine LEL.cons ?_ ?_ | exact LE.refl _ | exact LE.sl _ _ | refine LE.agg ?_)); done) | (refine LE.agg ?_; (repeat' (first | exact LEL.nil | refine LEL.cons ?_ ?_ | exact LE.refl _ | exact LE.sl _ _)); done) | refine LE.of_eq ?_))
end Go.Proofs.Ytooaagmhgakhgaa
end

section
namespace Go.Proofs.Ytooaagmhgakhgaa
set_option linter.unusedSimpArgs false
open Go.RowKit
section
variable {P : Program} {r : Option Nat} {ro : Ro} {st : St}
structure SameOp (o1 o2 : Oper) : Prop where
  dst : o1.dst = o2.dst
  op : o1.op = o2.op
  type : o1.type = o2.type
  pos : o1.pos = o2.pos
  guard : o1.guard = o2.guard
theorem SameOp.refl (o : Oper) : SameOp o o := ⟨rfl, rfl, rfl, rfl, rfl⟩
theorem SameOp.symm {o1 o2 : Oper} (h : SameOp o1 o2) : SameOp o2 o1 := ⟨h.dst.symm, h.op.symm, h.type.symm, h.pos.symm, h.guard.symm⟩
theorem SameOp.free {o1 o2 : Oper} (h : SameOp o1 o2) : freeA o1 = freeA o2 := by unfold freeA; rw [h.op]
theorem SameOp.wanted {ops1 ops2 : Array Oper} {o1 o2 : Oper} (h : SameOp o1 o2) (hd : ∀ j : Nat, (ops1[j]?).bind (fun o : Oper => o.dst) = (ops2[j]?).bind (fun o : Oper => o.dst)) (e : Nat → D) : wantedA ops1 o1 e = wantedA ops2 o2 e := by
  unfold wantedA
  rw [h.guard]
  cases o2.guard with
  | none => rfl
  | some q => obtain ⟨j, b⟩ := q; dsimp only; rw [hd j]
theorem SameOp.frC {o1 o2 : Oper} (h : SameOp o1 o2) (e : Nat → D) : frC P ro o1 e = frC P ro o2 e := by
  obtain ⟨d1, p1, t1, s1, a1, g1⟩ := o1
  obtain ⟨d2, p2, t2, s2, a2, g2⟩ := o2
  obtain ⟨e1, e2, e3, e4, e5⟩ := h
  dsimp only at e1 e2 e3 e4 e5
  subst e1 e2 e3 e4 e5
  rfl
theorem SameOp.opC {o1 o2 : Oper} (h : SameOp o1 o2) {e : Nat → D} {K : D → St → Prop} (hh : OpC P r o1 e st K) : OpC P r o2 e st K := by
  obtain ⟨d1, p1, t1, s1, a1, g1⟩ := o1
  obtain ⟨d2, p2, t2, s2, a2, g2⟩ := o2
  obtain ⟨e1, e2, e3, e4, e5⟩ := h
  dsimp only at e1 e2 e3 e4 e5
  subst e1 e2 e3 e4 e5
  exact hh
def addE : List Oper → Nat → Nat → List Oper
  | [], _, _ => []
  | o :: l, 0, j => { o with after := o.after.push ⟨j, .data⟩ } :: l
  | o :: l, i + 1, j => o :: addE l i j
def freeB (l : List Oper) (a c : Nat) : Bool := (List.range l.length).all fun i => i == a || i == c || match l[i]? with
  | some o => freeA o || o.after.any (fun e => Region.binds .any e && (e.on == a || e.on == c))
  | none => true
def wpOrdA (P : Program) (r : Option Nat) (ro : Ro) (ops : Array Oper) (Q : AA → St → Prop) : List Nat → AA → St → Prop
  | [], A, st => Q A st
  | k :: ks, A, st => ∀ o, ops[k]? = some o → mOpA P r ro (ks.isEmpty && lastAll ops) ops o (wpOrdA P r ro ops Q ks) A st
def mixOrdA (ms : List Nat) (ops : Array Oper) : List Nat → Array Bool → Bool
  | [], listed => (Region.ready .any ops listed).isEmpty
  | k :: ks, listed => (Region.ready .any ops listed).contains k && mixFreeA ms ops listed k && (!ks.isEmpty || k + 1 == ops.size) && mixOrdA ms ops ks (listed.setIfInBounds k true)
def ixs : Nat → Nat → Option Nat → List Nat
  | 0, _, _ => []
  | n + 1, k, some 0 => ixs n (k + 1) none
  | n + 1, k, some (a + 1) => k :: ixs n (k + 1) (some a)
  | n + 1, k, none => k :: ixs n (k + 1) none
def twoB (l : List Oper) (a c : Nat) : Bool :=
  a != c && freeB l a c && decide (a < l.length) && (lastAll (addE l a c).toArray == lastAll l.toArray) && (lastAll (addE l c a).toArray == lastAll l.toArray) &&
  mixOrdA (masks .any (addE l a c) []) (addE l a c).toArray (ixs l.length 0 none) (Array.replicate l.length false) &&
  mixOrdA (masks .any (addE l c a) []) (addE l c a).toArray (a :: ixs l.length 0 (some a)) (Array.replicate l.length false)
end
end Go.Proofs.Ytooaagmhgakhgaa
end

section
namespace Go.Proofs.Ytooaagmhgakhgaa
set_option linter.unusedSimpArgs false
open Go.RowKit
section
variable {P : Program} {r : Option Nat} {ro : Ro} {ops : Array Oper} {md : Region.Mode} {st : St}
def wpAnyP (P : Program) (r : Option Nat) (ro : Ro) (md : Region.Mode) (ops : Array Oper) (p : Nat) (Q : AA → St → Prop) : Nat → Array Bool → AA → St → Prop
  | 0, _, _, _ => False
  | fuel + 1, listed, A, st => Region.ready md ops listed ≠ [] ∧ ∀ i ∈ Region.ready md ops listed, ∀ o, ops[i]? = some o →
      if i = p then mOpA P r ro true ops o (fun A' st' => ∃ ro2, Keeps ro2 st' ∧ wpAnyA P r ro2 md ops Q fuel (listed.setIfInBounds i true) A' st') A st
      else mOpA P r ro false ops o (wpAnyP P r ro md ops p Q fuel (listed.setIfInBounds i true)) A st
def pureA (o : Oper) : Bool := freeA o && match o.op with
  | .load _ _ => false
  | _ => true
theorem frC_pure {ro ro' : Ro} {o : Oper} {e : Nat → D} (h : pureA o = true) : frC P ro o e = frC P ro' o e := by
  unfold pureA at h
  unfold frC
  split
  · rename_i t x hop
    rw [hop] at h
    simp at h
  · rfl
def Between (ms : List Nat) (ops : Array Oper) (p : Nat) : Prop := ∀ j oj, ops[j]? = some oj → j ≠ p → waitsT ms j p = true ∨ waitsT ms p j = true ∨ pureA oj = true
theorem wpAnyP_pivot {ms : List Nat} (hms : MOk md ops.toList ms) {p : Nat} (hB : Between ms ops p) {Q : AA → St → Prop} {op : Oper} (hp : ops[p]? = some op) : ∀ (fuel : Nat) (listed : Array Bool) (A : AA) (st : St), Keeps ro st → DC md ops listed →
    (∀ j oj, ops[j]? = some oj → j ≠ p → listed.getD j true = false → waitsT ms j p = false → op.apart ops oj = true) → p ∈ Region.ready md ops listed →
    mOpA P r ro true ops op (fun A' st' => ∃ ro2, Keeps ro2 st' ∧ wpAnyA P r ro2 md ops Q fuel (listed.setIfInBounds p true) A' st') A st → wpAnyP P r ro md ops p Q (fuel + 1) listed A st := by
  intro fuel
  induction fuel with
  | zero =>
    intro listed A st hw hdc hfree hr H
    refine ⟨fun h => (by rw [h] at hr; cases hr), fun i hi oi hoi => ?_⟩
    by_cases hip : i = p
    · subst hip
      rw [hp] at hoi; cases hoi
      rw [if_pos rfl]; exact H
    · exfalso
      obtain ⟨v, w', _, ro2, _, h1⟩ := mOpA_some hw H
      have h2 := ready_mono hi hip
      rw [h1.1] at h2
      cases h2
  | succ fuel ih =>
    intro listed A st hw hdc hfree hr H
    refine ⟨fun h => (by rw [h] at hr; cases hr), fun j hj oj hoj => ?_⟩
    by_cases hjp : j = p
    · subst hjp
      rw [hp] at hoj; cases hoj
      rw [if_pos rfl]; exact H
    · rw [if_neg hjp]
      have h1 := hdc.ready hms (ready_unlisted hr) hj
      have h2 := hdc.ready hms (ready_unlisted hj) hr
      have hpu : pureA oj = true := by
        rcases hB j oj hoj hjp with h | h | h
        · rw [h1] at h; cases h
        · rw [h2] at h; cases h
        · exact h
      have hfj : freeA oj = true := by
        unfold pureA at hpu
        rw [Bool.and_eq_true] at hpu
        exact hpu.1
      have hdc' := hdc.step hj
      obtain ⟨hjun, -⟩ := mem_ready.1 hj
      have hap := hfree j oj hoj hjp hjun h1
      obtain ⟨d1, d2, d3⟩ := Oper.apart_spec hap
      have hri := ready_mono hr (Ne.symm hjp)
      have hcomm : (listed.setIfInBounds j true).setIfInBounds p true = (listed.setIfInBounds p true).setIfInBounds j true := Array.setIfInBounds_comm _ _ hjp
      have hfree' : ∀ k ok, ops[k]? = some ok → k ≠ p → (listed.setIfInBounds j true).getD k true = false → waitsT ms k p = false → op.apart ops ok = true := fun k ok hk hkp hun hno => by
        refine hfree k ok hk hkp ?_ hno
        by_cases hjk : j = k
        · subst hjk; exact hjun
        · rw [getD_set_ne true hjk] at hun; exact hun
      have hij : ∀ v st' ro2, wpAnyA P r ro2 md ops Q (fuel + 1) (listed.setIfInBounds p true) (A.put op.dst v) st' →
          mOpA P r ro2 (decide (j + 1 = ops.size) && lastAll ops) ops oj (wpAnyA P r ro2 md ops Q fuel ((listed.setIfInBounds j true).setIfInBounds p true)) (A.put op.dst v) st' := fun v st' ro2 h => by
        have := h.2 j (ready_mono hj hjp) oj hoj
        rw [hcomm]; exact this
      have hjw : ∀ v, wantedA ops oj (A.put op.dst v).e = wantedA ops oj A.e := fun v => wantedA_far d1
      have hje : ∀ v ro2, frC P ro2 oj (A.put op.dst v).e = frC P ro oj A.e := fun v ro2 => (frC_congr (ev_far d1)).trans (frC_pure hpu)
      by_cases hwj : wantedA ops oj A.e = true
      · obtain ⟨v1, w1, hc1, ro1, q1, k1⟩ := mOpA_some hw H
        have k2 := hij v1 w1 ro1 k1
        unfold mOpA at k2
        rw [hjw v1, if_pos hwj, if_pos hfj, hje v1] at k2
        obtain ⟨u, hu, _⟩ := k2
        have hstep : mOpA P r ro true ops op (fun A' st' => ∃ ro2, Keeps ro2 st' ∧ wpAnyA P r ro2 md ops Q fuel ((listed.setIfInBounds j true).setIfInBounds p true) A' st') (A.put oj.dst u) st := by
          refine mOpA_far hap (mOpA_put hw (fun v w' hc ⟨ro2, g1, g2⟩ => ⟨ro2, g1, ?_⟩) H)
          have k3 := hij v w' ro2 g2
          unfold mOpA at k3
          rw [hjw v, if_pos hwj, if_pos hfj, hje v] at k3
          obtain ⟨u', hu', k4⟩ := k3
          rw [hu] at hu'
          cases hu'
          exact k4
        unfold mOpA
        rw [if_pos hwj, if_pos hfj]
        exact ⟨u, hu, ih _ _ _ hw hdc' hfree' hri hstep⟩
      · have hstep : mOpA P r ro true ops op (fun A' st' => ∃ ro2, Keeps ro2 st' ∧ wpAnyA P r ro2 md ops Q fuel ((listed.setIfInBounds j true).setIfInBounds p true) A' st') (A.put oj.dst D.un) st := by
          refine mOpA_far hap (mOpA_put hw (fun v w' hc ⟨ro2, g1, g2⟩ => ⟨ro2, g1, ?_⟩) H)
          have k3 := hij v w' ro2 g2
          unfold mOpA at k3
          rw [hjw v, if_neg hwj] at k3
          exact k3
        unfold mOpA
        rw [if_neg hwj]
        exact ih _ _ _ hw hdc' hfree' hri hstep
theorem wpAnyP_first {ms : List Nat} (hms : MOk md ops.toList ms) {p : Nat} {Q : AA → St → Prop} {i : Nat} {oi : Oper} (hi : ops[i]? = some oi) (hip : i ≠ p) (hpi : waitsT ms p i = true) :
    ∀ (fuel : Nat) (listed : Array Bool) (A : AA) (st : St), Keeps ro st → DC md ops listed →
      (∀ j oj, ops[j]? = some oj → j ≠ i → listed.getD j true = false → waitsT ms j i = false → oi.apart ops oj = true ∧ (freeA oi = true ∨ freeA oj = true)) →
      i ∈ Region.ready md ops listed →
      mOpA P r ro false ops oi (wpAnyP P r ro md ops p Q fuel (listed.setIfInBounds i true)) A st → wpAnyP P r ro md ops p Q (fuel + 1) listed A st := by
  intro fuel
  induction fuel with
  | zero =>
    intro listed A st hw _ _ hr H
    obtain ⟨v, w', _, h1⟩ := mOpA_some hw H
    exact h1.elim
  | succ fuel ih =>
    intro listed A st hw hdc hfree hr H
    refine ⟨fun h => (by rw [h] at hr; cases hr), fun j hj oj hoj => ?_⟩
    by_cases hji : j = i
    · subst hji
      rw [hi] at hoj; cases hoj
      rw [if_neg hip]; exact H
    · obtain ⟨hjun, oj', hoj', hall⟩ := mem_ready.1 hj
      rw [hoj] at hoj'; cases hoj'
      have hnot := hdc.ready hms (ready_unlisted hr) hj
      have hjp : j ≠ p := fun e => by
        subst e
        rw [hpi] at hnot; cases hnot
      rw [if_neg hjp]
      have hdc' := hdc.step hj
      obtain ⟨hap, hfk⟩ := hfree j oj hoj hji hjun hnot
      obtain ⟨d1, d2, d3⟩ := Oper.apart_spec hap
      have hfree' : ∀ k ok, ops[k]? = some ok → k ≠ i → (listed.setIfInBounds j true).getD k true = false →
          waitsT ms k i = false → oi.apart ops ok = true ∧ (freeA oi = true ∨ freeA ok = true) := fun k ok hk hki hun hno => by
        refine hfree k ok hk hki ?_ hno
        by_cases hjk : j = k
        · subst hjk; exact hjun
        · rw [getD_set_ne true hjk] at hun; exact hun
      have hri := ready_mono hr (Ne.symm hji)
      have hcomm : (listed.setIfInBounds j true).setIfInBounds i true = (listed.setIfInBounds i true).setIfInBounds j true := Array.setIfInBounds_comm _ _ hji
      have hij : ∀ v st', wpAnyP P r ro md ops p Q (fuel + 1) (listed.setIfInBounds i true) (A.put oi.dst v) st' →
          mOpA P r ro false ops oj (wpAnyP P r ro md ops p Q fuel ((listed.setIfInBounds j true).setIfInBounds i true)) (A.put oi.dst v) st' := fun v st' h => by
        have := h.2 j (ready_mono hj hji) oj hoj
        rw [if_neg hjp] at this
        rw [hcomm]; exact this
      have hjw : ∀ v, wantedA ops oj (A.put oi.dst v).e = wantedA ops oj A.e := fun v => wantedA_far d1
      have hje : ∀ v, frC P ro oj (A.put oi.dst v).e = frC P ro oj A.e := fun v => frC_congr (ev_far d1)
      have hput : ∀ v u, (A.put oi.dst v).put oj.dst u = (A.put oj.dst u).put oi.dst v := fun v u => put_comm A v u d2
      by_cases hwj : wantedA ops oj A.e = true
      · by_cases hfj : freeA oj = true
        · obtain ⟨v1, w1, hc1, k1⟩ := mOpA_some hw H
          have k2 := hij v1 w1 k1
          unfold mOpA at k2
          rw [hjw v1, if_pos hwj, if_pos hfj, hje v1] at k2
          obtain ⟨u, hu, _⟩ := k2
          have hstep : mOpA P r ro false ops oi (wpAnyP P r ro md ops p Q fuel ((listed.setIfInBounds j true).setIfInBounds i true)) (A.put oj.dst u) st := by
            refine mOpA_far hap (mOpA_put hw (fun v w' hc h => ?_) H)
            have k3 := hij v w' h
            unfold mOpA at k3
            rw [hjw v, if_pos hwj, if_pos hfj, hje v] at k3
            obtain ⟨u', hu', k4⟩ := k3
            rw [hu] at hu'
            cases hu'
            exact k4
          unfold mOpA
          rw [if_pos hwj, if_pos hfj]
          exact ⟨u, hu, ih _ _ _ hw hdc' hfree' hri hstep⟩
        · have hfi : freeA oi = true := hfk.resolve_right hfj
          have key : ∀ v, wpAnyP P r ro md ops p Q (fuel + 1) (listed.setIfInBounds i true) (A.put oi.dst v) st → (∀ u st', Keeps ro st' → wpAnyP P r ro md ops p Q fuel ((listed.setIfInBounds j true).setIfInBounds i true) ((A.put oj.dst u).put oi.dst v) st' → mOpA P r ro false ops oi (wpAnyP P r ro md ops p Q fuel ((listed.setIfInBounds j true).setIfInBounds i true)) (A.put oj.dst u) st') →
              mOpA P r ro false ops oj (wpAnyP P r ro md ops p Q (fuel + 1) (listed.setIfInBounds j true)) A st := fun v h hback => by
            have k3 := hij v st h
            unfold mOpA at k3 ⊢
            rw [hjw v, if_pos hwj, if_neg hfj] at k3
            rw [if_pos hwj, if_neg hfj]
            obtain ⟨k4, u, st', k5, k6⟩ := k3
            refine ⟨(opC_congr (ev_far d1) k4).mono fun u st' hk => ⟨hk.1, ?_⟩, u, st', k5, ?_⟩
            · have hk2 := hk.2
              rw [hput v u] at hk2
              have hk1 := hk.1.resolve_left Bool.false_ne_true
              exact ih _ _ _ hk1 hdc' hfree' hri (hback u st' hk1 hk2)
            · rw [hput v u] at k6
              have hk1 := k5.resolve_left Bool.false_ne_true
              exact ih _ _ _ hk1 hdc' hfree' hri (hback u st' hk1 k6)
          have hiw : ∀ u, wantedA ops oi (A.put oj.dst u).e = wantedA ops oi A.e := fun u => wantedA_far d3
          have hie : ∀ u, frC P ro oi (A.put oj.dst u).e = frC P ro oi A.e := fun u => frC_congr (ev_far d3)
          unfold mOpA at H
          by_cases hwi : wantedA ops oi A.e = true
          · rw [if_pos hwi, if_pos hfi] at H
            obtain ⟨v, hv, h⟩ := H
            refine key v h fun u w' hc hk => ?_
            unfold mOpA
            rw [hiw u, if_pos hwi, if_pos hfi, hie u]
            exact ⟨v, hv, hk⟩
          · rw [if_neg hwi] at H
            refine key D.un H fun u w' hc hk => ?_
            unfold mOpA
            rw [hiw u, if_neg hwi]
            exact hk
      · have hstep : mOpA P r ro false ops oi (wpAnyP P r ro md ops p Q fuel ((listed.setIfInBounds j true).setIfInBounds i true)) (A.put oj.dst D.un) st := by
          refine mOpA_far hap (mOpA_put hw (fun v w' hc h => ?_) H)
          have k3 := hij v w' h
          unfold mOpA at k3
          rw [hjw v, if_neg hwj] at k3
          exact k3
        unfold mOpA
        rw [if_neg hwj]
        exact ih _ _ _ hw hdc' hfree' hri hstep
theorem wpAnyP_lex {ms : List Nat} (hms : MOk md ops.toList ms) (hL : LastW ms ops) (hall : lastAll ops = true) {p : Nat} (hBt : Between ms ops p) {op : Oper} {l2 : List Oper} {Q : AA → St → Prop} : ∀ (l1 : List Oper) (k : Nat) (listed : Array Bool) (A : AA) (st : St), Keeps ro st → DC md ops listed → k + l1.length = p → (∀ i, k ≤ i → i < p → waitsT ms p i = true) → (∀ j, (l1 ++ op :: l2)[j]? = ops[k + j]?) →
    mixFromA md ms ops (l1 ++ op :: l2).length k listed = true → wpMixA P r ro ops (fun A' st' => ∃ ro2, Keeps ro2 st' ∧ wpMixA P r ro2 ops Q l2 A' st') (l1 ++ [op]) A st → wpAnyP P r ro md ops p Q (l1 ++ op :: l2).length listed A st
  | [], k, listed, A, st, hw, hdc, hk, hwt, hl, hB, h => by
    have hkp : k = p := hk
    subst hkp
    have h0 : ops[k]? = some op := by simpa using (hl 0).symm
    simp only [List.nil_append, List.length_cons, mixFromA, Bool.and_eq_true] at hB
    obtain ⟨⟨hr, hf⟩, hB'⟩ := hB
    have hrk : k ∈ Region.ready md ops listed := by simpa using hr
    refine wpAnyP_pivot hms hBt h0 _ _ _ _ hw hdc (fun j oj hj hne hun hno => (mixFreeA_spec h0 hf j oj hj hne hun hno).1) hrk ?_
    have h : mOpA P r ro (true && lastAll ops) ops op (fun A' st' => ∃ ro2, Keeps ro2 st' ∧ wpMixA P r ro2 ops Q l2 A' st') A st := h
    rw [hall] at h
    refine mOpA_put hw (fun v w' _ ⟨ro2, q1, q2⟩ => ⟨ro2, q1, ?_⟩) h
    exact wpAnyA_lex hms hL l2 (k + 1) _ _ _ q1 (hdc.step hrk) (fun j => by have := hl (j + 1); simpa [Nat.add_assoc, Nat.add_comm 1 j] using this) hB' q2
  | o :: l1, k, listed, A, st, hw, hdc, hk, hwt, hl, hB, h => by
    have h0 : ops[k]? = some o := by simpa using (hl 0).symm
    simp only [List.cons_append, List.length_cons, mixFromA, Bool.and_eq_true] at hB
    obtain ⟨⟨hr, hf⟩, hB'⟩ := hB
    rw [List.length_cons] at hk
    refine wpAnyP_first hms h0 (by omega) (hwt k (Nat.le_refl _) (by omega)) _ listed A st hw hdc (mixFreeA_spec h0 hf) (by simpa using hr) ?_
    have h : mOpA P r ro ((l1 ++ [op]).isEmpty && lastAll ops) ops o (wpMixA P r ro ops (fun A' st' => ∃ ro2, Keeps ro2 st' ∧ wpMixA P r ro2 ops Q l2 A' st') (l1 ++ [op])) A st := h
    have hne : (l1 ++ [op]).isEmpty = false := by simp
    rw [hne, Bool.false_and] at h
    refine mOpA_put hw (fun v w' hc hk' => ?_) h
    exact wpAnyP_lex hms hL hall hBt l1 (k + 1) _ _ _ (hc.resolve_left Bool.false_ne_true) (hdc.step (by simpa using hr)) (by omega) (fun i h1 h2 => hwt i (by omega) h2) (fun j => by have := hl (j + 1); simpa [Nat.add_assoc, Nat.add_comm 1 j] using this) hB' hk'
theorem wpAnyIn_of_P {N : Nat} {ms : List Nat} (hms : MOk md ops.toList ms) (hL : LastW ms ops) {p : Nat} {K : AA → St → Prop} (hok : ∀ (i : Nat) (o : Oper), ops[i]? = some o → dstOk N o.dst = true ∧ guardOk N ops o = true) : ∀ (fuel : Nat) (listed : Array Bool) (A : AA) (st : St) (a : Act) (w : World) (Q : Exit → Act → World → Prop), Keeps ro st → DC md ops listed → RelA N (OwnS st) w a A → Holds st w → wpAnyP P r ro md ops p K fuel listed A st →
    (∀ A' st' a' w', RelA N (OwnS st') w' a' A' → Holds st' w' → Ext (OwnS st) w (OwnS st') w' → K A' st' → Q .normal a' w') → wpAnyIn (FR r) 0 P md ops Q fuel listed a w
  | 0, listed, A, st, a, w, Q, hk, hdc, hr, hh, h, hQ => h.elim
  | fuel + 1, listed, A, st, a, w, Q, hk, hdc, hr, hh, h, hQ => by
    refine ⟨fun h0 => absurd h0 h.1, fun i hi => ?_⟩
    obtain ⟨_, o, ho, _⟩ := mem_ready.1 hi
    obtain ⟨hd, hg⟩ := hok i o ho
    have hm := h.2 i hi o ho
    unfold wpOpIn
    simp only [ho]
    rw [wantedA_eq hr ops o (guardOk_spec hg)]
    by_cases hip : i = p
    · rw [if_pos hip] at hm
      unfold mOpA at hm
      split
      · rename_i hw
        rw [if_pos hw] at hm
        refine wpIn_of_ResC ?_
        have hC : OpC P r o A.e st fun d st' => ∃ ro2, Keeps ro2 st' ∧ wpAnyA P r ro2 md ops K fuel (listed.setIfInBounds i true) (A.put o.dst d) st' := by
          split at hm
          · obtain ⟨d, k1, k2⟩ := hm
            exact (frC_sound hk k1).opC k2
          · exact hm.1.mono fun d st' hkp => hkp.2
        exact (hC a.eval w (hr.repE _) hh).mono fun v w' ⟨d, st', k1, k2, k3, ro2, k4, k5⟩ =>
          wpAnyIn_of_A hms hL hok fuel _ _ st' _ w' Q (.inl k4) (hdc.step hi) ((hr.ext k3).put hd k1) k2 k5 fun A' st'' a' w'' q1 q2 q3 q4 => hQ A' st'' a' w'' q1 q2 (k3.trans q3) q4
      · rename_i hw
        rw [if_neg hw] at hm
        obtain ⟨ro2, k4, k5⟩ := hm
        exact ⟨fun f _ => trivial, wpAnyIn_of_A hms hL hok fuel _ _ st _ w Q (.inl k4) (hdc.step hi) (hr.put hd (.s undef rfl)) hh k5 hQ⟩
    · rw [if_neg hip] at hm
      unfold mOpA at hm
      split
      · rename_i hw
        rw [if_pos hw] at hm
        refine wpIn_of_ResC ?_
        have hC : OpC P r o A.e st fun d st' => Keeps ro st' ∧ wpAnyP P r ro md ops p K fuel (listed.setIfInBounds i true) (A.put o.dst d) st' := by
          split at hm
          · obtain ⟨d, k1, k2⟩ := hm
            exact (frC_sound hk k1).opC ⟨hk, k2⟩
          · exact hm.1.mono fun d st' hkp => ⟨hkp.1.resolve_left Bool.false_ne_true, hkp.2⟩
        exact (hC a.eval w (hr.repE _) hh).mono fun v w' ⟨d, st', k1, k2, k3, k4, k5⟩ =>
          wpAnyIn_of_P hms hL hok fuel _ _ st' _ w' Q k4 (hdc.step hi) ((hr.ext k3).put hd k1) k2 k5 fun A' st'' a' w'' q1 q2 q3 q4 => hQ A' st'' a' w'' q1 q2 (k3.trans q3) q4
      · rename_i hw
        rw [if_neg hw] at hm
        exact ⟨fun f _ => trivial, wpAnyIn_of_P hms hL hok fuel _ _ st _ w Q hk (hdc.step hi) (hr.put hd (.s undef rfl)) hh hm hQ⟩
def betweenB (l : List Oper) (p : Nat) : Bool := lastAll l.toArray && (List.range l.length).all fun j => j == p || (if j < p then waitsT (masks .any l []) p j else waitsT (masks .any l []) j p || ((l[j]?).any pureA))
theorem tr_drawP {N : Nat} {id : Nat} {l : List Oper} {A : AA} {Q : Exit → AA → St → Prop} (ro : Ro) (l1 : List Oper) (op : Oper) (l2 : List Oper) (hl : l = l1 ++ op :: l2) (hm : P.follows .mixedOrders = true) (hB : mixBA .any l.toArray = true) (hok : opsOk N l = true) (hbt : betweenB l l1.length = true) (hC : Keeps ro st)
    (h : wpMixA P r ro l.toArray (fun A' st' => ∃ ro2, Keeps ro2 st' ∧ wpMixA P r ro2 l.toArray (Q .normal) l2 A' st') (l1 ++ [op]) A st) : Tr P N r (.region id l.toArray true) A st Q := by
  intro a w h1 h2
  have hok' : ∀ (i : Nat) (o : Oper), l.toArray[i]? = some o → dstOk N o.dst = true ∧ guardOk N l.toArray o = true := fun i o ho => by
    have := List.all_eq_true.1 hok o (by simp at ho; exact List.mem_of_getElem? ho)
    simpa using this
  have he := Ext.drew (OwnS st) w
  have hms := masks_ok (md := .any) l l [] (by simp) (fun k i h => by simp at h)
  have hL : LastW (masks .any l []) l.toArray := fun h j i hj hi hne => by
    unfold lastAll at h
    have := List.all_eq_true.1 h i (List.mem_range.2 (by omega))
    rw [show l.toArray.size - 1 = j by omega] at this
    exact this
  unfold betweenB at hbt
  rw [Bool.and_eq_true] at hbt
  have hsz : l.toArray.size = l.length := by simp
  have hb : ∀ j, j < l.length → j ≠ l1.length → (if j < l1.length then waitsT (masks .any l []) l1.length j else waitsT (masks .any l []) j l1.length || ((l[j]?).any pureA)) = true := fun j hj hne => by
    have := List.all_eq_true.1 hbt.2 j (List.mem_range.2 hj)
    rw [Bool.or_eq_true, beq_iff_eq] at this
    exact this.resolve_left hne
  have hBt : Between (masks .any l []) l.toArray l1.length := fun j oj hj hne => by
    have hjl := (Array.getElem?_eq_some_iff.1 hj).1
    have := hb j (by rw [← hsz]; exact hjl) hne
    split at this
    · exact .inr (.inl this)
    · rw [Bool.or_eq_true] at this
      rcases this with h | h
      · exact .inl h
      · refine .inr (.inr ?_)
        rw [show l[j]? = some oj by simpa using hj] at h
        exact h
  have hdc : DC .any l.toArray (Array.replicate l.toArray.size false) := fun k o _ hl => absurd hl (by rw [getD_rep]; exact Bool.false_ne_true)
  have hlen : l1.length < l.length := by rw [hl]; simp
  have hany := wpAnyP_lex (P := P) (r := r) (ro := ro) (md := .any) hms hL hbt.1 hBt (op := op) (l2 := l2) (Q := Q .normal) l1 0 (Array.replicate l.toArray.size false) A st hC hdc (by omega) (fun i _ hi => by
    have := hb i (by omega) (by omega)
    rwa [if_pos hi] at this) (fun j => by rw [← hl]; simp) (by rw [← hl]; simpa [mixBA] using hB) h
  refine wpIn_region_any hm ?_
  rw [← hl] at hany
  rw [hsz] at hany hdc ⊢
  exact wpAnyIn_of_P hms hL hok' _ _ A st a w.drew _ hC hdc (h1.ext he) (h2.drewN 1) hany fun A' st' a' w' q1 q2 q3 q5 => ⟨A', st', q1, q2, he.trans q3, q5⟩
theorem mOpA_mono {f : Bool} {o : Oper} {A : AA} {K K' : AA → St → Prop} (h : ∀ A st, K A st → K' A st) (hh : mOpA P r ro f ops o K A st) : mOpA P r ro f ops o K' A st := by
  unfold mOpA at *
  split
  · rename_i hw
    rw [if_pos hw] at hh
    split
    · rename_i hf
      rw [if_pos hf] at hh
      obtain ⟨d, h1, h2⟩ := hh
      exact ⟨d, h1, h _ _ h2⟩
    · rename_i hf
      rw [if_neg hf] at hh
      obtain ⟨h1, d, st', h2, h3⟩ := hh
      exact ⟨h1.mono fun d st' hk => ⟨hk.1, h _ _ hk.2⟩, d, st', h2, h _ _ h3⟩
  · rename_i hw
    rw [if_neg hw] at hh
    exact h _ _ hh
theorem wpMixA_mono {K K' : AA → St → Prop} (h : ∀ A st, K A st → K' A st) : ∀ (l : List Oper) (A : AA) (st : St), wpMixA P r ro ops K l A st → wpMixA P r ro ops K' l A st
  | [], A, st, hh => h A st hh
  | o :: l, A, st, hh => mOpA_mono (wpMixA_mono h l) hh
def ne1 (b : Nat) : St → Prop
  | [] => True
  | .box b' _ _ :: s => ((b' == b) = false ∧ (b == b') = false) ∧ ne1 b s
  | _ :: s => ne1 b s
def nes : St → Prop
  | [] => True
  | .box b _ _ :: s => ne1 b s ∧ nes s
  | _ :: s => nes s
theorem ne1_of {b : Nat} {x : Res} (hb : x.blk = some b) : ∀ {s : St}, (∀ y ∈ s, Apart x y) → ne1 b s
  | [], _ => trivial
  | y :: s, h => by
    have ht : ne1 b s := ne1_of hb fun z hz => h z (List.mem_cons_of_mem _ hz)
    cases y with
    | box b' ty cs =>
      have hne : b' ≠ b := fun e => h _ (List.mem_cons_self ..) b hb (by rw [← e]; rfl)
      exact ⟨⟨beq_eq_false_iff_ne.2 hne, beq_eq_false_iff_ne.2 hne.symm⟩, ht⟩
    | room => exact ht
    | raw => exact ht
    | know => exact ht
theorem nes_of : ∀ {s : St}, s.Pairwise Apart → nes s
  | [], _ => trivial
  | y :: s, h => by
    have h' := List.pairwise_cons.1 h
    have ht := nes_of h'.2
    cases y with
    | box b ty cs => exact ⟨ne1_of rfl h'.1, ht⟩
    | room => exact ht
    | raw => exact ht
    | know => exact ht
theorem tr_nes {N : Nat} {c : Code} {A : AA} {Q : Exit → AA → St → Prop} (h : nes st → Tr P N r c A st Q) : Tr P N r c A st Q := fun a w ha hh => h (nes_of hh.1) a w ha hh
theorem w_drawQ {N : Nat} {id : Nat} {l : List Oper} {A : AA} {Q : Exit → AA → St → Prop} (ro : Ro) (n : Nat) {t1 t2 : List Oper} (hm : P.follows .mixedOrders = true) (hB : mixBA .any l.toArray = true) (hok : opsOk N l = true) (hbt : betweenB l n = true) (h1 : l.take (n + 1) = t1) (h2 : l.drop (n + 1) = t2) (hC : Keep (some ro) st)
    (h : nes st → W P r (some ro) l.toArray (fun A' st' => ∃ ro2, Keep (some ro2) st' ∧ W P r (some ro2) l.toArray (Q .normal) t2 A' st') t1 A st) : Tr P N r (.region id l.toArray true) A st Q := by
  refine tr_nes fun hne => ?_
  subst h1 h2
  by_cases hn : n < l.length
  · have hl : l = l.take n ++ l[n] :: l.drop (n + 1) := by rw [List.getElem_cons_drop, List.take_append_drop]
    have hlen : (l.take n).length = n := by rw [List.length_take]; omega
    refine tr_drawP ro (l.take n) l[n] (l.drop (n + 1)) hl hm hB hok (by rw [hlen]; exact hbt) hC ?_
    rw [show l.take n ++ [l[n]] = l.take (n + 1) from (List.take_succ_eq_append_getElem hn).symm]
    exact wpMixA_mono (fun A' st' ⟨ro2, k1, k2⟩ => ⟨ro2, k1, k2⟩) _ _ _ (h hne)
  · rw [List.take_of_length_le (by omega), List.drop_of_length_le (by omega)] at h
    exact tr_draw ro hm hB hok hC (wpMixA_mono (fun A' st' ⟨ro2, k1, k2⟩ => k2) _ _ _ (h hne))
theorem w_drawN {N : Nat} {id : Nat} {l : List Oper} {A : AA} {Q : Exit → AA → St → Prop} (ro : Ro) (hm : P.follows .mixedOrders = true) (hB : mixBA .any l.toArray = true) (hok : opsOk N l = true) (hC : Keep (some ro) st)
    (h : nes st → W P r (some ro) l.toArray (Q .normal) l A st) : Tr P N r (.region id l.toArray true) A st Q := tr_nes fun hne => w_draw ro hm hB hok hC (h hne)
end
end Go.Proofs.Ytooaagmhgakhgaa
end

section
namespace Go.Proofs.Ytooaagmhgakhgaa
set_option linter.unusedSimpArgs false
open Go.RowKit
section
variable {P : Program} {f : FuncId} {args : List D} {st : St} {R : D → St → Prop} {w : World} {A : AA}
def oneA (P : Program) (r : ResultVar) (A : AA) (st : St) (d : D) : Prop :=
  match r with
  | .tmp t => A.e t = d
  | .cell t T => cellA t T P A st d
def twoA (P : Program) (r1 r2 : ResultVar) (A : AA) (st : St) (d : D) : Prop := ∃ d1 d2, d = .tup [d1, d2] ∧ oneA P r1 A st d1 ∧ oneA P r2 A st d2
def readOne (tmps : Array Value) : ResultVar → Sem Value
  | .tmp t => pure (tmps.getD t undef)
  | .cell a t => do loadVar t (← asAddr (tmps.getD a undef))
theorem res_one {r : ResultVar} {a : Act} {N : Nat} {d : D} (h1 : RelA N (OwnS st) w a A) (h2 : Holds st w) (h3 : oneA P r A st d) : ∃ v, (readOne a.tmps r).run P w = .ok v w ∧ Rep (OwnS st) w v d := by
  cases r with
  | tmp t =>
    have : A.e t = d := h3
    exact ⟨_, rfl, this ▸ h1.2.2 t⟩
  | cell t T =>
    obtain ⟨b, off, ty, cs, ti, k1, k2, k3, k4⟩ := h3
    have hp := h1.2.2 t
    rw [k1] at hp
    have hv : a.tmps.getD t undef = .pointer (some ⟨b, off, none⟩) := by
      generalize a.tmps.getD t undef = v at hp
      cases hp; rfl
    obtain ⟨v, q1, q2⟩ := run_loadBox h2 k2 k3 k4
    refine ⟨v, ?_, q2⟩
    have q3 : (loadVar T ⟨b, off, none⟩).run P w = .ok v w := by
      simpa [Instr.loadAt, Instr.sureAddr] using q1
    show ((do loadVar T (← asAddr (a.tmps.getD t undef))) : Sem Value).run P w = _
    rw [hv]
    simp [asAddr, q3]
theorem res_two {fn : Func} {r1 r2 : ResultVar} (hr : fn.results = #[r1, r2]) {a : Act} {N : Nat} {d : D} (h1 : RelA N (OwnS st) w a A) (h2 : Holds st w) (h3 : twoA P r1 r2 A st d) : ∃ v, (results fn a.tmps).run P w = .ok v w ∧ Rep (OwnS st) w v d := by
  obtain ⟨d1, d2, rfl, k1, k2⟩ := h3
  obtain ⟨v1, q1, p1⟩ := res_one h1 h2 k1
  obtain ⟨v2, q2, p2⟩ := res_one h1 h2 k2
  refine ⟨.tuple #[v1, v2], ?_, ?_⟩
  · have hm : results fn a.tmps = (do
        let vs ← fn.results.mapM (readOne a.tmps)
        pure (if h : vs.size = 1 then vs[0] else .tuple vs)) := by
      unfold results
      congr 2
    rw [hm, hr]
    simp only [Array.mapM_eq_mapM_toList, List.mapM_cons, List.mapM_nil, Sem.run_bind, q1, q2, Result.andThen_ok, Sem.run_pure, map_eq_pure_bind]
    rfl
  · exact .tup [v1, v2] [d1, d2] rfl (RepL.cons p1 (RepL.cons p2 .nil)).2
def retG (G : AA → St → D → Prop) (R : D → St → Prop) : Exit → AA → St → Prop
  | .normal, A, st | .ret, A, st => ∃ (rs : List Nat) (d0 d : D) (s2 st' : St), A.df = rs.map mark ∧ st.Perm (rs.map markR ++ s2) ∧ G A s2 d0 ∧ st'.Sublist s2 ∧ LE d0 d ∧ R d st'
  | _, _, _ => False
theorem leaves_marksG {fn : Func} {tmps : Array Value} {Rw : Ending → World → Prop} : ∀ (rs : List Nat) (w : World), rs.Nodup → (∀ r ∈ rs, w.heap[r]? = some (.deferred (some []))) →
    (∀ w', w'.os = w.os → w'.tape = w.tape → w'.output = w.output → w'.heap.size = w.heap.size → (∀ b, b ∉ rs → w'.heap[b]? = w.heap[b]?) → ∃ v, (results fn tmps).run P w' = .ok v w' ∧ Rw (.returned v) w') → LeavesInM Fence.wide 0 P fn tmps Rw (rs.map mark) .returning w
  | [], w, _, _, hw => by
    obtain ⟨v, h1, h2⟩ := hw w rfl rfl rfl rfl fun _ _ => rfl
    show LeavesIn Fence.wide 0 P fn tmps Rw [] .returning w
    exact ⟨v, h1, h2⟩
  | r :: rs, w, hn, hb, hw => by
    have hr := hb r (List.mem_cons_self ..)
    have hlt := (Array.getElem?_eq_some_iff.1 hr).1
    refine ⟨(by intro h; cases h), .inl ⟨r, _, rfl, run_takeDeferred hr, leaves_marksG rs _ (List.nodup_cons.1 hn).2 (fun x hx => ?_) fun w' h1 h2 h3 h4 h5 => ?_⟩⟩
    · rw [World.putObj_heap_other (by intro e; subst e; exact (List.nodup_cons.1 hn).1 hx)]
      exact hb x (List.mem_cons_of_mem _ hx)
    · refine hw w' h1 h2 h3 (by rw [h4]; simp) fun b hb => ?_
      rw [h5 b fun h => hb (List.mem_cons_of_mem _ h)]
      exact World.putObj_heap_other fun e => hb (e ▸ List.mem_cons_self ..)
theorem trF_enterG {fn : Func} {c : Code} {G : AA → St → D → Prop} (hf : P.funcs[f]? = some fn) (hb : fn.body = some c) (hn : args.length ≤ fn.ntmps) (hres : ∀ {a A w st d}, RelA fn.ntmps (OwnS st) w a A → Holds st w → G A st d → ∃ v, (results fn a.tmps).run P w = .ok v w ∧ Rep (OwnS st) w v d)
    (h : Tr P fn.ntmps none c ⟨initE args, []⟩ st (retG G R)) : TrF P f args st R := by
  intro vs w hv hw
  refine (callsIn_wide (n := 0)).1 (callsIn_of_wp_marks hf hb trivial ?_ rfl)
  have hvl : vs.size = args.length := by rw [← Array.length_toList]; exact hv.1
  have hrel : RelA fn.ntmps (OwnS st) w { tmps := vs ++ Array.replicate (fn.ntmps - vs.size) undef, defers := [] } ⟨initE args, []⟩ := by
    refine ⟨by simp [hvl]; omega, rfl, fun t => ?_⟩
    show Rep _ _ _ (args.getD t D.un)
    simp only [Array.getD_eq_getD_getElem?, List.getD_eq_getElem?_getD]
    rcases Nat.lt_or_ge t args.length with ht | ht
    · have h1 : t < vs.toList.length := by simp; omega
      have := hv.2 t h1 ht
      rw [Array.getElem?_append_left (by omega), List.getElem?_eq_getElem ht, Array.getElem?_eq_getElem (by omega)]
      simpa using this
    · rw [Array.getElem?_append_right (by omega), List.getElem?_eq_none ht]
      simp only [Option.getD_none]
      by_cases h2 : t - vs.size < fn.ntmps - vs.size
      · rw [Array.getElem?_replicate, if_pos h2]
        exact .s undef rfl
      · rw [Array.getElem?_replicate, if_neg h2]
        exact .s undef rfl
  refine wpIn_mono (h _ w hrel hw) fun ex a' w' ⟨A', st', k1, k2, k3, k4⟩ => ?_
  have main : (∃ (rs : List Nat) (d0 d : D) (s2 st'' : St), A'.df = rs.map mark ∧ st'.Perm (rs.map markR ++ s2) ∧ G A' s2 d0 ∧ st''.Sublist s2 ∧ LE d0 d ∧ R d st'') → LeavesInM (FR none) 0 P fn a'.tmps (fun e w' => ∃ v, e = .returned v ∧ PostV st w R v w') a'.defers .returning w' := by
    rintro ⟨rs, d0, d, s2, st'', q1, q2, qg, qs, q3, q4⟩
    rw [k1.2.1, q1]
    have hh := k2.perm q2
    have hnd : rs.Nodup := by
      have := List.Pairwise.sublist (List.sublist_append_left _ _) hh.1
      rw [List.pairwise_map] at this
      exact this.imp fun {a b} hab e => hab a rfl (by rw [e]; rfl)
    have hblk : ∀ r ∈ rs, w'.heap[r]? = some (.deferred (some [])) := fun r hr => hh.2 (markR r) (List.mem_append_left _ (List.mem_map_of_mem hr))
    refine leaves_marksG rs w' hnd hblk fun w'' e1 e2 e3 e4 e5 => ?_
    have hown : ∀ b off, OwnS s2 b off → OwnS st' b off := fun b off ⟨x, hx, ho⟩ => ⟨x, q2.mem_iff.2 (List.mem_append_right _ hx), ho⟩
    have hmk : ∀ r ∈ rs, ∀ off, OwnS st' r off := fun r hr off => ⟨markR r, q2.mem_iff.2 (List.mem_append_left _ (List.mem_map_of_mem hr)), rfl, Nat.zero_le _⟩
    have he : Ext (OwnS st') w' (OwnS s2) w'' := by
      refine ⟨e1, e2, e3, by omega, fun b off _ ho => hown b off ho, fun b hb hno => e5 b fun hr => hno 0 (hmk b hr 0), fun b c E fr hc => ⟨c, fr, ?_, rfl, fun _ _ => rfl⟩⟩
      rw [e5 b fun hr => by rw [hblk b hr] at hc; cases hc]
      exact hc
    have hh2 : Holds s2 w'' := by
      refine ⟨(List.pairwise_append.1 hh.1).2.1, fun x hx => (k2.2 x (q2.mem_iff.2 (List.mem_append_right _ hx))).ext he fun b hb => e5 b fun hr => ?_⟩
      exact (List.pairwise_append.1 hh.1).2.2 (markR b) (List.mem_map_of_mem hr) x hx b rfl hb
    obtain ⟨v, r1, r2⟩ := hres (a := a') (A := A') ⟨k1.1, k1.2.1, fun t => (k1.2.2 t).ext he⟩ hh2 qg
    have hd := Ext.drop (st := s2) (st' := st'') (fun _ h => qs.subset h) w''
    exact ⟨v, r1, v, rfl, d, st'', q3 _ _ _ (r2.ext hd), hh2.sub qs, (k3.trans he).trans hd, q4⟩
  cases ex with
  | normal => exact main k4
  | ret => exact main k4
  | exit id => exact k4.elim
  | goto l => exact k4.elim
  | panic c => exact k4.elim
  | outgrown => exact k4.elim
theorem cell_mk {t : Tmp} {T : TypeId} {ti : TI} {b off : Nat} {ty : TypeId} {cs : List D} {d : D} (hp : A.e t = .ptr b off) (hm : Res.box b ty cs ∈ st) (ht : tinfo P T = some ti) (hd : readD ti (cs.drop off) = some d) : cellA t T P A st d := ⟨b, off, ty, cs, ti, hp, hm, ht, hd⟩
theorem retG_mk {G : AA → St → D → Prop} {ex : Exit} {A : AA} {d X : D} {st st0 s2 : St} {rs : List Nat} (hex : ex = .normal ∨ ex = .ret) (hdf : A.df = rs.map mark) (hp : st.Perm (rs.map markR ++ s2)) (hG : G A s2 d) (hs : st0.Sublist s2) (hl : LE d X) (hR : R X st0) : retG G R ex A st := by
  rcases hex with rfl | rfl <;> exact ⟨rs, d, X, s2, st0, hdf, hp, hG, hs, hl, hR⟩
end
end Go.Proofs.Ytooaagmhgakhgaa
end
