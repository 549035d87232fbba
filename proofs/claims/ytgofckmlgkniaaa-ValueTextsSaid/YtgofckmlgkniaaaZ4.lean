/- Texts put together: Val03j, Val03k, Val03l, Rev, Print, Bld, Quote, Text, Copy, Alive03, CmpSelf, Bin06a, Bin06b, AmRange, AmDraw2, ReadsB, ValLists. No statement is proved here. -/
import Derived.Deep.LoopGhost
import Derived.Lib.Walk
import Derived.Sort.WalkB12
import Derived.Lib.SlicesMore
import Derived.Lib.OwnBridge
import Derived.RangeFuncCalls
import Derived.Shelf.Abstract
import Derived.TacticsInMore
import Derived.LoopNIn
import Derived.LoopIn
import Derived.Test.YtgofckmlgkniaaaShelf
import Derived.LoopN
import Derived.RangeFuncIn
import Derived.RangeFuncLeaves
import Derived.RangeFuncSeq
import Derived.Test.YtgofckmlgkniaaaZ3
set_option linter.all false
section
namespace Go.Proofs.Ytgofckmlgkniaaa
set_option linter.unusedSimpArgs false
open Go.RowKit
set_option maxRecDepth 10000
set_option maxHeartbeats 4000000
namespace V
def sgn (a b : Int) : Int := if a < b then -1 else if b < a then 1 else 0
def ors : List Int → Int
  | [] => 0
  | x :: l => if x = 0 then ors l else x
def cmpB : List UInt8 → List UInt8 → Int
  | [], [] => 0
  | [], _ :: _ => -1
  | _ :: _, [] => 1
  | x :: a, y :: b => if sgn x.toNat y.toNat = 0 then cmpB a b else sgn x.toNat y.toNat
theorem cmpB_end (a b : List UInt8) (i : Nat) (ha : i ≤ a.length) (hb : i ≤ b.length) (h : i = a.length ∨ i = b.length) : cmpB (a.drop i) (b.drop i) = sgn a.length b.length := by
  have h1 : (a.drop i).length = a.length - i := List.length_drop
  have h2 : (b.drop i).length = b.length - i := List.length_drop
  cases hx : a.drop i with
  | nil =>
    rw [hx] at h1
    cases hy : b.drop i with
    | nil => rw [hy] at h2; simp at h1 h2; rw [cmpB, sgn, if_neg (by omega), if_neg (by omega)]
    | cons y t => rw [hy] at h2; simp at h1 h2; rw [cmpB, sgn, if_pos (by omega)]
  | cons x s =>
    rw [hx] at h1
    cases hy : b.drop i with
    | nil => rw [hy] at h2; simp at h1 h2; rw [cmpB, sgn, if_neg (by omega), if_pos (by omega)]
    | cons y t => rw [hy] at h2; simp at h1 h2; omega
end V
theorem nanIF (a : Int) (st : St) : TrF Try.prog 95 [.i a] st fun x st' => x = .b false ∧ st' = st := by
  refine trF_enter (ts := [2]) Try.func95 rfl (by rw [Try.ntmps95]; exact Nat.le_of_ble_eq_true rfl) (fun tmps w => by simp [results, Try.results95, go_sem, resVal]) ?_
  simp only [Try.ntmps95]
  repeat' (first | ((with_reducible apply ev_go); (focus (try simp (disch := omega) only [push_cast, Nat.reduceEqDiff, reduceCtorEq, ↓reduceIte, Nat.reduceAdd, Nat.reduceMul, Nat.reduceSub, Nat.reduceLT, Nat.reduceLeDiff, Int.reduceToNat, Int.reduceLT, Int.reduceLE, Int.reduceAdd, Int.reduceSub, Int.reduceMul, Int.reduceBEq, Int.reduceBNe, encB, encI, V.cells_mk, V.cells_take, V.cells_len, isE_eq, bne_self_eq_false, *]); (try exact rfl); done)) | ((with_reducible refine w_last ?_ ?_ ?_); (focus kernel_rfl); (focus rfl)) | ((with_reducible apply w_stepG); (focus rfl)) | ((with_reducible apply lk_mem); (focus ((repeat (first | exact mm_h | apply mm_t)); done))) | with_reducible (first | refine w_step0 ?_ | refine w_nil ?_ | refine gd_tt ?_ | refine gd_ff ?_ | refine gd_tf ?_ | refine gd_ft ?_ | refine gd_un ?_ | refine s_move ?_ | refine s_assign ?_ | refine s_bin ?_ | refine s_un ?_ | refine s_conv ?_ | refine s_field ?_ | refine s_fieldAddr ?_ | refine s_ext ?_ | refine s_pick ?_ | refine s_nil ?_ | refine s_load ?_ | refine lk_ip ?_ | refine lk_ptr ?_ | refine s_index ?_ | refine s_indexAddr ?_ | refine s_slice ?_ | refine s_build ?_ | refine s_buildSlice ?_ | refine s_mk ?_ | refine s_store ?_ | refine s_alloc ?_ | refine s_call ?_ | refine s_ip ?_ | refine tr_seq ?_ | refine tr_block ?_ | refine tr_skip ?_ | refine tr_ret ?_ | refine tr_exit ?_ | refine tr_label ?_ | refine strip_norm ?_ | refine strip_ret ?_ | refine strip_exit ?_ | refine blk_norm ?_ | refine blk_ret ?_ | refine blk_same ?_ | refine tr_condT ?_ | refine tr_condCt ?_ | refine tr_condCf ?_) | ((with_reducible apply sto_go); (focus (intro cs'; repeat (first | exact ra_h | apply ra_t)))) | ((with_reducible refine al_go ?_); intro b) | ((with_reducible refine And.intro ?_ ?_); (focus ((repeat (first | exact keep_none | exact keep_nil | exact keep_ro | refine keep_cons ?_)); done))) | ((with_reducible refine s_bi ?_ ?_); (focus rfl)) | with_reducible refine blk_ne rfl ?_ | ((with_reducible refine w_region ?_ ?_); (focus kernel_rfl)) | ((with_reducible refine w_draw [] ?_ ?_ ?_ ?_ ?_); (iterate 3 (focus kernel_rfl)); (focus exact keeps_nil)) | ((with_reducible first | refine gd_d1 ?_ ?_ | refine gd_d0 ?_ ?_); all_goals (intro hb; (first | with_reducible replace hb := nt_t hb | with_reducible replace hb := nt_f hb | skip); (first | replace hb := dc_t hb | replace hb := dc_f hb | have hb1 := eq_b hb | have hb1 := ne_b hb | have hb1 := bne_t hb | have hb1 := bne_f hb | skip); (try (exfalso; first | contradiction | omega)))))
  all_goals (refine ret_eq (by first | exact .inl rfl | exact .inr rfl) (by first | rfl | assumption) (by (repeat (first | exact List.Sublist.refl _ | apply List.Sublist.cons))) ?_; (try simp (disch := omega) only [push_cast, Nat.reduceEqDiff, reduceCtorEq, ↓reduceIte, Nat.reduceAdd, Nat.reduceMul, Nat.reduceSub, Nat.reduceLT, Nat.reduceLeDiff, Int.reduceToNat, Int.reduceLT, Int.reduceLE, Int.reduceAdd, Int.reduceSub, Int.reduceMul, Int.reduceBEq, Int.reduceBNe, encB, encI, V.cells_mk, V.cells_take, V.cells_len, isE_eq, bne_self_eq_false, *]); try (first | exact LE.refl _ | exact LE.sl _ _ | (refine LE.tup ?_; (repeat' (first | exact LEL.nil | refine LEL.cons ?_ ?_ | exact LE.refl _ | exact LE.sl _ _ | refine LE.agg ?_)); done) | (refine LE.agg ?_; (repeat' (first | exact LEL.nil | refine LEL.cons ?_ ?_ | exact LE.refl _ | exact LE.sl _ _)); done) | refine LE.of_eq ?_))
theorem nanLF (a : Int) (st : St) : TrF Try.prog 96 [.i a] st fun x st' => x = .b false ∧ st' = st := by
  refine trF_enter (ts := [2]) Try.func96 rfl (by rw [Try.ntmps96]; exact Nat.le_of_ble_eq_true rfl) (fun tmps w => by simp [results, Try.results96, go_sem, resVal]) ?_
  simp only [Try.ntmps96]
  repeat' (first | ((with_reducible apply ev_go); (focus (try simp (disch := omega) only [push_cast, Nat.reduceEqDiff, reduceCtorEq, ↓reduceIte, Nat.reduceAdd, Nat.reduceMul, Nat.reduceSub, Nat.reduceLT, Nat.reduceLeDiff, Int.reduceToNat, Int.reduceLT, Int.reduceLE, Int.reduceAdd, Int.reduceSub, Int.reduceMul, Int.reduceBEq, Int.reduceBNe, encB, encI, V.cells_mk, V.cells_take, V.cells_len, isE_eq, bne_self_eq_false, *]); (try exact rfl); done)) | ((with_reducible refine w_last ?_ ?_ ?_); (focus kernel_rfl); (focus rfl)) | ((with_reducible apply w_stepG); (focus rfl)) | ((with_reducible apply lk_mem); (focus ((repeat (first | exact mm_h | apply mm_t)); done))) | with_reducible (first | refine w_step0 ?_ | refine w_nil ?_ | refine gd_tt ?_ | refine gd_ff ?_ | refine gd_tf ?_ | refine gd_ft ?_ | refine gd_un ?_ | refine s_move ?_ | refine s_assign ?_ | refine s_bin ?_ | refine s_un ?_ | refine s_conv ?_ | refine s_field ?_ | refine s_fieldAddr ?_ | refine s_ext ?_ | refine s_pick ?_ | refine s_nil ?_ | refine s_load ?_ | refine lk_ip ?_ | refine lk_ptr ?_ | refine s_index ?_ | refine s_indexAddr ?_ | refine s_slice ?_ | refine s_build ?_ | refine s_buildSlice ?_ | refine s_mk ?_ | refine s_store ?_ | refine s_alloc ?_ | refine s_call ?_ | refine s_ip ?_ | refine tr_seq ?_ | refine tr_block ?_ | refine tr_skip ?_ | refine tr_ret ?_ | refine tr_exit ?_ | refine tr_label ?_ | refine strip_norm ?_ | refine strip_ret ?_ | refine strip_exit ?_ | refine blk_norm ?_ | refine blk_ret ?_ | refine blk_same ?_ | refine tr_condT ?_ | refine tr_condCt ?_ | refine tr_condCf ?_) | ((with_reducible apply sto_go); (focus (intro cs'; repeat (first | exact ra_h | apply ra_t)))) | ((with_reducible refine al_go ?_); intro b) | ((with_reducible refine And.intro ?_ ?_); (focus ((repeat (first | exact keep_none | exact keep_nil | exact keep_ro | refine keep_cons ?_)); done))) | ((with_reducible refine s_bi ?_ ?_); (focus rfl)) | with_reducible refine blk_ne rfl ?_ | ((with_reducible refine w_region ?_ ?_); (focus kernel_rfl)) | ((with_reducible refine w_draw [] ?_ ?_ ?_ ?_ ?_); (iterate 3 (focus kernel_rfl)); (focus exact keeps_nil)) | ((with_reducible first | refine gd_d1 ?_ ?_ | refine gd_d0 ?_ ?_); all_goals (intro hb; (first | with_reducible replace hb := nt_t hb | with_reducible replace hb := nt_f hb | skip); (first | replace hb := dc_t hb | replace hb := dc_f hb | have hb1 := eq_b hb | have hb1 := ne_b hb | have hb1 := bne_t hb | have hb1 := bne_f hb | skip); (try (exfalso; first | contradiction | omega)))))
  all_goals (refine ret_eq (by first | exact .inl rfl | exact .inr rfl) (by first | rfl | assumption) (by (repeat (first | exact List.Sublist.refl _ | apply List.Sublist.cons))) ?_; (try simp (disch := omega) only [push_cast, Nat.reduceEqDiff, reduceCtorEq, ↓reduceIte, Nat.reduceAdd, Nat.reduceMul, Nat.reduceSub, Nat.reduceLT, Nat.reduceLeDiff, Int.reduceToNat, Int.reduceLT, Int.reduceLE, Int.reduceAdd, Int.reduceSub, Int.reduceMul, Int.reduceBEq, Int.reduceBNe, encB, encI, V.cells_mk, V.cells_take, V.cells_len, isE_eq, bne_self_eq_false, *]); try (first | exact LE.refl _ | exact LE.sl _ _ | (refine LE.tup ?_; (repeat' (first | exact LEL.nil | refine LEL.cons ?_ ?_ | exact LE.refl _ | exact LE.sl _ _ | refine LE.agg ?_)); done) | (refine LE.agg ?_; (repeat' (first | exact LEL.nil | refine LEL.cons ?_ ?_ | exact LE.refl _ | exact LE.sl _ _)); done) | refine LE.of_eq ?_))
theorem nanBF (a : UInt8) (st : St) : TrF Try.prog 94 [.y a] st fun x st' => x = .b false ∧ st' = st := by
  refine trF_enter (ts := [2]) Try.func94 rfl (by rw [Try.ntmps94]; exact Nat.le_of_ble_eq_true rfl) (fun tmps w => by simp [results, Try.results94, go_sem, resVal]) ?_
  simp only [Try.ntmps94]
  repeat' (first | ((with_reducible apply ev_go); (focus (try simp (disch := omega) only [push_cast, Nat.reduceEqDiff, reduceCtorEq, ↓reduceIte, Nat.reduceAdd, Nat.reduceMul, Nat.reduceSub, Nat.reduceLT, Nat.reduceLeDiff, Int.reduceToNat, Int.reduceLT, Int.reduceLE, Int.reduceAdd, Int.reduceSub, Int.reduceMul, Int.reduceBEq, Int.reduceBNe, encB, encI, V.cells_mk, V.cells_take, V.cells_len, isE_eq, bne_self_eq_false, *]); (try exact rfl); done)) | ((with_reducible refine w_last ?_ ?_ ?_); (focus kernel_rfl); (focus rfl)) | ((with_reducible apply w_stepG); (focus rfl)) | ((with_reducible apply lk_mem); (focus ((repeat (first | exact mm_h | apply mm_t)); done))) | with_reducible (first | refine w_step0 ?_ | refine w_nil ?_ | refine gd_tt ?_ | refine gd_ff ?_ | refine gd_tf ?_ | refine gd_ft ?_ | refine gd_un ?_ | refine s_move ?_ | refine s_assign ?_ | refine s_bin ?_ | refine s_un ?_ | refine s_conv ?_ | refine s_field ?_ | refine s_fieldAddr ?_ | refine s_ext ?_ | refine s_pick ?_ | refine s_nil ?_ | refine s_load ?_ | refine lk_ip ?_ | refine lk_ptr ?_ | refine s_index ?_ | refine s_indexAddr ?_ | refine s_slice ?_ | refine s_build ?_ | refine s_buildSlice ?_ | refine s_mk ?_ | refine s_store ?_ | refine s_alloc ?_ | refine s_call ?_ | refine s_ip ?_ | refine tr_seq ?_ | refine tr_block ?_ | refine tr_skip ?_ | refine tr_ret ?_ | refine tr_exit ?_ | refine tr_label ?_ | refine strip_norm ?_ | refine strip_ret ?_ | refine strip_exit ?_ | refine blk_norm ?_ | refine blk_ret ?_ | refine blk_same ?_ | refine tr_condT ?_ | refine tr_condCt ?_ | refine tr_condCf ?_) | ((with_reducible apply sto_go); (focus (intro cs'; repeat (first | exact ra_h | apply ra_t)))) | ((with_reducible refine al_go ?_); intro b) | ((with_reducible refine And.intro ?_ ?_); (focus ((repeat (first | exact keep_none | exact keep_nil | exact keep_ro | refine keep_cons ?_)); done))) | ((with_reducible refine s_bi ?_ ?_); (focus rfl)) | with_reducible refine blk_ne rfl ?_ | ((with_reducible refine w_region ?_ ?_); (focus kernel_rfl)) | ((with_reducible refine w_draw [] ?_ ?_ ?_ ?_ ?_); (iterate 3 (focus kernel_rfl)); (focus exact keeps_nil)) | ((with_reducible first | refine gd_d1 ?_ ?_ | refine gd_d0 ?_ ?_); all_goals (intro hb; (first | with_reducible replace hb := nt_t hb | with_reducible replace hb := nt_f hb | skip); (first | replace hb := dc_t hb | replace hb := dc_f hb | have hb1 := eq_b hb | have hb1 := ne_b hb | have hb1 := bne_t hb | have hb1 := bne_f hb | skip); (try (exfalso; first | contradiction | omega)))))
  all_goals (refine ret_eq (by first | exact .inl rfl | exact .inr rfl) (by first | rfl | assumption) (by (repeat (first | exact List.Sublist.refl _ | apply List.Sublist.cons))) ?_; (try simp (disch := omega) only [push_cast, Nat.reduceEqDiff, reduceCtorEq, ↓reduceIte, Nat.reduceAdd, Nat.reduceMul, Nat.reduceSub, Nat.reduceLT, Nat.reduceLeDiff, Int.reduceToNat, Int.reduceLT, Int.reduceLE, Int.reduceAdd, Int.reduceSub, Int.reduceMul, Int.reduceBEq, Int.reduceBNe, encB, encI, V.cells_mk, V.cells_take, V.cells_len, isE_eq, bne_self_eq_false, *]); try (first | exact LE.refl _ | exact LE.sl _ _ | (refine LE.tup ?_; (repeat' (first | exact LEL.nil | refine LEL.cons ?_ ?_ | exact LE.refl _ | exact LE.sl _ _ | refine LE.agg ?_)); done) | (refine LE.agg ?_; (repeat' (first | exact LEL.nil | refine LEL.cons ?_ ?_ | exact LE.refl _ | exact LE.sl _ _)); done) | refine LE.of_eq ?_))
theorem cmpIF (a b : Int) (st : St) : TrF Try.prog 79 [.i a, .i b] st fun x st' => x = .i (V.sgn a b) ∧ st' = st := by
  refine trF_enter (ts := [4]) Try.func79 rfl (by rw [Try.ntmps79]; exact Nat.le_of_ble_eq_true rfl) (fun tmps w => by simp [results, Try.results79, go_sem, resVal]) ?_
  simp only [Try.ntmps79]
  repeat' (first | ((with_reducible apply ev_go); (focus (try simp (disch := omega) only [push_cast, Nat.reduceEqDiff, reduceCtorEq, ↓reduceIte, Nat.reduceAdd, Nat.reduceMul, Nat.reduceSub, Nat.reduceLT, Nat.reduceLeDiff, Int.reduceToNat, Int.reduceLT, Int.reduceLE, Int.reduceAdd, Int.reduceSub, Int.reduceMul, Int.reduceBEq, Int.reduceBNe, encB, encI, V.cells_mk, V.cells_take, V.cells_len, isE_eq, bne_self_eq_false, *]); (try exact rfl); done)) | ((with_reducible refine w_last ?_ ?_ ?_); (focus kernel_rfl); (focus rfl)) | ((with_reducible apply w_stepG); (focus rfl)) | ((with_reducible apply lk_mem); (focus ((repeat (first | exact mm_h | apply mm_t)); done))) | with_reducible (first | refine w_step0 ?_ | refine w_nil ?_ | refine gd_tt ?_ | refine gd_ff ?_ | refine gd_tf ?_ | refine gd_ft ?_ | refine gd_un ?_ | refine s_move ?_ | refine s_assign ?_ | refine s_bin ?_ | refine s_un ?_ | refine s_conv ?_ | refine s_field ?_ | refine s_fieldAddr ?_ | refine s_ext ?_ | refine s_pick ?_ | refine s_nil ?_ | refine s_load ?_ | refine lk_ip ?_ | refine lk_ptr ?_ | refine s_index ?_ | refine s_indexAddr ?_ | refine s_slice ?_ | refine s_build ?_ | refine s_buildSlice ?_ | refine s_mk ?_ | refine s_store ?_ | refine s_alloc ?_ | refine s_call ?_ | refine s_ip ?_ | refine tr_seq ?_ | refine tr_block ?_ | refine tr_skip ?_ | refine tr_ret ?_ | refine tr_exit ?_ | refine tr_label ?_ | refine strip_norm ?_ | refine strip_ret ?_ | refine strip_exit ?_ | refine blk_norm ?_ | refine blk_ret ?_ | refine blk_same ?_ | refine tr_condT ?_ | refine tr_condCt ?_ | refine tr_condCf ?_) | ((with_reducible apply sto_go); (focus (intro cs'; repeat (first | exact ra_h | apply ra_t)))) | ((with_reducible refine al_go ?_); intro b) | ((with_reducible refine And.intro ?_ ?_); (focus ((repeat (first | exact keep_none | exact keep_nil | exact keep_ro | refine keep_cons ?_)); done))) | ((with_reducible apply (ck_le Try.call95)); (focus exact LEL.refl _); (focus exact nanIF _ _)) | ((with_reducible refine s_bi ?_ ?_); (focus rfl)) | with_reducible refine blk_ne rfl ?_ | ((with_reducible refine w_region ?_ ?_); (focus kernel_rfl)) | ((with_reducible refine w_draw [] ?_ ?_ ?_ ?_ ?_); (iterate 3 (focus kernel_rfl)); (focus exact keeps_nil)) | ((with_reducible first | refine gd_d1 ?_ ?_ | refine gd_d0 ?_ ?_); all_goals (intro hb; (first | with_reducible replace hb := nt_t hb | with_reducible replace hb := nt_f hb | skip); (first | replace hb := dc_t hb | replace hb := dc_f hb | have hb1 := eq_b hb | have hb1 := ne_b hb | have hb1 := bne_t hb | have hb1 := bne_f hb | skip); (try (exfalso; first | contradiction | omega)))))
  all_goals (refine ret_eq (by first | exact .inl rfl | exact .inr rfl) (by first | rfl | assumption) (by (repeat (first | exact List.Sublist.refl _ | apply List.Sublist.cons))) ?_; (try simp (disch := omega) only [push_cast, Nat.reduceEqDiff, reduceCtorEq, ↓reduceIte, Nat.reduceAdd, Nat.reduceMul, Nat.reduceSub, Nat.reduceLT, Nat.reduceLeDiff, Int.reduceToNat, Int.reduceLT, Int.reduceLE, Int.reduceAdd, Int.reduceSub, Int.reduceMul, Int.reduceBEq, Int.reduceBNe, encB, encI, V.cells_mk, V.cells_take, V.cells_len, isE_eq, bne_self_eq_false, *]); try (first | exact LE.refl _ | exact LE.sl _ _ | (refine LE.tup ?_; (repeat' (first | exact LEL.nil | refine LEL.cons ?_ ?_ | exact LE.refl _ | exact LE.sl _ _ | refine LE.agg ?_)); done) | (refine LE.agg ?_; (repeat' (first | exact LEL.nil | refine LEL.cons ?_ ?_ | exact LE.refl _ | exact LE.sl _ _)); done) | refine LE.of_eq ?_))
  all_goals (unfold V.sgn; simp (disch := omega) only [push_cast, Nat.reduceEqDiff, reduceCtorEq, ↓reduceIte, Nat.reduceAdd, Nat.reduceMul, Nat.reduceSub, Nat.reduceLT, Nat.reduceLeDiff, Int.reduceToNat, Int.reduceLT, Int.reduceLE, Int.reduceAdd, Int.reduceSub, Int.reduceMul, Int.reduceBEq, Int.reduceBNe, encB, encI, V.cells_mk, V.cells_take, V.cells_len, isE_eq, bne_self_eq_false, *])
theorem cmpLF (a b : Int) (st : St) : TrF Try.prog 80 [.i a, .i b] st fun x st' => x = .i (V.sgn a b) ∧ st' = st := by
  refine trF_enter (ts := [4]) Try.func80 rfl (by rw [Try.ntmps80]; exact Nat.le_of_ble_eq_true rfl) (fun tmps w => by simp [results, Try.results80, go_sem, resVal]) ?_
  simp only [Try.ntmps80]
  repeat' (first | ((with_reducible apply ev_go); (focus (try simp (disch := omega) only [push_cast, Nat.reduceEqDiff, reduceCtorEq, ↓reduceIte, Nat.reduceAdd, Nat.reduceMul, Nat.reduceSub, Nat.reduceLT, Nat.reduceLeDiff, Int.reduceToNat, Int.reduceLT, Int.reduceLE, Int.reduceAdd, Int.reduceSub, Int.reduceMul, Int.reduceBEq, Int.reduceBNe, encB, encI, V.cells_mk, V.cells_take, V.cells_len, isE_eq, bne_self_eq_false, *]); (try exact rfl); done)) | ((with_reducible refine w_last ?_ ?_ ?_); (focus kernel_rfl); (focus rfl)) | ((with_reducible apply w_stepG); (focus rfl)) | ((with_reducible apply lk_mem); (focus ((repeat (first | exact mm_h | apply mm_t)); done))) | with_reducible (first | refine w_step0 ?_ | refine w_nil ?_ | refine gd_tt ?_ | refine gd_ff ?_ | refine gd_tf ?_ | refine gd_ft ?_ | refine gd_un ?_ | refine s_move ?_ | refine s_assign ?_ | refine s_bin ?_ | refine s_un ?_ | refine s_conv ?_ | refine s_field ?_ | refine s_fieldAddr ?_ | refine s_ext ?_ | refine s_pick ?_ | refine s_nil ?_ | refine s_load ?_ | refine lk_ip ?_ | refine lk_ptr ?_ | refine s_index ?_ | refine s_indexAddr ?_ | refine s_slice ?_ | refine s_build ?_ | refine s_buildSlice ?_ | refine s_mk ?_ | refine s_store ?_ | refine s_alloc ?_ | refine s_call ?_ | refine s_ip ?_ | refine tr_seq ?_ | refine tr_block ?_ | refine tr_skip ?_ | refine tr_ret ?_ | refine tr_exit ?_ | refine tr_label ?_ | refine strip_norm ?_ | refine strip_ret ?_ | refine strip_exit ?_ | refine blk_norm ?_ | refine blk_ret ?_ | refine blk_same ?_ | refine tr_condT ?_ | refine tr_condCt ?_ | refine tr_condCf ?_) | ((with_reducible apply sto_go); (focus (intro cs'; repeat (first | exact ra_h | apply ra_t)))) | ((with_reducible refine al_go ?_); intro b) | ((with_reducible refine And.intro ?_ ?_); (focus ((repeat (first | exact keep_none | exact keep_nil | exact keep_ro | refine keep_cons ?_)); done))) | ((with_reducible apply (ck_le Try.call96)); (focus exact LEL.refl _); (focus exact nanLF _ _)) | ((with_reducible refine s_bi ?_ ?_); (focus rfl)) | with_reducible refine blk_ne rfl ?_ | ((with_reducible refine w_region ?_ ?_); (focus kernel_rfl)) | ((with_reducible refine w_draw [] ?_ ?_ ?_ ?_ ?_); (iterate 3 (focus kernel_rfl)); (focus exact keeps_nil)) | ((with_reducible first | refine gd_d1 ?_ ?_ | refine gd_d0 ?_ ?_); all_goals (intro hb; (first | with_reducible replace hb := nt_t hb | with_reducible replace hb := nt_f hb | skip); (first | replace hb := dc_t hb | replace hb := dc_f hb | have hb1 := eq_b hb | have hb1 := ne_b hb | have hb1 := bne_t hb | have hb1 := bne_f hb | skip); (try (exfalso; first | contradiction | omega)))))
  all_goals (refine ret_eq (by first | exact .inl rfl | exact .inr rfl) (by first | rfl | assumption) (by (repeat (first | exact List.Sublist.refl _ | apply List.Sublist.cons))) ?_; (try simp (disch := omega) only [push_cast, Nat.reduceEqDiff, reduceCtorEq, ↓reduceIte, Nat.reduceAdd, Nat.reduceMul, Nat.reduceSub, Nat.reduceLT, Nat.reduceLeDiff, Int.reduceToNat, Int.reduceLT, Int.reduceLE, Int.reduceAdd, Int.reduceSub, Int.reduceMul, Int.reduceBEq, Int.reduceBNe, encB, encI, V.cells_mk, V.cells_take, V.cells_len, isE_eq, bne_self_eq_false, *]); try (first | exact LE.refl _ | exact LE.sl _ _ | (refine LE.tup ?_; (repeat' (first | exact LEL.nil | refine LEL.cons ?_ ?_ | exact LE.refl _ | exact LE.sl _ _ | refine LE.agg ?_)); done) | (refine LE.agg ?_; (repeat' (first | exact LEL.nil | refine LEL.cons ?_ ?_ | exact LE.refl _ | exact LE.sl _ _)); done) | refine LE.of_eq ?_))
  all_goals (unfold V.sgn; simp (disch := omega) only [push_cast, Nat.reduceEqDiff, reduceCtorEq, ↓reduceIte, Nat.reduceAdd, Nat.reduceMul, Nat.reduceSub, Nat.reduceLT, Nat.reduceLeDiff, Int.reduceToNat, Int.reduceLT, Int.reduceLE, Int.reduceAdd, Int.reduceSub, Int.reduceMul, Int.reduceBEq, Int.reduceBNe, encB, encI, V.cells_mk, V.cells_take, V.cells_len, isE_eq, bne_self_eq_false, *])
theorem cmpBF (a b : UInt8) (st : St) : TrF Try.prog 77 [.y a, .y b] st fun x st' => x = .i (V.sgn a.toNat b.toNat) ∧ st' = st := by
  refine trF_enter (ts := [4]) Try.func77 rfl (by rw [Try.ntmps77]; exact Nat.le_of_ble_eq_true rfl) (fun tmps w => by simp [results, Try.results77, go_sem, resVal]) ?_
  simp only [Try.ntmps77]
  repeat' (first | ((with_reducible apply ev_go); (focus (try simp (disch := omega) only [push_cast, Nat.reduceEqDiff, reduceCtorEq, ↓reduceIte, Nat.reduceAdd, Nat.reduceMul, Nat.reduceSub, Nat.reduceLT, Nat.reduceLeDiff, Int.reduceToNat, Int.reduceLT, Int.reduceLE, Int.reduceAdd, Int.reduceSub, Int.reduceMul, Int.reduceBEq, Int.reduceBNe, encB, encI, V.cells_mk, V.cells_take, V.cells_len, isE_eq, bne_self_eq_false, *]); (try exact rfl); done)) | ((with_reducible refine w_last ?_ ?_ ?_); (focus kernel_rfl); (focus rfl)) | ((with_reducible apply w_stepG); (focus rfl)) | ((with_reducible apply lk_mem); (focus ((repeat (first | exact mm_h | apply mm_t)); done))) | with_reducible (first | refine w_step0 ?_ | refine w_nil ?_ | refine gd_tt ?_ | refine gd_ff ?_ | refine gd_tf ?_ | refine gd_ft ?_ | refine gd_un ?_ | refine s_move ?_ | refine s_assign ?_ | refine s_bin ?_ | refine s_un ?_ | refine s_conv ?_ | refine s_field ?_ | refine s_fieldAddr ?_ | refine s_ext ?_ | refine s_pick ?_ | refine s_nil ?_ | refine s_load ?_ | refine lk_ip ?_ | refine lk_ptr ?_ | refine s_index ?_ | refine s_indexAddr ?_ | refine s_slice ?_ | refine s_build ?_ | refine s_buildSlice ?_ | refine s_mk ?_ | refine s_store ?_ | refine s_alloc ?_ | refine s_call ?_ | refine s_ip ?_ | refine tr_seq ?_ | refine tr_block ?_ | refine tr_skip ?_ | refine tr_ret ?_ | refine tr_exit ?_ | refine tr_label ?_ | refine strip_norm ?_ | refine strip_ret ?_ | refine strip_exit ?_ | refine blk_norm ?_ | refine blk_ret ?_ | refine blk_same ?_ | refine tr_condT ?_ | refine tr_condCt ?_ | refine tr_condCf ?_) | ((with_reducible apply sto_go); (focus (intro cs'; repeat (first | exact ra_h | apply ra_t)))) | ((with_reducible refine al_go ?_); intro b) | ((with_reducible refine And.intro ?_ ?_); (focus ((repeat (first | exact keep_none | exact keep_nil | exact keep_ro | refine keep_cons ?_)); done))) | ((with_reducible apply (ck_le Try.call94)); (focus exact LEL.refl _); (focus exact nanBF _ _)) | ((with_reducible refine s_bi ?_ ?_); (focus rfl)) | with_reducible refine blk_ne rfl ?_ | ((with_reducible refine w_region ?_ ?_); (focus kernel_rfl)) | ((with_reducible refine w_draw [] ?_ ?_ ?_ ?_ ?_); (iterate 3 (focus kernel_rfl)); (focus exact keeps_nil)) | ((with_reducible first | refine gd_d1 ?_ ?_ | refine gd_d0 ?_ ?_); all_goals (intro hb; (first | with_reducible replace hb := nt_t hb | with_reducible replace hb := nt_f hb | skip); (first | replace hb := dc_t hb | replace hb := dc_f hb | have hb1 := eq_b hb | have hb1 := ne_b hb | have hb1 := bne_t hb | have hb1 := bne_f hb | skip); (try (exfalso; first | contradiction | omega)))))
  all_goals (refine ret_eq (by first | exact .inl rfl | exact .inr rfl) (by first | rfl | assumption) (by (repeat (first | exact List.Sublist.refl _ | apply List.Sublist.cons))) ?_; (try simp (disch := omega) only [push_cast, Nat.reduceEqDiff, reduceCtorEq, ↓reduceIte, Nat.reduceAdd, Nat.reduceMul, Nat.reduceSub, Nat.reduceLT, Nat.reduceLeDiff, Int.reduceToNat, Int.reduceLT, Int.reduceLE, Int.reduceAdd, Int.reduceSub, Int.reduceMul, Int.reduceBEq, Int.reduceBNe, encB, encI, V.cells_mk, V.cells_take, V.cells_len, isE_eq, bne_self_eq_false, *]); try (first | exact LE.refl _ | exact LE.sl _ _ | (refine LE.tup ?_; (repeat' (first | exact LEL.nil | refine LEL.cons ?_ ?_ | exact LE.refl _ | exact LE.sl _ _ | refine LE.agg ?_)); done) | (refine LE.agg ?_; (repeat' (first | exact LEL.nil | refine LEL.cons ?_ ?_ | exact LE.refl _ | exact LE.sl _ _)); done) | refine LE.of_eq ?_))
  all_goals (unfold V.sgn; simp (disch := omega) only [push_cast, Nat.reduceEqDiff, reduceCtorEq, ↓reduceIte, Nat.reduceAdd, Nat.reduceMul, Nat.reduceSub, Nat.reduceLT, Nat.reduceLeDiff, Int.reduceToNat, Int.reduceLT, Int.reduceLE, Int.reduceAdd, Int.reduceSub, Int.reduceMul, Int.reduceBEq, Int.reduceBNe, encB, encI, V.cells_mk, V.cells_take, V.cells_len, isE_eq, bne_self_eq_false, *])
theorem cmpB1F (a b : UInt8) (st : St) : TrF Try.prog 76 [.y a, .y b] st fun x st' => x = .i (V.sgn a.toNat b.toNat) ∧ st' = st := by
  refine trF_enter (ts := [4]) Try.func76 rfl (by rw [Try.ntmps76]; exact Nat.le_of_ble_eq_true rfl) (fun tmps w => by simp [results, Try.results76, go_sem, resVal]) ?_
  simp only [Try.ntmps76]
  repeat' (first | ((with_reducible apply ev_go); (focus (try simp (disch := omega) only [push_cast, Nat.reduceEqDiff, reduceCtorEq, ↓reduceIte, Nat.reduceAdd, Nat.reduceMul, Nat.reduceSub, Nat.reduceLT, Nat.reduceLeDiff, Int.reduceToNat, Int.reduceLT, Int.reduceLE, Int.reduceAdd, Int.reduceSub, Int.reduceMul, Int.reduceBEq, Int.reduceBNe, encB, encI, V.cells_mk, V.cells_take, V.cells_len, isE_eq, bne_self_eq_false, *]); (try exact rfl); done)) | ((with_reducible refine w_last ?_ ?_ ?_); (focus kernel_rfl); (focus rfl)) | ((with_reducible apply w_stepG); (focus rfl)) | ((with_reducible apply lk_mem); (focus ((repeat (first | exact mm_h | apply mm_t)); done))) | with_reducible (first | refine w_step0 ?_ | refine w_nil ?_ | refine gd_tt ?_ | refine gd_ff ?_ | refine gd_tf ?_ | refine gd_ft ?_ | refine gd_un ?_ | refine s_move ?_ | refine s_assign ?_ | refine s_bin ?_ | refine s_un ?_ | refine s_conv ?_ | refine s_field ?_ | refine s_fieldAddr ?_ | refine s_ext ?_ | refine s_pick ?_ | refine s_nil ?_ | refine s_load ?_ | refine lk_ip ?_ | refine lk_ptr ?_ | refine s_index ?_ | refine s_indexAddr ?_ | refine s_slice ?_ | refine s_build ?_ | refine s_buildSlice ?_ | refine s_mk ?_ | refine s_store ?_ | refine s_alloc ?_ | refine s_call ?_ | refine s_ip ?_ | refine tr_seq ?_ | refine tr_block ?_ | refine tr_skip ?_ | refine tr_ret ?_ | refine tr_exit ?_ | refine tr_label ?_ | refine strip_norm ?_ | refine strip_ret ?_ | refine strip_exit ?_ | refine blk_norm ?_ | refine blk_ret ?_ | refine blk_same ?_ | refine tr_condT ?_ | refine tr_condCt ?_ | refine tr_condCf ?_) | ((with_reducible apply sto_go); (focus (intro cs'; repeat (first | exact ra_h | apply ra_t)))) | ((with_reducible refine al_go ?_); intro b) | ((with_reducible refine And.intro ?_ ?_); (focus ((repeat (first | exact keep_none | exact keep_nil | exact keep_ro | refine keep_cons ?_)); done))) | ((with_reducible apply (ck_le Try.call77)); (focus exact LEL.refl _); (focus exact cmpBF _ _ _)) | ((with_reducible refine s_bi ?_ ?_); (focus rfl)) | with_reducible refine blk_ne rfl ?_ | ((with_reducible refine w_region ?_ ?_); (focus kernel_rfl)) | ((with_reducible refine w_draw [] ?_ ?_ ?_ ?_ ?_); (iterate 3 (focus kernel_rfl)); (focus exact keeps_nil)) | ((with_reducible first | refine gd_d1 ?_ ?_ | refine gd_d0 ?_ ?_); all_goals (intro hb; (first | with_reducible replace hb := nt_t hb | with_reducible replace hb := nt_f hb | skip); (first | replace hb := dc_t hb | replace hb := dc_f hb | have hb1 := eq_b hb | have hb1 := ne_b hb | have hb1 := bne_t hb | have hb1 := bne_f hb | skip); (try (exfalso; first | contradiction | omega)))))
  all_goals (refine ret_eq (by first | exact .inl rfl | exact .inr rfl) (by first | rfl | assumption) (by (repeat (first | exact List.Sublist.refl _ | apply List.Sublist.cons))) ?_; (try simp (disch := omega) only [push_cast, Nat.reduceEqDiff, reduceCtorEq, ↓reduceIte, Nat.reduceAdd, Nat.reduceMul, Nat.reduceSub, Nat.reduceLT, Nat.reduceLeDiff, Int.reduceToNat, Int.reduceLT, Int.reduceLE, Int.reduceAdd, Int.reduceSub, Int.reduceMul, Int.reduceBEq, Int.reduceBNe, encB, encI, V.cells_mk, V.cells_take, V.cells_len, isE_eq, bne_self_eq_false, *]); try (first | exact LE.refl _ | exact LE.sl _ _ | (refine LE.tup ?_; (repeat' (first | exact LEL.nil | refine LEL.cons ?_ ?_ | exact LE.refl _ | exact LE.sl _ _ | refine LE.agg ?_)); done) | (refine LE.agg ?_; (repeat' (first | exact LEL.nil | refine LEL.cons ?_ ?_ | exact LE.refl _ | exact LE.sl _ _)); done) | refine LE.of_eq ?_))
theorem orF (o : Own) (l : List Int) (hl : l.length ≤ 1000) (st : St) : TrF Try.prog 78 [.sl o (l.map encI)] st fun x st' => x = .i (V.ors l) ∧ st' = st := by
  obtain ⟨B, hB⟩ : ∃ B, V.ors l = B := ⟨_, rfl⟩
  have HB : Hid (V.ors (l.drop 0) = B) := hB
  rw [hB]
  clear hB
  refine trF_enter (ts := [2]) Try.func78 rfl (by rw [Try.ntmps78]; exact Nat.le_of_ble_eq_true rfl) (fun tmps w => by simp [results, Try.results78, go_sem, resVal]) ?_
  simp only [Try.ntmps78]
  repeat' (first | ((with_reducible apply ev_go); (focus (try simp (disch := omega) only [push_cast, Nat.reduceEqDiff, reduceCtorEq, ↓reduceIte, Nat.reduceAdd, Nat.reduceMul, Nat.reduceSub, Nat.reduceLT, Nat.reduceLeDiff, Int.reduceToNat, Int.reduceLT, Int.reduceLE, Int.reduceAdd, Int.reduceSub, Int.reduceMul, Int.reduceBEq, Int.reduceBNe, encB, encI, V.cells_mk, V.cells_take, V.cells_len, isE_eq, bne_self_eq_false, *]); (try exact rfl); done)) | ((with_reducible refine w_last ?_ ?_ ?_); (focus kernel_rfl); (focus rfl)) | ((with_reducible apply w_stepG); (focus rfl)) | ((with_reducible apply lk_mem); (focus ((repeat (first | exact mm_h | apply mm_t)); done))) | with_reducible (first | refine w_step0 ?_ | refine w_nil ?_ | refine gd_tt ?_ | refine gd_ff ?_ | refine gd_tf ?_ | refine gd_ft ?_ | refine gd_un ?_ | refine s_move ?_ | refine s_assign ?_ | refine s_bin ?_ | refine s_un ?_ | refine s_conv ?_ | refine s_field ?_ | refine s_fieldAddr ?_ | refine s_ext ?_ | refine s_pick ?_ | refine s_nil ?_ | refine s_load ?_ | refine lk_ip ?_ | refine lk_ptr ?_ | refine s_index ?_ | refine s_indexAddr ?_ | refine s_slice ?_ | refine s_build ?_ | refine s_buildSlice ?_ | refine s_mk ?_ | refine s_store ?_ | refine s_alloc ?_ | refine s_call ?_ | refine s_ip ?_ | refine s_app ?_ | refine ak_go ?_ | refine s_aps ?_ | refine ap_go ?_ | refine p2_true ?_ | refine tr_seq ?_ | refine tr_block ?_ | refine tr_skip ?_ | refine tr_ret ?_ | refine tr_exit ?_ | refine tr_label ?_ | refine strip_norm ?_ | refine strip_ret ?_ | refine strip_exit ?_ | refine blk_norm ?_ | refine blk_ret ?_ | refine blk_same ?_ | refine tr_condT ?_ | refine tr_condCt ?_ | refine tr_condCf ?_) | ((with_reducible apply sto_go); (focus (intro cs'; repeat (first | exact ra_h | apply ra_t)))) | ((with_reducible refine al_go ?_); intro b) | ((with_reducible refine And.intro ?_ ?_); (focus ((repeat (first | exact keep_none | exact keep_nil | exact keep_ro | refine keep_cons ?_)); done))) | ((with_reducible refine s_bi ?_ ?_); (focus rfl)) | ((with_reducible apply a2_go); (focus (first | assumption | (intro h; cases h))); (focus (intro o'; repeat (first | exact ra_h | apply ra_t))); (focus (first | assumption | exact len_nil | exact len_one rfl | (intro a ha; obtain ⟨x, -, rfl⟩ := List.mem_map.1 ha; first | rfl | simp) | (intro a ha; simp at ha; simp [ha]))); (focus (first | assumption | exact len_nil | exact len_one rfl | (intro a ha; obtain ⟨x, -, rfl⟩ := List.mem_map.1 ha; first | rfl | simp) | (intro a ha; simp at ha; simp [ha]))); (focus (first | omega | (simp only [List.length_map, List.length_cons, List.length_nil, List.length_append]; omega))); (focus (first | omega | (simp only [List.length_map, List.length_cons, List.length_nil, List.length_append]; omega))); intro o' ho') | ((with_reducible apply p2_go); (focus (first | assumption | (intro h; cases h))); (focus (intro o'; repeat (first | exact ra_h | apply ra_t))); (focus (first | assumption | exact len_nil | exact len_one rfl | (intro a ha; obtain ⟨x, -, rfl⟩ := List.mem_map.1 ha; first | rfl | simp) | (intro a ha; simp at ha; simp [ha]))); (focus (first | omega | (simp only [List.length_map, List.length_cons, List.length_nil, List.length_append]; omega))); (focus (first | omega | (simp only [List.length_map, List.length_cons, List.length_nil, List.length_append]; omega))); intro o' ho') | with_reducible refine blk_ne rfl ?_ | ((with_reducible refine w_region ?_ ?_); (focus kernel_rfl)) | ((with_reducible refine w_draw [] ?_ ?_ ?_ ?_ ?_); (iterate 3 (focus kernel_rfl)); (focus exact keeps_nil)) | ((with_reducible first | refine gd_d1 ?_ ?_ | refine gd_d0 ?_ ?_); all_goals (intro hb; (first | with_reducible replace hb := nt_t hb | with_reducible replace hb := nt_f hb | skip); (first | replace hb := dc_t hb | replace hb := dc_f hb | have hb1 := eq_b hb | have hb1 := ne_b hb | have hb1 := bne_t hb | have hb1 := bne_f hb | skip); (try (exfalso; first | contradiction | omega)))))
  refine tr_loop (ι := Nat) (fun i A st' => i ≤ l.length ∧ Hid (V.ors (l.drop i) = B) ∧ A.df = [] ∧ A.e 3 = .i 0 ∧ A.e 6 = .sl o (l.map encI) ∧ A.e 7 = .i l.length ∧ A.e 8 = .i i ∧ st = st') (fun i => l.length - i) 0 ⟨Nat.zero_le _, HB, ?_, ?_, ?_, ?_, ?_, rfl⟩ ?_
  iterate 5 (focus (first | rfl | assumption | omega | (simp (disch := omega) only [push_cast, Nat.reduceEqDiff, reduceCtorEq, ↓reduceIte, Nat.reduceAdd, Nat.reduceMul, Nat.reduceSub, Nat.reduceLT, Nat.reduceLeDiff, Int.reduceToNat, Int.reduceLT, Int.reduceLE, Int.reduceAdd, Int.reduceSub, Int.reduceMul, Int.reduceBEq, Int.reduceBNe, encB, encI, V.cells_mk, V.cells_take, V.cells_len, isE_eq, bne_self_eq_false, *]; try omega; done)))
  rintro i A st' ⟨hi, HT, hdf, e3, e6, e7, e8, rfl⟩
  by_cases hlt : i < l.length
  · obtain ⟨x, hx⟩ : ∃ x, l[i]? = some x := ⟨_, List.getElem?_eq_getElem hlt⟩
    have HE := HT.out
    rw [V.drop_cons hx, V.ors] at HE
    clear HT HB
    by_cases h0 : x = 0
    · rw [if_pos h0] at HE
      have HE := Lib.hid HE
      subst h0
      repeat' (first | ((with_reducible apply ev_go); (focus (try simp (disch := omega) only [push_cast, Nat.reduceEqDiff, reduceCtorEq, ↓reduceIte, Nat.reduceAdd, Nat.reduceMul, Nat.reduceSub, Nat.reduceLT, Nat.reduceLeDiff, Int.reduceToNat, Int.reduceLT, Int.reduceLE, Int.reduceAdd, Int.reduceSub, Int.reduceMul, Int.reduceBEq, Int.reduceBNe, encB, encI, V.cells_mk, V.cells_take, V.cells_len, isE_eq, bne_self_eq_false, *]); (try exact rfl); done)) | ((with_reducible refine w_last ?_ ?_ ?_); (focus kernel_rfl); (focus rfl)) | ((with_reducible apply w_stepG); (focus rfl)) | ((with_reducible apply lk_mem); (focus ((repeat (first | exact mm_h | apply mm_t)); done))) | with_reducible (first | refine w_step0 ?_ | refine w_nil ?_ | refine gd_tt ?_ | refine gd_ff ?_ | refine gd_tf ?_ | refine gd_ft ?_ | refine gd_un ?_ | refine s_move ?_ | refine s_assign ?_ | refine s_bin ?_ | refine s_un ?_ | refine s_conv ?_ | refine s_field ?_ | refine s_fieldAddr ?_ | refine s_ext ?_ | refine s_pick ?_ | refine s_nil ?_ | refine s_load ?_ | refine lk_ip ?_ | refine lk_ptr ?_ | refine s_index ?_ | refine s_indexAddr ?_ | refine s_slice ?_ | refine s_build ?_ | refine s_buildSlice ?_ | refine s_mk ?_ | refine s_store ?_ | refine s_alloc ?_ | refine s_call ?_ | refine s_ip ?_ | refine s_app ?_ | refine ak_go ?_ | refine s_aps ?_ | refine ap_go ?_ | refine p2_true ?_ | refine tr_seq ?_ | refine tr_block ?_ | refine tr_skip ?_ | refine tr_ret ?_ | refine tr_exit ?_ | refine tr_label ?_ | refine strip_norm ?_ | refine strip_ret ?_ | refine strip_exit ?_ | refine blk_norm ?_ | refine blk_ret ?_ | refine blk_same ?_ | refine tr_condT ?_ | refine tr_condCt ?_ | refine tr_condCf ?_) | ((with_reducible apply sto_go); (focus (intro cs'; repeat (first | exact ra_h | apply ra_t)))) | ((with_reducible refine al_go ?_); intro b) | ((with_reducible refine And.intro ?_ ?_); (focus ((repeat (first | exact keep_none | exact keep_nil | exact keep_ro | refine keep_cons ?_)); done))) | ((with_reducible refine s_bi ?_ ?_); (focus rfl)) | ((with_reducible apply a2_go); (focus (first | assumption | (intro h; cases h))); (focus (intro o'; repeat (first | exact ra_h | apply ra_t))); (focus (first | assumption | exact len_nil | exact len_one rfl | (intro a ha; obtain ⟨x, -, rfl⟩ := List.mem_map.1 ha; first | rfl | simp) | (intro a ha; simp at ha; simp [ha]))); (focus (first | assumption | exact len_nil | exact len_one rfl | (intro a ha; obtain ⟨x, -, rfl⟩ := List.mem_map.1 ha; first | rfl | simp) | (intro a ha; simp at ha; simp [ha]))); (focus (first | omega | (simp only [List.length_map, List.length_cons, List.length_nil, List.length_append]; omega))); (focus (first | omega | (simp only [List.length_map, List.length_cons, List.length_nil, List.length_append]; omega))); intro o' ho') | ((with_reducible apply p2_go); (focus (first | assumption | (intro h; cases h))); (focus (intro o'; repeat (first | exact ra_h | apply ra_t))); (focus (first | assumption | exact len_nil | exact len_one rfl | (intro a ha; obtain ⟨x, -, rfl⟩ := List.mem_map.1 ha; first | rfl | simp) | (intro a ha; simp at ha; simp [ha]))); (focus (first | omega | (simp only [List.length_map, List.length_cons, List.length_nil, List.length_append]; omega))); (focus (first | omega | (simp only [List.length_map, List.length_cons, List.length_nil, List.length_append]; omega))); intro o' ho') | with_reducible refine blk_ne rfl ?_ | ((with_reducible refine w_region ?_ ?_); (focus kernel_rfl)) | ((with_reducible refine w_draw [] ?_ ?_ ?_ ?_ ?_); (iterate 3 (focus kernel_rfl)); (focus exact keeps_nil)) | ((with_reducible first | refine gd_d1 ?_ ?_ | refine gd_d0 ?_ ?_); all_goals (intro hb; (first | with_reducible replace hb := nt_t hb | with_reducible replace hb := nt_f hb | skip); (first | replace hb := dc_t hb | replace hb := dc_f hb | have hb1 := eq_b hb | have hb1 := ne_b hb | have hb1 := bne_t hb | have hb1 := bne_f hb | skip); (try (exfalso; first | contradiction | omega)))))
      refine ⟨i + 1, ⟨hlt, HE, ?_, ?_, ?_, ?_, ?_, rfl⟩, ?_⟩
      all_goals (first | rfl | assumption | omega | (simp (disch := omega) only [push_cast, Nat.reduceEqDiff, reduceCtorEq, ↓reduceIte, Nat.reduceAdd, Nat.reduceMul, Nat.reduceSub, Nat.reduceLT, Nat.reduceLeDiff, Int.reduceToNat, Int.reduceLT, Int.reduceLE, Int.reduceAdd, Int.reduceSub, Int.reduceMul, Int.reduceBEq, Int.reduceBNe, encB, encI, V.cells_mk, V.cells_take, V.cells_len, isE_eq, bne_self_eq_false, *]; try omega; done))
    · rw [if_neg h0] at HE
      rw [← HE]
      clear HE
      repeat' (first | ((with_reducible apply ev_go); (focus (try simp (disch := omega) only [push_cast, Nat.reduceEqDiff, reduceCtorEq, ↓reduceIte, Nat.reduceAdd, Nat.reduceMul, Nat.reduceSub, Nat.reduceLT, Nat.reduceLeDiff, Int.reduceToNat, Int.reduceLT, Int.reduceLE, Int.reduceAdd, Int.reduceSub, Int.reduceMul, Int.reduceBEq, Int.reduceBNe, encB, encI, V.cells_mk, V.cells_take, V.cells_len, isE_eq, bne_self_eq_false, *]); (try exact rfl); done)) | ((with_reducible refine w_last ?_ ?_ ?_); (focus kernel_rfl); (focus rfl)) | ((with_reducible apply w_stepG); (focus rfl)) | ((with_reducible apply lk_mem); (focus ((repeat (first | exact mm_h | apply mm_t)); done))) | with_reducible (first | refine w_step0 ?_ | refine w_nil ?_ | refine gd_tt ?_ | refine gd_ff ?_ | refine gd_tf ?_ | refine gd_ft ?_ | refine gd_un ?_ | refine s_move ?_ | refine s_assign ?_ | refine s_bin ?_ | refine s_un ?_ | refine s_conv ?_ | refine s_field ?_ | refine s_fieldAddr ?_ | refine s_ext ?_ | refine s_pick ?_ | refine s_nil ?_ | refine s_load ?_ | refine lk_ip ?_ | refine lk_ptr ?_ | refine s_index ?_ | refine s_indexAddr ?_ | refine s_slice ?_ | refine s_build ?_ | refine s_buildSlice ?_ | refine s_mk ?_ | refine s_store ?_ | refine s_alloc ?_ | refine s_call ?_ | refine s_ip ?_ | refine s_app ?_ | refine ak_go ?_ | refine s_aps ?_ | refine ap_go ?_ | refine p2_true ?_ | refine tr_seq ?_ | refine tr_block ?_ | refine tr_skip ?_ | refine tr_ret ?_ | refine tr_exit ?_ | refine tr_label ?_ | refine strip_norm ?_ | refine strip_ret ?_ | refine strip_exit ?_ | refine blk_norm ?_ | refine blk_ret ?_ | refine blk_same ?_ | refine tr_condT ?_ | refine tr_condCt ?_ | refine tr_condCf ?_) | ((with_reducible apply sto_go); (focus (intro cs'; repeat (first | exact ra_h | apply ra_t)))) | ((with_reducible refine al_go ?_); intro b) | ((with_reducible refine And.intro ?_ ?_); (focus ((repeat (first | exact keep_none | exact keep_nil | exact keep_ro | refine keep_cons ?_)); done))) | ((with_reducible refine s_bi ?_ ?_); (focus rfl)) | ((with_reducible apply a2_go); (focus (first | assumption | (intro h; cases h))); (focus (intro o'; repeat (first | exact ra_h | apply ra_t))); (focus (first | assumption | exact len_nil | exact len_one rfl | (intro a ha; obtain ⟨x, -, rfl⟩ := List.mem_map.1 ha; first | rfl | simp) | (intro a ha; simp at ha; simp [ha]))); (focus (first | assumption | exact len_nil | exact len_one rfl | (intro a ha; obtain ⟨x, -, rfl⟩ := List.mem_map.1 ha; first | rfl | simp) | (intro a ha; simp at ha; simp [ha]))); (focus (first | omega | (simp only [List.length_map, List.length_cons, List.length_nil, List.length_append]; omega))); (focus (first | omega | (simp only [List.length_map, List.length_cons, List.length_nil, List.length_append]; omega))); intro o' ho') | ((with_reducible apply p2_go); (focus (first | assumption | (intro h; cases h))); (focus (intro o'; repeat (first | exact ra_h | apply ra_t))); (focus (first | assumption | exact len_nil | exact len_one rfl | (intro a ha; obtain ⟨x, -, rfl⟩ := List.mem_map.1 ha; first | rfl | simp) | (intro a ha; simp at ha; simp [ha]))); (focus (first | omega | (simp only [List.length_map, List.length_cons, List.length_nil, List.length_append]; omega))); (focus (first | omega | (simp only [List.length_map, List.length_cons, List.length_nil, List.length_append]; omega))); intro o' ho') | with_reducible refine blk_ne rfl ?_ | ((with_reducible refine w_region ?_ ?_); (focus kernel_rfl)) | ((with_reducible refine w_draw [] ?_ ?_ ?_ ?_ ?_); (iterate 3 (focus kernel_rfl)); (focus exact keeps_nil)) | ((with_reducible first | refine gd_d1 ?_ ?_ | refine gd_d0 ?_ ?_); all_goals (intro hb; (first | with_reducible replace hb := nt_t hb | with_reducible replace hb := nt_f hb | skip); (first | replace hb := dc_t hb | replace hb := dc_f hb | have hb1 := eq_b hb | have hb1 := ne_b hb | have hb1 := bne_t hb | have hb1 := bne_f hb | skip); (try (exfalso; first | contradiction | omega)))))
      all_goals (refine ret_eq (by first | exact .inl rfl | exact .inr rfl) (by first | rfl | assumption) (by (repeat (first | exact List.Sublist.refl _ | apply List.Sublist.cons))) ?_; (try simp (disch := omega) only [push_cast, Nat.reduceEqDiff, reduceCtorEq, ↓reduceIte, Nat.reduceAdd, Nat.reduceMul, Nat.reduceSub, Nat.reduceLT, Nat.reduceLeDiff, Int.reduceToNat, Int.reduceLT, Int.reduceLE, Int.reduceAdd, Int.reduceSub, Int.reduceMul, Int.reduceBEq, Int.reduceBNe, encB, encI, V.cells_mk, V.cells_take, V.cells_len, isE_eq, bne_self_eq_false, *]); try (first | exact LE.refl _ | exact LE.sl _ _ | (refine LE.tup ?_; (repeat' (first | exact LEL.nil | refine LEL.cons ?_ ?_ | exact LE.refl _ | exact LE.sl _ _ | refine LE.agg ?_)); done) | (refine LE.agg ?_; (repeat' (first | exact LEL.nil | refine LEL.cons ?_ ?_ | exact LE.refl _ | exact LE.sl _ _)); done) | refine LE.of_eq ?_))
  · have HE := HT.out
    rw [List.drop_eq_nil_of_le (by omega), V.ors] at HE
    rw [← HE]
    clear HE HT HB
    repeat' (first | ((with_reducible apply ev_go); (focus (try simp (disch := omega) only [push_cast, Nat.reduceEqDiff, reduceCtorEq, ↓reduceIte, Nat.reduceAdd, Nat.reduceMul, Nat.reduceSub, Nat.reduceLT, Nat.reduceLeDiff, Int.reduceToNat, Int.reduceLT, Int.reduceLE, Int.reduceAdd, Int.reduceSub, Int.reduceMul, Int.reduceBEq, Int.reduceBNe, encB, encI, V.cells_mk, V.cells_take, V.cells_len, isE_eq, bne_self_eq_false, *]); (try exact rfl); done)) | ((with_reducible refine w_last ?_ ?_ ?_); (focus kernel_rfl); (focus rfl)) | ((with_reducible apply w_stepG); (focus rfl)) | ((with_reducible apply lk_mem); (focus ((repeat (first | exact mm_h | apply mm_t)); done))) | with_reducible (first | refine w_step0 ?_ | refine w_nil ?_ | refine gd_tt ?_ | refine gd_ff ?_ | refine gd_tf ?_ | refine gd_ft ?_ | refine gd_un ?_ | refine s_move ?_ | refine s_assign ?_ | refine s_bin ?_ | refine s_un ?_ | refine s_conv ?_ | refine s_field ?_ | refine s_fieldAddr ?_ | refine s_ext ?_ | refine s_pick ?_ | refine s_nil ?_ | refine s_load ?_ | refine lk_ip ?_ | refine lk_ptr ?_ | refine s_index ?_ | refine s_indexAddr ?_ | refine s_slice ?_ | refine s_build ?_ | refine s_buildSlice ?_ | refine s_mk ?_ | refine s_store ?_ | refine s_alloc ?_ | refine s_call ?_ | refine s_ip ?_ | refine s_app ?_ | refine ak_go ?_ | refine s_aps ?_ | refine ap_go ?_ | refine p2_true ?_ | refine tr_seq ?_ | refine tr_block ?_ | refine tr_skip ?_ | refine tr_ret ?_ | refine tr_exit ?_ | refine tr_label ?_ | refine strip_norm ?_ | refine strip_ret ?_ | refine strip_exit ?_ | refine blk_norm ?_ | refine blk_ret ?_ | refine blk_same ?_ | refine tr_condT ?_ | refine tr_condCt ?_ | refine tr_condCf ?_) | ((with_reducible apply sto_go); (focus (intro cs'; repeat (first | exact ra_h | apply ra_t)))) | ((with_reducible refine al_go ?_); intro b) | ((with_reducible refine And.intro ?_ ?_); (focus ((repeat (first | exact keep_none | exact keep_nil | exact keep_ro | refine keep_cons ?_)); done))) | ((with_reducible refine s_bi ?_ ?_); (focus rfl)) | ((with_reducible apply a2_go); (focus (first | assumption | (intro h; cases h))); (focus (intro o'; repeat (first | exact ra_h | apply ra_t))); (focus (first | assumption | exact len_nil | exact len_one rfl | (intro a ha; obtain ⟨x, -, rfl⟩ := List.mem_map.1 ha; first | rfl | simp) | (intro a ha; simp at ha; simp [ha]))); (focus (first | assumption | exact len_nil | exact len_one rfl | (intro a ha; obtain ⟨x, -, rfl⟩ := List.mem_map.1 ha; first | rfl | simp) | (intro a ha; simp at ha; simp [ha]))); (focus (first | omega | (simp only [List.length_map, List.length_cons, List.length_nil, List.length_append]; omega))); (focus (first | omega | (simp only [List.length_map, List.length_cons, List.length_nil, List.length_append]; omega))); intro o' ho') | ((with_reducible apply p2_go); (focus (first | assumption | (intro h; cases h))); (focus (intro o'; repeat (first | exact ra_h | apply ra_t))); (focus (first | assumption | exact len_nil | exact len_one rfl | (intro a ha; obtain ⟨x, -, rfl⟩ := List.mem_map.1 ha; first | rfl | simp) | (intro a ha; simp at ha; simp [ha]))); (focus (first | omega | (simp only [List.length_map, List.length_cons, List.length_nil, List.length_append]; omega))); (focus (first | omega | (simp only [List.length_map, List.length_cons, List.length_nil, List.length_append]; omega))); intro o' ho') | with_reducible refine blk_ne rfl ?_ | ((with_reducible refine w_region ?_ ?_); (focus kernel_rfl)) | ((with_reducible refine w_draw [] ?_ ?_ ?_ ?_ ?_); (iterate 3 (focus kernel_rfl)); (focus exact keeps_nil)) | ((with_reducible first | refine gd_d1 ?_ ?_ | refine gd_d0 ?_ ?_); all_goals (intro hb; (first | with_reducible replace hb := nt_t hb | with_reducible replace hb := nt_f hb | skip); (first | replace hb := dc_t hb | replace hb := dc_f hb | have hb1 := eq_b hb | have hb1 := ne_b hb | have hb1 := bne_t hb | have hb1 := bne_f hb | skip); (try (exfalso; first | contradiction | omega)))))
    all_goals (refine ret_eq (by first | exact .inl rfl | exact .inr rfl) (by first | rfl | assumption) (by (repeat (first | exact List.Sublist.refl _ | apply List.Sublist.cons))) ?_; (try simp (disch := omega) only [push_cast, Nat.reduceEqDiff, reduceCtorEq, ↓reduceIte, Nat.reduceAdd, Nat.reduceMul, Nat.reduceSub, Nat.reduceLT, Nat.reduceLeDiff, Int.reduceToNat, Int.reduceLT, Int.reduceLE, Int.reduceAdd, Int.reduceSub, Int.reduceMul, Int.reduceBEq, Int.reduceBNe, encB, encI, V.cells_mk, V.cells_take, V.cells_len, isE_eq, bne_self_eq_false, *]); try (first | exact LE.refl _ | exact LE.sl _ _ | (refine LE.tup ?_; (repeat' (first | exact LEL.nil | refine LEL.cons ?_ ?_ | exact LE.refl _ | exact LE.sl _ _ | refine LE.agg ?_)); done) | (refine LE.agg ?_; (repeat' (first | exact LEL.nil | refine LEL.cons ?_ ?_ | exact LE.refl _ | exact LE.sl _ _)); done) | refine LE.of_eq ?_))
theorem listsBF (o o' : Own) (a b : List UInt8) (ha : a.length ≤ maxLen) (st : St) : TrF Try.prog 81 [.sl o (a.map encB), .sl o' (b.map encB), .fn (.func 76) [] []] st fun x st' => x = .i (V.cmpB a b) ∧ st' = st := by
  unfold maxLen at ha
  obtain ⟨B, hB⟩ : ∃ B, V.cmpB a b = B := ⟨_, rfl⟩
  have HB : Hid (V.cmpB (a.drop 0) (b.drop 0) = B) := hB
  rw [hB]
  clear hB
  obtain ⟨m, hm, hm1, hm2, hm3⟩ : ∃ m : Nat, (if b.length < a.length then (b.length : Int) else a.length) = m ∧ m ≤ a.length ∧ m ≤ b.length ∧ (m = a.length ∨ m = b.length) := by
    by_cases h : b.length < a.length
    · exact ⟨b.length, by rw [if_pos h], by omega, by omega, by omega⟩
    · exact ⟨a.length, by rw [if_neg h], by omega, by omega, by omega⟩
  refine trF_enter (ts := [6]) Try.func81 rfl (by rw [Try.ntmps81]; exact Nat.le_of_ble_eq_true rfl) (fun tmps w => by simp [results, Try.results81, go_sem, resVal]) ?_
  simp only [Try.ntmps81]
  repeat' (first | ((with_reducible apply ev_go); (focus (try simp (disch := omega) only [push_cast, Nat.reduceEqDiff, reduceCtorEq, ↓reduceIte, Nat.reduceAdd, Nat.reduceMul, Nat.reduceSub, Nat.reduceLT, Nat.reduceLeDiff, Int.reduceToNat, Int.reduceLT, Int.reduceLE, Int.reduceAdd, Int.reduceSub, Int.reduceMul, Int.reduceBEq, Int.reduceBNe, encB, encI, V.cells_mk, V.cells_take, V.cells_len, isE_eq, bne_self_eq_false, *]); (try exact rfl); done)) | ((with_reducible refine w_last ?_ ?_ ?_); (focus kernel_rfl); (focus rfl)) | ((with_reducible apply w_stepG); (focus rfl)) | ((with_reducible apply lk_mem); (focus ((repeat (first | exact mm_h | apply mm_t)); done))) | with_reducible (first | refine w_step0 ?_ | refine w_nil ?_ | refine gd_tt ?_ | refine gd_ff ?_ | refine gd_tf ?_ | refine gd_ft ?_ | refine gd_un ?_ | refine s_move ?_ | refine s_assign ?_ | refine s_bin ?_ | refine s_un ?_ | refine s_conv ?_ | refine s_field ?_ | refine s_fieldAddr ?_ | refine s_ext ?_ | refine s_pick ?_ | refine s_nil ?_ | refine s_load ?_ | refine lk_ip ?_ | refine lk_ptr ?_ | refine s_index ?_ | refine s_indexAddr ?_ | refine s_slice ?_ | refine s_build ?_ | refine s_buildSlice ?_ | refine s_mk ?_ | refine s_store ?_ | refine s_alloc ?_ | refine s_call ?_ | refine s_ip ?_ | refine s_app ?_ | refine ak_go ?_ | refine s_aps ?_ | refine ap_go ?_ | refine p2_true ?_ | refine tr_seq ?_ | refine tr_block ?_ | refine tr_skip ?_ | refine tr_ret ?_ | refine tr_exit ?_ | refine tr_label ?_ | refine strip_norm ?_ | refine strip_ret ?_ | refine strip_exit ?_ | refine blk_norm ?_ | refine blk_ret ?_ | refine blk_same ?_ | refine tr_condT ?_ | refine tr_condCt ?_ | refine tr_condCf ?_) | ((with_reducible apply sto_go); (focus (intro cs'; repeat (first | exact ra_h | apply ra_t)))) | ((with_reducible refine al_go ?_); intro b) | ((with_reducible refine And.intro ?_ ?_); (focus ((repeat (first | exact keep_none | exact keep_nil | exact keep_ro | refine keep_cons ?_)); done))) | ((with_reducible refine s_bi ?_ ?_); (focus rfl)) | ((with_reducible apply a2_go); (focus (first | assumption | (intro h; cases h))); (focus (intro o'; repeat (first | exact ra_h | apply ra_t))); (focus (first | assumption | exact len_nil | exact len_one rfl | (intro a ha; obtain ⟨x, -, rfl⟩ := List.mem_map.1 ha; first | rfl | simp) | (intro a ha; simp at ha; simp [ha]))); (focus (first | assumption | exact len_nil | exact len_one rfl | (intro a ha; obtain ⟨x, -, rfl⟩ := List.mem_map.1 ha; first | rfl | simp) | (intro a ha; simp at ha; simp [ha]))); (focus (first | omega | (simp only [List.length_map, List.length_cons, List.length_nil, List.length_append]; omega))); (focus (first | omega | (simp only [List.length_map, List.length_cons, List.length_nil, List.length_append]; omega))); intro o' ho') | ((with_reducible apply p2_go); (focus (first | assumption | (intro h; cases h))); (focus (intro o'; repeat (first | exact ra_h | apply ra_t))); (focus (first | assumption | exact len_nil | exact len_one rfl | (intro a ha; obtain ⟨x, -, rfl⟩ := List.mem_map.1 ha; first | rfl | simp) | (intro a ha; simp at ha; simp [ha]))); (focus (first | omega | (simp only [List.length_map, List.length_cons, List.length_nil, List.length_append]; omega))); (focus (first | omega | (simp only [List.length_map, List.length_cons, List.length_nil, List.length_append]; omega))); intro o' ho') | with_reducible refine blk_ne rfl ?_ | ((with_reducible refine w_region ?_ ?_); (focus kernel_rfl)) | ((with_reducible refine w_draw [] ?_ ?_ ?_ ?_ ?_); (iterate 3 (focus kernel_rfl)); (focus exact keeps_nil)) | ((with_reducible first | refine gd_d1 ?_ ?_ | refine gd_d0 ?_ ?_); all_goals (intro hb; (first | with_reducible replace hb := nt_t hb | with_reducible replace hb := nt_f hb | skip); (first | replace hb := dc_t hb | replace hb := dc_f hb | have hb1 := eq_b hb | have hb1 := ne_b hb | have hb1 := bne_t hb | have hb1 := bne_f hb | skip); (try (exfalso; first | contradiction | omega)))))
  refine tr_loop (ι := Nat) (fun i A st' => i ≤ m ∧ Hid (V.cmpB (a.drop i) (b.drop i) = B) ∧ A.df = [] ∧ A.e 0 = .sl o (a.map encB) ∧ A.e 1 = .sl o' (b.map encB) ∧ A.e 2 = .fn (.func 76) [] [] ∧ A.e 13 = .i m ∧ A.e 14 = .i i ∧ st = st') (fun i => m - i) 0 ⟨Nat.zero_le _, HB, ?_, ?_, ?_, ?_, ?_, ?_, rfl⟩ ?_
  iterate 6 (focus (first | rfl | assumption | omega | (simp (disch := omega) only [push_cast, Nat.reduceEqDiff, reduceCtorEq, ↓reduceIte, Nat.reduceAdd, Nat.reduceMul, Nat.reduceSub, Nat.reduceLT, Nat.reduceLeDiff, Int.reduceToNat, Int.reduceLT, Int.reduceLE, Int.reduceAdd, Int.reduceSub, Int.reduceMul, Int.reduceBEq, Int.reduceBNe, encB, encI, V.cells_mk, V.cells_take, V.cells_len, isE_eq, bne_self_eq_false, *]; try omega; done)))
  clear hm
  rintro i A st' ⟨hi, HT, hdf, e0, e1, e2, e13, e14, rfl⟩
  by_cases hlt : i < m
  · obtain ⟨x, hx⟩ : ∃ x, a[i]? = some x := ⟨_, List.getElem?_eq_getElem (by omega)⟩
    obtain ⟨y, hy⟩ : ∃ y, b[i]? = some y := ⟨_, List.getElem?_eq_getElem (by omega)⟩
    have HE := HT.out
    rw [V.drop_cons hx, V.drop_cons hy, V.cmpB] at HE
    have hC := cmpB1F x y
    clear HT HB
    generalize V.sgn x.toNat y.toNat = q at *
    have hC := Lib.hid hC
    by_cases h0 : q = 0
    · rw [if_pos h0] at HE
      have HE := Lib.hid HE
      subst h0
      repeat' (first | ((with_reducible apply ev_go); (focus (try simp (disch := omega) only [push_cast, Nat.reduceEqDiff, reduceCtorEq, ↓reduceIte, Nat.reduceAdd, Nat.reduceMul, Nat.reduceSub, Nat.reduceLT, Nat.reduceLeDiff, Int.reduceToNat, Int.reduceLT, Int.reduceLE, Int.reduceAdd, Int.reduceSub, Int.reduceMul, Int.reduceBEq, Int.reduceBNe, encB, encI, V.cells_mk, V.cells_take, V.cells_len, isE_eq, bne_self_eq_false, *]); (try exact rfl); done)) | ((with_reducible refine w_last ?_ ?_ ?_); (focus kernel_rfl); (focus rfl)) | ((with_reducible apply w_stepG); (focus rfl)) | ((with_reducible apply lk_mem); (focus ((repeat (first | exact mm_h | apply mm_t)); done))) | with_reducible (first | refine w_step0 ?_ | refine w_nil ?_ | refine gd_tt ?_ | refine gd_ff ?_ | refine gd_tf ?_ | refine gd_ft ?_ | refine gd_un ?_ | refine s_move ?_ | refine s_assign ?_ | refine s_bin ?_ | refine s_un ?_ | refine s_conv ?_ | refine s_field ?_ | refine s_fieldAddr ?_ | refine s_ext ?_ | refine s_pick ?_ | refine s_nil ?_ | refine s_load ?_ | refine lk_ip ?_ | refine lk_ptr ?_ | refine s_index ?_ | refine s_indexAddr ?_ | refine s_slice ?_ | refine s_build ?_ | refine s_buildSlice ?_ | refine s_mk ?_ | refine s_store ?_ | refine s_alloc ?_ | refine s_call ?_ | refine s_ip ?_ | refine s_app ?_ | refine ak_go ?_ | refine s_aps ?_ | refine ap_go ?_ | refine p2_true ?_ | refine tr_seq ?_ | refine tr_block ?_ | refine tr_skip ?_ | refine tr_ret ?_ | refine tr_exit ?_ | refine tr_label ?_ | refine strip_norm ?_ | refine strip_ret ?_ | refine strip_exit ?_ | refine blk_norm ?_ | refine blk_ret ?_ | refine blk_same ?_ | refine tr_condT ?_ | refine tr_condCt ?_ | refine tr_condCf ?_) | ((with_reducible apply sto_go); (focus (intro cs'; repeat (first | exact ra_h | apply ra_t)))) | ((with_reducible refine al_go ?_); intro b) | ((with_reducible refine And.intro ?_ ?_); (focus ((repeat (first | exact keep_none | exact keep_nil | exact keep_ro | refine keep_cons ?_)); done))) | ((with_reducible apply (ck_le Try.call76)); (focus exact LEL.refl _); (focus exact hC.out _)) | ((with_reducible refine s_bi ?_ ?_); (focus rfl)) | ((with_reducible apply a2_go); (focus (first | assumption | (intro h; cases h))); (focus (intro o'; repeat (first | exact ra_h | apply ra_t))); (focus (first | assumption | exact len_nil | exact len_one rfl | (intro a ha; obtain ⟨x, -, rfl⟩ := List.mem_map.1 ha; first | rfl | simp) | (intro a ha; simp at ha; simp [ha]))); (focus (first | assumption | exact len_nil | exact len_one rfl | (intro a ha; obtain ⟨x, -, rfl⟩ := List.mem_map.1 ha; first | rfl | simp) | (intro a ha; simp at ha; simp [ha]))); (focus (first | omega | (simp only [List.length_map, List.length_cons, List.length_nil, List.length_append]; omega))); (focus (first | omega | (simp only [List.length_map, List.length_cons, List.length_nil, List.length_append]; omega))); intro o' ho') | ((with_reducible apply p2_go); (focus (first | assumption | (intro h; cases h))); (focus (intro o'; repeat (first | exact ra_h | apply ra_t))); (focus (first | assumption | exact len_nil | exact len_one rfl | (intro a ha; obtain ⟨x, -, rfl⟩ := List.mem_map.1 ha; first | rfl | simp) | (intro a ha; simp at ha; simp [ha]))); (focus (first | omega | (simp only [List.length_map, List.length_cons, List.length_nil, List.length_append]; omega))); (focus (first | omega | (simp only [List.length_map, List.length_cons, List.length_nil, List.length_append]; omega))); intro o' ho') | with_reducible refine blk_ne rfl ?_ | ((with_reducible refine w_region ?_ ?_); (focus kernel_rfl)) | ((with_reducible refine w_draw [] ?_ ?_ ?_ ?_ ?_); (iterate 3 (focus kernel_rfl)); (focus exact keeps_nil)) | ((with_reducible first | refine gd_d1 ?_ ?_ | refine gd_d0 ?_ ?_); all_goals (intro hb; (first | with_reducible replace hb := nt_t hb | with_reducible replace hb := nt_f hb | skip); (first | replace hb := dc_t hb | replace hb := dc_f hb | have hb1 := eq_b hb | have hb1 := ne_b hb | have hb1 := bne_t hb | have hb1 := bne_f hb | skip); (try (exfalso; first | contradiction | omega)))))
      refine ⟨i + 1, ⟨hlt, HE, ?_, ?_, ?_, ?_, ?_, ?_, rfl⟩, ?_⟩
      all_goals (first | rfl | assumption | omega | (simp (disch := omega) only [push_cast, Nat.reduceEqDiff, reduceCtorEq, ↓reduceIte, Nat.reduceAdd, Nat.reduceMul, Nat.reduceSub, Nat.reduceLT, Nat.reduceLeDiff, Int.reduceToNat, Int.reduceLT, Int.reduceLE, Int.reduceAdd, Int.reduceSub, Int.reduceMul, Int.reduceBEq, Int.reduceBNe, encB, encI, V.cells_mk, V.cells_take, V.cells_len, isE_eq, bne_self_eq_false, *]; try omega; done))
    · rw [if_neg h0] at HE
      rw [← HE]
      clear HE
      repeat' (first | ((with_reducible apply ev_go); (focus (try simp (disch := omega) only [push_cast, Nat.reduceEqDiff, reduceCtorEq, ↓reduceIte, Nat.reduceAdd, Nat.reduceMul, Nat.reduceSub, Nat.reduceLT, Nat.reduceLeDiff, Int.reduceToNat, Int.reduceLT, Int.reduceLE, Int.reduceAdd, Int.reduceSub, Int.reduceMul, Int.reduceBEq, Int.reduceBNe, encB, encI, V.cells_mk, V.cells_take, V.cells_len, isE_eq, bne_self_eq_false, *]); (try exact rfl); done)) | ((with_reducible refine w_last ?_ ?_ ?_); (focus kernel_rfl); (focus rfl)) | ((with_reducible apply w_stepG); (focus rfl)) | ((with_reducible apply lk_mem); (focus ((repeat (first | exact mm_h | apply mm_t)); done))) | with_reducible (first | refine w_step0 ?_ | refine w_nil ?_ | refine gd_tt ?_ | refine gd_ff ?_ | refine gd_tf ?_ | refine gd_ft ?_ | refine gd_un ?_ | refine s_move ?_ | refine s_assign ?_ | refine s_bin ?_ | refine s_un ?_ | refine s_conv ?_ | refine s_field ?_ | refine s_fieldAddr ?_ | refine s_ext ?_ | refine s_pick ?_ | refine s_nil ?_ | refine s_load ?_ | refine lk_ip ?_ | refine lk_ptr ?_ | refine s_index ?_ | refine s_indexAddr ?_ | refine s_slice ?_ | refine s_build ?_ | refine s_buildSlice ?_ | refine s_mk ?_ | refine s_store ?_ | refine s_alloc ?_ | refine s_call ?_ | refine s_ip ?_ | refine s_app ?_ | refine ak_go ?_ | refine s_aps ?_ | refine ap_go ?_ | refine p2_true ?_ | refine tr_seq ?_ | refine tr_block ?_ | refine tr_skip ?_ | refine tr_ret ?_ | refine tr_exit ?_ | refine tr_label ?_ | refine strip_norm ?_ | refine strip_ret ?_ | refine strip_exit ?_ | refine blk_norm ?_ | refine blk_ret ?_ | refine blk_same ?_ | refine tr_condT ?_ | refine tr_condCt ?_ | refine tr_condCf ?_) | ((with_reducible apply sto_go); (focus (intro cs'; repeat (first | exact ra_h | apply ra_t)))) | ((with_reducible refine al_go ?_); intro b) | ((with_reducible refine And.intro ?_ ?_); (focus ((repeat (first | exact keep_none | exact keep_nil | exact keep_ro | refine keep_cons ?_)); done))) | ((with_reducible apply (ck_le Try.call76)); (focus exact LEL.refl _); (focus exact hC.out _)) | ((with_reducible refine s_bi ?_ ?_); (focus rfl)) | ((with_reducible apply a2_go); (focus (first | assumption | (intro h; cases h))); (focus (intro o'; repeat (first | exact ra_h | apply ra_t))); (focus (first | assumption | exact len_nil | exact len_one rfl | (intro a ha; obtain ⟨x, -, rfl⟩ := List.mem_map.1 ha; first | rfl | simp) | (intro a ha; simp at ha; simp [ha]))); (focus (first | assumption | exact len_nil | exact len_one rfl | (intro a ha; obtain ⟨x, -, rfl⟩ := List.mem_map.1 ha; first | rfl | simp) | (intro a ha; simp at ha; simp [ha]))); (focus (first | omega | (simp only [List.length_map, List.length_cons, List.length_nil, List.length_append]; omega))); (focus (first | omega | (simp only [List.length_map, List.length_cons, List.length_nil, List.length_append]; omega))); intro o' ho') | ((with_reducible apply p2_go); (focus (first | assumption | (intro h; cases h))); (focus (intro o'; repeat (first | exact ra_h | apply ra_t))); (focus (first | assumption | exact len_nil | exact len_one rfl | (intro a ha; obtain ⟨x, -, rfl⟩ := List.mem_map.1 ha; first | rfl | simp) | (intro a ha; simp at ha; simp [ha]))); (focus (first | omega | (simp only [List.length_map, List.length_cons, List.length_nil, List.length_append]; omega))); (focus (first | omega | (simp only [List.length_map, List.length_cons, List.length_nil, List.length_append]; omega))); intro o' ho') | with_reducible refine blk_ne rfl ?_ | ((with_reducible refine w_region ?_ ?_); (focus kernel_rfl)) | ((with_reducible refine w_draw [] ?_ ?_ ?_ ?_ ?_); (iterate 3 (focus kernel_rfl)); (focus exact keeps_nil)) | ((with_reducible first | refine gd_d1 ?_ ?_ | refine gd_d0 ?_ ?_); all_goals (intro hb; (first | with_reducible replace hb := nt_t hb | with_reducible replace hb := nt_f hb | skip); (first | replace hb := dc_t hb | replace hb := dc_f hb | have hb1 := eq_b hb | have hb1 := ne_b hb | have hb1 := bne_t hb | have hb1 := bne_f hb | skip); (try (exfalso; first | contradiction | omega)))))
      all_goals (refine ret_eq (by first | exact .inl rfl | exact .inr rfl) (by first | rfl | assumption) (by (repeat (first | exact List.Sublist.refl _ | apply List.Sublist.cons))) ?_; (try simp (disch := omega) only [push_cast, Nat.reduceEqDiff, reduceCtorEq, ↓reduceIte, Nat.reduceAdd, Nat.reduceMul, Nat.reduceSub, Nat.reduceLT, Nat.reduceLeDiff, Int.reduceToNat, Int.reduceLT, Int.reduceLE, Int.reduceAdd, Int.reduceSub, Int.reduceMul, Int.reduceBEq, Int.reduceBNe, encB, encI, V.cells_mk, V.cells_take, V.cells_len, isE_eq, bne_self_eq_false, *]); try (first | exact LE.refl _ | exact LE.sl _ _ | (refine LE.tup ?_; (repeat' (first | exact LEL.nil | refine LEL.cons ?_ ?_ | exact LE.refl _ | exact LE.sl _ _ | refine LE.agg ?_)); done) | (refine LE.agg ?_; (repeat' (first | exact LEL.nil | refine LEL.cons ?_ ?_ | exact LE.refl _ | exact LE.sl _ _)); done) | refine LE.of_eq ?_))
  · have HE := HT.out
    rw [V.cmpB_end a b i (by omega) (by omega) (by omega)] at HE
    rw [← HE]
    clear HE HT HB
    repeat' (first | ((with_reducible apply ev_go); (focus (try simp (disch := omega) only [push_cast, Nat.reduceEqDiff, reduceCtorEq, ↓reduceIte, Nat.reduceAdd, Nat.reduceMul, Nat.reduceSub, Nat.reduceLT, Nat.reduceLeDiff, Int.reduceToNat, Int.reduceLT, Int.reduceLE, Int.reduceAdd, Int.reduceSub, Int.reduceMul, Int.reduceBEq, Int.reduceBNe, encB, encI, V.cells_mk, V.cells_take, V.cells_len, isE_eq, bne_self_eq_false, *]); (try exact rfl); done)) | ((with_reducible refine w_last ?_ ?_ ?_); (focus kernel_rfl); (focus rfl)) | ((with_reducible apply w_stepG); (focus rfl)) | ((with_reducible apply lk_mem); (focus ((repeat (first | exact mm_h | apply mm_t)); done))) | with_reducible (first | refine w_step0 ?_ | refine w_nil ?_ | refine gd_tt ?_ | refine gd_ff ?_ | refine gd_tf ?_ | refine gd_ft ?_ | refine gd_un ?_ | refine s_move ?_ | refine s_assign ?_ | refine s_bin ?_ | refine s_un ?_ | refine s_conv ?_ | refine s_field ?_ | refine s_fieldAddr ?_ | refine s_ext ?_ | refine s_pick ?_ | refine s_nil ?_ | refine s_load ?_ | refine lk_ip ?_ | refine lk_ptr ?_ | refine s_index ?_ | refine s_indexAddr ?_ | refine s_slice ?_ | refine s_build ?_ | refine s_buildSlice ?_ | refine s_mk ?_ | refine s_store ?_ | refine s_alloc ?_ | refine s_call ?_ | refine s_ip ?_ | refine s_app ?_ | refine ak_go ?_ | refine s_aps ?_ | refine ap_go ?_ | refine p2_true ?_ | refine tr_seq ?_ | refine tr_block ?_ | refine tr_skip ?_ | refine tr_ret ?_ | refine tr_exit ?_ | refine tr_label ?_ | refine strip_norm ?_ | refine strip_ret ?_ | refine strip_exit ?_ | refine blk_norm ?_ | refine blk_ret ?_ | refine blk_same ?_ | refine tr_condT ?_ | refine tr_condCt ?_ | refine tr_condCf ?_) | ((with_reducible apply sto_go); (focus (intro cs'; repeat (first | exact ra_h | apply ra_t)))) | ((with_reducible refine al_go ?_); intro b) | ((with_reducible refine And.intro ?_ ?_); (focus ((repeat (first | exact keep_none | exact keep_nil | exact keep_ro | refine keep_cons ?_)); done))) | ((with_reducible apply (ck_le Try.call79)); (focus exact LEL.refl _); (focus exact cmpIF _ _ _)) | ((with_reducible refine s_bi ?_ ?_); (focus rfl)) | ((with_reducible apply a2_go); (focus (first | assumption | (intro h; cases h))); (focus (intro o'; repeat (first | exact ra_h | apply ra_t))); (focus (first | assumption | exact len_nil | exact len_one rfl | (intro a ha; obtain ⟨x, -, rfl⟩ := List.mem_map.1 ha; first | rfl | simp) | (intro a ha; simp at ha; simp [ha]))); (focus (first | assumption | exact len_nil | exact len_one rfl | (intro a ha; obtain ⟨x, -, rfl⟩ := List.mem_map.1 ha; first | rfl | simp) | (intro a ha; simp at ha; simp [ha]))); (focus (first | omega | (simp only [List.length_map, List.length_cons, List.length_nil, List.length_append]; omega))); (focus (first | omega | (simp only [List.length_map, List.length_cons, List.length_nil, List.length_append]; omega))); intro o' ho') | ((with_reducible apply p2_go); (focus (first | assumption | (intro h; cases h))); (focus (intro o'; repeat (first | exact ra_h | apply ra_t))); (focus (first | assumption | exact len_nil | exact len_one rfl | (intro a ha; obtain ⟨x, -, rfl⟩ := List.mem_map.1 ha; first | rfl | simp) | (intro a ha; simp at ha; simp [ha]))); (focus (first | omega | (simp only [List.length_map, List.length_cons, List.length_nil, List.length_append]; omega))); (focus (first | omega | (simp only [List.length_map, List.length_cons, List.length_nil, List.length_append]; omega))); intro o' ho') | with_reducible refine blk_ne rfl ?_ | ((with_reducible refine w_region ?_ ?_); (focus kernel_rfl)) | ((with_reducible refine w_draw [] ?_ ?_ ?_ ?_ ?_); (iterate 3 (focus kernel_rfl)); (focus exact keeps_nil)) | ((with_reducible first | refine gd_d1 ?_ ?_ | refine gd_d0 ?_ ?_); all_goals (intro hb; (first | with_reducible replace hb := nt_t hb | with_reducible replace hb := nt_f hb | skip); (first | replace hb := dc_t hb | replace hb := dc_f hb | have hb1 := eq_b hb | have hb1 := ne_b hb | have hb1 := bne_t hb | have hb1 := bne_f hb | skip); (try (exfalso; first | contradiction | omega)))))
    all_goals (refine ret_eq (by first | exact .inl rfl | exact .inr rfl) (by first | rfl | assumption) (by (repeat (first | exact List.Sublist.refl _ | apply List.Sublist.cons))) ?_; (try simp (disch := omega) only [push_cast, Nat.reduceEqDiff, reduceCtorEq, ↓reduceIte, Nat.reduceAdd, Nat.reduceMul, Nat.reduceSub, Nat.reduceLT, Nat.reduceLeDiff, Int.reduceToNat, Int.reduceLT, Int.reduceLE, Int.reduceAdd, Int.reduceSub, Int.reduceMul, Int.reduceBEq, Int.reduceBNe, encB, encI, V.cells_mk, V.cells_take, V.cells_len, isE_eq, bne_self_eq_false, *]); try (first | exact LE.refl _ | exact LE.sl _ _ | (refine LE.tup ?_; (repeat' (first | exact LEL.nil | refine LEL.cons ?_ ?_ | exact LE.refl _ | exact LE.sl _ _ | refine LE.agg ?_)); done) | (refine LE.agg ?_; (repeat' (first | exact LEL.nil | refine LEL.cons ?_ ?_ | exact LE.refl _ | exact LE.sl _ _)); done) | refine LE.of_eq ?_))
end Go.Proofs.Ytgofckmlgkniaaa
end

section
namespace Go.Proofs.Ytgofckmlgkniaaa
set_option linter.unusedSimpArgs false
open Go.RowKit
set_option maxRecDepth 10000
set_option maxHeartbeats 4000000
namespace V
mutual
def cmp : V → V → Int
  | .mk k n s l, .mk k' n' s' l' => ors [sgn k k', sgn n n', cmpB s.data.toList s'.data.toList, cmpL l l']
def cmpL : List V → List V → Int
  | [], [] => 0
  | [], _ :: _ => -1
  | _ :: _, [] => 1
  | x :: a, y :: b => if x.cmp y = 0 then cmpL a b else x.cmp y
end
theorem cmpL_end (a b : List V) (i : Nat) (ha : i ≤ a.length) (hb : i ≤ b.length) (h : i = a.length ∨ i = b.length) : cmpL (a.drop i) (b.drop i) = sgn a.length b.length := by
  have h1 : (a.drop i).length = a.length - i := List.length_drop
  have h2 : (b.drop i).length = b.length - i := List.length_drop
  cases hx : a.drop i with
  | nil =>
    rw [hx] at h1
    cases hy : b.drop i with
    | nil => rw [hy] at h2; simp at h1 h2; rw [cmpL, sgn, if_neg (by omega), if_neg (by omega)]
    | cons y t => rw [hy] at h2; simp at h1 h2; rw [cmpL, sgn, if_pos (by omega)]
  | cons x s =>
    rw [hx] at h1
    cases hy : b.drop i with
    | nil => rw [hy] at h2; simp at h1 h2; rw [cmpL, sgn, if_neg (by omega), if_pos (by omega)]
    | cons y t => rw [hy] at h2; simp at h1 h2; omega
inductive Sm : V → Prop
  | mk {k n : Int} {s : ByteArray} {l : List V} (hs : s.size ≤ 1000000) (hl : l.length ≤ 1000000) (h : ∀ x ∈ l, Sm x) : Sm (.mk k n s l)
end V
open V in
theorem listsVF (a b : List V) (ha : a.length ≤ maxLen) (IH : ∀ x ∈ a, ∀ y ∈ b, ∀ st, TrF Try.prog 48 [.agg x.cells, .agg y.cells] st fun r st' => r = .i (x.cmp y) ∧ st' = st) (st : St) : TrF Try.prog 82 [.sl .shared (a.map V.cells), .sl .shared (b.map V.cells), .fn (.func 48) [] []] st fun x st' => x = .i (cmpL a b) ∧ st' = st := by
  unfold maxLen at ha
  obtain ⟨B, hB⟩ : ∃ B, cmpL a b = B := ⟨_, rfl⟩
  have HB : Hid (cmpL (a.drop 0) (b.drop 0) = B) := hB
  rw [hB]
  clear hB
  obtain ⟨m, hm, hm1, hm2, hm3⟩ : ∃ m : Nat, (if b.length < a.length then (b.length : Int) else a.length) = m ∧ m ≤ a.length ∧ m ≤ b.length ∧ (m = a.length ∨ m = b.length) := by
    by_cases h : b.length < a.length
    · exact ⟨b.length, by rw [if_pos h], by omega, by omega, by omega⟩
    · exact ⟨a.length, by rw [if_neg h], by omega, by omega, by omega⟩
  have IH := Lib.hid IH
  refine trF_enter (ts := [6]) Try.func82 rfl (by rw [Try.ntmps82]; exact Nat.le_of_ble_eq_true rfl) (fun tmps w => by simp [results, Try.results82, go_sem, resVal]) ?_
  simp only [Try.ntmps82]
  repeat' (first | ((with_reducible apply ev_go); (focus (try simp (disch := omega) only [push_cast, Nat.reduceEqDiff, reduceCtorEq, ↓reduceIte, Nat.reduceAdd, Nat.reduceMul, Nat.reduceSub, Nat.reduceLT, Nat.reduceLeDiff, Int.reduceToNat, Int.reduceLT, Int.reduceLE, Int.reduceAdd, Int.reduceSub, Int.reduceMul, Int.reduceBEq, Int.reduceBNe, encB, encI, V.cells_mk, V.cells_take, V.cells_len, isE_eq, *]); (try exact rfl); done)) | ((with_reducible refine w_last ?_ ?_ ?_); (focus kernel_rfl); (focus rfl)) | ((with_reducible apply w_stepG); (focus rfl)) | ((with_reducible apply lk_mem); (focus ((repeat (first | exact mm_h | apply mm_t)); done))) | with_reducible (first | refine w_step0 ?_ | refine w_nil ?_ | refine gd_tt ?_ | refine gd_ff ?_ | refine gd_tf ?_ | refine gd_ft ?_ | refine gd_un ?_ | refine s_move ?_ | refine s_assign ?_ | refine s_bin ?_ | refine s_un ?_ | refine s_conv ?_ | refine s_field ?_ | refine s_fieldAddr ?_ | refine s_ext ?_ | refine s_pick ?_ | refine s_nil ?_ | refine s_load ?_ | refine lk_ip ?_ | refine lk_ptr ?_ | refine s_index ?_ | refine s_indexAddr ?_ | refine s_slice ?_ | refine s_build ?_ | refine s_buildSlice ?_ | refine s_mk ?_ | refine s_store ?_ | refine s_alloc ?_ | refine s_call ?_ | refine s_ip ?_ | refine tr_seq ?_ | refine tr_block ?_ | refine tr_skip ?_ | refine tr_ret ?_ | refine tr_exit ?_ | refine tr_label ?_ | refine strip_norm ?_ | refine strip_ret ?_ | refine strip_exit ?_ | refine blk_norm ?_ | refine blk_ret ?_ | refine blk_same ?_ | refine tr_condT ?_ | refine tr_condCt ?_ | refine tr_condCf ?_) | ((with_reducible apply sto_go); (focus (intro cs'; repeat (first | exact ra_h | apply ra_t)))) | ((with_reducible refine al_go ?_); intro b) | ((with_reducible refine And.intro ?_ ?_); (focus ((repeat (first | exact keep_none | exact keep_nil | exact keep_ro | refine keep_cons ?_)); done))) | ((with_reducible refine s_bi ?_ ?_); (focus rfl)) | with_reducible refine blk_ne rfl ?_ | ((with_reducible refine w_region ?_ ?_); (focus kernel_rfl)) | ((with_reducible refine w_draw [] ?_ ?_ ?_ ?_ ?_); (iterate 3 (focus kernel_rfl)); (focus exact keeps_nil)) | ((with_reducible first | refine gd_d1 ?_ ?_ | refine gd_d0 ?_ ?_); all_goals (intro hb; (first | with_reducible replace hb := nt_t hb | with_reducible replace hb := nt_f hb | skip); (first | replace hb := dc_t hb | replace hb := dc_f hb | have hb1 := eq_b hb | have hb1 := ne_b hb | have hb1 := bne_t hb | have hb1 := bne_f hb | skip); (try (exfalso; first | contradiction | omega)))))
  refine tr_loop (ι := Nat) (fun i A st' => i ≤ m ∧ Hid (cmpL (a.drop i) (b.drop i) = B) ∧ A.df = [] ∧ A.e 0 = .sl .shared (a.map V.cells) ∧ A.e 1 = .sl .shared (b.map V.cells) ∧ A.e 2 = .fn (.func 48) [] [] ∧ A.e 13 = .i m ∧ A.e 14 = .i i ∧ st = st') (fun i => m - i) 0 ⟨Nat.zero_le _, HB, ?_, ?_, ?_, ?_, ?_, ?_, rfl⟩ ?_
  iterate 6 (focus (first | rfl | assumption | omega | (simp (disch := omega) only [push_cast, Nat.reduceEqDiff, reduceCtorEq, ↓reduceIte, Nat.reduceAdd, Nat.reduceMul, Nat.reduceSub, Nat.reduceLT, Nat.reduceLeDiff, Int.reduceToNat, Int.reduceLT, Int.reduceLE, Int.reduceAdd, Int.reduceSub, Int.reduceMul, Int.reduceBEq, Int.reduceBNe, encB, encI, V.cells_mk, V.cells_take, V.cells_len, isE_eq, *]; try omega; done)))
  clear hm
  rintro i A st' ⟨hi, HT, hdf, e0, e1, e2, e13, e14, rfl⟩
  by_cases hlt : i < m
  · obtain ⟨x, hx⟩ : ∃ x, a[i]? = some x := ⟨_, List.getElem?_eq_getElem (by omega)⟩
    obtain ⟨y, hy⟩ : ∃ y, b[i]? = some y := ⟨_, List.getElem?_eq_getElem (by omega)⟩
    have HE := HT.out
    rw [V.drop_cons hx, V.drop_cons hy, cmpL] at HE
    have hC := IH.out x (mem_of hx) y (mem_of hy)
    clear HT HB IH
    cases x with
    | mk k1 n1 s1 l1 =>
    cases y with
    | mk k2 n2 s2 l2 =>
    rw [V.cells_mk, V.cells_mk] at hC
    generalize V.cmp _ _ = q at *
    have hC := Lib.hid hC
    by_cases h0 : q = 0
    · rw [if_pos h0] at HE
      have HE := Lib.hid HE
      subst h0
      repeat' (first | ((with_reducible apply ev_go); (focus (try simp (disch := omega) only [push_cast, Nat.reduceEqDiff, reduceCtorEq, ↓reduceIte, Nat.reduceAdd, Nat.reduceMul, Nat.reduceSub, Nat.reduceLT, Nat.reduceLeDiff, Int.reduceToNat, Int.reduceLT, Int.reduceLE, Int.reduceAdd, Int.reduceSub, Int.reduceMul, Int.reduceBEq, Int.reduceBNe, encB, encI, V.cells_mk, V.cells_take, V.cells_len, isE_eq, *]); (try exact rfl); done)) | ((with_reducible refine w_last ?_ ?_ ?_); (focus kernel_rfl); (focus rfl)) | ((with_reducible apply w_stepG); (focus rfl)) | ((with_reducible apply lk_mem); (focus ((repeat (first | exact mm_h | apply mm_t)); done))) | with_reducible (first | refine w_step0 ?_ | refine w_nil ?_ | refine gd_tt ?_ | refine gd_ff ?_ | refine gd_tf ?_ | refine gd_ft ?_ | refine gd_un ?_ | refine s_move ?_ | refine s_assign ?_ | refine s_bin ?_ | refine s_un ?_ | refine s_conv ?_ | refine s_field ?_ | refine s_fieldAddr ?_ | refine s_ext ?_ | refine s_pick ?_ | refine s_nil ?_ | refine s_load ?_ | refine lk_ip ?_ | refine lk_ptr ?_ | refine s_index ?_ | refine s_indexAddr ?_ | refine s_slice ?_ | refine s_build ?_ | refine s_buildSlice ?_ | refine s_mk ?_ | refine s_store ?_ | refine s_alloc ?_ | refine s_call ?_ | refine s_ip ?_ | refine tr_seq ?_ | refine tr_block ?_ | refine tr_skip ?_ | refine tr_ret ?_ | refine tr_exit ?_ | refine tr_label ?_ | refine strip_norm ?_ | refine strip_ret ?_ | refine strip_exit ?_ | refine blk_norm ?_ | refine blk_ret ?_ | refine blk_same ?_ | refine tr_condT ?_ | refine tr_condCt ?_ | refine tr_condCf ?_) | ((with_reducible apply sto_go); (focus (intro cs'; repeat (first | exact ra_h | apply ra_t)))) | ((with_reducible refine al_go ?_); intro b) | ((with_reducible refine And.intro ?_ ?_); (focus ((repeat (first | exact keep_none | exact keep_nil | exact keep_ro | refine keep_cons ?_)); done))) | ((with_reducible apply (ck_le Try.call48)); (focus exact LEL.refl _); (focus exact hC.out _)) | ((with_reducible refine s_bi ?_ ?_); (focus rfl)) | with_reducible refine blk_ne rfl ?_ | ((with_reducible refine w_region ?_ ?_); (focus kernel_rfl)) | ((with_reducible refine w_draw [] ?_ ?_ ?_ ?_ ?_); (iterate 3 (focus kernel_rfl)); (focus exact keeps_nil)) | ((with_reducible first | refine gd_d1 ?_ ?_ | refine gd_d0 ?_ ?_); all_goals (intro hb; (first | with_reducible replace hb := nt_t hb | with_reducible replace hb := nt_f hb | skip); (first | replace hb := dc_t hb | replace hb := dc_f hb | have hb1 := eq_b hb | have hb1 := ne_b hb | have hb1 := bne_t hb | have hb1 := bne_f hb | skip); (try (exfalso; first | contradiction | omega)))))
      refine ⟨i + 1, ⟨hlt, HE, ?_, ?_, ?_, ?_, ?_, ?_, rfl⟩, ?_⟩
      all_goals (first | rfl | assumption | omega | (simp (disch := omega) only [push_cast, Nat.reduceEqDiff, reduceCtorEq, ↓reduceIte, Nat.reduceAdd, Nat.reduceMul, Nat.reduceSub, Nat.reduceLT, Nat.reduceLeDiff, Int.reduceToNat, Int.reduceLT, Int.reduceLE, Int.reduceAdd, Int.reduceSub, Int.reduceMul, Int.reduceBEq, Int.reduceBNe, encB, encI, V.cells_mk, V.cells_take, V.cells_len, isE_eq, *]; try omega; done))
    · rw [if_neg h0] at HE
      rw [← HE]
      clear HE
      repeat' (first | ((with_reducible apply ev_go); (focus (try simp (disch := omega) only [push_cast, Nat.reduceEqDiff, reduceCtorEq, ↓reduceIte, Nat.reduceAdd, Nat.reduceMul, Nat.reduceSub, Nat.reduceLT, Nat.reduceLeDiff, Int.reduceToNat, Int.reduceLT, Int.reduceLE, Int.reduceAdd, Int.reduceSub, Int.reduceMul, Int.reduceBEq, Int.reduceBNe, encB, encI, V.cells_mk, V.cells_take, V.cells_len, isE_eq, *]); (try exact rfl); done)) | ((with_reducible refine w_last ?_ ?_ ?_); (focus kernel_rfl); (focus rfl)) | ((with_reducible apply w_stepG); (focus rfl)) | ((with_reducible apply lk_mem); (focus ((repeat (first | exact mm_h | apply mm_t)); done))) | with_reducible (first | refine w_step0 ?_ | refine w_nil ?_ | refine gd_tt ?_ | refine gd_ff ?_ | refine gd_tf ?_ | refine gd_ft ?_ | refine gd_un ?_ | refine s_move ?_ | refine s_assign ?_ | refine s_bin ?_ | refine s_un ?_ | refine s_conv ?_ | refine s_field ?_ | refine s_fieldAddr ?_ | refine s_ext ?_ | refine s_pick ?_ | refine s_nil ?_ | refine s_load ?_ | refine lk_ip ?_ | refine lk_ptr ?_ | refine s_index ?_ | refine s_indexAddr ?_ | refine s_slice ?_ | refine s_build ?_ | refine s_buildSlice ?_ | refine s_mk ?_ | refine s_store ?_ | refine s_alloc ?_ | refine s_call ?_ | refine s_ip ?_ | refine tr_seq ?_ | refine tr_block ?_ | refine tr_skip ?_ | refine tr_ret ?_ | refine tr_exit ?_ | refine tr_label ?_ | refine strip_norm ?_ | refine strip_ret ?_ | refine strip_exit ?_ | refine blk_norm ?_ | refine blk_ret ?_ | refine blk_same ?_ | refine tr_condT ?_ | refine tr_condCt ?_ | refine tr_condCf ?_) | ((with_reducible apply sto_go); (focus (intro cs'; repeat (first | exact ra_h | apply ra_t)))) | ((with_reducible refine al_go ?_); intro b) | ((with_reducible refine And.intro ?_ ?_); (focus ((repeat (first | exact keep_none | exact keep_nil | exact keep_ro | refine keep_cons ?_)); done))) | ((with_reducible apply (ck_le Try.call48)); (focus exact LEL.refl _); (focus exact hC.out _)) | ((with_reducible refine s_bi ?_ ?_); (focus rfl)) | with_reducible refine blk_ne rfl ?_ | ((with_reducible refine w_region ?_ ?_); (focus kernel_rfl)) | ((with_reducible refine w_draw [] ?_ ?_ ?_ ?_ ?_); (iterate 3 (focus kernel_rfl)); (focus exact keeps_nil)) | ((with_reducible first | refine gd_d1 ?_ ?_ | refine gd_d0 ?_ ?_); all_goals (intro hb; (first | with_reducible replace hb := nt_t hb | with_reducible replace hb := nt_f hb | skip); (first | replace hb := dc_t hb | replace hb := dc_f hb | have hb1 := eq_b hb | have hb1 := ne_b hb | have hb1 := bne_t hb | have hb1 := bne_f hb | skip); (try (exfalso; first | contradiction | omega)))))
      all_goals (refine ret_eq (by first | exact .inl rfl | exact .inr rfl) (by first | rfl | assumption) (by (repeat (first | exact List.Sublist.refl _ | apply List.Sublist.cons))) ?_; (try simp (disch := omega) only [push_cast, Nat.reduceEqDiff, reduceCtorEq, ↓reduceIte, Nat.reduceAdd, Nat.reduceMul, Nat.reduceSub, Nat.reduceLT, Nat.reduceLeDiff, Int.reduceToNat, Int.reduceLT, Int.reduceLE, Int.reduceAdd, Int.reduceSub, Int.reduceMul, Int.reduceBEq, Int.reduceBNe, encB, encI, V.cells_mk, V.cells_take, V.cells_len, isE_eq, *]); try (first | exact LE.refl _ | exact LE.sl _ _ | (refine LE.tup ?_; (repeat' (first | exact LEL.nil | refine LEL.cons ?_ ?_ | exact LE.refl _ | exact LE.sl _ _ | refine LE.agg ?_)); done) | (refine LE.agg ?_; (repeat' (first | exact LEL.nil | refine LEL.cons ?_ ?_ | exact LE.refl _ | exact LE.sl _ _)); done) | refine LE.of_eq ?_))
  · have HE := HT.out
    rw [cmpL_end a b i (by omega) (by omega) (by omega)] at HE
    rw [← HE]
    clear HE HT HB IH
    repeat' (first | ((with_reducible apply ev_go); (focus (try simp (disch := omega) only [push_cast, Nat.reduceEqDiff, reduceCtorEq, ↓reduceIte, Nat.reduceAdd, Nat.reduceMul, Nat.reduceSub, Nat.reduceLT, Nat.reduceLeDiff, Int.reduceToNat, Int.reduceLT, Int.reduceLE, Int.reduceAdd, Int.reduceSub, Int.reduceMul, Int.reduceBEq, Int.reduceBNe, encB, encI, V.cells_mk, V.cells_take, V.cells_len, isE_eq, *]); (try exact rfl); done)) | ((with_reducible refine w_last ?_ ?_ ?_); (focus kernel_rfl); (focus rfl)) | ((with_reducible apply w_stepG); (focus rfl)) | ((with_reducible apply lk_mem); (focus ((repeat (first | exact mm_h | apply mm_t)); done))) | with_reducible (first | refine w_step0 ?_ | refine w_nil ?_ | refine gd_tt ?_ | refine gd_ff ?_ | refine gd_tf ?_ | refine gd_ft ?_ | refine gd_un ?_ | refine s_move ?_ | refine s_assign ?_ | refine s_bin ?_ | refine s_un ?_ | refine s_conv ?_ | refine s_field ?_ | refine s_fieldAddr ?_ | refine s_ext ?_ | refine s_pick ?_ | refine s_nil ?_ | refine s_load ?_ | refine lk_ip ?_ | refine lk_ptr ?_ | refine s_index ?_ | refine s_indexAddr ?_ | refine s_slice ?_ | refine s_build ?_ | refine s_buildSlice ?_ | refine s_mk ?_ | refine s_store ?_ | refine s_alloc ?_ | refine s_call ?_ | refine s_ip ?_ | refine tr_seq ?_ | refine tr_block ?_ | refine tr_skip ?_ | refine tr_ret ?_ | refine tr_exit ?_ | refine tr_label ?_ | refine strip_norm ?_ | refine strip_ret ?_ | refine strip_exit ?_ | refine blk_norm ?_ | refine blk_ret ?_ | refine blk_same ?_ | refine tr_condT ?_ | refine tr_condCt ?_ | refine tr_condCf ?_) | ((with_reducible apply sto_go); (focus (intro cs'; repeat (first | exact ra_h | apply ra_t)))) | ((with_reducible refine al_go ?_); intro b) | ((with_reducible refine And.intro ?_ ?_); (focus ((repeat (first | exact keep_none | exact keep_nil | exact keep_ro | refine keep_cons ?_)); done))) | ((with_reducible apply (ck_le Try.call79)); (focus exact LEL.refl _); (focus exact cmpIF _ _ _)) | ((with_reducible refine s_bi ?_ ?_); (focus rfl)) | with_reducible refine blk_ne rfl ?_ | ((with_reducible refine w_region ?_ ?_); (focus kernel_rfl)) | ((with_reducible refine w_draw [] ?_ ?_ ?_ ?_ ?_); (iterate 3 (focus kernel_rfl)); (focus exact keeps_nil)) | ((with_reducible first | refine gd_d1 ?_ ?_ | refine gd_d0 ?_ ?_); all_goals (intro hb; (first | with_reducible replace hb := nt_t hb | with_reducible replace hb := nt_f hb | skip); (first | replace hb := dc_t hb | replace hb := dc_f hb | have hb1 := eq_b hb | have hb1 := ne_b hb | have hb1 := bne_t hb | have hb1 := bne_f hb | skip); (try (exfalso; first | contradiction | omega)))))
    all_goals (refine ret_eq (by first | exact .inl rfl | exact .inr rfl) (by first | rfl | assumption) (by (repeat (first | exact List.Sublist.refl _ | apply List.Sublist.cons))) ?_; (try simp (disch := omega) only [push_cast, Nat.reduceEqDiff, reduceCtorEq, ↓reduceIte, Nat.reduceAdd, Nat.reduceMul, Nat.reduceSub, Nat.reduceLT, Nat.reduceLeDiff, Int.reduceToNat, Int.reduceLT, Int.reduceLE, Int.reduceAdd, Int.reduceSub, Int.reduceMul, Int.reduceBEq, Int.reduceBNe, encB, encI, V.cells_mk, V.cells_take, V.cells_len, isE_eq, *]); try (first | exact LE.refl _ | exact LE.sl _ _ | (refine LE.tup ?_; (repeat' (first | exact LEL.nil | refine LEL.cons ?_ ?_ | exact LE.refl _ | exact LE.sl _ _ | refine LE.agg ?_)); done) | (refine LE.agg ?_; (repeat' (first | exact LEL.nil | refine LEL.cons ?_ ?_ | exact LE.refl _ | exact LE.sl _ _)); done) | refine LE.of_eq ?_))
open V in
theorem valCompareF : ∀ (N : Nat) (a b : V), a.nodes ≤ N → a.Sm → b.Sm → ∀ st, TrF Try.prog 48 [.agg a.cells, .agg b.cells] st fun x st' => x = .i (a.cmp b) ∧ st' = st
  | 0, a, b, h, _, _ => by have := a.nodes_pos; omega
  | N + 1, .mk k n s l, .mk k' n' s' l', hN, hok, hok' => by
    intro st
    obtain ⟨hs, hl, hall⟩ := hok
    obtain ⟨hs', hl', hall'⟩ := hok'
    have hML : 1000000 ≤ maxLen := Nat.le_of_ble_eq_true rfl
    have IH := fun x (hx : x ∈ l) y (hy : y ∈ l') => valCompareF N x y (by have := nodes_lt (k := k) (n := n) (s := s) hx; omega) (hall x hx) (hall' y hy)
    have hL := Lib.hid (listsVF l l' (Nat.le_trans (by omega) hML) IH)
    have hSL : s.data.toList.length = s.size := by simp
    have hB := Lib.hid fun o o' => listsBF o o' s.data.toList s'.data.toList (by omega)
    rw [V.cells_mk, V.cells_mk, show (V.mk k n s l).cmp (V.mk k' n' s' l') = ors [sgn k k', sgn n n', cmpB s.data.toList s'.data.toList, cmpL l l'] from cmp.eq_1 ..]
    clear IH hall hall' hN hML
    generalize cmpL l l' = c4 at *
    generalize cmpB s.data.toList s'.data.toList = c3 at *
    obtain ⟨bs, hbs⟩ : ∃ bs, s.data.toList = bs := ⟨_, rfl⟩
    obtain ⟨bs', hbs'⟩ : ∃ bs, s'.data.toList = bs := ⟨_, rfl⟩
    rw [hbs] at hSL
    rw [hbs, hbs'] at hB
    refine trF_enter (ts := [4]) Try.func48 rfl (by rw [Try.ntmps48]; exact Nat.le_of_ble_eq_true rfl) (fun tmps w => by simp [results, Try.results48, go_sem, resVal]) ?_
    simp only [Try.ntmps48]
    repeat' (first | ((with_reducible apply ev_go); (focus (try simp (disch := omega) only [push_cast, Nat.reduceEqDiff, reduceCtorEq, ↓reduceIte, Nat.reduceAdd, Nat.reduceMul, Nat.reduceSub, Nat.reduceLT, Nat.reduceLeDiff, Int.reduceToNat, Int.reduceLT, Int.reduceLE, Int.reduceAdd, Int.reduceSub, Int.reduceMul, Int.reduceBEq, Int.reduceBNe, encB, encI, V.cells_mk, V.cells_take, V.cells_len, isE_eq, *]); (try exact rfl); done)) | ((with_reducible refine w_last ?_ ?_ ?_); (focus kernel_rfl); (focus rfl)) | ((with_reducible apply w_stepG); (focus rfl)) | ((with_reducible apply lk_mem); (focus ((repeat (first | exact mm_h | apply mm_t)); done))) | with_reducible (first | refine w_step0 ?_ | refine w_nil ?_ | refine gd_tt ?_ | refine gd_ff ?_ | refine gd_tf ?_ | refine gd_ft ?_ | refine gd_un ?_ | refine s_move ?_ | refine s_assign ?_ | refine s_bin ?_ | refine s_un ?_ | refine s_conv ?_ | refine s_field ?_ | refine s_fieldAddr ?_ | refine s_ext ?_ | refine s_pick ?_ | refine s_nil ?_ | refine s_load ?_ | refine lk_ip ?_ | refine lk_ptr ?_ | refine s_index ?_ | refine s_indexAddr ?_ | refine s_slice ?_ | refine s_build ?_ | refine s_buildSlice ?_ | refine s_mk ?_ | refine s_store ?_ | refine s_alloc ?_ | refine s_call ?_ | refine s_ip ?_ | refine tr_seq ?_ | refine tr_block ?_ | refine tr_skip ?_ | refine tr_ret ?_ | refine tr_exit ?_ | refine tr_label ?_ | refine strip_norm ?_ | refine strip_ret ?_ | refine strip_exit ?_ | refine blk_norm ?_ | refine blk_ret ?_ | refine blk_same ?_ | refine tr_condT ?_ | refine tr_condCt ?_ | refine tr_condCf ?_) | ((with_reducible apply sto_go); (focus (intro cs'; repeat (first | exact ra_h | apply ra_t)))) | ((with_reducible refine al_go ?_); intro b) | ((with_reducible refine And.intro ?_ ?_); (focus ((repeat (first | exact keep_none | exact keep_nil | exact keep_ro | refine keep_cons ?_)); done))) | ((with_reducible apply (ck_le Try.call79)); (focus exact LEL.refl _); (focus exact cmpIF _ _ _)) | ((with_reducible apply (ck_le Try.call80)); (focus exact LEL.refl _); (focus exact cmpLF _ _ _)) | ((with_reducible apply (ck_le Try.call81)); (focus exact LEL.refl _); (focus exact hB.out _ _ _)) | ((with_reducible apply (ck_le Try.call82)); (focus exact LEL.refl _); (focus exact hL.out _)) | ((with_reducible apply (ck_le Try.call78)); (focus exact LEL.refl _); (focus exact orF _ [sgn k k', sgn n n', c3, c4] (by simp) _)) | ((with_reducible refine s_bi ?_ ?_); (focus rfl)) | with_reducible refine blk_ne rfl ?_ | ((with_reducible refine w_region ?_ ?_); (focus kernel_rfl)) | ((with_reducible refine w_draw [] ?_ ?_ ?_ ?_ ?_); (iterate 3 (focus kernel_rfl)); (focus exact keeps_nil)) | ((with_reducible first | refine gd_d1 ?_ ?_ | refine gd_d0 ?_ ?_); all_goals (intro hb; (first | with_reducible replace hb := nt_t hb | with_reducible replace hb := nt_f hb | skip); (first | replace hb := dc_t hb | replace hb := dc_f hb | have hb1 := eq_b hb | have hb1 := ne_b hb | have hb1 := bne_t hb | have hb1 := bne_f hb | skip); (try (exfalso; first | contradiction | omega)))))
    all_goals (refine ret_eq (by first | exact .inl rfl | exact .inr rfl) (by first | rfl | assumption) (by (repeat (first | exact List.Sublist.refl _ | apply List.Sublist.cons))) ?_; (try simp (disch := omega) only [push_cast, Nat.reduceEqDiff, reduceCtorEq, ↓reduceIte, Nat.reduceAdd, Nat.reduceMul, Nat.reduceSub, Nat.reduceLT, Nat.reduceLeDiff, Int.reduceToNat, Int.reduceLT, Int.reduceLE, Int.reduceAdd, Int.reduceSub, Int.reduceMul, Int.reduceBEq, Int.reduceBNe, encB, encI, V.cells_mk, V.cells_take, V.cells_len, isE_eq, *]); try (first | exact LE.refl _ | exact LE.sl _ _ | (refine LE.tup ?_; (repeat' (first | exact LEL.nil | refine LEL.cons ?_ ?_ | exact LE.refl _ | exact LE.sl _ _ | refine LE.agg ?_)); done) | (refine LE.agg ?_; (repeat' (first | exact LEL.nil | refine LEL.cons ?_ ?_ | exact LE.refl _ | exact LE.sl _ _)); done) | refine LE.of_eq ?_))
open V in
theorem valSameF (a b : V) (ha : a.Sm) (hb : b.Sm) (st : St) : TrF Try.prog 44 [.agg a.cells, .agg b.cells] st fun x st' => x = .b (a.cmp b == 0) ∧ st' = st := by
  have hC := Lib.hid (valCompareF a.nodes a b (Nat.le_refl _) ha hb)
  cases a with
  | mk k n s l =>
  cases b with
  | mk k' n' s' l' =>
  rw [V.cells_mk, V.cells_mk] at *
  generalize V.cmp _ _ = q at *
  refine trF_enter (ts := [4]) Try.func44 rfl (by rw [Try.ntmps44]; exact Nat.le_of_ble_eq_true rfl) (fun tmps w => by simp [results, Try.results44, go_sem, resVal]) ?_
  simp only [Try.ntmps44]
  repeat' (first | ((with_reducible apply ev_go); (focus (try simp (disch := omega) only [push_cast, Nat.reduceEqDiff, reduceCtorEq, ↓reduceIte, Nat.reduceAdd, Nat.reduceMul, Nat.reduceSub, Nat.reduceLT, Nat.reduceLeDiff, Int.reduceToNat, Int.reduceLT, Int.reduceLE, Int.reduceAdd, Int.reduceSub, Int.reduceMul, Int.reduceBEq, Int.reduceBNe, encB, encI, V.cells_mk, V.cells_take, V.cells_len, isE_eq, *]); (try exact rfl); done)) | ((with_reducible refine w_last ?_ ?_ ?_); (focus kernel_rfl); (focus rfl)) | ((with_reducible apply w_stepG); (focus rfl)) | ((with_reducible apply lk_mem); (focus ((repeat (first | exact mm_h | apply mm_t)); done))) | with_reducible (first | refine w_step0 ?_ | refine w_nil ?_ | refine gd_tt ?_ | refine gd_ff ?_ | refine gd_tf ?_ | refine gd_ft ?_ | refine gd_un ?_ | refine s_move ?_ | refine s_assign ?_ | refine s_bin ?_ | refine s_un ?_ | refine s_conv ?_ | refine s_field ?_ | refine s_fieldAddr ?_ | refine s_ext ?_ | refine s_pick ?_ | refine s_nil ?_ | refine s_load ?_ | refine lk_ip ?_ | refine lk_ptr ?_ | refine s_index ?_ | refine s_indexAddr ?_ | refine s_slice ?_ | refine s_build ?_ | refine s_buildSlice ?_ | refine s_mk ?_ | refine s_store ?_ | refine s_alloc ?_ | refine s_call ?_ | refine s_ip ?_ | refine tr_seq ?_ | refine tr_block ?_ | refine tr_skip ?_ | refine tr_ret ?_ | refine tr_exit ?_ | refine tr_label ?_ | refine strip_norm ?_ | refine strip_ret ?_ | refine strip_exit ?_ | refine blk_norm ?_ | refine blk_ret ?_ | refine blk_same ?_ | refine tr_condT ?_ | refine tr_condCt ?_ | refine tr_condCf ?_) | ((with_reducible apply sto_go); (focus (intro cs'; repeat (first | exact ra_h | apply ra_t)))) | ((with_reducible refine al_go ?_); intro b) | ((with_reducible refine And.intro ?_ ?_); (focus ((repeat (first | exact keep_none | exact keep_nil | exact keep_ro | refine keep_cons ?_)); done))) | ((with_reducible apply (ck_le Try.call48)); (focus exact LEL.refl _); (focus exact hC.out _)) | ((with_reducible refine s_bi ?_ ?_); (focus rfl)) | with_reducible refine blk_ne rfl ?_ | ((with_reducible refine w_region ?_ ?_); (focus kernel_rfl)) | ((with_reducible refine w_draw [] ?_ ?_ ?_ ?_ ?_); (iterate 3 (focus kernel_rfl)); (focus exact keeps_nil)) | ((with_reducible first | refine gd_d1 ?_ ?_ | refine gd_d0 ?_ ?_); all_goals (intro hb; (first | with_reducible replace hb := nt_t hb | with_reducible replace hb := nt_f hb | skip); (first | replace hb := dc_t hb | replace hb := dc_f hb | have hb1 := eq_b hb | have hb1 := ne_b hb | have hb1 := bne_t hb | have hb1 := bne_f hb | skip); (try (exfalso; first | contradiction | omega)))))
  all_goals (refine ret_eq (by first | exact .inl rfl | exact .inr rfl) (by first | rfl | assumption) (by (repeat (first | exact List.Sublist.refl _ | apply List.Sublist.cons))) ?_; (try simp (disch := omega) only [push_cast, Nat.reduceEqDiff, reduceCtorEq, ↓reduceIte, Nat.reduceAdd, Nat.reduceMul, Nat.reduceSub, Nat.reduceLT, Nat.reduceLeDiff, Int.reduceToNat, Int.reduceLT, Int.reduceLE, Int.reduceAdd, Int.reduceSub, Int.reduceMul, Int.reduceBEq, Int.reduceBNe, encB, encI, V.cells_mk, V.cells_take, V.cells_len, isE_eq, *]); try (first | exact LE.refl _ | exact LE.sl _ _ | (refine LE.tup ?_; (repeat' (first | exact LEL.nil | refine LEL.cons ?_ ?_ | exact LE.refl _ | exact LE.sl _ _ | refine LE.agg ?_)); done) | (refine LE.agg ?_; (repeat' (first | exact LEL.nil | refine LEL.cons ?_ ?_ | exact LE.refl _ | exact LE.sl _ _)); done) | refine LE.of_eq ?_))
end Go.Proofs.Ytgofckmlgkniaaa
end

section
namespace Go.Proofs.Ytgofckmlgkniaaa
set_option linter.unusedSimpArgs false
open Go.RowKit
set_option maxRecDepth 10000
set_option maxHeartbeats 4000000
namespace V
theorem sgn_self (a : Int) : sgn a a = 0 := by unfold sgn; rw [if_neg (by omega), if_neg (by omega)]
theorem sgn_zero {a b : Int} : sgn a b = 0 ↔ a = b := by
  unfold sgn
  split
  · omega
  · split <;> omega
end V
end Go.Proofs.Ytgofckmlgkniaaa
end

section
namespace Go.Proofs.Ytgofckmlgkniaaa
open Go.RowKit Go.Lib Go.Sort

set_option maxHeartbeats 1600000 in
set_option maxRecDepth 1000000 in
theorem reverse_arr (blk off cap : Nat) (d : Array UInt8) (w : World) (hH : Sort.Holds bv w blk off d) (hsz : d.size ≤ 9223372036854775807) :
    Calls Try.prog 89 #[.slice (some ⟨blk, off, none⟩) d.size cap] w fun e w' => e = .returned (.tuple #[]) ∧ ∃ n, w' = putRow bv (Sort.ahead w n) blk off d.reverse := by
  go_enter Try.func89, Try.ntmps89
  go_wp2
  go_loopg [2, 3] d.size (fun k s2 s3 wr => ∃ (i jn : Nat) (jz : Int) (dk : Array UInt8) (n : Nat), s2 = .int .i64 i ∧ s3 = .int .i64 jz ∧ ((i : Int) < jz → jz = jn ∧ jn < d.size) ∧ (¬ (i : Int) < jz → ¬ i < jn) ∧ jn - i ≤ k ∧
    dk.size = d.size ∧ wr = putRow bv (Sort.ahead w n) blk off dk ∧ reverseLoop i jn dk = reverseLoop 0 (d.size - 1) d)
  case atStart => exact ⟨0, d.size - 1, (d.size : Int) - 1, d, 0, rfl, rfl, fun h => ⟨by omega, by omega⟩, fun h => by omega, by omega, rfl, (putRow_self bv w blk off d hH).symm, rfl⟩
  case round =>
    obtain ⟨i, jn, jz, dk, n, rfl, rfl, h1, h2, hk, hds, hwr, heq⟩ := hrel
    by_cases hlt : (i : Int) < jz
    · obtain ⟨rfl, hjn⟩ := h1 hlt
      have hij : i < jn := by omega
      have hHk : Sort.Holds bv wr blk off dk := by rw [hwr]; exact holds_putRow bv _ blk off d dk (holds_ahead bv w n blk off d hH) hds
      obtain ⟨ci, fi⟩ := hHk i (by omega)
      obtain ⟨cj, fj⟩ := hHk jn (by omega)
      unfold bv at ci cj
      have A : Aside (wr = putRow bv (Sort.ahead w n) blk off dk) := hwr
      clear hwr hHk hH h1 h2
      go_wp2_with fail
      go_region
      go_wp2
      go_roundg (jn - 1 - (i + 1))
      case measure => omega
      case rel =>
        rw [reverseLoop, if_pos hij] at heq
        exact ⟨i + 1, jn - 1, (jn : Int) - 1, swp dk i jn, n + 1, by simp, rfl, fun h => ⟨by omega, by omega⟩, fun h => by omega, Nat.le_refl _, by rw [size_swp]; exact hds,
          swap_world bv (by omega) (by omega) A.out (by first | rfl | simp [bv, getElem!_pos, show jn < dk.size by omega]) (by first | rfl | simp [bv, getElem!_pos, show i < dk.size by omega]), heq⟩
    · have hnot := h2 hlt
      go_wp2
      go_end0
      refine ⟨rfl, n, ?_⟩
      rw [reverseLoop, if_neg hnot] at heq
      rw [← Lib.reverseLoop_reverse, ← heq]

theorem reverse_own (base : Nat) (v : Value) (l : List UInt8) (w : World) (ho : w.ownsRow base 5 1 v l.length (l.map bv)) (hv : v ≠ .slice none 0 0) :
    Calls Try.prog 89 #[v] w fun e w' => e = .returned (.tuple #[]) ∧ w'.ownsRow base 5 1 v l.length (l.reverse.map bv) ∧ Chg (fun k => v.ownBlock = some k) w w' := by
  obtain ⟨g, cap, rfl, h1, h2, h3, h4, -, h5⟩ := holds_of_ownsRow ho hv
  unfold maxLen at h4
  refine (reverse_arr g 0 cap l.toArray w h5 (by simp; omega)).mono ?_
  rintro e w' ⟨rfl, n, rfl⟩
  rw [List.reverse_toArray]
  refine ⟨rfl, ?_, ?_⟩
  · have := ownsRow_putRow (q := n) (k := l.length) ho (ys := l.reverse) (by simp) (Nat.le_refl _)
    rwa [List.take_of_length_le (by simp)] at this
  · refine ⟨rfl, rfl, rfl, by simp [putRow, mapBlock, Sort.ahead], fun k hk hn => ?_⟩
    have hgk : g ≠ k := fun e => hn (by simp [Value.ownBlock, e])
    simp [putRow, mapBlock, Sort.ahead, Array.getElem?_modify, hgk]
theorem own_not_def {w : World} {base : Nat} {e : TypeId} {size n : Nat} {v : Value} {xs : List Value} (h : w.ownsRow base e size v n xs) {k : Nat} {d : Option (List Deferred)} (hk : w.heap[k]? = some (.deferred d)) : ¬ v.ownBlock = some k := by
  rcases h.2 with ⟨rfl, _⟩ | ⟨g, cap, cur, rfl, _, hg, _⟩
  · intro e; cases e
  · intro e
    simp only [Value.ownBlock, Option.some.injEq] at e
    subst e
    rw [hg] at hk; cases hk
end Go.Proofs.Ytgofckmlgkniaaa
end

section
namespace Go.Proofs.Ytgofckmlgkniaaa
open Go.RowKit Go.Shelf
attribute [local go_sem] Oper.semAt_some

def dig (n : Nat) : UInt8 := UInt8.ofNat (48 + n)
theorem dig_nat {n : Nat} (h : n < 10) : (dig n).toNat = 48 + n := by
  unfold dig; rw [UInt8.toNat_ofNat']; omega
def digs (n : Nat) : List UInt8 := if n < 10 then [dig n] else dig (n % 10) :: digs (n / 10)
termination_by n
decreasing_by omega
theorem digs_lt {n : Nat} (h : n < 10) : digs n = [dig n] := by rw [digs, if_pos h]
theorem digs_ge {n : Nat} (h : ¬ n < 10) : digs n = dig (n % 10) :: digs (n / 10) := by rw [digs, if_neg h]
theorem digs_cons (n : Nat) : digs n = dig (n % 10) :: (if n < 10 then [] else digs (n / 10)) := by
  by_cases h : n < 10
  · rw [digs_lt h, if_pos h, Nat.mod_eq_of_lt h]
  · rw [digs_ge h, if_neg h]
theorem digs_len : ∀ (k n : Nat), n < 10 ^ (k + 1) → (digs n).length ≤ k + 1
  | k, n, h => by
    by_cases h10 : n < 10
    · rw [digs_lt h10]; simp
    · cases k with
      | zero => omega
      | succ k =>
        rw [digs_ge h10]
        have := digs_len k (n / 10) (by rw [Nat.pow_succ] at h; omega)
        simp only [List.length_cons]; omega
theorem digs_20 {n : Nat} (h : n < 18446744073709551616) : (digs n).length ≤ 20 := digs_len 19 n (by omega)

theorem digits_any (p : Int) (w : World) :
    Calls Try.prog 88 #[.int .u64 p] w fun e w' => e = .returned (.func (.func 100) #[] #[.pointer (some ⟨w.heap.size, 0, none⟩)]) ∧ w.alloc (.cells #[.int .u64 p] 57) = w' := by
  go_enter Try.func88, Try.ntmps88
  go_wp2
  go_ret
  exact ⟨rfl, rfl⟩

set_option maxHeartbeats 1000000 in
set_option maxRecDepth 100000 in
theorem digits1_seq (n : Nat) (hn : 1 ≤ n) (m : Nat) (hm : m < 18446744073709551616) (B : Nat) (w : World) (hb : Boxed w B 57 (.int .u64 (m : Int))) :
    SeqC Fence.wide n Try.prog 100 #[.pointer (some ⟨B, 0, none⟩)] (fun x : UInt8 => #[Value.int .u8 (x.toNat : Int)]) (fun k => B = k) (fun k => B = k) (fun pre => ∃ r, pre ++ r = digs m) (fun xs _ => xs = digs m) (fun _ _ => True) w := by
  intro l J Jx W hW hJ hJx hY h0
  have hbW : Boxed W B 57 (.int .u64 (m : Int)) := Boxed.chg hb hW (fun h => h)
  have hsz := hW.size
  refine callsIn_of_wp Try.func100 rfl trivial ?_ rfl
  simp only [Try.ntmps100, List.size_toArray, List.length_cons, List.length_nil, Nat.reduceAdd, Nat.reduceSub, Array.replicate_succ, Array.replicate_zero, List.push_toArray, List.append_toArray, List.nil_append, List.cons_append]
  gi_wp2
  gi_loopw [3] (fun _ wr => ∃ (pre : List UInt8) (r : Nat), pre ++ digs r = digs m ∧ r < 18446744073709551616 ∧ J pre (fun k => B = k) wr ∧ Boxed wr B 57 (.int .u64 (r : Int))) (fun _ wr => ((wr.cell? ⟨B, 0, none⟩).map fun v => (intOf v).toNat).getD 0)
  case atStart => exact ⟨[], m, rfl, hm, h0, hbW⟩
  case round =>
    obtain ⟨pre, r, hd, hr, hj, hbr⟩ := hrel
    have HJ := Lib.hid hj; clear hj
    have hc := hbr.cell
    have hf := hbr.frozen
    obtain ⟨d, hd10⟩ : ∃ d, r % 10 = d := ⟨_, rfl⟩
    have hdl : d < 10 := by omega
    have hmod : (r : Int) % 10 = (d : Int) := by omega
    have hcons := digs_cons r
    rw [hd10] at hcons
    have hY' := hY _ (dig d) _ _ HJ.out (fun _ h => h) ⟨if r < 10 then [] else digs (r / 10), by rw [← hd, hcons, List.append_assoc]; rfl⟩
    clear hY
    obtain ⟨fn, tmps, assign, body, hyy, hR⟩ := hY'
    have HC := Lib.hid hcons; have HD := Lib.hid hd; clear hcons hd hd10
    have e48 : ((dig d).toNat : Int) = 48 + (d : Int) := by rw [dig_nat hdl]; omega
    rw [e48] at hyy
    gi_wp2_with (rw [hmod])
    refine hR.mono ?_
    rintro e W3 (⟨rfl, hJ3, hk3⟩ | ⟨rfl, hJx3, hk3⟩)
    · have hb3 : Boxed W3 B 57 (.int .u64 (r : Int)) := Boxed.chg hbr hk3 (fun h => h rfl)
      have hc3 := hb3.cell
      have hf3 := hb3.frozen
      by_cases h10 : r < 10
      · have hfin : Hid (digs m = pre ++ [dig d]) := Lib.hid (by rw [← HD.out, HC.out, if_pos h10])
        gi_wp2
        refine bodyPost_ret (results_none rfl _ _ _) rfl ?_
        exact ⟨⟨_, rfl⟩, .inl ⟨_, rfl, by rw [hfin.out]; exact hJ3⟩⟩
      · have hnext : Hid (pre ++ [dig d] ++ digs (r / 10) = digs m) := Lib.hid (by rw [← HD.out, HC.out, if_neg h10, List.append_assoc]; rfl)
        gi_wp2
        have hb4 := hb3.set (.int .u64 ((r / 10 : Nat) : Int))
        have ed : (r : Int) / 10 = ((r / 10 : Nat) : Int) := by omega
        rw [ed]
        refine ⟨⟨pre ++ [dig d], r / 10, hnext.out, by omega, ?_, hb4⟩, ?_⟩
        · exact hJ.less _ _ _ _ (hJ.step _ _ _ _ hJ3 ((Chg.refl _ W3).setCell (p := ⟨B, 0, none⟩) (fun _ => rfl) _)) fun k hk => .inl hk
        · rw [hb4.cell, hc]
          simp [intOf]
          omega
    · gi_wp2
      refine bodyPost_ret (results_none rfl _ _ _) rfl ?_
      exact ⟨⟨_, rfl⟩, .inr ⟨_, trivial, hJx3⟩⟩

def magn (n : Int) : Nat := if n < 0 then (-n).toNat else n.toNat
def printL (n : Int) : List UInt8 := (if n < 0 then [45] else []) ++ (digs (magn n)).reverse
set_option maxRecDepth 100000 in
set_option maxHeartbeats 1000000 in
theorem print_neg (p : Int) (h1 : -9223372036854775808 ≤ p) (hneg : p < 0) (w : World) :
    Calls Try.prog 73 #[.int .i64 p] w fun e w' => e = .returned (.string ⟨(printL p).toArray⟩) ∧ Below w.heap.size w w' := by
  have h2 : p ≤ 9223372036854775807 := by omega
  obtain ⟨m, hm⟩ : ∃ m, magn p = m := ⟨_, rfl⟩
  have hm1 : m < 18446744073709551616 := by rw [← hm]; unfold magn; split <;> omega
  have hlen := digs_20 hm1
  have HP : Hid (printL p = (if p < 0 then [45] else []) ++ (digs m).reverse) := Lib.hid (by rw [printL, hm])
  generalize printL p = R at HP
  unfold magn at hm
  have digs_pos : ∀ m, 0 < (digs m).length := fun m => by rw [digs_cons]; simp
  rw [if_pos hneg] at hm HP
  have hw : IntKind.u64.wrap (-IntKind.u64.wrap p) = (m : Int) := by rw [IntKind.wrap_u64, IntKind.wrap_u64]; omega
  refine (callsIn_wide (n := 5)).1 ?_
  refine callsIn_of_wp_marks Try.func73 rfl trivial ?_ rfl
  simp only [Try.ntmps73, List.size_toArray, List.length_cons, List.length_nil, Nat.reduceAdd, Nat.reduceSub, Array.replicate_succ, Array.replicate_zero, List.push_toArray, List.append_toArray, List.nil_append, List.cons_append]
  gi_wp2_with fail
  refine wcall (digits_any _ _) ?_
  rintro e w' ⟨rfl, rfl⟩
  gi_wp2_with fail
  have hs : ((w.alloc (.cells #[.slice none 0 0] 27)).alloc (.cells #[.int .u64 (m : Int)] 57)).heap.size = w.heap.size + 2 := by simp
  have hbx : Boxed ((w.alloc (.cells #[.slice none 0 0] 27)).alloc (.cells #[.int .u64 (m : Int)] 57)) (w.heap.size + 1) 57 (.int .u64 (m : Int)) := by
    have := Boxed.new (w.alloc (.cells #[.slice none 0 0] 27)) 57 (.int .u64 (m : Int))
    rwa [World.size_alloc] at this
  have hb0 : Boxed ((w.alloc (.cells #[.slice none 0 0] 27)).alloc (.cells #[.int .u64 (m : Int)] 57)) w.heap.size 27 (.slice none 0 0) := (Boxed.new w _ _).alloc _
  have hB0 : Below w.heap.size w ((w.alloc (.cells #[.slice none 0 0] 27)).alloc (.cells #[.int .u64 (m : Int)] 57)) := ((Below.refl _ w).alloc (Nat.le_refl _) _).alloc (by simp) _
  generalize (w.alloc (.cells #[.slice none 0 0] 27)).alloc (.cells #[.int .u64 (m : Int)] 57) = W0 at *
  have hs1 : W0.heap.size ≤ w.heap.size + 2 := by omega
  have hs2 : w.heap.size + 2 ≤ W0.heap.size := by omega
  clear hs
  refine wpIn_range1 rfl (by omega) (gf := 100) (lb := #[.pointer (some ⟨w.heap.size + 1, 0, none⟩)]) rfl trivial (enters_of Try.func100 (by kernel_rfl) rfl)
    (digits1_seq 4 (by omega) m hm1 (w.heap.size + 1) W0 hbx) (Chg.refl _ _) (fun k h => by omega) (fun k h => by omega) (fun _ => rfl)
    (fun pre Pr W => Coll w.heap.size w.heap.size 27 5 1 pre.length (pre.map bv) (fun k => w.heap.size + 1 = k ∨ W0.heap.size = k ∨ W0.heap.size + 1 = k) Pr W ∧ Below w.heap.size w W) (fun _ _ _ _ => False)
    (Bears.and (Coll.bears (fun k h => h)) (Bears.below (Nat.le_refl _) (fun k hk h => by rcases h with h | h | h <;> omega))) (fun _ => Bears.false _)
    ⟨⟨_, hb0, by omega, by omega, World.ownsRow_nil _ _ _ _, fun k e => (by cases e), by simp⟩, hB0⟩
    ?a1 ?assign ?body ?done ?stop
  case assign =>
    intro l x W K hK
    gi_wp2
    exact hK
  case body =>
    rintro l pre x Pr W hsW hPb hP0 hPl - ⟨⟨v, hv, hPB, hMB, hrow, hvb, hnil⟩, hB⟩ ⟨r, hG⟩
    have hlen' : pre.length + 1 ≤ 20 := by
      have := congrArg List.length hG
      simp at this; omega
    clear hG
    have hBs := hB.size
    have hc := hv.cell
    have hf := hv.frozen
    gi_wp2_with (gi_at_builtin; refine wpListIn_app _ rfl _ _ 27 rfl w.heap.size 5 (.int .u8 0) 1 1 Try.underlying27 utfInfoByte rfl (by decide) _ _ _ rfl (hrow.alloc _) _ 1 _ rfl (Src.new W _ 5 1 1 1 rfl) (by simp [Value.oneCell']) (by unfold maxLen; omega) (by omega) (by simp; omega) ?_; intro v' w1 hown' hc' hb' hn'; obtain ⟨h1, h2, h3⟩ := Coll.appended hv hPB hMB hrow hvb (by decide) (fun k hk => by omega) hPb hown' hc' hb' (by rw [hn']; omega); obtain ⟨g', cap', rfl⟩ := ownsRow_succ hown'; have hc1 := h1.cell; have hf1 := h1.frozen)
    have hB1 : Below w.heap.size w (w1.setCell ⟨w.heap.size, 0, none⟩ (.slice (some ⟨g', 0, none⟩) (pre.length + 1) cap')) := by
      refine hB.trans (Chg.below (n := w.heap.size) (M := fun k => ¬ k < w.heap.size) ?_ hBs (fun k hk h => h hk))
      refine Chg.setCell ?_ (fun _ => by simp) _
      exact ((Chg.refl _ W).alloc _).trans (hc'.mono fun k _ e => by have := (hrow.lt k e).1; omega)
    refine ⟨h3, ?_, hB1⟩
    rw [List.length_append, List.map_append]; exact h2
  case done =>
    rintro xs Wa W rfl - ⟨⟨v, hv, hPB, hMB, hrow, hvb, hnil⟩, hB⟩ hK
    have hc := hv.cell
    have hf := hv.frozen
    have hpos1 := digs_pos m
    have hBs := hB.size
    have hKv := own_not_def hrow hK
    have hlK := (Array.getElem?_eq_some_iff.1 hK).1
    gi_wp2_with (gi_at_builtin; refine wpListIn_app _ rfl _ _ 27 rfl w.heap.size 5 (.int .u8 0) 1 1 Try.underlying27 utfInfoByte rfl (by decide) _ _ _ rfl (hrow.alloc _) _ 1 _ rfl (Src.new W _ 5 1 1 1 rfl) (by simp [Value.oneCell']) (by unfold maxLen; omega) (by omega) (by simp; omega) ?_; intro v' w1 hown' hc' hb' hn'; obtain ⟨h1, h2, h3⟩ := Coll.appended (M := fun _ => False) (Pr := fun _ => False) hv id id hrow (fun _ _ => ⟨id, id⟩) (by decide) (fun _ h => h.elim) (fun _ h => h.elim) hown' hc' hb' (by rw [hn']; omega); obtain ⟨g', cap', rfl⟩ := ownsRow_succ hown'; have hc1 := h1.cell; have hf1 := h1.frozen)
    have hK1 : (w1.setCell ⟨w.heap.size, 0, none⟩ (.slice (some ⟨g', 0, none⟩) ((digs m).length + 1) cap')).heap[W0.heap.size]? = some (.deferred (some [])) := by
      refine (Below.heap_setCell _ _ _ _ (by simp; omega)).trans ?_
      refine (hc'.block _ (by simp; omega) hKv).trans ?_
      exact (Lib.alloc_old W _ _ hlK).trans hK
    have hB1 : Below w.heap.size w (w1.setCell ⟨w.heap.size, 0, none⟩ (.slice (some ⟨g', 0, none⟩) ((digs m).length + 1) cap')) := by
      refine hB.trans (Chg.below (n := w.heap.size) (M := fun k => ¬ k < w.heap.size) ?_ hBs (fun k hk h => h hk))
      refine Chg.setCell ?_ (fun _ => by simp) _
      exact ((Chg.refl _ W).alloc _).trans (hc'.mono fun k _ e => by have := (hrow.lt k e).1; omega)
    obtain ⟨v2, hv2, -, -, hrow2, -, -⟩ := h2
    obtain rfl := Option.some.inj (hv2.cell.symm.trans (h1.set (.slice (some ⟨g', 0, none⟩) ((digs m).length + 1) cap')).cell)
    clear hK hB hv hc hf hrow hvb hnil hc1 hf1 h1 h3 hown' hc' hb' hn' hBs
    have hc := hv2.cell
    generalize w1.setCell ⟨w.heap.size, 0, none⟩ (.slice (some ⟨g', 0, none⟩) ((digs m).length + 1) cap') = W1 at *
    have hBs := hB1.size
    have hne : Value.slice (some ⟨g', 0, none⟩) ((digs m).length + 1) cap' ≠ .slice none 0 0 := fun e => by cases e
    have hrow3 : W1.ownsRow w.heap.size 5 1 (Value.slice (some ⟨g', 0, none⟩) ((digs m).length + 1) cap') (digs m ++ [45]).length ((digs m ++ [45]).map bv) := by rw [List.length_append, List.map_append]; exact hrow2
    have hKv2 := own_not_def hrow3 hK1
    have hlK2 := (Array.getElem?_eq_some_iff.1 hK1).1
    have hnr : ¬ (Value.slice (some ⟨g', 0, none⟩) ((digs m).length + 1) cap').ownBlock = some w.heap.size := fun e => (hv2.not_row (by decide) hrow3) e.symm
    refine wcall (reverse_own w.heap.size (Value.slice (some ⟨g', 0, none⟩) ((digs m).length + 1) cap') (digs m ++ [45]) W1 hrow3 hne) ?_
    rintro e W2 ⟨rfl, hr2, hC2⟩
    have hb2 := Boxed.chg hv2 hC2 hnr
    have hK2 := (hC2.block _ hlK2 hKv2).trans hK1
    have hc2 := hb2.cell
    have hB2 := hB1.trans (hC2.below hBs (fun k hk e => by have := (hrow3.lt k e).1; omega))
    have hcv := conv_back (Sees.of_owns hr2 rfl (by simp))
    gi_wp2
    refine ⟨by simp, .inl ⟨_, _, rfl, run_takeDeferred hK2, ?_⟩⟩
    refine ⟨_, results_tmp rfl _ _ _, by rw [HP.out]; simp, ?_⟩
    exact hB2.trans ((Chg.refl (fun k => ¬ k < w.heap.size) W2).putObj (fun _ => by omega) _ |>.below hB2.size (fun k hk h => h hk))
  case stop =>
    rintro c pre Wa W - - h
    exact h.elim
set_option maxRecDepth 100000 in
set_option maxHeartbeats 1000000 in
theorem print_pos (p : Int) (hpos : 0 ≤ p) (h2 : p ≤ 9223372036854775807) (w : World) :
    Calls Try.prog 73 #[.int .i64 p] w fun e w' => e = .returned (.string ⟨(printL p).toArray⟩) ∧ Below w.heap.size w w' := by
  have h1 : -9223372036854775808 ≤ p := by omega
  obtain ⟨m, hm⟩ : ∃ m, magn p = m := ⟨_, rfl⟩
  have hm1 : m < 18446744073709551616 := by rw [← hm]; unfold magn; split <;> omega
  have hlen := digs_20 hm1
  have HP : Hid (printL p = (if p < 0 then [45] else []) ++ (digs m).reverse) := Lib.hid (by rw [printL, hm])
  generalize printL p = R at HP
  unfold magn at hm
  have digs_pos : ∀ m, 0 < (digs m).length := fun m => by rw [digs_cons]; simp
  rw [if_neg (by omega)] at hm HP
  obtain rfl : p = (m : Int) := by omega
  clear hm
  refine (callsIn_wide (n := 5)).1 ?_
  refine callsIn_of_wp_marks Try.func73 rfl trivial ?_ rfl
  simp only [Try.ntmps73, List.size_toArray, List.length_cons, List.length_nil, Nat.reduceAdd, Nat.reduceSub, Array.replicate_succ, Array.replicate_zero, List.push_toArray, List.append_toArray, List.nil_append, List.cons_append]
  gi_wp2_with fail
  refine wcall (digits_any _ _) ?_
  rintro e w' ⟨rfl, rfl⟩
  gi_wp2_with fail
  have hs : ((w.alloc (.cells #[.slice none 0 0] 27)).alloc (.cells #[.int .u64 (m : Int)] 57)).heap.size = w.heap.size + 2 := by simp
  have hbx : Boxed ((w.alloc (.cells #[.slice none 0 0] 27)).alloc (.cells #[.int .u64 (m : Int)] 57)) (w.heap.size + 1) 57 (.int .u64 (m : Int)) := by
    have := Boxed.new (w.alloc (.cells #[.slice none 0 0] 27)) 57 (.int .u64 (m : Int))
    rwa [World.size_alloc] at this
  have hb0 : Boxed ((w.alloc (.cells #[.slice none 0 0] 27)).alloc (.cells #[.int .u64 (m : Int)] 57)) w.heap.size 27 (.slice none 0 0) := (Boxed.new w _ _).alloc _
  have hB0 : Below w.heap.size w ((w.alloc (.cells #[.slice none 0 0] 27)).alloc (.cells #[.int .u64 (m : Int)] 57)) := ((Below.refl _ w).alloc (Nat.le_refl _) _).alloc (by simp) _
  generalize (w.alloc (.cells #[.slice none 0 0] 27)).alloc (.cells #[.int .u64 (m : Int)] 57) = W0 at *
  have hs1 : W0.heap.size ≤ w.heap.size + 2 := by omega
  have hs2 : w.heap.size + 2 ≤ W0.heap.size := by omega
  clear hs
  refine wpIn_range1 rfl (by omega) (gf := 100) (lb := #[.pointer (some ⟨w.heap.size + 1, 0, none⟩)]) rfl trivial (enters_of Try.func100 (by kernel_rfl) rfl)
    (digits1_seq 4 (by omega) m hm1 (w.heap.size + 1) W0 hbx) (Chg.refl _ _) (fun k h => by omega) (fun k h => by omega) (fun _ => rfl)
    (fun pre Pr W => Coll w.heap.size w.heap.size 27 5 1 pre.length (pre.map bv) (fun k => w.heap.size + 1 = k ∨ W0.heap.size = k ∨ W0.heap.size + 1 = k) Pr W ∧ Below w.heap.size w W) (fun _ _ _ _ => False)
    (Bears.and (Coll.bears (fun k h => h)) (Bears.below (Nat.le_refl _) (fun k hk h => by rcases h with h | h | h <;> omega))) (fun _ => Bears.false _)
    ⟨⟨_, hb0, by omega, by omega, World.ownsRow_nil _ _ _ _, fun k e => (by cases e), by simp⟩, hB0⟩
    ?a1 ?assign ?body ?done ?stop
  case assign =>
    intro l x W K hK
    gi_wp2
    exact hK
  case body =>
    rintro l pre x Pr W hsW hPb hP0 hPl - ⟨⟨v, hv, hPB, hMB, hrow, hvb, hnil⟩, hB⟩ ⟨r, hG⟩
    have hlen' : pre.length + 1 ≤ 20 := by
      have := congrArg List.length hG
      simp at this; omega
    clear hG
    have hBs := hB.size
    have hc := hv.cell
    have hf := hv.frozen
    gi_wp2_with (gi_at_builtin; refine wpListIn_app _ rfl _ _ 27 rfl w.heap.size 5 (.int .u8 0) 1 1 Try.underlying27 utfInfoByte rfl (by decide) _ _ _ rfl (hrow.alloc _) _ 1 _ rfl (Src.new W _ 5 1 1 1 rfl) (by simp [Value.oneCell']) (by unfold maxLen; omega) (by omega) (by simp; omega) ?_; intro v' w1 hown' hc' hb' hn'; obtain ⟨h1, h2, h3⟩ := Coll.appended hv hPB hMB hrow hvb (by decide) (fun k hk => by omega) hPb hown' hc' hb' (by rw [hn']; omega); obtain ⟨g', cap', rfl⟩ := ownsRow_succ hown'; have hc1 := h1.cell; have hf1 := h1.frozen)
    have hB1 : Below w.heap.size w (w1.setCell ⟨w.heap.size, 0, none⟩ (.slice (some ⟨g', 0, none⟩) (pre.length + 1) cap')) := by
      refine hB.trans (Chg.below (n := w.heap.size) (M := fun k => ¬ k < w.heap.size) ?_ hBs (fun k hk h => h hk))
      refine Chg.setCell ?_ (fun _ => by simp) _
      exact ((Chg.refl _ W).alloc _).trans (hc'.mono fun k _ e => by have := (hrow.lt k e).1; omega)
    refine ⟨h3, ?_, hB1⟩
    rw [List.length_append, List.map_append]; exact h2
  case done =>
    rintro xs Wa W rfl - ⟨⟨v, hv, hPB, hMB, hrow, hvb, hnil⟩, hB⟩ hK
    have hc := hv.cell
    have hf := hv.frozen
    have hpos1 := digs_pos m
    have hBs := hB.size
    have hne : v ≠ .slice none 0 0 := fun e => by have := hnil.1 e; omega
    gi_wp2_with fail
    have hKv2 := own_not_def hrow hK
    have hlK2 := (Array.getElem?_eq_some_iff.1 hK).1
    have hnr : ¬ v.ownBlock = some w.heap.size := fun e => (hv.not_row (by decide) hrow) e.symm
    refine wcall (reverse_own w.heap.size v (digs m) W hrow hne) ?_
    rintro e W2 ⟨rfl, hr2, hC2⟩
    have hb2 := Boxed.chg hv hC2 hnr
    have hK2 := (hC2.block _ hlK2 hKv2).trans hK
    have hc2 := hb2.cell
    have hB2 := hB.trans (hC2.below hBs (fun k hk e => by have := (hrow.lt k e).1; omega))
    have hcv := conv_back (Sees.of_owns hr2 rfl (by simp))
    gi_wp2
    refine ⟨by simp, .inl ⟨_, _, rfl, run_takeDeferred hK2, ?_⟩⟩
    refine ⟨_, results_tmp rfl _ _ _, by rw [HP.out]; simp, ?_⟩
    exact hB2.trans ((Chg.refl (fun k => ¬ k < w.heap.size) W2).putObj (fun _ => by omega) _ |>.below hB2.size (fun k hk h => h hk))
  case stop =>
    rintro c pre Wa W - - h
    exact h.elim
theorem print_any (p : Int) (h1 : -9223372036854775808 ≤ p) (h2 : p ≤ 9223372036854775807) (w : World) :
    Calls Try.prog 73 #[.int .i64 p] w fun e w' => e = .returned (.string ⟨(printL p).toArray⟩) ∧ Below w.heap.size w w' :=
  (Int.lt_or_le p 0).elim (fun h => print_neg p h1 h w) fun h => print_pos p h h2 w
end Go.Proofs.Ytgofckmlgkniaaa
end

section
namespace Go.Proofs.Ytgofckmlgkniaaa
open Go.RowKit Go.Shelf

theorem bld_size : ∃ j, Try.prog.info? 94 = some j ∧ j.size = 2 := Option.map_eq_some_iff.1 (by kernel_rfl)
theorem bld_lies : liesAt Try.prog Try.prog.depth 94 (2 / Try.prog.cellsOf 94) 0 94 1 = true := by kernel_rfl

set_option maxHeartbeats 1000000 in
set_option maxRecDepth 100000 in
theorem copyCheck_used (b : Nat) (w : World) (h0 : w.cell? ⟨b, 0, none⟩ = some (.pointer (some ⟨b, 0, none⟩))) :
    Calls Try.prog 101 #[.pointer (some ⟨b, 0, none⟩)] w fun e w' => e = .returned (.tuple #[]) ∧ w' = w := by
  obtain ⟨j, hj, _⟩ := bld_size
  go_enter Try.func101, Try.ntmps101
  go_wp2
  rw [Lib.run_neq_ptr_same w _ Try.underlying92 hj]
  go_wp2
  go_end0
  exact ⟨rfl, rfl⟩
set_option maxHeartbeats 1000000 in
set_option maxRecDepth 100000 in
theorem copyCheck_fresh (b : Nat) (w : World) (h0 : w.cell? ⟨b, 0, none⟩ = some (.pointer none)) (hsh : w.shape? b = some (94, 2)) (hfz : w.frozen? ⟨b, 0, none⟩ = false) :
    Calls Try.prog 101 #[.pointer (some ⟨b, 0, none⟩)] w fun e w' => e = .returned (.tuple #[]) ∧ w' = w.setCell ⟨b, 0, none⟩ (.pointer (some ⟨b, 0, none⟩)) := by
  obtain ⟨j, hj, hjs⟩ := bld_size
  go_enter Try.func101, Try.ntmps101
  go_wp2
  rw [Lib.run_to_unsafe w ⟨b, 0, none⟩ Try.underlying92 Try.underlying108 hj (by rw [hjs]; decide) hsh (Nat.zero_lt_succ 1)]
  simp only [Result.andThen]
  rw [Oper.upon_value]
  go_wp2
  rw [run_callFunc_extern Try.func105 (by kernel_rfl) (by kernel_rfl) (by kernel_rfl) (e := Extern.AbiNoEscape.same) (by kernel_rfl)]
  rw [Lib.run_noEscape]
  simp only [Result.andThen]
  rw [Oper.upon_value]
  go_wp2
  rw [Lib.run_from_unsafe w ⟨b, 0, none⟩ Try.underlying108 Try.underlying92 hj hsh bld_lies]
  simp only [Result.andThen]
  rw [Oper.upon_value]
  go_wp2
  go_end0
  exact ⟨rfl, rfl⟩
theorem copyCheck_any (B b : Nat) (bs : List Value) (w : World) (h : Lib.IsBuilder 94 5 B b bs w) :
    Calls Try.prog 101 #[.pointer (some ⟨b, 0, none⟩)] w fun e w' => e = .returned (.tuple #[]) ∧ (Lib.BuilderAt 94 5 B b (.pointer (some ⟨b, 0, none⟩)) bs w' ∧ Below B w w') := by
  rcases h with h | h
  · refine (copyCheck_fresh b w h.cell0 h.shape h.frozen0).mono ?_
    rintro e w' ⟨rfl, rfl⟩
    exact ⟨rfl, h.used _, (Below.refl B w).setCell (p := ⟨b, 0, none⟩) h.1 _⟩
  · refine (copyCheck_used b w h.cell0).mono ?_
    rintro e w' ⟨rfl, rfl⟩
    exact ⟨rfl, h, Below.refl B _⟩

set_option maxHeartbeats 2000000 in
set_option maxRecDepth 100000 in
theorem writeByte_any (B b : Nat) (bs : List Value) (c : Int) (w : World) (h : Lib.IsBuilder 94 5 B b bs w) (hlen : bs.length + 1 ≤ 140737488355328) (hBw : B ≤ w.heap.size) :
    Calls Try.prog 90 #[.pointer (some ⟨b, 0, none⟩), .int .u8 c] w fun e w' => e = .returned .nilIface ∧ (Lib.BuilderAt 94 5 B b (.pointer (some ⟨b, 0, none⟩)) (bs ++ [.int .u8 c]) w' ∧ Below B w w') := by
  obtain ⟨i0, hi, hz0, hz1, hz2⟩ := info_parts (P := Try.prog) (e := 5) (z := .int .u8 0) (size := 1) (bytes := 1) (by kernel_rfl)
  go_enter Try.func90, Try.ntmps90
  go_wp2_with fail
  refine (copyCheck_any B b bs _ h).mono ?_
  rintro e w1 ⟨rfl, h1, hb1⟩
  obtain ⟨hB, v, hbk, hown, hne⟩ := h1
  have c0 : w1.cell? ⟨b, 0, none⟩ = some (.pointer (some ⟨b, 0, none⟩)) := by rw [Lib.cell_of_heap hbk]; rfl
  have c1 : w1.cell? ⟨b, 1, none⟩ = some v := by rw [Lib.cell_of_heap hbk]; rfl
  go_wp2_with (at_builtin; refine wpList_append_own _ rfl _ _ 27 rfl B 5 i0 (.int .u8 0) 1 1 Try.underlying27 hi hz0 hz1 hz2 rfl (by decide) _ _ _ rfl (hown.alloc _) ⟨w1.heap.size, 0, none⟩ 1 1 [.int .u8 c] rfl rfl ?c1 ?c2 ?c3 ?c4 ?c5 ?_)
  case c1 =>
    intro j u hj
    match j, hj with
    | 0, hj => simp at hj; subst hj; simp [Addr.add]
  case c2 => intro u hu; simp at hu; subst hu; rfl
  case c3 => unfold maxLen; omega
  case c4 => omega
  case c5 => have := hb1.size; simp; omega
  intro v' w2 hown' hgrow _
  have hlt : b < w1.heap.size := by
    rcases Nat.lt_or_ge b w1.heap.size with h' | h'
    · exact h'
    · simp [Array.getElem?_eq_none h'] at hbk
  have hb2 : w2.heap[b]? = some (.cells #[.pointer (some ⟨b, 0, none⟩), v] 94 (0, 0)) := by
    rw [hgrow.block b (by simp; omega) (fun e => hne e.symm), Lib.alloc_old w1 _ b hlt]
    exact hbk
  have d0 : w2.cell? ⟨b, 0, none⟩ = some (.pointer (some ⟨b, 0, none⟩)) := by rw [Lib.cell_of_heap hb2]; rfl
  have d1 : w2.cell? ⟨b, 1, none⟩ = some v := by rw [Lib.cell_of_heap hb2]; rfl
  have f1 : w2.frozen? ⟨b, 1, none⟩ = false := Lib.frozen_of_heap hb2 1
  obtain ⟨g, cap, rfl⟩ : ∃ g cap, v' = .slice (some ⟨g, 0, none⟩) (bs.length + 1) cap := by
    rcases hown'.2 with ⟨_, h0⟩ | ⟨g, cap, cur, hv, _⟩
    · omega
    · exact ⟨g, cap, hv⟩
  go_wp2
  go_ret
  refine ⟨rfl, ?_, ?_⟩
  · exact Lib.BuilderAt.put (T := 94) (e := 5) hB hb2 (bs' := bs ++ [.int .u8 c]) (by simpa using hown') (by decide)
  · exact ((hb1.alloc (by have := hb1.size; omega) _).grown hgrow (by have := hb1.size; simp; omega) (fun k hk => (hown.lt k hk).1)).setCell (p := ⟨b, 1, none⟩) hB _
end Go.Proofs.Ytgofckmlgkniaaa
end

section
namespace Go.Proofs.Ytgofckmlgkniaaa
open Go.RowKit Go.Shelf

def escB (c : UInt8) : List UInt8 := if c.toNat = 34 ∨ c.toNat = 92 then [92, c] else [c]
def quoteB (l : List UInt8) : List UInt8 := 34 :: (l.flatMap escB ++ [34])
theorem esc_len (l : List UInt8) : (l.flatMap escB).length ≤ 2 * l.length := by
  induction l with
  | nil => simp
  | cons x t ih =>
    have : (escB x).length ≤ 2 := by unfold escB; split <;> simp
    simp only [List.flatMap_cons, List.length_append, List.length_cons]; omega
set_option maxHeartbeats 2000000 in
set_option maxRecDepth 100000 in
theorem quoted_any (s : ByteArray) (hs : 2 * s.size + 2 ≤ 140737488355328) (w : World) :
    Calls Try.prog 74 #[.string s] w fun e w' => e = .returned (.string ⟨(quoteB s.data.toList).toArray⟩) ∧ Below w.heap.size w w' := by
  have hsz : s.data.toList.length = s.size := rfl
  have hL := esc_len s.data.toList
  have hx := Lib.hid (fun k => esc_len (s.data.toList.take k))
  have HQ : Hid (quoteB s.data.toList = 34 :: (s.data.toList.flatMap escB ++ [34])) := rfl
  generalize hq : quoteB s.data.toList = Q at HQ
  clear hq
  go_enter Try.func74, Try.ntmps74
  go_wp2_with fail
  have hb0 := Lib.fresh_isBuilder 94 5 w
  have hB0 : Below w.heap.size w (w.alloc (.cells #[.pointer none, .slice none 0 0] 94)) := (Below.refl _ w).alloc (Nat.le_refl _) _
  generalize (w.alloc (.cells #[.pointer none, .slice none 0 0] 94)) = W0 at *
  refine (writeByte_any w.heap.size w.heap.size [] 34 W0 hb0 (by simp) hB0.size).mono ?_
  rintro e w1 ⟨rfl, h1, hb1⟩
  have hB1 := hB0.trans hb1
  clear hb1 hB0 hb0
  go_wp2_with fail
  go_loopw [8] (fun i wr => ∃ k : Nat, k ≤ s.size ∧ i = .int .i64 k ∧ Lib.BuilderAt 94 5 w.heap.size w.heap.size (.pointer (some ⟨w.heap.size, 0, none⟩)) (Lib.byteCells (34 :: (s.data.toList.take k).flatMap escB)) wr ∧ Below w.heap.size w wr) (fun i _ => s.size - (intOf i).toNat)
  case atStart => exact ⟨0, by omega, rfl, h1, hB1⟩
  case round =>
    obtain ⟨k, hk, rfl, hbk, hBk⟩ := hrel
    by_cases hlt : k < s.size
    · have hsnoc : Hid (s.data.toList.take (k + 1) = s.data.toList.take k ++ [s[k]]) := Lib.hid (take_snoc _ k hlt)
      have hfm : Hid ((s.data.toList.take (k + 1)).flatMap escB = (s.data.toList.take k).flatMap escB ++ escB s[k]) := Lib.hid (by rw [hsnoc.out, List.flatMap_append, List.flatMap_cons, List.flatMap_nil, List.append_nil])
      have hlen := hx.out k
      rw [List.length_take] at hlen
      have hl2 : (Lib.byteCells (34 :: (s.data.toList.take k).flatMap escB)).length ≤ 1 + 2 * k := by
        rw [Lib.byteCells_length, List.length_cons]; omega
      have hesc : (s[k].toNat = 34 ∨ s[k].toNat = 92) ∨ ¬ (s[k].toNat = 34 ∨ s[k].toNat = 92) := Classical.em _
      rcases hesc with hy | hn
      · have he : Hid (escB s[k] = [92, s[k]]) := Lib.hid (if_pos hy)
        have hor : ((((s[k].toNat : Nat) : Int) == 34) || (((s[k].toNat : Nat) : Int) == 92)) = true := by
          rcases hy with h | h <;> simp [h]
        rcases hy with h | h
        all_goals
          have h34 : (((s[k].toNat : Nat) : Int) == 34) = decide (s[k].toNat = 34) := by rw [h]; rfl
          go_wp2_with fail
          refine (writeByte_any w.heap.size w.heap.size _ 92 wr (.inr hbk) (by omega) hBk.size).mono ?_
          rintro e w2 ⟨rfl, h2, hb2⟩
          have hB2 := hBk.trans hb2
          clear hb2 hbk
          go_wp2_with fail
          refine (writeByte_any w.heap.size w.heap.size _ _ w2 (.inr h2) (by simp; omega) hB2.size).mono ?_
          rintro e w3 ⟨rfl, h3, hb3⟩
          have hB3 := hB2.trans hb3
          clear hb3 h2
          go_wp2_with fail
          go_roundw
          case rel =>
            refine ⟨k + 1, by omega, by go_num, ?_, hB3⟩
            rw [hfm.out, he.out]
            simpa [Lib.byteCells, h] using h3
          case measure => simp [intOf]; omega
      · have he : Hid (escB s[k] = [s[k]]) := Lib.hid (if_neg hn)
        have h34 : (((s[k].toNat : Nat) : Int) == 34) = false := beq_eq_false_iff_ne.2 (by omega)
        have h92 : (((s[k].toNat : Nat) : Int) == 92) = false := beq_eq_false_iff_ne.2 (by omega)
        go_wp2_with fail
        refine (writeByte_any w.heap.size w.heap.size _ _ wr (.inr hbk) (by omega) hBk.size).mono ?_
        rintro e w3 ⟨rfl, h3, hb3⟩
        have hB3 := hBk.trans hb3
        clear hb3 hbk
        go_wp2_with fail
        go_roundw
        case rel =>
          refine ⟨k + 1, by omega, by go_num, ?_, hB3⟩
          rw [hfm.out, he.out]
          simpa [Lib.byteCells] using h3
        case measure => simp [intOf]; omega
    · have e : k = s.size := by omega
      subst e
      have hlen := hx.out s.size
      rw [List.length_take] at hlen
      have hl2 : (Lib.byteCells (34 :: (s.data.toList.take s.size).flatMap escB)).length ≤ 1 + 2 * s.size := by
        rw [Lib.byteCells_length, List.length_cons]; omega
      go_wp2_with fail
      refine (writeByte_any w.heap.size w.heap.size _ 34 wr (.inr hbk) (by omega) hBk.size).mono ?_
      rintro e w3 ⟨rfl, h3, hb3⟩
      have hB3 := hBk.trans hb3
      clear hb3 hbk
      have h4 : Lib.IsBuilder 94 5 w.heap.size w.heap.size (Lib.byteCells Q) w3 := .inr (by
        rw [HQ.out]
        have ht : s.data.toList.take s.size = s.data.toList := List.take_of_length_le (Nat.le_of_eq hsz)
        rw [ht] at h3
        simpa [Lib.byteCells] using h3)
      clear h3
      go_wp2_with fail
      refine (Try.Builder_String_any w.heap.size w.heap.size Q w3 h4 hB3.size).mono ?_
      rintro e w4 ⟨rfl, hb4⟩
      go_wp2_with fail
      go_ret
      exact ⟨rfl, hB3.trans hb4⟩
end Go.Proofs.Ytgofckmlgkniaaa
end

section
namespace Go.Proofs.Ytgofckmlgkniaaa
set_option linter.unusedSimpArgs false
open Go.RowKit
set_option maxRecDepth 10000
set_option maxHeartbeats 4000000
def encT (t : List UInt8) : List D := [.str ⟨t.toArray⟩]
theorem digs_pos (m : Nat) : 0 < (digs m).length := by rw [digs_cons]; simp
theorem printL_len {n : Int} (h : -9223372036854775808 ≤ n ∧ n ≤ 9223372036854775807) : (printL n).length ≤ 21 := by
  have := digs_20 (n := magn n) (by unfold magn; split <;> omega)
  unfold printL
  rw [List.length_append, List.length_reverse]
  split <;> simp <;> omega
theorem quote_len (l : List UInt8) : (quoteB l).length ≤ 2 + 2 * l.length := by
  have := esc_len l
  unfold quoteB
  rw [List.length_cons, List.length_append, List.length_singleton]; omega
namespace V
mutual
def text : V → List UInt8
  | .mk k n s l => if k = 0 then [110, 117, 108, 108] else if k = 1 then (if n = 0 then [102, 97, 108, 115, 101] else [116, 114, 117, 101]) else if k = 2 then printL n else if k = 3 then 39 :: s.data.toList else if k = 4 then quoteB s.data.toList
    else if k = 5 then 91 :: (Lib.join (textL l) [32] ++ [93]) else []
def textL : List V → List (List UInt8)
  | [] => []
  | x :: l => x.text :: textL l
end
theorem textL_map : ∀ l : List V, textL l = l.map text
  | [] => rfl
  | x :: l => by rw [textL, textL_map l]; rfl
mutual
def wt : V → Nat
  | .mk _ _ s l => 25 + 2 * s.size + wtL l
def wtL : List V → Nat
  | [] => 0
  | x :: l => x.wt + wtL l
end
theorem wtL_mem {x : V} : ∀ {l : List V}, x ∈ l → x.wt ≤ wtL l
  | y :: l, h => by
    rw [wtL]
    rcases List.mem_cons.1 h with rfl | h
    · omega
    · have := wtL_mem h; omega
theorem wtL_len : ∀ l : List V, 25 * l.length ≤ wtL l
  | [] => Nat.le_refl _
  | .mk k n s l :: t => by have := wtL_len t; rw [wtL, wt, List.length_cons]; omega
theorem join_len (sep : UInt8) : ∀ l : List (List UInt8), (Lib.join l [sep]).length ≤ (l.map fun t => t.length + 1).sum
  | [] => by simp [Lib.join_nil]
  | x :: r => by
    rw [Lib.join_length]
    have : Lib.lens (x :: r) + r.length ≤ ((x :: r).map fun t => t.length + 1).sum := by
      induction r generalizing x with
      | nil => simp [Lib.lens]
      | cons y r ih =>
        have := ih y
        simp only [Lib.lens, List.map_cons, List.sum_cons, List.length_cons] at this ⊢
        omega
    simp only [List.length_singleton, Nat.one_mul]
    omega
mutual
theorem text_le : ∀ v : V, v.Ok → v.text.length + 1 ≤ v.wt
  | .mk k n s l, hok => by
    obtain ⟨-, hn, -, -, hall⟩ := hok
    have h1 := printL_len hn
    have h2 := quote_len s.data.toList
    have h3 := textL_le l hall
    have h4 := join_len 32 (textL l)
    have h5 : s.data.toList.length = s.size := rfl
    rw [text, wt]
    repeat' split
    all_goals (try simp only [List.length_cons, List.length_nil, List.length_append])
    all_goals omega
theorem textL_le : ∀ l : List V, (∀ x ∈ l, Ok x) → ((textL l).map fun t => t.length + 1).sum ≤ wtL l
  | [], _ => Nat.le_refl _
  | x :: l, h => by
    have h1 := text_le x (h x (List.mem_cons_self ..))
    have h2 := textL_le l fun y hy => h y (List.mem_cons_of_mem _ hy)
    rw [textL, wtL, List.map_cons, List.sum_cons]; omega
end
end V
theorem printF (n : Int) (hn : -9223372036854775808 ≤ n ∧ n ≤ 9223372036854775807) (st : St) : TrF Try.prog 73 [.i n] st fun d st' => d = .str ⟨(printL n).toArray⟩ ∧ st' = st :=
  trF_pure fun vs w hv => by
    obtain ⟨v, rfl, h1⟩ := args1 hv
    cases rep_s h1
    exact ⟨_, fun _ _ => .s _ rfl, print_any n hn.1 hn.2 w⟩
theorem quotedF (s : ByteArray) (hs : 2 * s.size + 2 ≤ 140737488355328) (st : St) : TrF Try.prog 74 [.str s] st fun d st' => d = .str ⟨(quoteB s.data.toList).toArray⟩ ∧ st' = st :=
  trF_pure fun vs w hv => by
    obtain ⟨v, rfl, h1⟩ := args1 hv
    cases rep_s h1
    exact ⟨_, fun _ _ => .s _ rfl, quoted_any s hs w⟩
theorem joinF (o : Own) (ts : List (List UInt8)) (sep : List UInt8) (hN : ts.length ≤ 140737488355328) (hl : (Lib.join ts sep).length ≤ 140737488355328) (st : St) : TrF Try.prog 75 [.sl o (ts.map encT), .str ⟨sep.toArray⟩] st fun d st' => d = .str ⟨(Lib.join ts sep).toArray⟩ ∧ st' = st :=
  trF_pure fun vs w hv => by
    obtain ⟨v, v', rfl, h1, h2⟩ := args2 hv
    cases rep_s h2
    have hs : Sees (fun t : List UInt8 => Value.string ⟨t.toArray⟩) w v ts := sees_of_rep (f := fun t : List UInt8 => Value.string ⟨t.toArray⟩) h1
    refine ⟨_, fun _ _ => .s _ rfl, ?_⟩
    obtain ⟨a, cap, rfl, q1, q2, q3, q4⟩ := hs
    cases ts with
    | nil =>
      refine (Try.strings_Join_none a cap _ w).mono ?_
      rintro e w' ⟨he, rfl⟩
      exact ⟨he, Below.refl _ _⟩
    | cons x r =>
      obtain ⟨b, rfl⟩ : ∃ b, a = some b := by
        cases a with
        | none => have := q3 rfl; simp at q1; omega
        | some b => exact ⟨b, rfl⟩
      obtain ⟨e1, e2, e3⟩ := q4 b rfl (by simp)
      obtain ⟨bk, off, sp⟩ := b
      dsimp only at e1 e2 e3
      subst e1
      have hm : ((x :: r).map fun t : List UInt8 => (⟨t.toArray⟩ : ByteArray)).map (·.data.toList) = x :: r := by
        rw [List.map_map]
        exact List.map_id _
      have := Try.strings_Join bk off cap ((x :: r).map fun t => (⟨t.toArray⟩ : ByteArray)) ⟨sep.toArray⟩ w (fun j y hy => by
        rw [List.getElem?_map] at hy
        obtain ⟨t, ht, rfl⟩ := Option.map_eq_some_iff.1 hy
        obtain ⟨hj, rfl⟩ := List.getElem?_eq_some_iff.1 ht
        exact e3 j hj) e2 (by simpa using hN) (by simpa using q1) (by rw [hm]; exact hl)
      rw [hm, List.length_map] at this
      exact this
open V in
theorem valTextF : ∀ (N : Nat) (v : V), v.nodes ≤ N → v.Ok → v.wt ≤ 140737488355328 → ∀ st, TrF Try.prog 43 [.agg v.cells] st fun x st' => x = .str ⟨v.text.toArray⟩ ∧ st' = st
  | 0, v, h, _, _ => by have := v.nodes_pos; omega
  | N + 1, .mk k n s l, hN, hok, hw => by
    intro st
    have htl := text_le _ hok
    obtain ⟨-, hn, hs, hl, hall⟩ := hok
    unfold maxLen at hl
    have hwl := wtL_len l
    have hjl := join_len 32 (textL l)
    have htL := textL_le l hall
    rw [wt] at hw
    have IH := Lib.hid fun x (hx : x ∈ l) => valTextF N x (by have := nodes_lt (k := k) (n := n) (s := s) hx; omega) (hall x hx) (by have := wtL_mem hx; omega)
    have hP := Lib.hid (printF n hn)
    have hQ := Lib.hid (quotedF s (by omega))
    have hJ := Lib.hid fun o => joinF o (l.map text) [32] (by rw [List.length_map]; omega) (by rw [← textL_map]; omega)
    have hA : s.size ≤ 9223372036854775807 := by omega
    have hJl : (Lib.join (l.map text) [32]).length ≤ 140737488355328 := by rw [← textL_map]; omega
    clear hN hall htl hjl htL
    rw [V.cells_mk, text, textL_map]
    refine trF_enter (ts := [2]) Try.func43 rfl (by rw [Try.ntmps43]; exact Nat.le_of_ble_eq_true rfl) (fun tmps w => by simp [results, Try.results43, go_sem, resVal]) ?_
    simp only [Try.ntmps43]
    by_cases k0 : k = 0
    · subst k0
      rw [if_pos rfl]
      clear IH hP hQ hJ
      repeat' (first | ((with_reducible apply ev_go); (focus (try simp (disch := omega) only [push_cast, Nat.reduceEqDiff, reduceCtorEq, ↓reduceIte, Nat.reduceAdd, Nat.reduceMul, Nat.reduceSub, Nat.reduceLT, Nat.reduceLeDiff, Int.reduceToNat, Int.reduceLT, Int.reduceLE, Int.reduceAdd, Int.reduceSub, Int.reduceMul, Int.reduceBEq, Int.reduceBNe, encB, encI, encT, V.cells_mk, V.cells_take, V.cells_len, Nat.mul_one, Int.sub_zero, *]); (try exact rfl); done)) | ((with_reducible refine w_last ?_ ?_ ?_); (focus kernel_rfl); (focus rfl)) | ((with_reducible apply w_stepG); (focus rfl)) | ((with_reducible apply lk_mem); (focus ((repeat (first | exact mm_h | apply mm_t)); done))) | with_reducible (first | refine w_step0 ?_ | refine w_nil ?_ | refine gd_tt ?_ | refine gd_ff ?_ | refine gd_tf ?_ | refine gd_ft ?_ | refine gd_un ?_ | refine s_move ?_ | refine s_assign ?_ | refine s_bin ?_ | refine s_un ?_ | refine s_conv ?_ | refine s_field ?_ | refine s_fieldAddr ?_ | refine s_ext ?_ | refine s_pick ?_ | refine s_nil ?_ | refine s_load ?_ | refine lk_ip ?_ | refine lk_ptr ?_ | refine s_index ?_ | refine s_indexAddr ?_ | refine s_slice ?_ | refine s_build ?_ | refine s_buildSlice ?_ | refine s_mk ?_ | refine s_store ?_ | refine s_alloc ?_ | refine s_call ?_ | refine s_ip ?_ | refine s_app ?_ | refine ak_go ?_ | refine s_aps ?_ | refine ap_go ?_ | refine p2_true ?_ | refine tr_seq ?_ | refine tr_block ?_ | refine tr_skip ?_ | refine tr_ret ?_ | refine tr_exit ?_ | refine tr_label ?_ | refine strip_norm ?_ | refine strip_ret ?_ | refine strip_exit ?_ | refine blk_norm ?_ | refine blk_ret ?_ | refine blk_same ?_ | refine tr_condT ?_ | refine tr_condCt ?_ | refine tr_condCf ?_) | ((with_reducible apply sto_go); (focus (intro cs'; repeat (first | exact ra_h | apply ra_t)))) | ((with_reducible refine al_go ?_); intro b) | ((with_reducible refine And.intro ?_ ?_); (focus ((repeat (first | exact keep_none | exact keep_nil | exact keep_ro | refine keep_cons ?_)); done))) | ((with_reducible refine s_bi ?_ ?_); (focus rfl)) | ((with_reducible apply a2_go); (focus (first | assumption | (intro h; cases h))); (focus (intro o'; repeat (first | exact ra_h | apply ra_t))); (focus (first | assumption | exact len_nil | exact len_one rfl | (intro a ha; obtain ⟨x, -, rfl⟩ := List.mem_map.1 ha; first | rfl | simp) | (intro a ha; simp at ha; simp [ha]))); (focus (first | assumption | exact len_nil | exact len_one rfl | (intro a ha; obtain ⟨x, -, rfl⟩ := List.mem_map.1 ha; first | rfl | simp) | (intro a ha; simp at ha; simp [ha]))); (focus (first | omega | (simp only [List.length_map, List.length_cons, List.length_nil, List.length_append]; omega))); (focus (first | omega | (simp only [List.length_map, List.length_cons, List.length_nil, List.length_append]; omega))); intro o' ho') | ((with_reducible apply p2_go); (focus (first | assumption | (intro h; cases h))); (focus (intro o'; repeat (first | exact ra_h | apply ra_t))); (focus (first | assumption | exact len_nil | exact len_one rfl | (intro a ha; obtain ⟨x, -, rfl⟩ := List.mem_map.1 ha; first | rfl | simp) | (intro a ha; simp at ha; simp [ha]))); (focus (first | omega | (simp only [List.length_map, List.length_cons, List.length_nil, List.length_append]; omega))); (focus (first | omega | (simp only [List.length_map, List.length_cons, List.length_nil, List.length_append]; omega))); intro o' ho') | with_reducible refine blk_ne rfl ?_ | ((with_reducible refine w_region ?_ ?_); (focus kernel_rfl)) | ((with_reducible refine w_draw [] ?_ ?_ ?_ ?_ ?_); (iterate 3 (focus kernel_rfl)); (focus exact keeps_nil)) | ((with_reducible first | refine gd_d1 ?_ ?_ | refine gd_d0 ?_ ?_); all_goals (intro hb; (first | with_reducible replace hb := nt_t hb | with_reducible replace hb := nt_f hb | skip); (first | replace hb := dc_t hb | replace hb := dc_f hb | have hb1 := eq_b hb | have hb1 := ne_b hb | have hb1 := bne_t hb | have hb1 := bne_f hb | skip); (try (exfalso; first | contradiction | omega)))))
      all_goals (refine ret_eq (by first | exact .inl rfl | exact .inr rfl) (by first | rfl | assumption) (by (repeat (first | exact List.Sublist.refl _ | apply List.Sublist.cons))) ?_; (try simp (disch := omega) only [push_cast, Nat.reduceEqDiff, reduceCtorEq, ↓reduceIte, Nat.reduceAdd, Nat.reduceMul, Nat.reduceSub, Nat.reduceLT, Nat.reduceLeDiff, Int.reduceToNat, Int.reduceLT, Int.reduceLE, Int.reduceAdd, Int.reduceSub, Int.reduceMul, Int.reduceBEq, Int.reduceBNe, encB, encI, encT, V.cells_mk, V.cells_take, V.cells_len, Nat.mul_one, Int.sub_zero, *]); try (first | exact LE.refl _ | exact LE.sl _ _ | (refine LE.tup ?_; (repeat' (first | exact LEL.nil | refine LEL.cons ?_ ?_ | exact LE.refl _ | exact LE.sl _ _ | refine LE.agg ?_)); done) | (refine LE.agg ?_; (repeat' (first | exact LEL.nil | refine LEL.cons ?_ ?_ | exact LE.refl _ | exact LE.sl _ _)); done) | refine LE.of_eq ?_))
    rw [if_neg k0]
    have b0 : (k == 0) = false := by simpa using k0
    by_cases k1 : k = 1
    · subst k1
      rw [if_pos rfl]
      clear IH hP hQ hJ
      by_cases hn0 : n = 0
      · subst hn0
        repeat' (first | ((with_reducible apply ev_go); (focus (try simp (disch := omega) only [push_cast, Nat.reduceEqDiff, reduceCtorEq, ↓reduceIte, Nat.reduceAdd, Nat.reduceMul, Nat.reduceSub, Nat.reduceLT, Nat.reduceLeDiff, Int.reduceToNat, Int.reduceLT, Int.reduceLE, Int.reduceAdd, Int.reduceSub, Int.reduceMul, Int.reduceBEq, Int.reduceBNe, encB, encI, encT, V.cells_mk, V.cells_take, V.cells_len, Nat.mul_one, Int.sub_zero, *]); (try exact rfl); done)) | ((with_reducible refine w_last ?_ ?_ ?_); (focus kernel_rfl); (focus rfl)) | ((with_reducible apply w_stepG); (focus rfl)) | ((with_reducible apply lk_mem); (focus ((repeat (first | exact mm_h | apply mm_t)); done))) | with_reducible (first | refine w_step0 ?_ | refine w_nil ?_ | refine gd_tt ?_ | refine gd_ff ?_ | refine gd_tf ?_ | refine gd_ft ?_ | refine gd_un ?_ | refine s_move ?_ | refine s_assign ?_ | refine s_bin ?_ | refine s_un ?_ | refine s_conv ?_ | refine s_field ?_ | refine s_fieldAddr ?_ | refine s_ext ?_ | refine s_pick ?_ | refine s_nil ?_ | refine s_load ?_ | refine lk_ip ?_ | refine lk_ptr ?_ | refine s_index ?_ | refine s_indexAddr ?_ | refine s_slice ?_ | refine s_build ?_ | refine s_buildSlice ?_ | refine s_mk ?_ | refine s_store ?_ | refine s_alloc ?_ | refine s_call ?_ | refine s_ip ?_ | refine s_app ?_ | refine ak_go ?_ | refine s_aps ?_ | refine ap_go ?_ | refine p2_true ?_ | refine tr_seq ?_ | refine tr_block ?_ | refine tr_skip ?_ | refine tr_ret ?_ | refine tr_exit ?_ | refine tr_label ?_ | refine strip_norm ?_ | refine strip_ret ?_ | refine strip_exit ?_ | refine blk_norm ?_ | refine blk_ret ?_ | refine blk_same ?_ | refine tr_condT ?_ | refine tr_condCt ?_ | refine tr_condCf ?_) | ((with_reducible apply sto_go); (focus (intro cs'; repeat (first | exact ra_h | apply ra_t)))) | ((with_reducible refine al_go ?_); intro b) | ((with_reducible refine And.intro ?_ ?_); (focus ((repeat (first | exact keep_none | exact keep_nil | exact keep_ro | refine keep_cons ?_)); done))) | ((with_reducible refine s_bi ?_ ?_); (focus rfl)) | ((with_reducible apply a2_go); (focus (first | assumption | (intro h; cases h))); (focus (intro o'; repeat (first | exact ra_h | apply ra_t))); (focus (first | assumption | exact len_nil | exact len_one rfl | (intro a ha; obtain ⟨x, -, rfl⟩ := List.mem_map.1 ha; first | rfl | simp) | (intro a ha; simp at ha; simp [ha]))); (focus (first | assumption | exact len_nil | exact len_one rfl | (intro a ha; obtain ⟨x, -, rfl⟩ := List.mem_map.1 ha; first | rfl | simp) | (intro a ha; simp at ha; simp [ha]))); (focus (first | omega | (simp only [List.length_map, List.length_cons, List.length_nil, List.length_append]; omega))); (focus (first | omega | (simp only [List.length_map, List.length_cons, List.length_nil, List.length_append]; omega))); intro o' ho') | ((with_reducible apply p2_go); (focus (first | assumption | (intro h; cases h))); (focus (intro o'; repeat (first | exact ra_h | apply ra_t))); (focus (first | assumption | exact len_nil | exact len_one rfl | (intro a ha; obtain ⟨x, -, rfl⟩ := List.mem_map.1 ha; first | rfl | simp) | (intro a ha; simp at ha; simp [ha]))); (focus (first | omega | (simp only [List.length_map, List.length_cons, List.length_nil, List.length_append]; omega))); (focus (first | omega | (simp only [List.length_map, List.length_cons, List.length_nil, List.length_append]; omega))); intro o' ho') | with_reducible refine blk_ne rfl ?_ | ((with_reducible refine w_region ?_ ?_); (focus kernel_rfl)) | ((with_reducible refine w_draw [] ?_ ?_ ?_ ?_ ?_); (iterate 3 (focus kernel_rfl)); (focus exact keeps_nil)) | ((with_reducible first | refine gd_d1 ?_ ?_ | refine gd_d0 ?_ ?_); all_goals (intro hb; (first | with_reducible replace hb := nt_t hb | with_reducible replace hb := nt_f hb | skip); (first | replace hb := dc_t hb | replace hb := dc_f hb | have hb1 := eq_b hb | have hb1 := ne_b hb | have hb1 := bne_t hb | have hb1 := bne_f hb | skip); (try (exfalso; first | contradiction | omega)))))
        all_goals (refine ret_eq (by first | exact .inl rfl | exact .inr rfl) (by first | rfl | assumption) (by (repeat (first | exact List.Sublist.refl _ | apply List.Sublist.cons))) ?_; (try simp (disch := omega) only [push_cast, Nat.reduceEqDiff, reduceCtorEq, ↓reduceIte, Nat.reduceAdd, Nat.reduceMul, Nat.reduceSub, Nat.reduceLT, Nat.reduceLeDiff, Int.reduceToNat, Int.reduceLT, Int.reduceLE, Int.reduceAdd, Int.reduceSub, Int.reduceMul, Int.reduceBEq, Int.reduceBNe, encB, encI, encT, V.cells_mk, V.cells_take, V.cells_len, Nat.mul_one, Int.sub_zero, *]); try (first | exact LE.refl _ | exact LE.sl _ _ | (refine LE.tup ?_; (repeat' (first | exact LEL.nil | refine LEL.cons ?_ ?_ | exact LE.refl _ | exact LE.sl _ _ | refine LE.agg ?_)); done) | (refine LE.agg ?_; (repeat' (first | exact LEL.nil | refine LEL.cons ?_ ?_ | exact LE.refl _ | exact LE.sl _ _)); done) | refine LE.of_eq ?_))
      · rw [if_neg hn0]
        have bn : (n == 0) = false := by simpa using hn0
        repeat' (first | ((with_reducible apply ev_go); (focus (try simp (disch := omega) only [push_cast, Nat.reduceEqDiff, reduceCtorEq, ↓reduceIte, Nat.reduceAdd, Nat.reduceMul, Nat.reduceSub, Nat.reduceLT, Nat.reduceLeDiff, Int.reduceToNat, Int.reduceLT, Int.reduceLE, Int.reduceAdd, Int.reduceSub, Int.reduceMul, Int.reduceBEq, Int.reduceBNe, encB, encI, encT, V.cells_mk, V.cells_take, V.cells_len, Nat.mul_one, Int.sub_zero, *]); (try exact rfl); done)) | ((with_reducible refine w_last ?_ ?_ ?_); (focus kernel_rfl); (focus rfl)) | ((with_reducible apply w_stepG); (focus rfl)) | ((with_reducible apply lk_mem); (focus ((repeat (first | exact mm_h | apply mm_t)); done))) | with_reducible (first | refine w_step0 ?_ | refine w_nil ?_ | refine gd_tt ?_ | refine gd_ff ?_ | refine gd_tf ?_ | refine gd_ft ?_ | refine gd_un ?_ | refine s_move ?_ | refine s_assign ?_ | refine s_bin ?_ | refine s_un ?_ | refine s_conv ?_ | refine s_field ?_ | refine s_fieldAddr ?_ | refine s_ext ?_ | refine s_pick ?_ | refine s_nil ?_ | refine s_load ?_ | refine lk_ip ?_ | refine lk_ptr ?_ | refine s_index ?_ | refine s_indexAddr ?_ | refine s_slice ?_ | refine s_build ?_ | refine s_buildSlice ?_ | refine s_mk ?_ | refine s_store ?_ | refine s_alloc ?_ | refine s_call ?_ | refine s_ip ?_ | refine s_app ?_ | refine ak_go ?_ | refine s_aps ?_ | refine ap_go ?_ | refine p2_true ?_ | refine tr_seq ?_ | refine tr_block ?_ | refine tr_skip ?_ | refine tr_ret ?_ | refine tr_exit ?_ | refine tr_label ?_ | refine strip_norm ?_ | refine strip_ret ?_ | refine strip_exit ?_ | refine blk_norm ?_ | refine blk_ret ?_ | refine blk_same ?_ | refine tr_condT ?_ | refine tr_condCt ?_ | refine tr_condCf ?_) | ((with_reducible apply sto_go); (focus (intro cs'; repeat (first | exact ra_h | apply ra_t)))) | ((with_reducible refine al_go ?_); intro b) | ((with_reducible refine And.intro ?_ ?_); (focus ((repeat (first | exact keep_none | exact keep_nil | exact keep_ro | refine keep_cons ?_)); done))) | ((with_reducible refine s_bi ?_ ?_); (focus rfl)) | ((with_reducible apply a2_go); (focus (first | assumption | (intro h; cases h))); (focus (intro o'; repeat (first | exact ra_h | apply ra_t))); (focus (first | assumption | exact len_nil | exact len_one rfl | (intro a ha; obtain ⟨x, -, rfl⟩ := List.mem_map.1 ha; first | rfl | simp) | (intro a ha; simp at ha; simp [ha]))); (focus (first | assumption | exact len_nil | exact len_one rfl | (intro a ha; obtain ⟨x, -, rfl⟩ := List.mem_map.1 ha; first | rfl | simp) | (intro a ha; simp at ha; simp [ha]))); (focus (first | omega | (simp only [List.length_map, List.length_cons, List.length_nil, List.length_append]; omega))); (focus (first | omega | (simp only [List.length_map, List.length_cons, List.length_nil, List.length_append]; omega))); intro o' ho') | ((with_reducible apply p2_go); (focus (first | assumption | (intro h; cases h))); (focus (intro o'; repeat (first | exact ra_h | apply ra_t))); (focus (first | assumption | exact len_nil | exact len_one rfl | (intro a ha; obtain ⟨x, -, rfl⟩ := List.mem_map.1 ha; first | rfl | simp) | (intro a ha; simp at ha; simp [ha]))); (focus (first | omega | (simp only [List.length_map, List.length_cons, List.length_nil, List.length_append]; omega))); (focus (first | omega | (simp only [List.length_map, List.length_cons, List.length_nil, List.length_append]; omega))); intro o' ho') | with_reducible refine blk_ne rfl ?_ | ((with_reducible refine w_region ?_ ?_); (focus kernel_rfl)) | ((with_reducible refine w_draw [] ?_ ?_ ?_ ?_ ?_); (iterate 3 (focus kernel_rfl)); (focus exact keeps_nil)) | ((with_reducible first | refine gd_d1 ?_ ?_ | refine gd_d0 ?_ ?_); all_goals (intro hb; (first | with_reducible replace hb := nt_t hb | with_reducible replace hb := nt_f hb | skip); (first | replace hb := dc_t hb | replace hb := dc_f hb | have hb1 := eq_b hb | have hb1 := ne_b hb | have hb1 := bne_t hb | have hb1 := bne_f hb | skip); (try (exfalso; first | contradiction | omega)))))
        all_goals (refine ret_eq (by first | exact .inl rfl | exact .inr rfl) (by first | rfl | assumption) (by (repeat (first | exact List.Sublist.refl _ | apply List.Sublist.cons))) ?_; (try simp (disch := omega) only [push_cast, Nat.reduceEqDiff, reduceCtorEq, ↓reduceIte, Nat.reduceAdd, Nat.reduceMul, Nat.reduceSub, Nat.reduceLT, Nat.reduceLeDiff, Int.reduceToNat, Int.reduceLT, Int.reduceLE, Int.reduceAdd, Int.reduceSub, Int.reduceMul, Int.reduceBEq, Int.reduceBNe, encB, encI, encT, V.cells_mk, V.cells_take, V.cells_len, Nat.mul_one, Int.sub_zero, *]); try (first | exact LE.refl _ | exact LE.sl _ _ | (refine LE.tup ?_; (repeat' (first | exact LEL.nil | refine LEL.cons ?_ ?_ | exact LE.refl _ | exact LE.sl _ _ | refine LE.agg ?_)); done) | (refine LE.agg ?_; (repeat' (first | exact LEL.nil | refine LEL.cons ?_ ?_ | exact LE.refl _ | exact LE.sl _ _)); done) | refine LE.of_eq ?_))
    rw [if_neg k1]
    have b1 : (k == 1) = false := by simpa using k1
    by_cases k2 : k = 2
    · subst k2
      rw [if_pos rfl]
      clear IH hQ hJ
      repeat' (first | ((with_reducible apply ev_go); (focus (try simp (disch := omega) only [push_cast, Nat.reduceEqDiff, reduceCtorEq, ↓reduceIte, Nat.reduceAdd, Nat.reduceMul, Nat.reduceSub, Nat.reduceLT, Nat.reduceLeDiff, Int.reduceToNat, Int.reduceLT, Int.reduceLE, Int.reduceAdd, Int.reduceSub, Int.reduceMul, Int.reduceBEq, Int.reduceBNe, encB, encI, encT, V.cells_mk, V.cells_take, V.cells_len, Nat.mul_one, Int.sub_zero, *]); (try exact rfl); done)) | ((with_reducible refine w_last ?_ ?_ ?_); (focus kernel_rfl); (focus rfl)) | ((with_reducible apply w_stepG); (focus rfl)) | ((with_reducible apply lk_mem); (focus ((repeat (first | exact mm_h | apply mm_t)); done))) | with_reducible (first | refine w_step0 ?_ | refine w_nil ?_ | refine gd_tt ?_ | refine gd_ff ?_ | refine gd_tf ?_ | refine gd_ft ?_ | refine gd_un ?_ | refine s_move ?_ | refine s_assign ?_ | refine s_bin ?_ | refine s_un ?_ | refine s_conv ?_ | refine s_field ?_ | refine s_fieldAddr ?_ | refine s_ext ?_ | refine s_pick ?_ | refine s_nil ?_ | refine s_load ?_ | refine lk_ip ?_ | refine lk_ptr ?_ | refine s_index ?_ | refine s_indexAddr ?_ | refine s_slice ?_ | refine s_build ?_ | refine s_buildSlice ?_ | refine s_mk ?_ | refine s_store ?_ | refine s_alloc ?_ | refine s_call ?_ | refine s_ip ?_ | refine s_app ?_ | refine ak_go ?_ | refine s_aps ?_ | refine ap_go ?_ | refine p2_true ?_ | refine tr_seq ?_ | refine tr_block ?_ | refine tr_skip ?_ | refine tr_ret ?_ | refine tr_exit ?_ | refine tr_label ?_ | refine strip_norm ?_ | refine strip_ret ?_ | refine strip_exit ?_ | refine blk_norm ?_ | refine blk_ret ?_ | refine blk_same ?_ | refine tr_condT ?_ | refine tr_condCt ?_ | refine tr_condCf ?_) | ((with_reducible apply sto_go); (focus (intro cs'; repeat (first | exact ra_h | apply ra_t)))) | ((with_reducible refine al_go ?_); intro b) | ((with_reducible refine And.intro ?_ ?_); (focus ((repeat (first | exact keep_none | exact keep_nil | exact keep_ro | refine keep_cons ?_)); done))) | ((with_reducible apply (ck_le Try.call73)); (focus exact LEL.refl _); (focus exact hP.out _)) | ((with_reducible refine s_bi ?_ ?_); (focus rfl)) | ((with_reducible apply a2_go); (focus (first | assumption | (intro h; cases h))); (focus (intro o'; repeat (first | exact ra_h | apply ra_t))); (focus (first | assumption | exact len_nil | exact len_one rfl | (intro a ha; obtain ⟨x, -, rfl⟩ := List.mem_map.1 ha; first | rfl | simp) | (intro a ha; simp at ha; simp [ha]))); (focus (first | assumption | exact len_nil | exact len_one rfl | (intro a ha; obtain ⟨x, -, rfl⟩ := List.mem_map.1 ha; first | rfl | simp) | (intro a ha; simp at ha; simp [ha]))); (focus (first | omega | (simp only [List.length_map, List.length_cons, List.length_nil, List.length_append]; omega))); (focus (first | omega | (simp only [List.length_map, List.length_cons, List.length_nil, List.length_append]; omega))); intro o' ho') | ((with_reducible apply p2_go); (focus (first | assumption | (intro h; cases h))); (focus (intro o'; repeat (first | exact ra_h | apply ra_t))); (focus (first | assumption | exact len_nil | exact len_one rfl | (intro a ha; obtain ⟨x, -, rfl⟩ := List.mem_map.1 ha; first | rfl | simp) | (intro a ha; simp at ha; simp [ha]))); (focus (first | omega | (simp only [List.length_map, List.length_cons, List.length_nil, List.length_append]; omega))); (focus (first | omega | (simp only [List.length_map, List.length_cons, List.length_nil, List.length_append]; omega))); intro o' ho') | with_reducible refine blk_ne rfl ?_ | ((with_reducible refine w_region ?_ ?_); (focus kernel_rfl)) | ((with_reducible refine w_draw [] ?_ ?_ ?_ ?_ ?_); (iterate 3 (focus kernel_rfl)); (focus exact keeps_nil)) | ((with_reducible first | refine gd_d1 ?_ ?_ | refine gd_d0 ?_ ?_); all_goals (intro hb; (first | with_reducible replace hb := nt_t hb | with_reducible replace hb := nt_f hb | skip); (first | replace hb := dc_t hb | replace hb := dc_f hb | have hb1 := eq_b hb | have hb1 := ne_b hb | have hb1 := bne_t hb | have hb1 := bne_f hb | skip); (try (exfalso; first | contradiction | omega)))))
      all_goals (refine ret_eq (by first | exact .inl rfl | exact .inr rfl) (by first | rfl | assumption) (by (repeat (first | exact List.Sublist.refl _ | apply List.Sublist.cons))) ?_; (try simp (disch := omega) only [push_cast, Nat.reduceEqDiff, reduceCtorEq, ↓reduceIte, Nat.reduceAdd, Nat.reduceMul, Nat.reduceSub, Nat.reduceLT, Nat.reduceLeDiff, Int.reduceToNat, Int.reduceLT, Int.reduceLE, Int.reduceAdd, Int.reduceSub, Int.reduceMul, Int.reduceBEq, Int.reduceBNe, encB, encI, encT, V.cells_mk, V.cells_take, V.cells_len, Nat.mul_one, Int.sub_zero, *]); try (first | exact LE.refl _ | exact LE.sl _ _ | (refine LE.tup ?_; (repeat' (first | exact LEL.nil | refine LEL.cons ?_ ?_ | exact LE.refl _ | exact LE.sl _ _ | refine LE.agg ?_)); done) | (refine LE.agg ?_; (repeat' (first | exact LEL.nil | refine LEL.cons ?_ ?_ | exact LE.refl _ | exact LE.sl _ _)); done) | refine LE.of_eq ?_))
    rw [if_neg k2]
    have b2 : (k == 2) = false := by simpa using k2
    by_cases k3 : k = 3
    · subst k3
      rw [if_pos rfl]
      clear IH hQ hJ hP
      have hadd : aBin Try.prog .add 9 (.str ⟨#[39]⟩) (.str s) = some (.str ⟨(39 :: s.data.toList).toArray⟩) := by
        rw [str_add (by show 1 + s.size ≤ _; omega)]
        congr 3
      repeat' (first | ((with_reducible apply ev_go); (focus (try simp (disch := omega) only [push_cast, Nat.reduceEqDiff, reduceCtorEq, ↓reduceIte, Nat.reduceAdd, Nat.reduceMul, Nat.reduceSub, Nat.reduceLT, Nat.reduceLeDiff, Int.reduceToNat, Int.reduceLT, Int.reduceLE, Int.reduceAdd, Int.reduceSub, Int.reduceMul, Int.reduceBEq, Int.reduceBNe, encB, encI, encT, V.cells_mk, V.cells_take, V.cells_len, Nat.mul_one, Int.sub_zero, *]); (try exact rfl); done)) | ((with_reducible refine w_last ?_ ?_ ?_); (focus kernel_rfl); (focus rfl)) | ((with_reducible apply w_stepG); (focus rfl)) | ((with_reducible apply lk_mem); (focus ((repeat (first | exact mm_h | apply mm_t)); done))) | with_reducible (first | refine w_step0 ?_ | refine w_nil ?_ | refine gd_tt ?_ | refine gd_ff ?_ | refine gd_tf ?_ | refine gd_ft ?_ | refine gd_un ?_ | refine s_move ?_ | refine s_assign ?_ | refine s_bin ?_ | refine s_un ?_ | refine s_conv ?_ | refine s_field ?_ | refine s_fieldAddr ?_ | refine s_ext ?_ | refine s_pick ?_ | refine s_nil ?_ | refine s_load ?_ | refine lk_ip ?_ | refine lk_ptr ?_ | refine s_index ?_ | refine s_indexAddr ?_ | refine s_slice ?_ | refine s_build ?_ | refine s_buildSlice ?_ | refine s_mk ?_ | refine s_store ?_ | refine s_alloc ?_ | refine s_call ?_ | refine s_ip ?_ | refine s_app ?_ | refine ak_go ?_ | refine s_aps ?_ | refine ap_go ?_ | refine p2_true ?_ | refine tr_seq ?_ | refine tr_block ?_ | refine tr_skip ?_ | refine tr_ret ?_ | refine tr_exit ?_ | refine tr_label ?_ | refine strip_norm ?_ | refine strip_ret ?_ | refine strip_exit ?_ | refine blk_norm ?_ | refine blk_ret ?_ | refine blk_same ?_ | refine tr_condT ?_ | refine tr_condCt ?_ | refine tr_condCf ?_) | ((with_reducible apply sto_go); (focus (intro cs'; repeat (first | exact ra_h | apply ra_t)))) | ((with_reducible refine al_go ?_); intro b) | ((with_reducible refine And.intro ?_ ?_); (focus ((repeat (first | exact keep_none | exact keep_nil | exact keep_ro | refine keep_cons ?_)); done))) | ((with_reducible refine s_bi ?_ ?_); (focus rfl)) | ((with_reducible apply a2_go); (focus (first | assumption | (intro h; cases h))); (focus (intro o'; repeat (first | exact ra_h | apply ra_t))); (focus (first | assumption | exact len_nil | exact len_one rfl | (intro a ha; obtain ⟨x, -, rfl⟩ := List.mem_map.1 ha; first | rfl | simp) | (intro a ha; simp at ha; simp [ha]))); (focus (first | assumption | exact len_nil | exact len_one rfl | (intro a ha; obtain ⟨x, -, rfl⟩ := List.mem_map.1 ha; first | rfl | simp) | (intro a ha; simp at ha; simp [ha]))); (focus (first | omega | (simp only [List.length_map, List.length_cons, List.length_nil, List.length_append]; omega))); (focus (first | omega | (simp only [List.length_map, List.length_cons, List.length_nil, List.length_append]; omega))); intro o' ho') | ((with_reducible apply p2_go); (focus (first | assumption | (intro h; cases h))); (focus (intro o'; repeat (first | exact ra_h | apply ra_t))); (focus (first | assumption | exact len_nil | exact len_one rfl | (intro a ha; obtain ⟨x, -, rfl⟩ := List.mem_map.1 ha; first | rfl | simp) | (intro a ha; simp at ha; simp [ha]))); (focus (first | omega | (simp only [List.length_map, List.length_cons, List.length_nil, List.length_append]; omega))); (focus (first | omega | (simp only [List.length_map, List.length_cons, List.length_nil, List.length_append]; omega))); intro o' ho') | with_reducible refine blk_ne rfl ?_ | ((with_reducible refine w_region ?_ ?_); (focus kernel_rfl)) | ((with_reducible refine w_draw [] ?_ ?_ ?_ ?_ ?_); (iterate 3 (focus kernel_rfl)); (focus exact keeps_nil)) | ((with_reducible first | refine gd_d1 ?_ ?_ | refine gd_d0 ?_ ?_); all_goals (intro hb; (first | with_reducible replace hb := nt_t hb | with_reducible replace hb := nt_f hb | skip); (first | replace hb := dc_t hb | replace hb := dc_f hb | have hb1 := eq_b hb | have hb1 := ne_b hb | have hb1 := bne_t hb | have hb1 := bne_f hb | skip); (try (exfalso; first | contradiction | omega)))))
      all_goals (refine ret_eq (by first | exact .inl rfl | exact .inr rfl) (by first | rfl | assumption) (by (repeat (first | exact List.Sublist.refl _ | apply List.Sublist.cons))) ?_; (try simp (disch := omega) only [push_cast, Nat.reduceEqDiff, reduceCtorEq, ↓reduceIte, Nat.reduceAdd, Nat.reduceMul, Nat.reduceSub, Nat.reduceLT, Nat.reduceLeDiff, Int.reduceToNat, Int.reduceLT, Int.reduceLE, Int.reduceAdd, Int.reduceSub, Int.reduceMul, Int.reduceBEq, Int.reduceBNe, encB, encI, encT, V.cells_mk, V.cells_take, V.cells_len, Nat.mul_one, Int.sub_zero, *]); try (first | exact LE.refl _ | exact LE.sl _ _ | (refine LE.tup ?_; (repeat' (first | exact LEL.nil | refine LEL.cons ?_ ?_ | exact LE.refl _ | exact LE.sl _ _ | refine LE.agg ?_)); done) | (refine LE.agg ?_; (repeat' (first | exact LEL.nil | refine LEL.cons ?_ ?_ | exact LE.refl _ | exact LE.sl _ _)); done) | refine LE.of_eq ?_))
    rw [if_neg k3]
    have b3 : (k == 3) = false := by simpa using k3
    by_cases k4 : k = 4
    · subst k4
      rw [if_pos rfl]
      clear IH hP hJ
      repeat' (first | ((with_reducible apply ev_go); (focus (try simp (disch := omega) only [push_cast, Nat.reduceEqDiff, reduceCtorEq, ↓reduceIte, Nat.reduceAdd, Nat.reduceMul, Nat.reduceSub, Nat.reduceLT, Nat.reduceLeDiff, Int.reduceToNat, Int.reduceLT, Int.reduceLE, Int.reduceAdd, Int.reduceSub, Int.reduceMul, Int.reduceBEq, Int.reduceBNe, encB, encI, encT, V.cells_mk, V.cells_take, V.cells_len, Nat.mul_one, Int.sub_zero, *]); (try exact rfl); done)) | ((with_reducible refine w_last ?_ ?_ ?_); (focus kernel_rfl); (focus rfl)) | ((with_reducible apply w_stepG); (focus rfl)) | ((with_reducible apply lk_mem); (focus ((repeat (first | exact mm_h | apply mm_t)); done))) | with_reducible (first | refine w_step0 ?_ | refine w_nil ?_ | refine gd_tt ?_ | refine gd_ff ?_ | refine gd_tf ?_ | refine gd_ft ?_ | refine gd_un ?_ | refine s_move ?_ | refine s_assign ?_ | refine s_bin ?_ | refine s_un ?_ | refine s_conv ?_ | refine s_field ?_ | refine s_fieldAddr ?_ | refine s_ext ?_ | refine s_pick ?_ | refine s_nil ?_ | refine s_load ?_ | refine lk_ip ?_ | refine lk_ptr ?_ | refine s_index ?_ | refine s_indexAddr ?_ | refine s_slice ?_ | refine s_build ?_ | refine s_buildSlice ?_ | refine s_mk ?_ | refine s_store ?_ | refine s_alloc ?_ | refine s_call ?_ | refine s_ip ?_ | refine s_app ?_ | refine ak_go ?_ | refine s_aps ?_ | refine ap_go ?_ | refine p2_true ?_ | refine tr_seq ?_ | refine tr_block ?_ | refine tr_skip ?_ | refine tr_ret ?_ | refine tr_exit ?_ | refine tr_label ?_ | refine strip_norm ?_ | refine strip_ret ?_ | refine strip_exit ?_ | refine blk_norm ?_ | refine blk_ret ?_ | refine blk_same ?_ | refine tr_condT ?_ | refine tr_condCt ?_ | refine tr_condCf ?_) | ((with_reducible apply sto_go); (focus (intro cs'; repeat (first | exact ra_h | apply ra_t)))) | ((with_reducible refine al_go ?_); intro b) | ((with_reducible refine And.intro ?_ ?_); (focus ((repeat (first | exact keep_none | exact keep_nil | exact keep_ro | refine keep_cons ?_)); done))) | ((with_reducible apply (ck_le Try.call74)); (focus exact LEL.refl _); (focus exact hQ.out _)) | ((with_reducible refine s_bi ?_ ?_); (focus rfl)) | ((with_reducible apply a2_go); (focus (first | assumption | (intro h; cases h))); (focus (intro o'; repeat (first | exact ra_h | apply ra_t))); (focus (first | assumption | exact len_nil | exact len_one rfl | (intro a ha; obtain ⟨x, -, rfl⟩ := List.mem_map.1 ha; first | rfl | simp) | (intro a ha; simp at ha; simp [ha]))); (focus (first | assumption | exact len_nil | exact len_one rfl | (intro a ha; obtain ⟨x, -, rfl⟩ := List.mem_map.1 ha; first | rfl | simp) | (intro a ha; simp at ha; simp [ha]))); (focus (first | omega | (simp only [List.length_map, List.length_cons, List.length_nil, List.length_append]; omega))); (focus (first | omega | (simp only [List.length_map, List.length_cons, List.length_nil, List.length_append]; omega))); intro o' ho') | ((with_reducible apply p2_go); (focus (first | assumption | (intro h; cases h))); (focus (intro o'; repeat (first | exact ra_h | apply ra_t))); (focus (first | assumption | exact len_nil | exact len_one rfl | (intro a ha; obtain ⟨x, -, rfl⟩ := List.mem_map.1 ha; first | rfl | simp) | (intro a ha; simp at ha; simp [ha]))); (focus (first | omega | (simp only [List.length_map, List.length_cons, List.length_nil, List.length_append]; omega))); (focus (first | omega | (simp only [List.length_map, List.length_cons, List.length_nil, List.length_append]; omega))); intro o' ho') | with_reducible refine blk_ne rfl ?_ | ((with_reducible refine w_region ?_ ?_); (focus kernel_rfl)) | ((with_reducible refine w_draw [] ?_ ?_ ?_ ?_ ?_); (iterate 3 (focus kernel_rfl)); (focus exact keeps_nil)) | ((with_reducible first | refine gd_d1 ?_ ?_ | refine gd_d0 ?_ ?_); all_goals (intro hb; (first | with_reducible replace hb := nt_t hb | with_reducible replace hb := nt_f hb | skip); (first | replace hb := dc_t hb | replace hb := dc_f hb | have hb1 := eq_b hb | have hb1 := ne_b hb | have hb1 := bne_t hb | have hb1 := bne_f hb | skip); (try (exfalso; first | contradiction | omega)))))
      all_goals (refine ret_eq (by first | exact .inl rfl | exact .inr rfl) (by first | rfl | assumption) (by (repeat (first | exact List.Sublist.refl _ | apply List.Sublist.cons))) ?_; (try simp (disch := omega) only [push_cast, Nat.reduceEqDiff, reduceCtorEq, ↓reduceIte, Nat.reduceAdd, Nat.reduceMul, Nat.reduceSub, Nat.reduceLT, Nat.reduceLeDiff, Int.reduceToNat, Int.reduceLT, Int.reduceLE, Int.reduceAdd, Int.reduceSub, Int.reduceMul, Int.reduceBEq, Int.reduceBNe, encB, encI, encT, V.cells_mk, V.cells_take, V.cells_len, Nat.mul_one, Int.sub_zero, *]); try (first | exact LE.refl _ | exact LE.sl _ _ | (refine LE.tup ?_; (repeat' (first | exact LEL.nil | refine LEL.cons ?_ ?_ | exact LE.refl _ | exact LE.sl _ _ | refine LE.agg ?_)); done) | (refine LE.agg ?_; (repeat' (first | exact LEL.nil | refine LEL.cons ?_ ?_ | exact LE.refl _ | exact LE.sl _ _)); done) | refine LE.of_eq ?_))
    rw [if_neg k4]
    have b4 : (k == 4) = false := by simpa using k4
    by_cases k5 : k = 5
    case neg =>
      rw [if_neg k5]
      have b5 : (k == 5) = false := by simpa using k5
      clear IH hP hQ hJ
      repeat' (first | ((with_reducible apply ev_go); (focus (try simp (disch := omega) only [push_cast, Nat.reduceEqDiff, reduceCtorEq, ↓reduceIte, Nat.reduceAdd, Nat.reduceMul, Nat.reduceSub, Nat.reduceLT, Nat.reduceLeDiff, Int.reduceToNat, Int.reduceLT, Int.reduceLE, Int.reduceAdd, Int.reduceSub, Int.reduceMul, Int.reduceBEq, Int.reduceBNe, encB, encI, encT, V.cells_mk, V.cells_take, V.cells_len, Nat.mul_one, Int.sub_zero, *]); (try exact rfl); done)) | ((with_reducible refine w_last ?_ ?_ ?_); (focus kernel_rfl); (focus rfl)) | ((with_reducible apply w_stepG); (focus rfl)) | ((with_reducible apply lk_mem); (focus ((repeat (first | exact mm_h | apply mm_t)); done))) | with_reducible (first | refine w_step0 ?_ | refine w_nil ?_ | refine gd_tt ?_ | refine gd_ff ?_ | refine gd_tf ?_ | refine gd_ft ?_ | refine gd_un ?_ | refine s_move ?_ | refine s_assign ?_ | refine s_bin ?_ | refine s_un ?_ | refine s_conv ?_ | refine s_field ?_ | refine s_fieldAddr ?_ | refine s_ext ?_ | refine s_pick ?_ | refine s_nil ?_ | refine s_load ?_ | refine lk_ip ?_ | refine lk_ptr ?_ | refine s_index ?_ | refine s_indexAddr ?_ | refine s_slice ?_ | refine s_build ?_ | refine s_buildSlice ?_ | refine s_mk ?_ | refine s_store ?_ | refine s_alloc ?_ | refine s_call ?_ | refine s_ip ?_ | refine s_app ?_ | refine ak_go ?_ | refine s_aps ?_ | refine ap_go ?_ | refine p2_true ?_ | refine tr_seq ?_ | refine tr_block ?_ | refine tr_skip ?_ | refine tr_ret ?_ | refine tr_exit ?_ | refine tr_label ?_ | refine strip_norm ?_ | refine strip_ret ?_ | refine strip_exit ?_ | refine blk_norm ?_ | refine blk_ret ?_ | refine blk_same ?_ | refine tr_condT ?_ | refine tr_condCt ?_ | refine tr_condCf ?_) | ((with_reducible apply sto_go); (focus (intro cs'; repeat (first | exact ra_h | apply ra_t)))) | ((with_reducible refine al_go ?_); intro b) | ((with_reducible refine And.intro ?_ ?_); (focus ((repeat (first | exact keep_none | exact keep_nil | exact keep_ro | refine keep_cons ?_)); done))) | ((with_reducible refine s_bi ?_ ?_); (focus rfl)) | ((with_reducible apply a2_go); (focus (first | assumption | (intro h; cases h))); (focus (intro o'; repeat (first | exact ra_h | apply ra_t))); (focus (first | assumption | exact len_nil | exact len_one rfl | (intro a ha; obtain ⟨x, -, rfl⟩ := List.mem_map.1 ha; first | rfl | simp) | (intro a ha; simp at ha; simp [ha]))); (focus (first | assumption | exact len_nil | exact len_one rfl | (intro a ha; obtain ⟨x, -, rfl⟩ := List.mem_map.1 ha; first | rfl | simp) | (intro a ha; simp at ha; simp [ha]))); (focus (first | omega | (simp only [List.length_map, List.length_cons, List.length_nil, List.length_append]; omega))); (focus (first | omega | (simp only [List.length_map, List.length_cons, List.length_nil, List.length_append]; omega))); intro o' ho') | ((with_reducible apply p2_go); (focus (first | assumption | (intro h; cases h))); (focus (intro o'; repeat (first | exact ra_h | apply ra_t))); (focus (first | assumption | exact len_nil | exact len_one rfl | (intro a ha; obtain ⟨x, -, rfl⟩ := List.mem_map.1 ha; first | rfl | simp) | (intro a ha; simp at ha; simp [ha]))); (focus (first | omega | (simp only [List.length_map, List.length_cons, List.length_nil, List.length_append]; omega))); (focus (first | omega | (simp only [List.length_map, List.length_cons, List.length_nil, List.length_append]; omega))); intro o' ho') | with_reducible refine blk_ne rfl ?_ | ((with_reducible refine w_region ?_ ?_); (focus kernel_rfl)) | ((with_reducible refine w_draw [] ?_ ?_ ?_ ?_ ?_); (iterate 3 (focus kernel_rfl)); (focus exact keeps_nil)) | ((with_reducible first | refine gd_d1 ?_ ?_ | refine gd_d0 ?_ ?_); all_goals (intro hb; (first | with_reducible replace hb := nt_t hb | with_reducible replace hb := nt_f hb | skip); (first | replace hb := dc_t hb | replace hb := dc_f hb | have hb1 := eq_b hb | have hb1 := ne_b hb | have hb1 := bne_t hb | have hb1 := bne_f hb | skip); (try (exfalso; first | contradiction | omega)))))
      all_goals (refine ret_eq (by first | exact .inl rfl | exact .inr rfl) (by first | rfl | assumption) (by (repeat (first | exact List.Sublist.refl _ | apply List.Sublist.cons))) ?_; (try simp (disch := omega) only [push_cast, Nat.reduceEqDiff, reduceCtorEq, ↓reduceIte, Nat.reduceAdd, Nat.reduceMul, Nat.reduceSub, Nat.reduceLT, Nat.reduceLeDiff, Int.reduceToNat, Int.reduceLT, Int.reduceLE, Int.reduceAdd, Int.reduceSub, Int.reduceMul, Int.reduceBEq, Int.reduceBNe, encB, encI, encT, V.cells_mk, V.cells_take, V.cells_len, Nat.mul_one, Int.sub_zero, *]); try (first | exact LE.refl _ | exact LE.sl _ _ | (refine LE.tup ?_; (repeat' (first | exact LEL.nil | refine LEL.cons ?_ ?_ | exact LE.refl _ | exact LE.sl _ _ | refine LE.agg ?_)); done) | (refine LE.agg ?_; (repeat' (first | exact LEL.nil | refine LEL.cons ?_ ?_ | exact LE.refl _ | exact LE.sl _ _)); done) | refine LE.of_eq ?_))
    subst k5
    rw [if_pos rfl]
    clear hP hQ k0 k1 k2 k3 k4 b0 b1 b2 b3 b4
    refine tr_room 9 1 0 ?_
    obtain ⟨T, hT⟩ : ∃ T, l.map text = T := ⟨_, rfl⟩
    have hTl : T.length = l.length := by rw [← hT, List.length_map]
    rw [hT] at hJ hJl
    rw [hT]
    repeat' (first | ((with_reducible apply ev_go); (focus (try simp (disch := omega) only [push_cast, Nat.reduceEqDiff, reduceCtorEq, ↓reduceIte, Nat.reduceAdd, Nat.reduceMul, Nat.reduceSub, Nat.reduceLT, Nat.reduceLeDiff, Int.reduceToNat, Int.reduceLT, Int.reduceLE, Int.reduceAdd, Int.reduceSub, Int.reduceMul, Int.reduceBEq, Int.reduceBNe, encB, encI, encT, V.cells_mk, V.cells_take, V.cells_len, Nat.mul_one, Int.sub_zero, *]); (try exact rfl); done)) | ((with_reducible refine w_last ?_ ?_ ?_); (focus kernel_rfl); (focus rfl)) | ((with_reducible apply w_stepG); (focus rfl)) | ((with_reducible apply lk_mem); (focus ((repeat (first | exact mm_h | apply mm_t)); done))) | with_reducible (first | refine w_step0 ?_ | refine w_nil ?_ | refine gd_tt ?_ | refine gd_ff ?_ | refine gd_tf ?_ | refine gd_ft ?_ | refine gd_un ?_ | refine s_move ?_ | refine s_assign ?_ | refine s_bin ?_ | refine s_un ?_ | refine s_conv ?_ | refine s_field ?_ | refine s_fieldAddr ?_ | refine s_ext ?_ | refine s_pick ?_ | refine s_nil ?_ | refine s_load ?_ | refine lk_ip ?_ | refine lk_ptr ?_ | refine s_index ?_ | refine s_indexAddr ?_ | refine s_slice ?_ | refine s_build ?_ | refine s_buildSlice ?_ | refine s_mk ?_ | refine s_store ?_ | refine s_alloc ?_ | refine s_call ?_ | refine s_ip ?_ | refine s_app ?_ | refine ak_go ?_ | refine s_aps ?_ | refine ap_go ?_ | refine p2_true ?_ | refine tr_seq ?_ | refine tr_block ?_ | refine tr_skip ?_ | refine tr_ret ?_ | refine tr_exit ?_ | refine tr_label ?_ | refine strip_norm ?_ | refine strip_ret ?_ | refine strip_exit ?_ | refine blk_norm ?_ | refine blk_ret ?_ | refine blk_same ?_ | refine tr_condT ?_ | refine tr_condCt ?_ | refine tr_condCf ?_) | ((with_reducible apply sto_go); (focus (intro cs'; repeat (first | exact ra_h | apply ra_t)))) | ((with_reducible refine al_go ?_); intro b) | ((with_reducible refine And.intro ?_ ?_); (focus ((repeat (first | exact keep_none | exact keep_nil | exact keep_ro | refine keep_cons ?_)); done))) | ((with_reducible refine s_bi ?_ ?_); (focus rfl)) | ((with_reducible apply a2_go); (focus (first | assumption | (intro h; cases h))); (focus (intro o'; repeat (first | exact ra_h | apply ra_t))); (focus (first | assumption | exact len_nil | exact len_one rfl | (intro a ha; obtain ⟨x, -, rfl⟩ := List.mem_map.1 ha; first | rfl | simp) | (intro a ha; simp at ha; simp [ha]))); (focus (first | assumption | exact len_nil | exact len_one rfl | (intro a ha; obtain ⟨x, -, rfl⟩ := List.mem_map.1 ha; first | rfl | simp) | (intro a ha; simp at ha; simp [ha]))); (focus (first | omega | (simp only [List.length_map, List.length_cons, List.length_nil, List.length_append]; omega))); (focus (first | omega | (simp only [List.length_map, List.length_cons, List.length_nil, List.length_append]; omega))); intro o' ho') | ((with_reducible apply p2_go); (focus (first | assumption | (intro h; cases h))); (focus (intro o'; repeat (first | exact ra_h | apply ra_t))); (focus (first | assumption | exact len_nil | exact len_one rfl | (intro a ha; obtain ⟨x, -, rfl⟩ := List.mem_map.1 ha; first | rfl | simp) | (intro a ha; simp at ha; simp [ha]))); (focus (first | omega | (simp only [List.length_map, List.length_cons, List.length_nil, List.length_append]; omega))); (focus (first | omega | (simp only [List.length_map, List.length_cons, List.length_nil, List.length_append]; omega))); intro o' ho') | with_reducible refine blk_ne rfl ?_ | ((with_reducible refine w_region ?_ ?_); (focus kernel_rfl)) | ((with_reducible refine w_draw [] ?_ ?_ ?_ ?_ ?_); (iterate 3 (focus kernel_rfl)); (focus exact keeps_nil)) | ((with_reducible first | refine gd_d1 ?_ ?_ | refine gd_d0 ?_ ?_); all_goals (intro hb; (first | with_reducible replace hb := nt_t hb | with_reducible replace hb := nt_f hb | skip); (first | replace hb := dc_t hb | replace hb := dc_f hb | have hb1 := eq_b hb | have hb1 := ne_b hb | have hb1 := bne_t hb | have hb1 := bne_f hb | skip); (try (exfalso; first | contradiction | omega)))))
    refine tr_loopd (ι := Nat) (fun i A st' => i ≤ l.length ∧ A.df = [] ∧ A.e 33 = .sl .shared (l.map V.cells) ∧ A.e 34 = .i l.length ∧ A.e 35 = .i i ∧ ∃ o', o' ≠ .shared ∧ A.e 3 = .sl o' ((T.take i).map encT) ∧ st' = .room o' 9 1 ((T.take i).map encT).length :: st) (fun i => l.length - i) 0 ⟨Nat.zero_le _, ?_, ?_, ?_, ?_, .tight, by simp, ?_, rfl⟩ ?_
    iterate 5 (focus (first | rfl | assumption | omega | (simp (disch := omega) only [push_cast, Nat.reduceEqDiff, reduceCtorEq, ↓reduceIte, Nat.reduceAdd, Nat.reduceMul, Nat.reduceSub, Nat.reduceLT, Nat.reduceLeDiff, Int.reduceToNat, Int.reduceLT, Int.reduceLE, Int.reduceAdd, Int.reduceSub, Int.reduceMul, Int.reduceBEq, Int.reduceBNe, encB, encI, encT, V.cells_mk, V.cells_take, V.cells_len, Nat.mul_one, Int.sub_zero, *]; try omega; done)))
    rintro i A st' ⟨hi, hdf, e33, e34, e35, o', ho', e3, rfl⟩
    by_cases hlt : i < l.length
    · obtain ⟨x, hx⟩ : ∃ x, l[i]? = some x := ⟨_, List.getElem?_eq_getElem hlt⟩
      have ih := IH.out x (mem_of hx)
      have htk : T.take (i + 1) = T.take i ++ [x.text] := by
        rw [List.take_succ, ← hT, List.getElem?_map, hx]; rfl
      have hTi : (T.take i).length = i := by rw [List.length_take]; omega
      replace htk := Lib.hid htk
      generalize T.take i = Ti at *
      clear IH hJ
      cases x with
      | mk k1 n1 s1 l1 =>
        rw [V.cells_mk] at ih
        replace ih := Lib.hid ih
        generalize (V.mk k1 n1 s1 l1).text = tx at *
        have hT1 : ∀ a ∈ Ti.map encT, a.length = 1 := fun a ha => by
          obtain ⟨y, -, rfl⟩ := List.mem_map.1 ha
          rfl
        repeat' (first | ((with_reducible apply (a2_go ho')); (focus (intro o'; repeat (first | exact ra_h | apply ra_t))); (focus exact hT1); (focus exact len_one rfl); (focus (simp only [List.length_map, List.length_cons, List.length_nil]; omega)); (focus (simp only [List.length_map, List.length_cons, List.length_nil]; omega)); intro o' ho') | ((with_reducible apply ev_go); (focus (try simp (disch := omega) only [push_cast, Nat.reduceEqDiff, reduceCtorEq, ↓reduceIte, Nat.reduceAdd, Nat.reduceMul, Nat.reduceSub, Nat.reduceLT, Nat.reduceLeDiff, Int.reduceToNat, Int.reduceLT, Int.reduceLE, Int.reduceAdd, Int.reduceSub, Int.reduceMul, Int.reduceBEq, Int.reduceBNe, encB, encI, encT, V.cells_mk, V.cells_take, V.cells_len, Nat.mul_one, Int.sub_zero, *]); (try exact rfl); done)) | ((with_reducible refine w_last ?_ ?_ ?_); (focus kernel_rfl); (focus rfl)) | ((with_reducible apply w_stepG); (focus rfl)) | ((with_reducible apply lk_mem); (focus ((repeat (first | exact mm_h | apply mm_t)); done))) | with_reducible (first | refine w_step0 ?_ | refine w_nil ?_ | refine gd_tt ?_ | refine gd_ff ?_ | refine gd_tf ?_ | refine gd_ft ?_ | refine gd_un ?_ | refine s_move ?_ | refine s_assign ?_ | refine s_bin ?_ | refine s_un ?_ | refine s_conv ?_ | refine s_field ?_ | refine s_fieldAddr ?_ | refine s_ext ?_ | refine s_pick ?_ | refine s_nil ?_ | refine s_load ?_ | refine lk_ip ?_ | refine lk_ptr ?_ | refine s_index ?_ | refine s_indexAddr ?_ | refine s_slice ?_ | refine s_build ?_ | refine s_buildSlice ?_ | refine s_mk ?_ | refine s_store ?_ | refine s_alloc ?_ | refine s_call ?_ | refine s_ip ?_ | refine s_app ?_ | refine ak_go ?_ | refine s_aps ?_ | refine ap_go ?_ | refine p2_true ?_ | refine tr_seq ?_ | refine tr_block ?_ | refine tr_skip ?_ | refine tr_ret ?_ | refine tr_exit ?_ | refine tr_label ?_ | refine strip_norm ?_ | refine strip_ret ?_ | refine strip_exit ?_ | refine blk_norm ?_ | refine blk_ret ?_ | refine blk_same ?_ | refine tr_condT ?_ | refine tr_condCt ?_ | refine tr_condCf ?_) | ((with_reducible apply sto_go); (focus (intro cs'; repeat (first | exact ra_h | apply ra_t)))) | ((with_reducible refine al_go ?_); intro b) | ((with_reducible refine And.intro ?_ ?_); (focus ((repeat (first | exact keep_none | exact keep_nil | exact keep_ro | refine keep_cons ?_)); done))) | ((with_reducible apply (ck_le Try.call43)); (focus exact LEL.refl _); (focus exact ih.out _)) | ((with_reducible refine s_bi ?_ ?_); (focus rfl)) | ((with_reducible apply a2_go); (focus (first | assumption | (intro h; cases h))); (focus (intro o'; repeat (first | exact ra_h | apply ra_t))); (focus (first | assumption | exact len_nil | exact len_one rfl | (intro a ha; obtain ⟨x, -, rfl⟩ := List.mem_map.1 ha; first | rfl | simp) | (intro a ha; simp at ha; simp [ha]))); (focus (first | assumption | exact len_nil | exact len_one rfl | (intro a ha; obtain ⟨x, -, rfl⟩ := List.mem_map.1 ha; first | rfl | simp) | (intro a ha; simp at ha; simp [ha]))); (focus (first | omega | (simp only [List.length_map, List.length_cons, List.length_nil, List.length_append]; omega))); (focus (first | omega | (simp only [List.length_map, List.length_cons, List.length_nil, List.length_append]; omega))); intro o' ho') | ((with_reducible apply p2_go); (focus (first | assumption | (intro h; cases h))); (focus (intro o'; repeat (first | exact ra_h | apply ra_t))); (focus (first | assumption | exact len_nil | exact len_one rfl | (intro a ha; obtain ⟨x, -, rfl⟩ := List.mem_map.1 ha; first | rfl | simp) | (intro a ha; simp at ha; simp [ha]))); (focus (first | omega | (simp only [List.length_map, List.length_cons, List.length_nil, List.length_append]; omega))); (focus (first | omega | (simp only [List.length_map, List.length_cons, List.length_nil, List.length_append]; omega))); intro o' ho') | with_reducible refine blk_ne rfl ?_ | ((with_reducible refine w_region ?_ ?_); (focus kernel_rfl)) | ((with_reducible refine w_draw [] ?_ ?_ ?_ ?_ ?_); (iterate 3 (focus kernel_rfl)); (focus exact keeps_nil)) | ((with_reducible first | refine gd_d1 ?_ ?_ | refine gd_d0 ?_ ?_); all_goals (intro hb; (first | with_reducible replace hb := nt_t hb | with_reducible replace hb := nt_f hb | skip); (first | replace hb := dc_t hb | replace hb := dc_f hb | have hb1 := eq_b hb | have hb1 := ne_b hb | have hb1 := bne_t hb | have hb1 := bne_f hb | skip); (try (exfalso; first | contradiction | omega)))))
        refine ⟨i + 1, .room o' 9 1 ((T.take (i + 1)).map encT).length :: st, ?_, ⟨hlt, ?_, ?_, ?_, ?_, o', ho', ?_, rfl⟩, ?_⟩
        · rw [htk.out, List.map_append]; (repeat (first | exact List.Sublist.refl _ | apply List.Sublist.cons))
        · (first | rfl | assumption | omega | (simp (disch := omega) only [push_cast, Nat.reduceEqDiff, reduceCtorEq, ↓reduceIte, Nat.reduceAdd, Nat.reduceMul, Nat.reduceSub, Nat.reduceLT, Nat.reduceLeDiff, Int.reduceToNat, Int.reduceLT, Int.reduceLE, Int.reduceAdd, Int.reduceSub, Int.reduceMul, Int.reduceBEq, Int.reduceBNe, encB, encI, encT, V.cells_mk, V.cells_take, V.cells_len, Nat.mul_one, Int.sub_zero, *]; try omega; done))
        · (first | rfl | assumption | omega | (simp (disch := omega) only [push_cast, Nat.reduceEqDiff, reduceCtorEq, ↓reduceIte, Nat.reduceAdd, Nat.reduceMul, Nat.reduceSub, Nat.reduceLT, Nat.reduceLeDiff, Int.reduceToNat, Int.reduceLT, Int.reduceLE, Int.reduceAdd, Int.reduceSub, Int.reduceMul, Int.reduceBEq, Int.reduceBNe, encB, encI, encT, V.cells_mk, V.cells_take, V.cells_len, Nat.mul_one, Int.sub_zero, *]; try omega; done))
        · (first | rfl | assumption | omega | (simp (disch := omega) only [push_cast, Nat.reduceEqDiff, reduceCtorEq, ↓reduceIte, Nat.reduceAdd, Nat.reduceMul, Nat.reduceSub, Nat.reduceLT, Nat.reduceLeDiff, Int.reduceToNat, Int.reduceLT, Int.reduceLE, Int.reduceAdd, Int.reduceSub, Int.reduceMul, Int.reduceBEq, Int.reduceBNe, encB, encI, encT, V.cells_mk, V.cells_take, V.cells_len, Nat.mul_one, Int.sub_zero, *]; try omega; done))
        · (first | rfl | assumption | omega | (simp (disch := omega) only [push_cast, Nat.reduceEqDiff, reduceCtorEq, ↓reduceIte, Nat.reduceAdd, Nat.reduceMul, Nat.reduceSub, Nat.reduceLT, Nat.reduceLeDiff, Int.reduceToNat, Int.reduceLT, Int.reduceLE, Int.reduceAdd, Int.reduceSub, Int.reduceMul, Int.reduceBEq, Int.reduceBNe, encB, encI, encT, V.cells_mk, V.cells_take, V.cells_len, Nat.mul_one, Int.sub_zero, *]; try omega; done))
        · rw [htk.out, List.map_append]; (first | rfl | assumption | omega | (simp (disch := omega) only [push_cast, Nat.reduceEqDiff, reduceCtorEq, ↓reduceIte, Nat.reduceAdd, Nat.reduceMul, Nat.reduceSub, Nat.reduceLT, Nat.reduceLeDiff, Int.reduceToNat, Int.reduceLT, Int.reduceLE, Int.reduceAdd, Int.reduceSub, Int.reduceMul, Int.reduceBEq, Int.reduceBNe, encB, encI, encT, V.cells_mk, V.cells_take, V.cells_len, Nat.mul_one, Int.sub_zero, *]; try omega; done))
        · omega
    · rw [List.take_of_length_le (by omega)] at *
      clear IH
      have hadd : aBin Try.prog .add 9 (.str ⟨#[91]⟩) (.str ⟨(Lib.join T [32]).toArray⟩) = some (.str ⟨(91 :: Lib.join T [32]).toArray⟩) := by
        rw [str_add (by show 1 + (Lib.join T [32]).toArray.size ≤ _; rw [List.size_toArray]; omega)]
        congr 3
      have hadd2 : aBin Try.prog .add 9 (.str ⟨(91 :: Lib.join T [32]).toArray⟩) (.str ⟨#[93]⟩) = some (.str ⟨(91 :: (Lib.join T [32] ++ [93])).toArray⟩) := by
        rw [str_add (by show (91 :: Lib.join T [32]).toArray.size + 1 ≤ _; rw [List.size_toArray, List.length_cons]; omega)]
        congr 3
      repeat' (first | ((with_reducible apply ev_go); (focus (try simp (disch := omega) only [push_cast, Nat.reduceEqDiff, reduceCtorEq, ↓reduceIte, Nat.reduceAdd, Nat.reduceMul, Nat.reduceSub, Nat.reduceLT, Nat.reduceLeDiff, Int.reduceToNat, Int.reduceLT, Int.reduceLE, Int.reduceAdd, Int.reduceSub, Int.reduceMul, Int.reduceBEq, Int.reduceBNe, encB, encI, encT, V.cells_mk, V.cells_take, V.cells_len, Nat.mul_one, Int.sub_zero, *]); (try exact rfl); done)) | ((with_reducible refine w_last ?_ ?_ ?_); (focus kernel_rfl); (focus rfl)) | ((with_reducible apply w_stepG); (focus rfl)) | ((with_reducible apply lk_mem); (focus ((repeat (first | exact mm_h | apply mm_t)); done))) | with_reducible (first | refine w_step0 ?_ | refine w_nil ?_ | refine gd_tt ?_ | refine gd_ff ?_ | refine gd_tf ?_ | refine gd_ft ?_ | refine gd_un ?_ | refine s_move ?_ | refine s_assign ?_ | refine s_bin ?_ | refine s_un ?_ | refine s_conv ?_ | refine s_field ?_ | refine s_fieldAddr ?_ | refine s_ext ?_ | refine s_pick ?_ | refine s_nil ?_ | refine s_load ?_ | refine lk_ip ?_ | refine lk_ptr ?_ | refine s_index ?_ | refine s_indexAddr ?_ | refine s_slice ?_ | refine s_build ?_ | refine s_buildSlice ?_ | refine s_mk ?_ | refine s_store ?_ | refine s_alloc ?_ | refine s_call ?_ | refine s_ip ?_ | refine s_app ?_ | refine ak_go ?_ | refine s_aps ?_ | refine ap_go ?_ | refine p2_true ?_ | refine tr_seq ?_ | refine tr_block ?_ | refine tr_skip ?_ | refine tr_ret ?_ | refine tr_exit ?_ | refine tr_label ?_ | refine strip_norm ?_ | refine strip_ret ?_ | refine strip_exit ?_ | refine blk_norm ?_ | refine blk_ret ?_ | refine blk_same ?_ | refine tr_condT ?_ | refine tr_condCt ?_ | refine tr_condCf ?_) | ((with_reducible apply sto_go); (focus (intro cs'; repeat (first | exact ra_h | apply ra_t)))) | ((with_reducible refine al_go ?_); intro b) | ((with_reducible refine And.intro ?_ ?_); (focus ((repeat (first | exact keep_none | exact keep_nil | exact keep_ro | refine keep_cons ?_)); done))) | ((with_reducible apply (ck_le Try.call75)); (focus exact LEL.refl _); (focus exact hJ.out _ _)) | ((with_reducible refine s_bi ?_ ?_); (focus rfl)) | ((with_reducible apply a2_go); (focus (first | assumption | (intro h; cases h))); (focus (intro o'; repeat (first | exact ra_h | apply ra_t))); (focus (first | assumption | exact len_nil | exact len_one rfl | (intro a ha; obtain ⟨x, -, rfl⟩ := List.mem_map.1 ha; first | rfl | simp) | (intro a ha; simp at ha; simp [ha]))); (focus (first | assumption | exact len_nil | exact len_one rfl | (intro a ha; obtain ⟨x, -, rfl⟩ := List.mem_map.1 ha; first | rfl | simp) | (intro a ha; simp at ha; simp [ha]))); (focus (first | omega | (simp only [List.length_map, List.length_cons, List.length_nil, List.length_append]; omega))); (focus (first | omega | (simp only [List.length_map, List.length_cons, List.length_nil, List.length_append]; omega))); intro o' ho') | ((with_reducible apply p2_go); (focus (first | assumption | (intro h; cases h))); (focus (intro o'; repeat (first | exact ra_h | apply ra_t))); (focus (first | assumption | exact len_nil | exact len_one rfl | (intro a ha; obtain ⟨x, -, rfl⟩ := List.mem_map.1 ha; first | rfl | simp) | (intro a ha; simp at ha; simp [ha]))); (focus (first | omega | (simp only [List.length_map, List.length_cons, List.length_nil, List.length_append]; omega))); (focus (first | omega | (simp only [List.length_map, List.length_cons, List.length_nil, List.length_append]; omega))); intro o' ho') | with_reducible refine blk_ne rfl ?_ | ((with_reducible refine w_region ?_ ?_); (focus kernel_rfl)) | ((with_reducible refine w_draw [] ?_ ?_ ?_ ?_ ?_); (iterate 3 (focus kernel_rfl)); (focus exact keeps_nil)) | ((with_reducible first | refine gd_d1 ?_ ?_ | refine gd_d0 ?_ ?_); all_goals (intro hb; (first | with_reducible replace hb := nt_t hb | with_reducible replace hb := nt_f hb | skip); (first | replace hb := dc_t hb | replace hb := dc_f hb | have hb1 := eq_b hb | have hb1 := ne_b hb | have hb1 := bne_t hb | have hb1 := bne_f hb | skip); (try (exfalso; first | contradiction | omega)))))
      all_goals (refine ret_eq (by first | exact .inl rfl | exact .inr rfl) (by first | rfl | assumption) (by (repeat (first | exact List.Sublist.refl _ | apply List.Sublist.cons))) ?_; (try simp (disch := omega) only [push_cast, Nat.reduceEqDiff, reduceCtorEq, ↓reduceIte, Nat.reduceAdd, Nat.reduceMul, Nat.reduceSub, Nat.reduceLT, Nat.reduceLeDiff, Int.reduceToNat, Int.reduceLT, Int.reduceLE, Int.reduceAdd, Int.reduceSub, Int.reduceMul, Int.reduceBEq, Int.reduceBNe, encB, encI, encT, V.cells_mk, V.cells_take, V.cells_len, Nat.mul_one, Int.sub_zero, *]); try (first | exact LE.refl _ | exact LE.sl _ _ | (refine LE.tup ?_; (repeat' (first | exact LEL.nil | refine LEL.cons ?_ ?_ | exact LE.refl _ | exact LE.sl _ _ | refine LE.agg ?_)); done) | (refine LE.agg ?_; (repeat' (first | exact LEL.nil | refine LEL.cons ?_ ?_ | exact LE.refl _ | exact LE.sl _ _)); done) | refine LE.of_eq ?_))
end Go.Proofs.Ytgofckmlgkniaaa
end

section
namespace Go.Proofs.Ytgofckmlgkniaaa
set_option linter.unusedSimpArgs false
open Go.RowKit
set_option maxRecDepth 10000
set_option maxHeartbeats 4000000
open V in
theorem valCopyF : ∀ (N : Nat) (v : V), v.nodes ≤ N → v.nodes ≤ 1000000000 → ∀ st, TrF Try.prog 45 [.agg v.cells] st fun x st' => x = .agg v.cells ∧ st' = st
  | 0, v, h, _ => by have := v.nodes_pos; omega
  | N + 1, .mk k n s l, hN, hB => by
    intro st
    have hll := nodesL_len l
    rw [nodes] at hN hB
    have IH := Lib.hid fun x (hx : x ∈ l) => valCopyF N x (by have := nodesL_mem hx; omega) (by have := nodesL_mem hx; omega)
    clear hN
    rw [V.cells_mk]
    refine trF_enterC (G := cellA 2 24 Try.prog) Try.func45 rfl (by rw [Try.ntmps45]; exact Nat.le_of_ble_eq_true rfl) (fun h1 h2 h3 => res_cell rfl h1 h2 h3) ?_
    simp only [Try.ntmps45]
    refine tr_room 24 4 0 ?_
    repeat' (first | with_reducible refine s_boxP ?_ | ((with_reducible apply ev_go); (focus (try simp (disch := omega) only [push_cast, Nat.reduceEqDiff, reduceCtorEq, ↓reduceIte, Nat.reduceAdd, Nat.reduceMul, Nat.reduceSub, Nat.reduceLT, Nat.reduceLeDiff, Int.reduceToNat, Int.reduceLT, Int.reduceLE, Int.reduceAdd, Int.reduceSub, Int.reduceMul, Int.reduceBEq, Int.reduceBNe, encB, encI, V.cells_mk, V.cells_take, V.cells_len, Nat.mul_one, Int.sub_zero, *]); (try exact rfl); done)) | ((with_reducible refine w_last ?_ ?_ ?_); (focus kernel_rfl); (focus rfl)) | ((with_reducible apply w_stepG); (focus rfl)) | ((with_reducible apply lk_mem); (focus ((repeat (first | exact mm_h | apply mm_t)); done))) | with_reducible (first | refine w_step0 ?_ | refine w_nil ?_ | refine gd_tt ?_ | refine gd_ff ?_ | refine gd_tf ?_ | refine gd_ft ?_ | refine gd_un ?_ | refine s_move ?_ | refine s_assign ?_ | refine s_bin ?_ | refine s_un ?_ | refine s_conv ?_ | refine s_field ?_ | refine s_fieldAddr ?_ | refine s_ext ?_ | refine s_pick ?_ | refine s_nil ?_ | refine s_load ?_ | refine lk_ip ?_ | refine lk_ptr ?_ | refine s_index ?_ | refine s_indexAddr ?_ | refine s_slice ?_ | refine s_build ?_ | refine s_buildSlice ?_ | refine s_mk ?_ | refine s_store ?_ | refine s_alloc ?_ | refine s_call ?_ | refine s_ip ?_ | refine s_app ?_ | refine ak_go ?_ | refine s_aps ?_ | refine ap_go ?_ | refine p2_true ?_ | refine tr_seq ?_ | refine tr_block ?_ | refine tr_skip ?_ | refine tr_ret ?_ | refine tr_exit ?_ | refine tr_label ?_ | refine strip_norm ?_ | refine strip_ret ?_ | refine strip_exit ?_ | refine blk_norm ?_ | refine blk_ret ?_ | refine blk_same ?_ | refine tr_condT ?_ | refine tr_condCt ?_ | refine tr_condCf ?_) | ((with_reducible apply sto_go); (focus (intro cs'; repeat (first | exact ra_h | apply ra_t)))) | ((with_reducible refine al_go ?_); intro b) | ((with_reducible refine And.intro ?_ ?_); (focus ((repeat (first | exact keep_none | exact keep_nil | exact keep_ro | refine keep_cons ?_)); done))) | ((with_reducible refine s_bi ?_ ?_); (focus rfl)) | ((with_reducible apply a2_go); (focus (first | assumption | (intro h; cases h))); (focus (intro o'; repeat (first | exact ra_h | apply ra_t))); (focus (first | assumption | exact len_nil | exact len_one rfl | (intro a ha; obtain ⟨x, -, rfl⟩ := List.mem_map.1 ha; first | rfl | simp) | (intro a ha; simp at ha; simp [ha]))); (focus (first | assumption | exact len_nil | exact len_one rfl | (intro a ha; obtain ⟨x, -, rfl⟩ := List.mem_map.1 ha; first | rfl | simp) | (intro a ha; simp at ha; simp [ha]))); (focus (first | omega | (simp only [List.length_map, List.length_cons, List.length_nil, List.length_append]; omega))); (focus (first | omega | (simp only [List.length_map, List.length_cons, List.length_nil, List.length_append]; omega))); intro o' ho') | ((with_reducible apply p2_go); (focus (first | assumption | (intro h; cases h))); (focus (intro o'; repeat (first | exact ra_h | apply ra_t))); (focus (first | assumption | exact len_nil | exact len_one rfl | (intro a ha; obtain ⟨x, -, rfl⟩ := List.mem_map.1 ha; first | rfl | simp) | (intro a ha; simp at ha; simp [ha]))); (focus (first | omega | (simp only [List.length_map, List.length_cons, List.length_nil, List.length_append]; omega))); (focus (first | omega | (simp only [List.length_map, List.length_cons, List.length_nil, List.length_append]; omega))); intro o' ho') | with_reducible refine blk_ne rfl ?_ | ((with_reducible refine w_region ?_ ?_); (focus kernel_rfl)) | ((with_reducible refine w_draw [] ?_ ?_ ?_ ?_ ?_); (iterate 3 (focus kernel_rfl)); (focus exact keeps_nil)) | ((with_reducible first | refine gd_d1 ?_ ?_ | refine gd_d0 ?_ ?_); all_goals (intro hb; (first | with_reducible replace hb := nt_t hb | with_reducible replace hb := nt_f hb | skip); (first | replace hb := dc_t hb | replace hb := dc_f hb | have hb1 := eq_b hb | have hb1 := ne_b hb | have hb1 := bne_t hb | have hb1 := bne_f hb | skip); (try (exfalso; first | contradiction | omega)))))
    rename_i b1
    revert b
    intro b2
    refine tr_loopd (ι := Nat) (fun i A st' => i ≤ l.length ∧ A.df = [] ∧ A.e 1 = .ptr b1 0 ∧ A.e 2 = .ptr b2 0 ∧ A.e 7 = .sl .shared (l.map V.cells) ∧ A.e 8 = .i l.length ∧ A.e 9 = .i i ∧ ∃ o', o' ≠ .shared ∧ A.e 3 = .sl o' ((l.take i).map V.cells) ∧ ∃ zs, zs.length = 4 ∧ st' = .box b2 24 zs :: .box b1 24 [.i k, .i n, .str s, .sl .shared (l.map V.cells)] :: .room o' 24 4 ((l.take i).map V.cells).length :: st) (fun i => l.length - i) 0 ⟨Nat.zero_le _, ?_, ?_, ?_, ?_, ?_, ?_, .tight, by simp, ?_, _, rfl, rfl⟩ ?_
    iterate 7 (focus (first | rfl | assumption | omega | (simp (disch := omega) only [push_cast, Nat.reduceEqDiff, reduceCtorEq, ↓reduceIte, Nat.reduceAdd, Nat.reduceMul, Nat.reduceSub, Nat.reduceLT, Nat.reduceLeDiff, Int.reduceToNat, Int.reduceLT, Int.reduceLE, Int.reduceAdd, Int.reduceSub, Int.reduceMul, Int.reduceBEq, Int.reduceBNe, encB, encI, V.cells_mk, V.cells_take, V.cells_len, Nat.mul_one, Int.sub_zero, *]; try omega; done)))
    rintro i A st' ⟨hi, hdf, e1, e2, e7, e8, e9, o', ho', e3, zs, hzs, rfl⟩
    by_cases hlt : i < l.length
    · obtain ⟨x, hx⟩ : ∃ x, l[i]? = some x := ⟨_, List.getElem?_eq_getElem hlt⟩
      have ih := IH.out x (mem_of hx)
      have htk : l.take (i + 1) = l.take i ++ [x] := by
        rw [List.take_succ, hx]; rfl
      have hTi : (l.take i).length = i := by rw [List.length_take]; omega
      replace htk := Lib.hid htk
      generalize l.take i = Ti at *
      clear IH
      have hT4 : ∀ a ∈ Ti.map V.cells, a.length = 4 := fun a ha => by
        obtain ⟨y, -, rfl⟩ := List.mem_map.1 ha
        exact V.cells_len y
      cases x with
      | mk k1 n1 s1 l1 =>
        rw [V.cells_mk] at ih
        replace ih := Lib.hid ih
        repeat' (first | ((with_reducible apply (a2_go ho')); (focus (intro o'; repeat (first | exact ra_h | apply ra_t))); (focus exact hT4); (focus exact len_one rfl); (focus (simp only [List.length_map, List.length_cons, List.length_nil]; omega)); (focus (simp only [List.length_map, List.length_cons, List.length_nil]; omega)); intro o' ho') | ((with_reducible apply ev_go); (focus (try simp (disch := omega) only [push_cast, Nat.reduceEqDiff, reduceCtorEq, ↓reduceIte, Nat.reduceAdd, Nat.reduceMul, Nat.reduceSub, Nat.reduceLT, Nat.reduceLeDiff, Int.reduceToNat, Int.reduceLT, Int.reduceLE, Int.reduceAdd, Int.reduceSub, Int.reduceMul, Int.reduceBEq, Int.reduceBNe, encB, encI, V.cells_mk, V.cells_take, V.cells_len, Nat.mul_one, Int.sub_zero, *]); (try exact rfl); done)) | ((with_reducible refine w_last ?_ ?_ ?_); (focus kernel_rfl); (focus rfl)) | ((with_reducible apply w_stepG); (focus rfl)) | ((with_reducible apply lk_mem); (focus ((repeat (first | exact mm_h | apply mm_t)); done))) | with_reducible (first | refine w_step0 ?_ | refine w_nil ?_ | refine gd_tt ?_ | refine gd_ff ?_ | refine gd_tf ?_ | refine gd_ft ?_ | refine gd_un ?_ | refine s_move ?_ | refine s_assign ?_ | refine s_bin ?_ | refine s_un ?_ | refine s_conv ?_ | refine s_field ?_ | refine s_fieldAddr ?_ | refine s_ext ?_ | refine s_pick ?_ | refine s_nil ?_ | refine s_load ?_ | refine lk_ip ?_ | refine lk_ptr ?_ | refine s_index ?_ | refine s_indexAddr ?_ | refine s_slice ?_ | refine s_build ?_ | refine s_buildSlice ?_ | refine s_mk ?_ | refine s_store ?_ | refine s_alloc ?_ | refine s_call ?_ | refine s_ip ?_ | refine s_app ?_ | refine ak_go ?_ | refine s_aps ?_ | refine ap_go ?_ | refine p2_true ?_ | refine tr_seq ?_ | refine tr_block ?_ | refine tr_skip ?_ | refine tr_ret ?_ | refine tr_exit ?_ | refine tr_label ?_ | refine strip_norm ?_ | refine strip_ret ?_ | refine strip_exit ?_ | refine blk_norm ?_ | refine blk_ret ?_ | refine blk_same ?_ | refine tr_condT ?_ | refine tr_condCt ?_ | refine tr_condCf ?_) | ((with_reducible apply sto_go); (focus (intro cs'; repeat (first | exact ra_h | apply ra_t)))) | ((with_reducible refine al_go ?_); intro b) | ((with_reducible refine And.intro ?_ ?_); (focus ((repeat (first | exact keep_none | exact keep_nil | exact keep_ro | refine keep_cons ?_)); done))) | ((with_reducible apply (ck_le Try.call45)); (focus exact LEL.refl _); (focus exact ih.out _)) | ((with_reducible refine s_bi ?_ ?_); (focus rfl)) | ((with_reducible apply a2_go); (focus (first | assumption | (intro h; cases h))); (focus (intro o'; repeat (first | exact ra_h | apply ra_t))); (focus (first | assumption | exact len_nil | exact len_one rfl | (intro a ha; obtain ⟨x, -, rfl⟩ := List.mem_map.1 ha; first | rfl | simp) | (intro a ha; simp at ha; simp [ha]))); (focus (first | assumption | exact len_nil | exact len_one rfl | (intro a ha; obtain ⟨x, -, rfl⟩ := List.mem_map.1 ha; first | rfl | simp) | (intro a ha; simp at ha; simp [ha]))); (focus (first | omega | (simp only [List.length_map, List.length_cons, List.length_nil, List.length_append]; omega))); (focus (first | omega | (simp only [List.length_map, List.length_cons, List.length_nil, List.length_append]; omega))); intro o' ho') | ((with_reducible apply p2_go); (focus (first | assumption | (intro h; cases h))); (focus (intro o'; repeat (first | exact ra_h | apply ra_t))); (focus (first | assumption | exact len_nil | exact len_one rfl | (intro a ha; obtain ⟨x, -, rfl⟩ := List.mem_map.1 ha; first | rfl | simp) | (intro a ha; simp at ha; simp [ha]))); (focus (first | omega | (simp only [List.length_map, List.length_cons, List.length_nil, List.length_append]; omega))); (focus (first | omega | (simp only [List.length_map, List.length_cons, List.length_nil, List.length_append]; omega))); intro o' ho') | with_reducible refine blk_ne rfl ?_ | ((with_reducible refine w_region ?_ ?_); (focus kernel_rfl)) | ((with_reducible refine w_draw [] ?_ ?_ ?_ ?_ ?_); (iterate 3 (focus kernel_rfl)); (focus exact keeps_nil)) | ((with_reducible first | refine gd_d1 ?_ ?_ | refine gd_d0 ?_ ?_); all_goals (intro hb; (first | with_reducible replace hb := nt_t hb | with_reducible replace hb := nt_f hb | skip); (first | replace hb := dc_t hb | replace hb := dc_f hb | have hb1 := eq_b hb | have hb1 := ne_b hb | have hb1 := bne_t hb | have hb1 := bne_f hb | skip); (try (exfalso; first | contradiction | omega)))))
        refine ⟨i + 1, .box b2 24 zs :: .box b1 24 [.i k, .i n, .str s, .sl .shared (l.map V.cells)] :: .room o' 24 4 ((l.take (i + 1)).map V.cells).length :: st, ?_, ⟨hlt, ?_, ?_, ?_, ?_, ?_, ?_, o', ho', ?_, zs, hzs, rfl⟩, ?_⟩
        · rw [htk.out]; simp only [List.map_append, List.map_cons, List.map_nil, V.cells_mk]; (repeat (first | exact List.Sublist.refl _ | apply List.Sublist.cons))
        · (first | rfl | assumption | omega | (simp (disch := omega) only [push_cast, Nat.reduceEqDiff, reduceCtorEq, ↓reduceIte, Nat.reduceAdd, Nat.reduceMul, Nat.reduceSub, Nat.reduceLT, Nat.reduceLeDiff, Int.reduceToNat, Int.reduceLT, Int.reduceLE, Int.reduceAdd, Int.reduceSub, Int.reduceMul, Int.reduceBEq, Int.reduceBNe, encB, encI, V.cells_mk, V.cells_take, V.cells_len, Nat.mul_one, Int.sub_zero, *]; try omega; done))
        · (first | rfl | assumption | omega | (simp (disch := omega) only [push_cast, Nat.reduceEqDiff, reduceCtorEq, ↓reduceIte, Nat.reduceAdd, Nat.reduceMul, Nat.reduceSub, Nat.reduceLT, Nat.reduceLeDiff, Int.reduceToNat, Int.reduceLT, Int.reduceLE, Int.reduceAdd, Int.reduceSub, Int.reduceMul, Int.reduceBEq, Int.reduceBNe, encB, encI, V.cells_mk, V.cells_take, V.cells_len, Nat.mul_one, Int.sub_zero, *]; try omega; done))
        · (first | rfl | assumption | omega | (simp (disch := omega) only [push_cast, Nat.reduceEqDiff, reduceCtorEq, ↓reduceIte, Nat.reduceAdd, Nat.reduceMul, Nat.reduceSub, Nat.reduceLT, Nat.reduceLeDiff, Int.reduceToNat, Int.reduceLT, Int.reduceLE, Int.reduceAdd, Int.reduceSub, Int.reduceMul, Int.reduceBEq, Int.reduceBNe, encB, encI, V.cells_mk, V.cells_take, V.cells_len, Nat.mul_one, Int.sub_zero, *]; try omega; done))
        · (first | rfl | assumption | omega | (simp (disch := omega) only [push_cast, Nat.reduceEqDiff, reduceCtorEq, ↓reduceIte, Nat.reduceAdd, Nat.reduceMul, Nat.reduceSub, Nat.reduceLT, Nat.reduceLeDiff, Int.reduceToNat, Int.reduceLT, Int.reduceLE, Int.reduceAdd, Int.reduceSub, Int.reduceMul, Int.reduceBEq, Int.reduceBNe, encB, encI, V.cells_mk, V.cells_take, V.cells_len, Nat.mul_one, Int.sub_zero, *]; try omega; done))
        · (first | rfl | assumption | omega | (simp (disch := omega) only [push_cast, Nat.reduceEqDiff, reduceCtorEq, ↓reduceIte, Nat.reduceAdd, Nat.reduceMul, Nat.reduceSub, Nat.reduceLT, Nat.reduceLeDiff, Int.reduceToNat, Int.reduceLT, Int.reduceLE, Int.reduceAdd, Int.reduceSub, Int.reduceMul, Int.reduceBEq, Int.reduceBNe, encB, encI, V.cells_mk, V.cells_take, V.cells_len, Nat.mul_one, Int.sub_zero, *]; try omega; done))
        · (first | rfl | assumption | omega | (simp (disch := omega) only [push_cast, Nat.reduceEqDiff, reduceCtorEq, ↓reduceIte, Nat.reduceAdd, Nat.reduceMul, Nat.reduceSub, Nat.reduceLT, Nat.reduceLeDiff, Int.reduceToNat, Int.reduceLT, Int.reduceLE, Int.reduceAdd, Int.reduceSub, Int.reduceMul, Int.reduceBEq, Int.reduceBNe, encB, encI, V.cells_mk, V.cells_take, V.cells_len, Nat.mul_one, Int.sub_zero, *]; try omega; done))
        · rw [htk.out]; simp only [List.map_append, List.map_cons, List.map_nil, V.cells_mk]; (first | rfl | assumption | omega | (simp (disch := omega) only [push_cast, Nat.reduceEqDiff, reduceCtorEq, ↓reduceIte, Nat.reduceAdd, Nat.reduceMul, Nat.reduceSub, Nat.reduceLT, Nat.reduceLeDiff, Int.reduceToNat, Int.reduceLT, Int.reduceLE, Int.reduceAdd, Int.reduceSub, Int.reduceMul, Int.reduceBEq, Int.reduceBNe, encB, encI, V.cells_mk, V.cells_take, V.cells_len, Nat.mul_one, Int.sub_zero, *]; try omega; done))
        · omega
    · rw [List.take_of_length_le (by omega)] at *
      clear IH
      repeat' (first | ((with_reducible apply ev_go); (focus (try simp (disch := omega) only [push_cast, Nat.reduceEqDiff, reduceCtorEq, ↓reduceIte, Nat.reduceAdd, Nat.reduceMul, Nat.reduceSub, Nat.reduceLT, Nat.reduceLeDiff, Int.reduceToNat, Int.reduceLT, Int.reduceLE, Int.reduceAdd, Int.reduceSub, Int.reduceMul, Int.reduceBEq, Int.reduceBNe, encB, encI, V.cells_mk, V.cells_take, V.cells_len, Nat.mul_one, Int.sub_zero, *]); (try exact rfl); done)) | ((with_reducible refine w_last ?_ ?_ ?_); (focus kernel_rfl); (focus rfl)) | ((with_reducible apply w_stepG); (focus rfl)) | ((with_reducible apply lk_mem); (focus ((repeat (first | exact mm_h | apply mm_t)); done))) | with_reducible (first | refine w_step0 ?_ | refine w_nil ?_ | refine gd_tt ?_ | refine gd_ff ?_ | refine gd_tf ?_ | refine gd_ft ?_ | refine gd_un ?_ | refine s_move ?_ | refine s_assign ?_ | refine s_bin ?_ | refine s_un ?_ | refine s_conv ?_ | refine s_field ?_ | refine s_fieldAddr ?_ | refine s_ext ?_ | refine s_pick ?_ | refine s_nil ?_ | refine s_load ?_ | refine lk_ip ?_ | refine lk_ptr ?_ | refine s_index ?_ | refine s_indexAddr ?_ | refine s_slice ?_ | refine s_build ?_ | refine s_buildSlice ?_ | refine s_mk ?_ | refine s_store ?_ | refine s_alloc ?_ | refine s_call ?_ | refine s_ip ?_ | refine s_app ?_ | refine ak_go ?_ | refine s_aps ?_ | refine ap_go ?_ | refine p2_true ?_ | refine tr_seq ?_ | refine tr_block ?_ | refine tr_skip ?_ | refine tr_ret ?_ | refine tr_exit ?_ | refine tr_label ?_ | refine strip_norm ?_ | refine strip_ret ?_ | refine strip_exit ?_ | refine blk_norm ?_ | refine blk_ret ?_ | refine blk_same ?_ | refine tr_condT ?_ | refine tr_condCt ?_ | refine tr_condCf ?_) | ((with_reducible apply sto_go); (focus (intro cs'; repeat (first | exact ra_h | apply ra_t)))) | ((with_reducible refine al_go ?_); intro b) | ((with_reducible refine And.intro ?_ ?_); (focus ((repeat (first | exact keep_none | exact keep_nil | exact keep_ro | refine keep_cons ?_)); done))) | ((with_reducible refine s_bi ?_ ?_); (focus rfl)) | ((with_reducible apply a2_go); (focus (first | assumption | (intro h; cases h))); (focus (intro o'; repeat (first | exact ra_h | apply ra_t))); (focus (first | assumption | exact len_nil | exact len_one rfl | (intro a ha; obtain ⟨x, -, rfl⟩ := List.mem_map.1 ha; first | rfl | simp) | (intro a ha; simp at ha; simp [ha]))); (focus (first | assumption | exact len_nil | exact len_one rfl | (intro a ha; obtain ⟨x, -, rfl⟩ := List.mem_map.1 ha; first | rfl | simp) | (intro a ha; simp at ha; simp [ha]))); (focus (first | omega | (simp only [List.length_map, List.length_cons, List.length_nil, List.length_append]; omega))); (focus (first | omega | (simp only [List.length_map, List.length_cons, List.length_nil, List.length_append]; omega))); intro o' ho') | ((with_reducible apply p2_go); (focus (first | assumption | (intro h; cases h))); (focus (intro o'; repeat (first | exact ra_h | apply ra_t))); (focus (first | assumption | exact len_nil | exact len_one rfl | (intro a ha; obtain ⟨x, -, rfl⟩ := List.mem_map.1 ha; first | rfl | simp) | (intro a ha; simp at ha; simp [ha]))); (focus (first | omega | (simp only [List.length_map, List.length_cons, List.length_nil, List.length_append]; omega))); (focus (first | omega | (simp only [List.length_map, List.length_cons, List.length_nil, List.length_append]; omega))); intro o' ho') | with_reducible refine blk_ne rfl ?_ | ((with_reducible refine w_region ?_ ?_); (focus kernel_rfl)) | ((with_reducible refine w_draw [] ?_ ?_ ?_ ?_ ?_); (iterate 3 (focus kernel_rfl)); (focus exact keeps_nil)) | ((with_reducible first | refine gd_d1 ?_ ?_ | refine gd_d0 ?_ ?_); all_goals (intro hb; (first | with_reducible replace hb := nt_t hb | with_reducible replace hb := nt_f hb | skip); (first | replace hb := dc_t hb | replace hb := dc_f hb | have hb1 := eq_b hb | have hb1 := ne_b hb | have hb1 := bne_t hb | have hb1 := bne_f hb | skip); (try (exfalso; first | contradiction | omega)))))
      all_goals (refine retC_cell (by first | exact .inl rfl | exact .inr rfl) (by first | rfl | assumption) (by simp (disch := omega) only [push_cast, Nat.reduceEqDiff, reduceCtorEq, ↓reduceIte, Nat.reduceAdd, Nat.reduceMul, Nat.reduceSub, Nat.reduceLT, Nat.reduceLeDiff, Int.reduceToNat, Int.reduceLT, Int.reduceLE, Int.reduceAdd, Int.reduceSub, Int.reduceMul, Int.reduceBEq, Int.reduceBNe, encB, encI, V.cells_mk, V.cells_take, V.cells_len, Nat.mul_one, Int.sub_zero, *]; exact rfl) (by repeat (first | exact mm_h | apply mm_t)) (by simp (disch := omega) only [push_cast, Nat.reduceEqDiff, reduceCtorEq, ↓reduceIte, Nat.reduceAdd, Nat.reduceMul, Nat.reduceSub, Nat.reduceLT, Nat.reduceLeDiff, Int.reduceToNat, Int.reduceLT, Int.reduceLE, Int.reduceAdd, Int.reduceSub, Int.reduceMul, Int.reduceBEq, Int.reduceBNe, encB, encI, V.cells_mk, V.cells_take, V.cells_len, Nat.mul_one, Int.sub_zero, *]; exact rfl) (by (try simp (disch := omega) only [push_cast, Nat.reduceEqDiff, reduceCtorEq, ↓reduceIte, Nat.reduceAdd, Nat.reduceMul, Nat.reduceSub, Nat.reduceLT, Nat.reduceLeDiff, Int.reduceToNat, Int.reduceLT, Int.reduceLE, Int.reduceAdd, Int.reduceSub, Int.reduceMul, Int.reduceBEq, Int.reduceBNe, encB, encI, V.cells_mk, V.cells_take, V.cells_len, Nat.mul_one, Int.sub_zero, *]); (try exact rfl); done) (by (repeat (first | exact List.Sublist.refl _ | apply List.Sublist.cons))) ?_ ⟨rfl, rfl⟩; (try simp (disch := omega) only [push_cast, Nat.reduceEqDiff, reduceCtorEq, ↓reduceIte, Nat.reduceAdd, Nat.reduceMul, Nat.reduceSub, Nat.reduceLT, Nat.reduceLeDiff, Int.reduceToNat, Int.reduceLT, Int.reduceLE, Int.reduceAdd, Int.reduceSub, Int.reduceMul, Int.reduceBEq, Int.reduceBNe, encB, encI, V.cells_mk, V.cells_take, V.cells_len, Nat.mul_one, Int.sub_zero, *]); try (first | exact LE.refl _ | exact LE.sl _ _ | (refine LE.tup ?_; (repeat' (first | exact LEL.nil | refine LEL.cons ?_ ?_ | exact LE.refl _ | exact LE.sl _ _ | refine LE.agg ?_)); done) | (refine LE.agg ?_; (repeat' (first | exact LEL.nil | refine LEL.cons ?_ ?_ | exact LE.refl _ | exact LE.sl _ _)); done) | refine LE.of_eq ?_))
end Go.Proofs.Ytgofckmlgkniaaa
end

section
namespace Go.Proofs.Ytgofckmlgkniaaa
set_option linter.unusedSimpArgs false
open Go.RowKit
set_option maxRecDepth 10000
set_option maxHeartbeats 4000000
theorem refInt3F (n : Int) (st : St) : TrF Try.prog 51 [.i n] st fun x st' => x = .agg (V.mk 2 n ⟨#[]⟩ []).cells ∧ st' = st := by

  refine trF_enterC (G := cellA 2 24 Try.prog) Try.func51 rfl (by rw [Try.ntmps51]; exact Nat.le_of_ble_eq_true rfl) (fun h1 h2 h3 => res_cell rfl h1 h2 h3) ?_
  simp only [Try.ntmps51]
  repeat' (first | ((with_reducible apply ev_go); (focus (try simp (disch := omega) only [push_cast, Nat.reduceEqDiff, reduceCtorEq, ↓reduceIte, Nat.reduceAdd, Nat.reduceMul, Nat.reduceSub, Nat.reduceLT, Nat.reduceLeDiff, Int.reduceToNat, Int.reduceLT, Int.reduceLE, Int.reduceAdd, Int.reduceSub, Int.reduceMul, Int.reduceBEq, Int.reduceBNe, encB, encI, V.cells_mk, V.cells_take, V.cells_len, Nat.mul_one, Int.sub_zero, *]); (try exact rfl); done)) | ((with_reducible refine w_last ?_ ?_ ?_); (focus kernel_rfl); (focus rfl)) | ((with_reducible apply w_stepG); (focus rfl)) | ((with_reducible apply lk_mem); (focus ((repeat (first | exact mm_h | apply mm_t)); done))) | with_reducible (first | refine w_step0 ?_ | refine w_nil ?_ | refine gd_tt ?_ | refine gd_ff ?_ | refine gd_tf ?_ | refine gd_ft ?_ | refine gd_un ?_ | refine s_move ?_ | refine s_assign ?_ | refine s_bin ?_ | refine s_un ?_ | refine s_conv ?_ | refine s_field ?_ | refine s_fieldAddr ?_ | refine s_ext ?_ | refine s_pick ?_ | refine s_nil ?_ | refine s_load ?_ | refine lk_ip ?_ | refine lk_ptr ?_ | refine s_index ?_ | refine s_indexAddr ?_ | refine s_slice ?_ | refine s_build ?_ | refine s_buildSlice ?_ | refine s_mk ?_ | refine s_store ?_ | refine s_alloc ?_ | refine s_call ?_ | refine s_ip ?_ | refine tr_seq ?_ | refine tr_block ?_ | refine tr_skip ?_ | refine tr_ret ?_ | refine tr_exit ?_ | refine tr_label ?_ | refine strip_norm ?_ | refine strip_ret ?_ | refine strip_exit ?_ | refine blk_norm ?_ | refine blk_ret ?_ | refine blk_same ?_ | refine tr_condT ?_ | refine tr_condCt ?_ | refine tr_condCf ?_) | ((with_reducible apply sto_go); (focus (intro cs'; repeat (first | exact ra_h | apply ra_t)))) | ((with_reducible refine al_go ?_); intro b) | ((with_reducible refine And.intro ?_ ?_); (focus ((repeat (first | exact keep_none | exact keep_nil | exact keep_ro | refine keep_cons ?_)); done))) | ((with_reducible refine s_bi ?_ ?_); (focus rfl)) | with_reducible refine blk_ne rfl ?_ | ((with_reducible refine w_region ?_ ?_); (focus kernel_rfl)) | ((with_reducible refine w_draw [] ?_ ?_ ?_ ?_ ?_); (iterate 3 (focus kernel_rfl)); (focus exact keeps_nil)) | ((with_reducible first | refine gd_d1 ?_ ?_ | refine gd_d0 ?_ ?_); all_goals (intro hb; (first | with_reducible replace hb := nt_t hb | with_reducible replace hb := nt_f hb | skip); (first | replace hb := dc_t hb | replace hb := dc_f hb | have hb1 := eq_b hb | have hb1 := ne_b hb | have hb1 := bne_t hb | have hb1 := bne_f hb | skip); (try (exfalso; first | contradiction | omega)))))
  all_goals (refine retC_cell (by first | exact .inl rfl | exact .inr rfl) (by first | rfl | assumption) (by simp (disch := omega) only [push_cast, Nat.reduceEqDiff, reduceCtorEq, ↓reduceIte, Nat.reduceAdd, Nat.reduceMul, Nat.reduceSub, Nat.reduceLT, Nat.reduceLeDiff, Int.reduceToNat, Int.reduceLT, Int.reduceLE, Int.reduceAdd, Int.reduceSub, Int.reduceMul, Int.reduceBEq, Int.reduceBNe, encB, encI, V.cells_mk, V.cells_take, V.cells_len, Nat.mul_one, Int.sub_zero, *]; exact rfl) (by repeat (first | exact mm_h | apply mm_t)) (by simp (disch := omega) only [push_cast, Nat.reduceEqDiff, reduceCtorEq, ↓reduceIte, Nat.reduceAdd, Nat.reduceMul, Nat.reduceSub, Nat.reduceLT, Nat.reduceLeDiff, Int.reduceToNat, Int.reduceLT, Int.reduceLE, Int.reduceAdd, Int.reduceSub, Int.reduceMul, Int.reduceBEq, Int.reduceBNe, encB, encI, V.cells_mk, V.cells_take, V.cells_len, Nat.mul_one, Int.sub_zero, *]; exact rfl) (by (try simp (disch := omega) only [push_cast, Nat.reduceEqDiff, reduceCtorEq, ↓reduceIte, Nat.reduceAdd, Nat.reduceMul, Nat.reduceSub, Nat.reduceLT, Nat.reduceLeDiff, Int.reduceToNat, Int.reduceLT, Int.reduceLE, Int.reduceAdd, Int.reduceSub, Int.reduceMul, Int.reduceBEq, Int.reduceBNe, encB, encI, V.cells_mk, V.cells_take, V.cells_len, Nat.mul_one, Int.sub_zero, *]); (try exact rfl); done) (by (repeat (first | exact List.Sublist.refl _ | apply List.Sublist.cons))) ?_ ⟨rfl, rfl⟩; (try simp (disch := omega) only [push_cast, Nat.reduceEqDiff, reduceCtorEq, ↓reduceIte, Nat.reduceAdd, Nat.reduceMul, Nat.reduceSub, Nat.reduceLT, Nat.reduceLeDiff, Int.reduceToNat, Int.reduceLT, Int.reduceLE, Int.reduceAdd, Int.reduceSub, Int.reduceMul, Int.reduceBEq, Int.reduceBNe, encB, encI, V.cells_mk, V.cells_take, V.cells_len, Nat.mul_one, Int.sub_zero, *]); try (first | exact LE.refl _ | exact LE.sl _ _ | (refine LE.tup ?_; (repeat' (first | exact LEL.nil | refine LEL.cons ?_ ?_ | exact LE.refl _ | exact LE.sl _ _ | refine LE.agg ?_)); done) | (refine LE.agg ?_; (repeat' (first | exact LEL.nil | refine LEL.cons ?_ ?_ | exact LE.refl _ | exact LE.sl _ _)); done) | refine LE.of_eq ?_))
def al1 : V := .mk 2 1 ⟨#[]⟩ []
def al2 : V := .mk 3 0 ⟨#[97]⟩ []
def al3 : V := .mk 4 0 ⟨#[98]⟩ []
def al : V := .mk 5 0 ⟨#[]⟩ [al1, al2, al3]
theorem al_cells : al.cells = [.i 5, .i 0, .str ⟨#[]⟩, .sl .shared [[.i 2, .i 1, .str ⟨#[]⟩, .sl .shared []], [.i 3, .i 0, .str ⟨#[97]⟩, .sl .shared []], [.i 4, .i 0, .str ⟨#[98]⟩, .sl .shared []]]] := by
  unfold al al1 al2 al3
  simp only [V.cells_mk, List.map_cons, List.map_nil]
theorem al_right : al.right = true := by decide +kernel
theorem al_nodes : al.nodes = 4 := by decide +kernel
theorem al_deep : al.deep = 1 := by decide +kernel
theorem al_cmp : al.cmp al = 0 := by decide +kernel
theorem al_text : al.text = [91, 49, 32, 39, 97, 32, 34, 98, 34, 93] := by
  have h1 : al1.text = [49] := by
    rw [al1, V.text, if_neg (by decide), if_neg (by decide), if_pos rfl, printL, magn, if_neg (by decide), if_neg (by decide), digs_lt (by decide)]
    rfl
  have h2 : al2.text = [39, 97] := by
    rw [al2, V.text, if_neg (by decide), if_neg (by decide), if_neg (by decide), if_pos rfl]
  have h3 : al3.text = [34, 98, 34] := by
    rw [al3, V.text, if_neg (by decide), if_neg (by decide), if_neg (by decide), if_neg (by decide), if_pos rfl]
    rfl
  rw [al, V.text, if_neg (by decide), if_neg (by decide), if_neg (by decide), if_neg (by decide), if_neg (by decide), if_pos rfl, V.textL_map, List.map_cons, List.map_cons, List.map_cons, List.map_nil, h1, h2, h3]
  rfl
theorem al_ok : al.Ok := by
  have hz : ∀ x ∈ ([] : List V), V.Ok x := fun x h => by cases h
  refine .mk (by omega) (by omega) (Nat.zero_le _) (by unfold maxLen; simp) fun x h => ?_
  simp only [List.mem_cons, List.not_mem_nil, or_false] at h
  rcases h with rfl | rfl | rfl
  · exact .mk (by omega) (by omega) (Nat.zero_le _) (Nat.zero_le _) hz
  · exact .mk (by omega) (by omega) (by unfold maxLen; decide) (Nat.zero_le _) hz
  · exact .mk (by omega) (by omega) (by unfold maxLen; decide) (Nat.zero_le _) hz
theorem al_wt : al.wt ≤ 140737488355328 := by
  have : al.wt = 104 := by decide +kernel
  omega
def al6 : V := .mk 6 0 ⟨#[]⟩ []
theorem al6_right : al6.right = false := by decide +kernel
def n2 : V := .mk 2 2 ⟨#[]⟩ []
def n10 : V := .mk 2 10 ⟨#[]⟩ []
theorem n_cmp : n2.cmp n10 = -1 := by decide +kernel
theorem w_drawR {P : Program} {N : Nat} {r : Option Nat} {A : AA} {st : St} {Q : Exit → AA → St → Prop} {l : List Oper} {id : Nat} (hm : P.follows .mixedOrders = true) (hB : mixBA .any l.toArray = true) (hok : opsOk N l = true) (h : W P r (some (roOf st)) l.toArray (Q .normal) l A st) : Tr P N r (.region id l.toArray true) A st Q := w_draw (roOf st) hm hB hok (keeps_roOf st) h
theorem val03AliveF (st : St) : TrF Try.prog 41 [] st fun x st' => x = .b true ∧ st' = st := by
  have h1 := valRightF al (by rw [al_nodes]; omega)
  rw [al_right, al_cells] at h1
  replace h1 := Lib.hid h1
  have h2 := valRightF al6 (by have : al6.nodes = 1 := (by decide +kernel); omega)
  rw [al6_right, al6, V.cells_mk, List.map_nil] at h2
  replace h2 := Lib.hid h2
  have h3 := valTextF 4 al (by rw [al_nodes]; omega) al_ok al_wt
  rw [al_text, al_cells] at h3
  replace h3 := Lib.hid h3
  have h4 := valDeepF 4 al (by rw [al_nodes]; omega) (by rw [al_nodes]; omega)
  rw [al_deep, al_cells] at h4
  replace h4 := Lib.hid h4
  have h5 := valNodesF 4 al (by rw [al_nodes]; omega) (by rw [al_nodes]; omega)
  rw [al_nodes, al_cells] at h5
  replace h5 := Lib.hid h5
  have i2 := refInt3F 2
  have i10 := refInt3F 10
  rw [V.cells_mk, List.map_nil] at i2 i10
  replace i2 := Lib.hid i2
  replace i10 := Lib.hid i10
  have hz : ∀ x ∈ ([] : List V), V.Sm x := fun x h => by cases h
  have hsm : ∀ n, V.Sm (.mk 2 n ⟨#[]⟩ []) := fun n => .mk (Nat.zero_le _) (Nat.zero_le _) hz
  have h6 := valCompareF 1 n2 n10 (by decide +kernel) (hsm 2) (hsm 10)
  rw [n_cmp, n2, n10, V.cells_mk, V.cells_mk, List.map_nil] at h6
  replace h6 := Lib.hid h6
  have h7 := valCopyF 4 al (by rw [al_nodes]; omega) (by rw [al_nodes]; omega)
  rw [al_cells] at h7
  replace h7 := Lib.hid h7
  have hals : V.Sm al := by
    refine .mk (Nat.zero_le _) (by decide) fun x h => ?_
    simp only [List.mem_cons, List.not_mem_nil, or_false] at h
    rcases h with rfl | rfl | rfl
    · exact .mk (Nat.zero_le _) (Nat.zero_le _) hz
    · exact .mk (by decide) (Nat.zero_le _) hz
    · exact .mk (by decide) (Nat.zero_le _) hz
  have h8 := valSameF al al hals hals
  rw [al_cmp, al_cells] at h8
  replace h8 := Lib.hid h8
  have h9 := valIsNameF ⟨#[97, 45, 49]⟩
  rw [show V.isName (⟨#[97, 45, 49]⟩ : ByteArray).data.toList = true by decide +kernel] at h9
  replace h9 := Lib.hid h9
  refine trF_enter (ts := [0]) Try.func41 rfl (by rw [Try.ntmps41]; exact Nat.le_of_ble_eq_true rfl) (fun tmps w => by simp [results, Try.results41, go_sem, resVal]) ?_
  simp only [Try.ntmps41]
  repeat' (first | ((with_reducible refine w_drawR ?_ ?_ ?_ ?_); (iterate 3 (focus kernel_rfl))) | ((with_reducible apply ev_go); (focus (try simp (disch := omega) only [push_cast, Nat.reduceEqDiff, reduceCtorEq, ↓reduceIte, Nat.reduceAdd, Nat.reduceMul, Nat.reduceSub, Nat.reduceLT, Nat.reduceLeDiff, Int.reduceToNat, Int.reduceLT, Int.reduceLE, Int.reduceAdd, Int.reduceSub, Int.reduceMul, Int.reduceBEq, Int.reduceBNe, encB, encI, V.cells_mk, V.cells_take, V.cells_len, Nat.mul_one, Int.sub_zero, *]); (try exact rfl); done)) | ((with_reducible refine w_last ?_ ?_ ?_); (focus kernel_rfl); (focus rfl)) | ((with_reducible apply w_stepG); (focus rfl)) | ((with_reducible apply lk_mem); (focus ((repeat (first | exact mm_h | apply mm_t)); done))) | with_reducible (first | refine w_step0 ?_ | refine w_nil ?_ | refine gd_tt ?_ | refine gd_ff ?_ | refine gd_tf ?_ | refine gd_ft ?_ | refine gd_un ?_ | refine s_move ?_ | refine s_assign ?_ | refine s_bin ?_ | refine s_un ?_ | refine s_conv ?_ | refine s_field ?_ | refine s_fieldAddr ?_ | refine s_ext ?_ | refine s_pick ?_ | refine s_nil ?_ | refine s_load ?_ | refine lk_ip ?_ | refine lk_ptr ?_ | refine s_index ?_ | refine s_indexAddr ?_ | refine s_slice ?_ | refine s_build ?_ | refine s_buildSlice ?_ | refine s_mk ?_ | refine s_store ?_ | refine s_alloc ?_ | refine s_call ?_ | refine s_ip ?_ | refine tr_seq ?_ | refine tr_block ?_ | refine tr_skip ?_ | refine tr_ret ?_ | refine tr_exit ?_ | refine tr_label ?_ | refine strip_norm ?_ | refine strip_ret ?_ | refine strip_exit ?_ | refine blk_norm ?_ | refine blk_ret ?_ | refine blk_same ?_ | refine tr_condT ?_ | refine tr_condCt ?_ | refine tr_condCf ?_) | ((with_reducible apply sto_go); (focus (intro cs'; repeat (first | exact ra_h | apply ra_t)))) | ((with_reducible refine al_go ?_); intro b) | ((with_reducible refine And.intro ?_ ?_); (focus ((repeat (first | exact keep_none | exact keep_nil | exact keep_ro | refine keep_cons ?_)); done))) | ((with_reducible apply (ck_le Try.call42)); (focus exact LEL.refl _); (focus exact h1.out _)) | ((with_reducible apply (ck_el Try.call42)); (focus exact h2.out _); (focus ((repeat' (first | exact LEL.nil | refine LEL.cons ?_ ?_ | exact LE.refl _ | exact LE.sl _ _ | refine LE.agg ?_)); done))) | ((with_reducible apply (ck_le Try.call43)); (focus exact LEL.refl _); (focus exact h3.out _)) | ((with_reducible apply (ck_le Try.call46)); (focus exact LEL.refl _); (focus exact h4.out _)) | ((with_reducible apply (ck_le Try.call47)); (focus exact LEL.refl _); (focus exact h5.out _)) | ((with_reducible apply (ck_le Try.call51)); (focus exact LEL.refl _); (focus exact i2.out _)) | ((with_reducible apply (ck_le Try.call51)); (focus exact LEL.refl _); (focus exact i10.out _)) | ((with_reducible apply (ck_le Try.call48)); (focus exact LEL.refl _); (focus exact h6.out _)) | ((with_reducible apply (ck_le Try.call45)); (focus exact LEL.refl _); (focus exact h7.out _)) | ((with_reducible apply (ck_le Try.call44)); (focus exact LEL.refl _); (focus exact h8.out _)) | ((with_reducible apply (ck_le Try.call49)); (focus exact LEL.refl _); (focus exact h9.out _)) | ((with_reducible refine s_bi ?_ ?_); (focus rfl)) | with_reducible refine blk_ne rfl ?_ | ((with_reducible refine w_region ?_ ?_); (focus kernel_rfl)) | ((with_reducible refine w_draw (roOf _) ?_ ?_ ?_ ?_ ?_); (iterate 3 (focus kernel_rfl)); (focus exact keeps_roOf _)) | ((with_reducible first | refine gd_d1 ?_ ?_ | refine gd_d0 ?_ ?_); all_goals (intro hb; (first | with_reducible replace hb := nt_t hb | with_reducible replace hb := nt_f hb | skip); (first | replace hb := dc_t hb | replace hb := dc_f hb | have hb1 := eq_b hb | have hb1 := ne_b hb | have hb1 := bne_t hb | have hb1 := bne_f hb | skip); (try (exfalso; first | contradiction | omega)))))
  all_goals (refine ret_eq (by first | exact .inl rfl | exact .inr rfl) (by first | rfl | assumption) (by (repeat (first | exact List.Sublist.refl _ | apply List.Sublist.cons))) ?_; (try simp (disch := omega) only [push_cast, Nat.reduceEqDiff, reduceCtorEq, ↓reduceIte, Nat.reduceAdd, Nat.reduceMul, Nat.reduceSub, Nat.reduceLT, Nat.reduceLeDiff, Int.reduceToNat, Int.reduceLT, Int.reduceLE, Int.reduceAdd, Int.reduceSub, Int.reduceMul, Int.reduceBEq, Int.reduceBNe, encB, encI, V.cells_mk, V.cells_take, V.cells_len, Nat.mul_one, Int.sub_zero, *]); try (first | exact LE.refl _ | exact LE.sl _ _ | (refine LE.tup ?_; (repeat' (first | exact LEL.nil | refine LEL.cons ?_ ?_ | exact LE.refl _ | exact LE.sl _ _ | refine LE.agg ?_)); done) | (refine LE.agg ?_; (repeat' (first | exact LEL.nil | refine LEL.cons ?_ ?_ | exact LE.refl _ | exact LE.sl _ _)); done) | refine LE.of_eq ?_))
end Go.Proofs.Ytgofckmlgkniaaa
end

section
namespace Go.Proofs.Ytgofckmlgkniaaa
set_option linter.unusedSimpArgs false
open Go.RowKit
namespace V
theorem cmpB_self : ∀ l : List UInt8, cmpB l l = 0
  | [] => rfl
  | x :: l => by rw [cmpB, sgn_self, if_pos rfl, cmpB_self l]
theorem ors_all {a b c d : Int} : ors [a, b, c, d] = 0 ↔ a = 0 ∧ b = 0 ∧ c = 0 ∧ d = 0 := by
  unfold ors ors ors ors ors
  constructor
  · intro h
    by_cases ha : a = 0
    · rw [if_pos ha] at h
      by_cases hb : b = 0
      · rw [if_pos hb] at h
        by_cases hc : c = 0
        · rw [if_pos hc] at h
          by_cases hd : d = 0
          · exact ⟨ha, hb, hc, hd⟩
          · rw [if_neg hd] at h; exact absurd h hd
        · rw [if_neg hc] at h; exact absurd h hc
      · rw [if_neg hb] at h; exact absurd h hb
    · rw [if_neg ha] at h; exact absurd h ha
  · rintro ⟨rfl, rfl, rfl, rfl⟩; rfl
mutual
theorem cmp_self : ∀ v : V, v.cmp v = 0
  | .mk k n s l => by rw [cmp, ors_all]; exact ⟨sgn_self k, sgn_self n, cmpB_self _, cmpL_self l⟩
theorem cmpL_self : ∀ l : List V, cmpL l l = 0
  | [] => by rw [cmpL]
  | x :: l => by rw [cmpL, cmp_self x, if_pos rfl, cmpL_self l]
end
theorem cmpB_eq : ∀ a b : List UInt8, cmpB a b = 0 → a = b
  | [], [], _ => rfl
  | [], _ :: _, h => by rw [cmpB] at h; omega
  | _ :: _, [], h => by rw [cmpB] at h; omega
  | x :: a, y :: b, h => by
    rw [cmpB] at h
    split at h
    · rename_i h0
      have hxy : x.toNat = y.toNat := by have := sgn_zero.1 h0; omega
      rw [UInt8.toNat_inj.1 hxy, cmpB_eq a b h]
    · rename_i h0; exact absurd h h0
mutual
theorem cmp_eq : ∀ a b : V, a.cmp b = 0 → a = b
  | .mk k n s l, .mk k' n' s' l', h => by
    rw [cmp, ors_all] at h
    obtain ⟨h1, h2, h3, h4⟩ := h
    have hs : s = s' := by
      apply ByteArray.ext
      apply Array.ext'
      exact cmpB_eq _ _ h3
    rw [sgn_zero.1 h1, sgn_zero.1 h2, hs, cmpL_eq l l' h4]
theorem cmpL_eq : ∀ a b : List V, cmpL a b = 0 → a = b
  | [], [], _ => rfl
  | [], _ :: _, h => by rw [cmpL] at h; omega
  | _ :: _, [], h => by rw [cmpL] at h; omega
  | x :: a, y :: b, h => by
    rw [cmpL] at h
    split at h
    · rename_i h0
      rw [cmp_eq x y h0, cmpL_eq a b h]
    · rename_i h0; exact absurd h h0
end
end V
end Go.Proofs.Ytgofckmlgkniaaa
end

section
namespace Go.Proofs.Ytgofckmlgkniaaa
set_option linter.unusedSimpArgs false
open Go.RowKit
set_option maxRecDepth 10000
set_option maxHeartbeats 4000000
namespace B
def be : Nat → Nat → List UInt8
  | 0, _ => []
  | m + 1, x => UInt8.ofNat (x / 256 ^ m) :: be m x
theorem be_len : ∀ m x, (be m x).length = m
  | 0, _ => rfl
  | m + 1, x => by rw [be, List.length_cons, be_len m x]
end B
namespace B
def tx (l : List UInt8) : List UInt8 := be 4 l.length ++ l
end B
end Go.Proofs.Ytgofckmlgkniaaa
end

section
namespace Go.Proofs.Ytgofckmlgkniaaa
set_option linter.unusedSimpArgs false
open Go.RowKit B
set_option maxRecDepth 10000
set_option maxHeartbeats 4000000
namespace V
mutual
def put : V → List UInt8
  | .mk k n s l => UInt8.ofNat k.toNat :: (if k = 1 then [UInt8.ofNat n.toNat] else if k = 2 then be 8 (IntKind.u64.wrap n).toNat else if k = 3 ∨ k = 4 then tx s.data.toList else if k = 5 then be 4 l.length ++ putL l else [])
def putL : List V → List UInt8
  | [] => []
  | x :: l => x.put ++ putL l
end
theorem sgl_facts {k n : Int} {s : ByteArray} {len : Nat} (h : sgl k n s len = true) : 0 ≤ k ∧ k ≤ 5 ∧ (k ≠ 2 → 0 ≤ n ∧ n ≤ 1) ∧ s.size ≤ 200 ∧ (k ≠ 3 ∧ k ≠ 4 → s.size = 0) ∧ (k = 5 → len ≤ 20) := by
  unfold sgl at h
  by_cases k0 : k = 0
  · subst k0; simp at h; obtain ⟨h1, h2⟩ := h; subst h2; simp; omega
  by_cases k1 : k = 1
  · subst k1; simp at h; obtain ⟨h1, h2⟩ := h; subst h2; simp; omega
  by_cases k2 : k = 2
  · subst k2; simp at h; subst h; simp
  by_cases k3 : k = 3
  · subst k3
    simp at h
    have := h.2
    unfold isName at this
    simp at this
    simp; omega
  by_cases k4 : k = 4
  · subst k4; simp at h; simp; omega
  by_cases k5 : k = 5
  · subst k5; simp at h; obtain ⟨h1, h2, h3⟩ := h; subst h2; simp; omega
  simp [k0, k1, k2, k3, k4, k5] at h
theorem parts_facts {k n : Int} {s : ByteArray} {l : List V} (h : (V.mk k n s l).parts = true) : sgl k n s l.length = true ∧ (k = 5 ∨ l = []) ∧ ∀ x ∈ l, x.parts = true := by
  rw [parts] at h
  simp only [Bool.and_eq_true, Bool.or_eq_true, decide_eq_true_eq] at h
  obtain ⟨⟨h1, h2⟩, h3⟩ := h
  refine ⟨h1, h2.imp id List.eq_nil_of_length_eq_zero, ?_⟩
  rw [partsL_all] at h3
  exact List.all_eq_true.1 h3
mutual
theorem put_le : ∀ v : V, v.parts = true → v.put.length ≤ 205 * v.nodes
  | .mk k n s l, h => by
    obtain ⟨h1, h2, h3⟩ := parts_facts h
    obtain ⟨f1, f2, f3, f4, f5, f6⟩ := sgl_facts h1
    have h4 := putL_le l h3
    have h5 : (tx s.data.toList).length = 4 + s.size := by unfold tx; rw [List.length_append, be_len]; simp
    rw [put, nodes, List.length_cons]
    split
    · simp; omega
    split
    · rw [be_len]; omega
    split
    · rw [h5]; omega
    split
    · rw [List.length_append, be_len]; omega
    · simp; omega
theorem putL_le : ∀ l : List V, (∀ x ∈ l, x.parts = true) → (putL l).length ≤ 205 * nodesL l
  | [], _ => by simp [putL]
  | x :: l, h => by
    have := put_le x (h x (List.mem_cons_self ..))
    have := putL_le l fun y hy => h y (List.mem_cons_of_mem _ hy)
    rw [putL, nodesL, List.length_append]; omega
end
end V
end Go.Proofs.Ytgofckmlgkniaaa
end

section
namespace Go.Proofs.Ytgofckmlgkniaaa
set_option linter.unusedSimpArgs false
open Go.RowKit

def RoundC (P : Program) (l : Nat) (args : List D) (st : St) (R : D → St → Prop) : Prop :=
  ∀ (vs : Array Value) w, RepL (OwnS st) w vs.toList args → Holds st w → YieldAt (FR none) 0 P l vs w fun e w' => ∃ v, e = .returned v ∧ PostV st w R v w'
theorem yield_mono {F : Fence} {m : Nat} {P : Program} {l : Nat} {args : Array Value} {W : World} {R R' : Ending → World → Prop} (h : YieldAt F m P l args W R) (hr : ∀ e w, R e w → R' e w) : YieldAt F m P l args W R' := by
  obtain ⟨fn, t, a, b, h1, h2⟩ := h
  exact ⟨fn, t, a, b, h1, h2.mono hr⟩
theorem RoundC.perm {P : Program} {l : Nat} {args : List D} {st st1 : St} {R R' : D → St → Prop} (hp : st.Perm st1) (h : RoundC P l args st1 R) (hR : ∀ d s, R d s → ∃ s', s'.Perm s ∧ R' d s') : RoundC P l args st R' := by
  intro vs w h1 h2
  have e := OwnS.perm hp
  refine yield_mono (h vs w (by rw [← e]; exact h1) (h2.perm hp)) fun _ _ ⟨v, ev, d, s, k1, k2, k3, k4⟩ => ?_
  obtain ⟨s', q1, q2⟩ := hR d s k4
  have e' := OwnS.perm q1
  exact ⟨v, ev, d, s', by rw [e']; exact k1, k2.perm q1.symm, by rw [e, e']; exact k3, q2⟩
theorem RoundC.le {P : Program} {l : Nat} {args args' : List D} {st : St} {R : D → St → Prop} (h : RoundC P l args' st R) (hl : LEL args args') : RoundC P l args st R := fun vs w h1 h2 => h vs w (hl.repL h1) h2
def Yields (P : Program) (l : Nat) {X : Type} (args : X → List D) (L : List X) (J Jx : Nat → St → Prop) : Prop :=
  (∀ i, i ≤ L.length → ∃ C, J i C) ∧ ∀ (i : Nat) (x : X) (C K : St), L[i]? = some x → J i C → RoundC P l (args x) (C ++ K) fun d st' => ∃ C', st' = C' ++ K ∧ ((d = .s (.bool true) ∧ J (i + 1) C') ∨ (d = .s (.bool false) ∧ Jx (i + 1) C'))
def IterC (P : Program) (g : FuncId) (caps : List D) {X : Type} (args : X → List D) (L : List X) (K0 : St) (Kend : St → Prop) (Kstop : Nat → St → Prop) : Prop :=
  ∀ (l : Nat) (C : St) (J Jx : Nat → St → Prop), Yields P l args L J Jx → J 0 C → TrF P g (.fn (.yield l) [] [] :: caps) (K0 ++ C) fun _ st' => ∃ K1 C', st' = K1 ++ C' ∧ ((Kend K1 ∧ J L.length C') ∨ ∃ i, Kstop i K1 ∧ Jx i C')
section
variable {P : Program} {N : Nat} {r : Option Nat} {A : AA} {st : St} {w : World} {Q : Exit → AA → St → Prop} {m : Option Ro} {k : D → St → Prop} {dst : Option Tmp} {ty : TypeId} {pos : String} {aft : Array Edge} {gd : Option (Nat × Bool)} {o : Oper}
theorem Holds.know (h : Holds st w) {f : Nat → Value} {e : Nat → D} (hk : ∀ t, Rep (OwnS st) w (f t) (e t)) : Holds (.know f e :: st) w ∧ Ext (OwnS st) w (OwnS (.know f e :: st)) w := by
  have he : Ext (OwnS st) w (OwnS (.know f e :: st)) w := (Ext.refl _ w).less fun b off ho => (OwnS.cons_iff.1 ho).elim (fun x => by cases x.1) id
  exact ⟨h.push he (fun _ _ _ _ => rfl) (fun t => (hk t).ext he) (fun x _ b e => by cases e), he⟩
def setA : AA → List Tmp → List D → AA
  | A, p :: ps, d :: ds => setA (A.put (some p) d) ps ds
  | A, _, _ => A
def roundQ (K : St) (i : Nat) (J : Nat → St → Prop) (Jx : Code → Nat → St → Prop) : Exit → AA → St → Prop
  | .normal, _, st' => ∃ C', (C' ++ K).Sublist st' ∧ J i C'
  | .ret, _, st' => ∃ C', (C' ++ K).Sublist st' ∧ Jx .ret i C'
  | .exit id, _, st' => ∃ C', (C' ++ K).Sublist st' ∧ Jx (.exit id) i C'
  | .goto t, _, st' => ∃ C', (C' ++ K).Sublist st' ∧ Jx (.goto t) i C'
  | _, _, _ => False
abbrev lrec (fn : FuncId) (tmps : Array Value) (ps : Array Tmp) (assign body : Code) (d : Nat) (s : LoopState) (pe : Option Code) : Loop := { state := s, pending := pe, fn, tmps, params := ps, assign, body, defers := d }
end
theorem keep_more {b : Nat} {ty : TypeId} {cs : List D} {ro : Ro} {st : St} (h : Res.box b ty cs ∈ st) (k : Keep (some ro) st) : Keep (some ((b, cs) :: ro)) st := fun b' cs' hl => by
  rw [List.lookup_cons] at hl
  split at hl
  · rename_i he
    cases hl
    have : b' = b := eq_of_beq he
    subst this
    exact ⟨ty, h⟩
  · exact k b' cs' hl
inductive At2 (a b a' b' : Res) : St → St → Prop
  | here {s : St} : At2 a b a' b' (a :: b :: s) (a' :: b' :: s)
  | there {x : Res} {s s' : St} (h : At2 a b a' b' s s') : At2 a b a' b' (x :: s) (x :: s')
theorem At2.perm {a b a' b' : Res} {s s' : St} (h : At2 a b a' b' s s') : ∃ s0, s.Perm (a :: b :: s0) ∧ s'.Perm (a' :: b' :: s0) := by
  induction h with
  | here => exact ⟨_, .refl _, .refl _⟩
  | there h ih =>
    obtain ⟨s0, h1, h2⟩ := ih
    exact ⟨_, (h1.cons _).trans ((List.Perm.swap _ _ _).trans (.cons _ (.swap _ _ _))), (h2.cons _).trans ((List.Perm.swap _ _ _).trans (.cons _ (.swap _ _ _)))⟩
end Go.Proofs.Ytgofckmlgkniaaa
end

section
namespace Go.Proofs.Ytgofckmlgkniaaa
set_option linter.unusedSimpArgs false
open Go.RowKit
section
variable {P : Program} {r : Option Nat} {ro : Ro} {st : St}
structure SameOp (o1 o2 : Oper) : Prop where
  dst : o1.dst = o2.dst
  op : o1.op = o2.op
  type : o1.type = o2.type
  pos : o1.pos = o2.pos
  guard : o1.guard = o2.guard
theorem SameOp.refl (o : Oper) : SameOp o o := ⟨rfl, rfl, rfl, rfl, rfl⟩
theorem SameOp.symm {o1 o2 : Oper} (h : SameOp o1 o2) : SameOp o2 o1 := ⟨h.dst.symm, h.op.symm, h.type.symm, h.pos.symm, h.guard.symm⟩
theorem SameOp.free {o1 o2 : Oper} (h : SameOp o1 o2) : freeA o1 = freeA o2 := by unfold freeA; rw [h.op]
theorem SameOp.wanted {ops1 ops2 : Array Oper} {o1 o2 : Oper} (h : SameOp o1 o2) (hd : ∀ j : Nat, (ops1[j]?).bind (fun o : Oper => o.dst) = (ops2[j]?).bind (fun o : Oper => o.dst)) (e : Nat → D) : wantedA ops1 o1 e = wantedA ops2 o2 e := by
  unfold wantedA
  rw [h.guard]
  cases o2.guard with
  | none => rfl
  | some q => obtain ⟨j, b⟩ := q; dsimp only; rw [hd j]
theorem SameOp.frC {o1 o2 : Oper} (h : SameOp o1 o2) (e : Nat → D) : frC P ro o1 e = frC P ro o2 e := by
  obtain ⟨d1, p1, t1, s1, a1, g1⟩ := o1
  obtain ⟨d2, p2, t2, s2, a2, g2⟩ := o2
  obtain ⟨e1, e2, e3, e4, e5⟩ := h
  dsimp only at e1 e2 e3 e4 e5
  subst e1 e2 e3 e4 e5
  rfl
theorem SameOp.opC {o1 o2 : Oper} (h : SameOp o1 o2) {e : Nat → D} {K : D → St → Prop} (hh : OpC P r o1 e st K) : OpC P r o2 e st K := by
  obtain ⟨d1, p1, t1, s1, a1, g1⟩ := o1
  obtain ⟨d2, p2, t2, s2, a2, g2⟩ := o2
  obtain ⟨e1, e2, e3, e4, e5⟩ := h
  dsimp only at e1 e2 e3 e4 e5
  subst e1 e2 e3 e4 e5
  exact hh
def addE : List Oper → Nat → Nat → List Oper
  | [], _, _ => []
  | o :: l, 0, j => { o with after := o.after.push ⟨j, .data⟩ } :: l
  | o :: l, i + 1, j => o :: addE l i j
def freeB (l : List Oper) (a c : Nat) : Bool := (List.range l.length).all fun i => i == a || i == c || match l[i]? with
  | some o => freeA o || o.after.any (fun e => Region.binds .any e && (e.on == a || e.on == c))
  | none => true
def wpOrdA (P : Program) (r : Option Nat) (ro : Ro) (ops : Array Oper) (Q : AA → St → Prop) : List Nat → AA → St → Prop
  | [], A, st => Q A st
  | k :: ks, A, st => ∀ o, ops[k]? = some o → mOpA P r ro (ks.isEmpty && lastAll ops) ops o (wpOrdA P r ro ops Q ks) A st
def mixOrdA (ms : List Nat) (ops : Array Oper) : List Nat → Array Bool → Bool
  | [], listed => (Region.ready .any ops listed).isEmpty
  | k :: ks, listed => (Region.ready .any ops listed).contains k && mixFreeA ms ops listed k && (!ks.isEmpty || k + 1 == ops.size) && mixOrdA ms ops ks (listed.setIfInBounds k true)
def ixs : Nat → Nat → Option Nat → List Nat
  | 0, _, _ => []
  | n + 1, k, some 0 => ixs n (k + 1) none
  | n + 1, k, some (a + 1) => k :: ixs n (k + 1) (some a)
  | n + 1, k, none => k :: ixs n (k + 1) none
def twoB (l : List Oper) (a c : Nat) : Bool :=
  a != c && freeB l a c && decide (a < l.length) && (lastAll (addE l a c).toArray == lastAll l.toArray) && (lastAll (addE l c a).toArray == lastAll l.toArray) &&
  mixOrdA (masks .any (addE l a c) []) (addE l a c).toArray (ixs l.length 0 none) (Array.replicate l.length false) &&
  mixOrdA (masks .any (addE l c a) []) (addE l c a).toArray (a :: ixs l.length 0 (some a)) (Array.replicate l.length false)
end
end Go.Proofs.Ytgofckmlgkniaaa
end

section
namespace Go.Proofs.Ytgofckmlgkniaaa
set_option linter.unusedSimpArgs false
open Go.RowKit
end Go.Proofs.Ytgofckmlgkniaaa
end

section
namespace Go.Proofs.Ytgofckmlgkniaaa
set_option linter.unusedSimpArgs false
open Go.RowKit
set_option maxRecDepth 10000
set_option maxHeartbeats 4000000
namespace V
theorem parts_sm : ∀ (N : Nat) (v : V), v.nodes ≤ N → v.parts = true → v.Sm
  | 0, v, h, _ => by have := v.nodes_pos; omega
  | N + 1, .mk k n s l, hN, hp => by
    obtain ⟨h1, h2, h3⟩ := parts_facts hp
    obtain ⟨-, -, -, f4, -, f6⟩ := sgl_facts h1
    refine .mk (by omega) ?_ fun x hx => parts_sm N x (by have := nodes_lt (k := k) (n := n) (s := s) hx; omega) (h3 x hx)
    rcases h2 with h | h
    · have := f6 h; omega
    · simp [h]
end V
theorem w_draw_ne {P : Program} {N : Nat} {r : Option Nat} {A : AA} {b b' : Nat} {ty ty' : TypeId} {cs cs' : List D} {s : St} {Q : Exit → AA → St → Prop} {l : List Oper} {id : Nat} (hm : P.follows .mixedOrders = true) (hB : mixBA .any l.toArray = true) (hok : opsOk N l = true)
    (h : (b == b') = false → (b' == b) = false → W P r (some (roOf (.box b ty cs :: .box b' ty' cs' :: s))) l.toArray (Q .normal) l A (.box b ty cs :: .box b' ty' cs' :: s)) : Tr P N r (.region id l.toArray true) A (.box b ty cs :: .box b' ty' cs' :: s) Q := by
  intro a w ha hh
  have hne : b ≠ b' := fun e => by
    have := (List.pairwise_cons.1 hh.1).1 (.box b' ty' cs') (List.Mem.head _) b rfl
    exact this (by rw [e]; rfl)
  exact w_draw _ hm hB hok (keeps_roOf _) (h (beq_eq_false_iff_ne.2 hne) (beq_eq_false_iff_ne.2 hne.symm)) a w ha hh
end Go.Proofs.Ytgofckmlgkniaaa
end
