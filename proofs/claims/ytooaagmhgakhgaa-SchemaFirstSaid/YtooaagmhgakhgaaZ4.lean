/- Texts put together: Val03j, Val03k, Sch, RefInts, Slices, SchA, SchB, AmRange, SchC, SchD, SchE, SchF, SchG. No statement is proved here. -/
import Derived.Test.YtooaagmhgakhgaaProg
import Derived.Deep.QuietTactic
import Derived.BigQuiet
import Derived.Test.YtooaagmhgakhgaaShelf
import Derived.RangeFuncIn
import Derived.RangeFuncLeaves
import Derived.RangeFuncSeq
import Derived.Test.YtooaagmhgakhgaaZ3
set_option linter.all false
section
namespace Go.Proofs.Ytooaagmhgakhgaa
set_option linter.unusedSimpArgs false
open Go.RowKit
set_option maxRecDepth 10000
set_option maxHeartbeats 4000000
namespace V
def sgn (a b : Int) : Int := if a < b then -1 else if b < a then 1 else 0
def ors : List Int → Int
  | [] => 0
  | x :: l => if x = 0 then ors l else x
def cmpB : List UInt8 → List UInt8 → Int
  | [], [] => 0
  | [], _ :: _ => -1
  | _ :: _, [] => 1
  | x :: a, y :: b => if sgn x.toNat y.toNat = 0 then cmpB a b else sgn x.toNat y.toNat
theorem cmpB_end (a b : List UInt8) (i : Nat) (ha : i ≤ a.length) (hb : i ≤ b.length) (h : i = a.length ∨ i = b.length) : cmpB (a.drop i) (b.drop i) = sgn a.length b.length := by
  have h1 : (a.drop i).length = a.length - i := List.length_drop
  have h2 : (b.drop i).length = b.length - i := List.length_drop
  cases hx : a.drop i with
  | nil =>
    rw [hx] at h1
    cases hy : b.drop i with
    | nil => rw [hy] at h2; simp at h1 h2; rw [cmpB, sgn, if_neg (by omega), if_neg (by omega)]
    | cons y t => rw [hy] at h2; simp at h1 h2; rw [cmpB, sgn, if_pos (by omega)]
  | cons x s =>
    rw [hx] at h1
    cases hy : b.drop i with
    | nil => rw [hy] at h2; simp at h1 h2; rw [cmpB, sgn, if_neg (by omega), if_pos (by omega)]
    | cons y t => rw [hy] at h2; simp at h1 h2; omega
end V
theorem nanIF (a : Int) (st : St) : TrF Try.prog 118 [.i a] st fun x st' => x = .b false ∧ st' = st := by
  refine trF_enter (ts := [2]) Try.func118 rfl (by rw [Try.ntmps118]; exact Nat.le_of_ble_eq_true rfl) (fun tmps w => by simp [results, Try.results118, go_sem, resVal]) ?_
  simp only [Try.ntmps118]
  repeat' (first | with_reducible refine Go1.go ?_ | ((with_reducible apply ev_go); (focus (try simp (disch := omega) only [push_cast, Nat.reduceEqDiff, reduceCtorEq, ↓reduceIte, Nat.reduceAdd, Nat.reduceMul, Nat.reduceSub, Nat.reduceLT, Nat.reduceLeDiff, Int.reduceToNat, Int.reduceLT, Int.reduceLE, Int.reduceAdd, Int.reduceSub, Int.reduceMul, Int.reduceBEq, Int.reduceBNe, encB, encI, V.cells_mk, V.cells_take, V.cells_len, isE_eq, bne_self_eq_false, *]); (try exact rfl); done)) | ((with_reducible refine w_last ?_ ?_ ?_); (focus kernel_rfl); (focus rfl)) | ((with_reducible apply w_stepG); (focus rfl)) | ((with_reducible apply lk_mem); (focus ((repeat (first | exact mm_h | apply mm_t)); done))) | with_reducible refine Go2.go ?_ | ((with_reducible apply sto_go); (focus (intro cs'; repeat (first | exact ra_h | apply ra_t)))) | ((with_reducible refine al_go ?_); intro b) | ((with_reducible refine And.intro ?_ ?_); (focus ((repeat (first | exact keep_none | exact keep_nil | exact keep_ro | refine keep_cons ?_)); done))) | ((with_reducible refine s_bi ?_ ?_); (focus rfl)) | with_reducible refine blk_ne rfl ?_ | ((with_reducible refine w_region ?_ ?_); (focus kernel_rfl)) | ((with_reducible refine w_draw [] ?_ ?_ ?_ ?_ ?_); (iterate 3 (focus kernel_rfl)); (focus exact keeps_nil)) | ((with_reducible first | refine gd_d1 ?_ ?_ | refine gd_d0 ?_ ?_); all_goals (intro hb; (first | with_reducible replace hb := nt_t hb | with_reducible replace hb := nt_f hb | skip); (first | replace hb := dc_t hb | replace hb := dc_f hb | have hb1 := eq_b hb | have hb1 := ne_b hb | have hb1 := bne_t hb | have hb1 := bne_f hb | skip); (try (exfalso; first | contradiction | omega)))))
  all_goals (refine ret_eq (by first | exact .inl rfl | exact .inr rfl) (by first | rfl | assumption) (by (repeat (first | exact List.Sublist.refl _ | apply List.Sublist.cons))) ?_; (try simp (disch := omega) only [push_cast, Nat.reduceEqDiff, reduceCtorEq, ↓reduceIte, Nat.reduceAdd, Nat.reduceMul, Nat.reduceSub, Nat.reduceLT, Nat.reduceLeDiff, Int.reduceToNat, Int.reduceLT, Int.reduceLE, Int.reduceAdd, Int.reduceSub, Int.reduceMul, Int.reduceBEq, Int.reduceBNe, encB, encI, V.cells_mk, V.cells_take, V.cells_len, isE_eq, bne_self_eq_false, *]); try (first | exact LE.refl _ | exact LE.sl _ _ | (refine LE.tup ?_; (repeat' (first | exact LEL.nil | refine LEL.cons ?_ ?_ | exact LE.refl _ | exact LE.sl _ _ | refine LE.agg ?_)); done) | (refine LE.agg ?_; (repeat' (first | exact LEL.nil | refine LEL.cons ?_ ?_ | exact LE.refl _ | exact LE.sl _ _)); done) | refine LE.of_eq ?_))
theorem nanLF (a : Int) (st : St) : TrF Try.prog 119 [.i a] st fun x st' => x = .b false ∧ st' = st := by
  refine trF_enter (ts := [2]) Try.func119 rfl (by rw [Try.ntmps119]; exact Nat.le_of_ble_eq_true rfl) (fun tmps w => by simp [results, Try.results119, go_sem, resVal]) ?_
  simp only [Try.ntmps119]
  repeat' (first | with_reducible refine Go1.go ?_ | ((with_reducible apply ev_go); (focus (try simp (disch := omega) only [push_cast, Nat.reduceEqDiff, reduceCtorEq, ↓reduceIte, Nat.reduceAdd, Nat.reduceMul, Nat.reduceSub, Nat.reduceLT, Nat.reduceLeDiff, Int.reduceToNat, Int.reduceLT, Int.reduceLE, Int.reduceAdd, Int.reduceSub, Int.reduceMul, Int.reduceBEq, Int.reduceBNe, encB, encI, V.cells_mk, V.cells_take, V.cells_len, isE_eq, bne_self_eq_false, *]); (try exact rfl); done)) | ((with_reducible refine w_last ?_ ?_ ?_); (focus kernel_rfl); (focus rfl)) | ((with_reducible apply w_stepG); (focus rfl)) | ((with_reducible apply lk_mem); (focus ((repeat (first | exact mm_h | apply mm_t)); done))) | with_reducible refine Go2.go ?_ | ((with_reducible apply sto_go); (focus (intro cs'; repeat (first | exact ra_h | apply ra_t)))) | ((with_reducible refine al_go ?_); intro b) | ((with_reducible refine And.intro ?_ ?_); (focus ((repeat (first | exact keep_none | exact keep_nil | exact keep_ro | refine keep_cons ?_)); done))) | ((with_reducible refine s_bi ?_ ?_); (focus rfl)) | with_reducible refine blk_ne rfl ?_ | ((with_reducible refine w_region ?_ ?_); (focus kernel_rfl)) | ((with_reducible refine w_draw [] ?_ ?_ ?_ ?_ ?_); (iterate 3 (focus kernel_rfl)); (focus exact keeps_nil)) | ((with_reducible first | refine gd_d1 ?_ ?_ | refine gd_d0 ?_ ?_); all_goals (intro hb; (first | with_reducible replace hb := nt_t hb | with_reducible replace hb := nt_f hb | skip); (first | replace hb := dc_t hb | replace hb := dc_f hb | have hb1 := eq_b hb | have hb1 := ne_b hb | have hb1 := bne_t hb | have hb1 := bne_f hb | skip); (try (exfalso; first | contradiction | omega)))))
  all_goals (refine ret_eq (by first | exact .inl rfl | exact .inr rfl) (by first | rfl | assumption) (by (repeat (first | exact List.Sublist.refl _ | apply List.Sublist.cons))) ?_; (try simp (disch := omega) only [push_cast, Nat.reduceEqDiff, reduceCtorEq, ↓reduceIte, Nat.reduceAdd, Nat.reduceMul, Nat.reduceSub, Nat.reduceLT, Nat.reduceLeDiff, Int.reduceToNat, Int.reduceLT, Int.reduceLE, Int.reduceAdd, Int.reduceSub, Int.reduceMul, Int.reduceBEq, Int.reduceBNe, encB, encI, V.cells_mk, V.cells_take, V.cells_len, isE_eq, bne_self_eq_false, *]); try (first | exact LE.refl _ | exact LE.sl _ _ | (refine LE.tup ?_; (repeat' (first | exact LEL.nil | refine LEL.cons ?_ ?_ | exact LE.refl _ | exact LE.sl _ _ | refine LE.agg ?_)); done) | (refine LE.agg ?_; (repeat' (first | exact LEL.nil | refine LEL.cons ?_ ?_ | exact LE.refl _ | exact LE.sl _ _)); done) | refine LE.of_eq ?_))
theorem nanBF (a : UInt8) (st : St) : TrF Try.prog 117 [.y a] st fun x st' => x = .b false ∧ st' = st := by
  refine trF_enter (ts := [2]) Try.func117 rfl (by rw [Try.ntmps117]; exact Nat.le_of_ble_eq_true rfl) (fun tmps w => by simp [results, Try.results117, go_sem, resVal]) ?_
  simp only [Try.ntmps117]
  repeat' (first | with_reducible refine Go1.go ?_ | ((with_reducible apply ev_go); (focus (try simp (disch := omega) only [push_cast, Nat.reduceEqDiff, reduceCtorEq, ↓reduceIte, Nat.reduceAdd, Nat.reduceMul, Nat.reduceSub, Nat.reduceLT, Nat.reduceLeDiff, Int.reduceToNat, Int.reduceLT, Int.reduceLE, Int.reduceAdd, Int.reduceSub, Int.reduceMul, Int.reduceBEq, Int.reduceBNe, encB, encI, V.cells_mk, V.cells_take, V.cells_len, isE_eq, bne_self_eq_false, *]); (try exact rfl); done)) | ((with_reducible refine w_last ?_ ?_ ?_); (focus kernel_rfl); (focus rfl)) | ((with_reducible apply w_stepG); (focus rfl)) | ((with_reducible apply lk_mem); (focus ((repeat (first | exact mm_h | apply mm_t)); done))) | with_reducible refine Go2.go ?_ | ((with_reducible apply sto_go); (focus (intro cs'; repeat (first | exact ra_h | apply ra_t)))) | ((with_reducible refine al_go ?_); intro b) | ((with_reducible refine And.intro ?_ ?_); (focus ((repeat (first | exact keep_none | exact keep_nil | exact keep_ro | refine keep_cons ?_)); done))) | ((with_reducible refine s_bi ?_ ?_); (focus rfl)) | with_reducible refine blk_ne rfl ?_ | ((with_reducible refine w_region ?_ ?_); (focus kernel_rfl)) | ((with_reducible refine w_draw [] ?_ ?_ ?_ ?_ ?_); (iterate 3 (focus kernel_rfl)); (focus exact keeps_nil)) | ((with_reducible first | refine gd_d1 ?_ ?_ | refine gd_d0 ?_ ?_); all_goals (intro hb; (first | with_reducible replace hb := nt_t hb | with_reducible replace hb := nt_f hb | skip); (first | replace hb := dc_t hb | replace hb := dc_f hb | have hb1 := eq_b hb | have hb1 := ne_b hb | have hb1 := bne_t hb | have hb1 := bne_f hb | skip); (try (exfalso; first | contradiction | omega)))))
  all_goals (refine ret_eq (by first | exact .inl rfl | exact .inr rfl) (by first | rfl | assumption) (by (repeat (first | exact List.Sublist.refl _ | apply List.Sublist.cons))) ?_; (try simp (disch := omega) only [push_cast, Nat.reduceEqDiff, reduceCtorEq, ↓reduceIte, Nat.reduceAdd, Nat.reduceMul, Nat.reduceSub, Nat.reduceLT, Nat.reduceLeDiff, Int.reduceToNat, Int.reduceLT, Int.reduceLE, Int.reduceAdd, Int.reduceSub, Int.reduceMul, Int.reduceBEq, Int.reduceBNe, encB, encI, V.cells_mk, V.cells_take, V.cells_len, isE_eq, bne_self_eq_false, *]); try (first | exact LE.refl _ | exact LE.sl _ _ | (refine LE.tup ?_; (repeat' (first | exact LEL.nil | refine LEL.cons ?_ ?_ | exact LE.refl _ | exact LE.sl _ _ | refine LE.agg ?_)); done) | (refine LE.agg ?_; (repeat' (first | exact LEL.nil | refine LEL.cons ?_ ?_ | exact LE.refl _ | exact LE.sl _ _)); done) | refine LE.of_eq ?_))
theorem cmpIF (a b : Int) (st : St) : TrF Try.prog 110 [.i a, .i b] st fun x st' => x = .i (V.sgn a b) ∧ st' = st := by
  refine trF_enter (ts := [4]) Try.func110 rfl (by rw [Try.ntmps110]; exact Nat.le_of_ble_eq_true rfl) (fun tmps w => by simp [results, Try.results110, go_sem, resVal]) ?_
  simp only [Try.ntmps110]
  repeat' (first | with_reducible refine Go1.go ?_ | ((with_reducible apply ev_go); (focus (try simp (disch := omega) only [push_cast, Nat.reduceEqDiff, reduceCtorEq, ↓reduceIte, Nat.reduceAdd, Nat.reduceMul, Nat.reduceSub, Nat.reduceLT, Nat.reduceLeDiff, Int.reduceToNat, Int.reduceLT, Int.reduceLE, Int.reduceAdd, Int.reduceSub, Int.reduceMul, Int.reduceBEq, Int.reduceBNe, encB, encI, V.cells_mk, V.cells_take, V.cells_len, isE_eq, bne_self_eq_false, *]); (try exact rfl); done)) | ((with_reducible refine w_last ?_ ?_ ?_); (focus kernel_rfl); (focus rfl)) | ((with_reducible apply w_stepG); (focus rfl)) | ((with_reducible apply lk_mem); (focus ((repeat (first | exact mm_h | apply mm_t)); done))) | with_reducible refine Go2.go ?_ | ((with_reducible apply sto_go); (focus (intro cs'; repeat (first | exact ra_h | apply ra_t)))) | ((with_reducible refine al_go ?_); intro b) | ((with_reducible refine And.intro ?_ ?_); (focus ((repeat (first | exact keep_none | exact keep_nil | exact keep_ro | refine keep_cons ?_)); done))) | ((with_reducible apply (ck_le Try.call118)); (focus exact LEL.refl _); (focus exact nanIF _ _)) | ((with_reducible refine s_bi ?_ ?_); (focus rfl)) | with_reducible refine blk_ne rfl ?_ | ((with_reducible refine w_region ?_ ?_); (focus kernel_rfl)) | ((with_reducible refine w_draw [] ?_ ?_ ?_ ?_ ?_); (iterate 3 (focus kernel_rfl)); (focus exact keeps_nil)) | ((with_reducible first | refine gd_d1 ?_ ?_ | refine gd_d0 ?_ ?_); all_goals (intro hb; (first | with_reducible replace hb := nt_t hb | with_reducible replace hb := nt_f hb | skip); (first | replace hb := dc_t hb | replace hb := dc_f hb | have hb1 := eq_b hb | have hb1 := ne_b hb | have hb1 := bne_t hb | have hb1 := bne_f hb | skip); (try (exfalso; first | contradiction | omega)))))
  all_goals (refine ret_eq (by first | exact .inl rfl | exact .inr rfl) (by first | rfl | assumption) (by (repeat (first | exact List.Sublist.refl _ | apply List.Sublist.cons))) ?_; (try simp (disch := omega) only [push_cast, Nat.reduceEqDiff, reduceCtorEq, ↓reduceIte, Nat.reduceAdd, Nat.reduceMul, Nat.reduceSub, Nat.reduceLT, Nat.reduceLeDiff, Int.reduceToNat, Int.reduceLT, Int.reduceLE, Int.reduceAdd, Int.reduceSub, Int.reduceMul, Int.reduceBEq, Int.reduceBNe, encB, encI, V.cells_mk, V.cells_take, V.cells_len, isE_eq, bne_self_eq_false, *]); try (first | exact LE.refl _ | exact LE.sl _ _ | (refine LE.tup ?_; (repeat' (first | exact LEL.nil | refine LEL.cons ?_ ?_ | exact LE.refl _ | exact LE.sl _ _ | refine LE.agg ?_)); done) | (refine LE.agg ?_; (repeat' (first | exact LEL.nil | refine LEL.cons ?_ ?_ | exact LE.refl _ | exact LE.sl _ _)); done) | refine LE.of_eq ?_))
  all_goals (unfold V.sgn; simp (disch := omega) only [push_cast, Nat.reduceEqDiff, reduceCtorEq, ↓reduceIte, Nat.reduceAdd, Nat.reduceMul, Nat.reduceSub, Nat.reduceLT, Nat.reduceLeDiff, Int.reduceToNat, Int.reduceLT, Int.reduceLE, Int.reduceAdd, Int.reduceSub, Int.reduceMul, Int.reduceBEq, Int.reduceBNe, encB, encI, V.cells_mk, V.cells_take, V.cells_len, isE_eq, bne_self_eq_false, *])
theorem cmpLF (a b : Int) (st : St) : TrF Try.prog 111 [.i a, .i b] st fun x st' => x = .i (V.sgn a b) ∧ st' = st := by
  refine trF_enter (ts := [4]) Try.func111 rfl (by rw [Try.ntmps111]; exact Nat.le_of_ble_eq_true rfl) (fun tmps w => by simp [results, Try.results111, go_sem, resVal]) ?_
  simp only [Try.ntmps111]
  repeat' (first | with_reducible refine Go1.go ?_ | ((with_reducible apply ev_go); (focus (try simp (disch := omega) only [push_cast, Nat.reduceEqDiff, reduceCtorEq, ↓reduceIte, Nat.reduceAdd, Nat.reduceMul, Nat.reduceSub, Nat.reduceLT, Nat.reduceLeDiff, Int.reduceToNat, Int.reduceLT, Int.reduceLE, Int.reduceAdd, Int.reduceSub, Int.reduceMul, Int.reduceBEq, Int.reduceBNe, encB, encI, V.cells_mk, V.cells_take, V.cells_len, isE_eq, bne_self_eq_false, *]); (try exact rfl); done)) | ((with_reducible refine w_last ?_ ?_ ?_); (focus kernel_rfl); (focus rfl)) | ((with_reducible apply w_stepG); (focus rfl)) | ((with_reducible apply lk_mem); (focus ((repeat (first | exact mm_h | apply mm_t)); done))) | with_reducible refine Go2.go ?_ | ((with_reducible apply sto_go); (focus (intro cs'; repeat (first | exact ra_h | apply ra_t)))) | ((with_reducible refine al_go ?_); intro b) | ((with_reducible refine And.intro ?_ ?_); (focus ((repeat (first | exact keep_none | exact keep_nil | exact keep_ro | refine keep_cons ?_)); done))) | ((with_reducible apply (ck_le Try.call119)); (focus exact LEL.refl _); (focus exact nanLF _ _)) | ((with_reducible refine s_bi ?_ ?_); (focus rfl)) | with_reducible refine blk_ne rfl ?_ | ((with_reducible refine w_region ?_ ?_); (focus kernel_rfl)) | ((with_reducible refine w_draw [] ?_ ?_ ?_ ?_ ?_); (iterate 3 (focus kernel_rfl)); (focus exact keeps_nil)) | ((with_reducible first | refine gd_d1 ?_ ?_ | refine gd_d0 ?_ ?_); all_goals (intro hb; (first | with_reducible replace hb := nt_t hb | with_reducible replace hb := nt_f hb | skip); (first | replace hb := dc_t hb | replace hb := dc_f hb | have hb1 := eq_b hb | have hb1 := ne_b hb | have hb1 := bne_t hb | have hb1 := bne_f hb | skip); (try (exfalso; first | contradiction | omega)))))
  all_goals (refine ret_eq (by first | exact .inl rfl | exact .inr rfl) (by first | rfl | assumption) (by (repeat (first | exact List.Sublist.refl _ | apply List.Sublist.cons))) ?_; (try simp (disch := omega) only [push_cast, Nat.reduceEqDiff, reduceCtorEq, ↓reduceIte, Nat.reduceAdd, Nat.reduceMul, Nat.reduceSub, Nat.reduceLT, Nat.reduceLeDiff, Int.reduceToNat, Int.reduceLT, Int.reduceLE, Int.reduceAdd, Int.reduceSub, Int.reduceMul, Int.reduceBEq, Int.reduceBNe, encB, encI, V.cells_mk, V.cells_take, V.cells_len, isE_eq, bne_self_eq_false, *]); try (first | exact LE.refl _ | exact LE.sl _ _ | (refine LE.tup ?_; (repeat' (first | exact LEL.nil | refine LEL.cons ?_ ?_ | exact LE.refl _ | exact LE.sl _ _ | refine LE.agg ?_)); done) | (refine LE.agg ?_; (repeat' (first | exact LEL.nil | refine LEL.cons ?_ ?_ | exact LE.refl _ | exact LE.sl _ _)); done) | refine LE.of_eq ?_))
  all_goals (unfold V.sgn; simp (disch := omega) only [push_cast, Nat.reduceEqDiff, reduceCtorEq, ↓reduceIte, Nat.reduceAdd, Nat.reduceMul, Nat.reduceSub, Nat.reduceLT, Nat.reduceLeDiff, Int.reduceToNat, Int.reduceLT, Int.reduceLE, Int.reduceAdd, Int.reduceSub, Int.reduceMul, Int.reduceBEq, Int.reduceBNe, encB, encI, V.cells_mk, V.cells_take, V.cells_len, isE_eq, bne_self_eq_false, *])
theorem cmpBF (a b : UInt8) (st : St) : TrF Try.prog 108 [.y a, .y b] st fun x st' => x = .i (V.sgn a.toNat b.toNat) ∧ st' = st := by
  refine trF_enter (ts := [4]) Try.func108 rfl (by rw [Try.ntmps108]; exact Nat.le_of_ble_eq_true rfl) (fun tmps w => by simp [results, Try.results108, go_sem, resVal]) ?_
  simp only [Try.ntmps108]
  repeat' (first | with_reducible refine Go1.go ?_ | ((with_reducible apply ev_go); (focus (try simp (disch := omega) only [push_cast, Nat.reduceEqDiff, reduceCtorEq, ↓reduceIte, Nat.reduceAdd, Nat.reduceMul, Nat.reduceSub, Nat.reduceLT, Nat.reduceLeDiff, Int.reduceToNat, Int.reduceLT, Int.reduceLE, Int.reduceAdd, Int.reduceSub, Int.reduceMul, Int.reduceBEq, Int.reduceBNe, encB, encI, V.cells_mk, V.cells_take, V.cells_len, isE_eq, bne_self_eq_false, *]); (try exact rfl); done)) | ((with_reducible refine w_last ?_ ?_ ?_); (focus kernel_rfl); (focus rfl)) | ((with_reducible apply w_stepG); (focus rfl)) | ((with_reducible apply lk_mem); (focus ((repeat (first | exact mm_h | apply mm_t)); done))) | with_reducible refine Go2.go ?_ | ((with_reducible apply sto_go); (focus (intro cs'; repeat (first | exact ra_h | apply ra_t)))) | ((with_reducible refine al_go ?_); intro b) | ((with_reducible refine And.intro ?_ ?_); (focus ((repeat (first | exact keep_none | exact keep_nil | exact keep_ro | refine keep_cons ?_)); done))) | ((with_reducible apply (ck_le Try.call117)); (focus exact LEL.refl _); (focus exact nanBF _ _)) | ((with_reducible refine s_bi ?_ ?_); (focus rfl)) | with_reducible refine blk_ne rfl ?_ | ((with_reducible refine w_region ?_ ?_); (focus kernel_rfl)) | ((with_reducible refine w_draw [] ?_ ?_ ?_ ?_ ?_); (iterate 3 (focus kernel_rfl)); (focus exact keeps_nil)) | ((with_reducible first | refine gd_d1 ?_ ?_ | refine gd_d0 ?_ ?_); all_goals (intro hb; (first | with_reducible replace hb := nt_t hb | with_reducible replace hb := nt_f hb | skip); (first | replace hb := dc_t hb | replace hb := dc_f hb | have hb1 := eq_b hb | have hb1 := ne_b hb | have hb1 := bne_t hb | have hb1 := bne_f hb | skip); (try (exfalso; first | contradiction | omega)))))
  all_goals (refine ret_eq (by first | exact .inl rfl | exact .inr rfl) (by first | rfl | assumption) (by (repeat (first | exact List.Sublist.refl _ | apply List.Sublist.cons))) ?_; (try simp (disch := omega) only [push_cast, Nat.reduceEqDiff, reduceCtorEq, ↓reduceIte, Nat.reduceAdd, Nat.reduceMul, Nat.reduceSub, Nat.reduceLT, Nat.reduceLeDiff, Int.reduceToNat, Int.reduceLT, Int.reduceLE, Int.reduceAdd, Int.reduceSub, Int.reduceMul, Int.reduceBEq, Int.reduceBNe, encB, encI, V.cells_mk, V.cells_take, V.cells_len, isE_eq, bne_self_eq_false, *]); try (first | exact LE.refl _ | exact LE.sl _ _ | (refine LE.tup ?_; (repeat' (first | exact LEL.nil | refine LEL.cons ?_ ?_ | exact LE.refl _ | exact LE.sl _ _ | refine LE.agg ?_)); done) | (refine LE.agg ?_; (repeat' (first | exact LEL.nil | refine LEL.cons ?_ ?_ | exact LE.refl _ | exact LE.sl _ _)); done) | refine LE.of_eq ?_))
  all_goals (unfold V.sgn; simp (disch := omega) only [push_cast, Nat.reduceEqDiff, reduceCtorEq, ↓reduceIte, Nat.reduceAdd, Nat.reduceMul, Nat.reduceSub, Nat.reduceLT, Nat.reduceLeDiff, Int.reduceToNat, Int.reduceLT, Int.reduceLE, Int.reduceAdd, Int.reduceSub, Int.reduceMul, Int.reduceBEq, Int.reduceBNe, encB, encI, V.cells_mk, V.cells_take, V.cells_len, isE_eq, bne_self_eq_false, *])
theorem cmpB1F (a b : UInt8) (st : St) : TrF Try.prog 107 [.y a, .y b] st fun x st' => x = .i (V.sgn a.toNat b.toNat) ∧ st' = st := by
  refine trF_enter (ts := [4]) Try.func107 rfl (by rw [Try.ntmps107]; exact Nat.le_of_ble_eq_true rfl) (fun tmps w => by simp [results, Try.results107, go_sem, resVal]) ?_
  simp only [Try.ntmps107]
  repeat' (first | with_reducible refine Go1.go ?_ | ((with_reducible apply ev_go); (focus (try simp (disch := omega) only [push_cast, Nat.reduceEqDiff, reduceCtorEq, ↓reduceIte, Nat.reduceAdd, Nat.reduceMul, Nat.reduceSub, Nat.reduceLT, Nat.reduceLeDiff, Int.reduceToNat, Int.reduceLT, Int.reduceLE, Int.reduceAdd, Int.reduceSub, Int.reduceMul, Int.reduceBEq, Int.reduceBNe, encB, encI, V.cells_mk, V.cells_take, V.cells_len, isE_eq, bne_self_eq_false, *]); (try exact rfl); done)) | ((with_reducible refine w_last ?_ ?_ ?_); (focus kernel_rfl); (focus rfl)) | ((with_reducible apply w_stepG); (focus rfl)) | ((with_reducible apply lk_mem); (focus ((repeat (first | exact mm_h | apply mm_t)); done))) | with_reducible refine Go2.go ?_ | ((with_reducible apply sto_go); (focus (intro cs'; repeat (first | exact ra_h | apply ra_t)))) | ((with_reducible refine al_go ?_); intro b) | ((with_reducible refine And.intro ?_ ?_); (focus ((repeat (first | exact keep_none | exact keep_nil | exact keep_ro | refine keep_cons ?_)); done))) | ((with_reducible apply (ck_le Try.call108)); (focus exact LEL.refl _); (focus exact cmpBF _ _ _)) | ((with_reducible refine s_bi ?_ ?_); (focus rfl)) | with_reducible refine blk_ne rfl ?_ | ((with_reducible refine w_region ?_ ?_); (focus kernel_rfl)) | ((with_reducible refine w_draw [] ?_ ?_ ?_ ?_ ?_); (iterate 3 (focus kernel_rfl)); (focus exact keeps_nil)) | ((with_reducible first | refine gd_d1 ?_ ?_ | refine gd_d0 ?_ ?_); all_goals (intro hb; (first | with_reducible replace hb := nt_t hb | with_reducible replace hb := nt_f hb | skip); (first | replace hb := dc_t hb | replace hb := dc_f hb | have hb1 := eq_b hb | have hb1 := ne_b hb | have hb1 := bne_t hb | have hb1 := bne_f hb | skip); (try (exfalso; first | contradiction | omega)))))
  all_goals (refine ret_eq (by first | exact .inl rfl | exact .inr rfl) (by first | rfl | assumption) (by (repeat (first | exact List.Sublist.refl _ | apply List.Sublist.cons))) ?_; (try simp (disch := omega) only [push_cast, Nat.reduceEqDiff, reduceCtorEq, ↓reduceIte, Nat.reduceAdd, Nat.reduceMul, Nat.reduceSub, Nat.reduceLT, Nat.reduceLeDiff, Int.reduceToNat, Int.reduceLT, Int.reduceLE, Int.reduceAdd, Int.reduceSub, Int.reduceMul, Int.reduceBEq, Int.reduceBNe, encB, encI, V.cells_mk, V.cells_take, V.cells_len, isE_eq, bne_self_eq_false, *]); try (first | exact LE.refl _ | exact LE.sl _ _ | (refine LE.tup ?_; (repeat' (first | exact LEL.nil | refine LEL.cons ?_ ?_ | exact LE.refl _ | exact LE.sl _ _ | refine LE.agg ?_)); done) | (refine LE.agg ?_; (repeat' (first | exact LEL.nil | refine LEL.cons ?_ ?_ | exact LE.refl _ | exact LE.sl _ _)); done) | refine LE.of_eq ?_))
theorem orF (o : Own) (l : List Int) (hl : l.length ≤ 1000) (st : St) : TrF Try.prog 109 [.sl o (l.map encI)] st fun x st' => x = .i (V.ors l) ∧ st' = st := by
  obtain ⟨B, hB⟩ : ∃ B, V.ors l = B := ⟨_, rfl⟩
  have HB : Hid (V.ors (l.drop 0) = B) := hB
  rw [hB]
  clear hB
  refine trF_enter (ts := [2]) Try.func109 rfl (by rw [Try.ntmps109]; exact Nat.le_of_ble_eq_true rfl) (fun tmps w => by simp [results, Try.results109, go_sem, resVal]) ?_
  simp only [Try.ntmps109]
  repeat' (first | with_reducible refine Go1.go ?_ | ((with_reducible apply ev_go); (focus (try simp (disch := omega) only [push_cast, Nat.reduceEqDiff, reduceCtorEq, ↓reduceIte, Nat.reduceAdd, Nat.reduceMul, Nat.reduceSub, Nat.reduceLT, Nat.reduceLeDiff, Int.reduceToNat, Int.reduceLT, Int.reduceLE, Int.reduceAdd, Int.reduceSub, Int.reduceMul, Int.reduceBEq, Int.reduceBNe, encB, encI, V.cells_mk, V.cells_take, V.cells_len, isE_eq, bne_self_eq_false, *]); (try exact rfl); done)) | ((with_reducible refine w_last ?_ ?_ ?_); (focus kernel_rfl); (focus rfl)) | ((with_reducible apply w_stepG); (focus rfl)) | ((with_reducible apply lk_mem); (focus ((repeat (first | exact mm_h | apply mm_t)); done))) | with_reducible refine Go2.go ?_ | ((with_reducible apply sto_go); (focus (intro cs'; repeat (first | exact ra_h | apply ra_t)))) | ((with_reducible refine al_go ?_); intro b) | ((with_reducible refine And.intro ?_ ?_); (focus ((repeat (first | exact keep_none | exact keep_nil | exact keep_ro | refine keep_cons ?_)); done))) | ((with_reducible refine s_bi ?_ ?_); (focus rfl)) | ((with_reducible apply a2_go); (focus (first | assumption | (intro h; cases h))); (focus (intro o'; repeat (first | exact ra_h | apply ra_t))); (focus (first | assumption | exact len_nil | exact len_one rfl | (intro a ha; obtain ⟨x, -, rfl⟩ := List.mem_map.1 ha; first | rfl | simp) | (intro a ha; simp at ha; simp [ha]))); (focus (first | assumption | exact len_nil | exact len_one rfl | (intro a ha; obtain ⟨x, -, rfl⟩ := List.mem_map.1 ha; first | rfl | simp) | (intro a ha; simp at ha; simp [ha]))); (focus (first | omega | (simp only [List.length_map, List.length_cons, List.length_nil, List.length_append]; omega))); (focus (first | omega | (simp only [List.length_map, List.length_cons, List.length_nil, List.length_append]; omega))); intro o' ho') | ((with_reducible apply p2_go); (focus (first | assumption | (intro h; cases h))); (focus (intro o'; repeat (first | exact ra_h | apply ra_t))); (focus (first | assumption | exact len_nil | exact len_one rfl | (intro a ha; obtain ⟨x, -, rfl⟩ := List.mem_map.1 ha; first | rfl | simp) | (intro a ha; simp at ha; simp [ha]))); (focus (first | omega | (simp only [List.length_map, List.length_cons, List.length_nil, List.length_append]; omega))); (focus (first | omega | (simp only [List.length_map, List.length_cons, List.length_nil, List.length_append]; omega))); intro o' ho') | with_reducible refine blk_ne rfl ?_ | ((with_reducible refine w_region ?_ ?_); (focus kernel_rfl)) | ((with_reducible refine w_draw [] ?_ ?_ ?_ ?_ ?_); (iterate 3 (focus kernel_rfl)); (focus exact keeps_nil)) | ((with_reducible first | refine gd_d1 ?_ ?_ | refine gd_d0 ?_ ?_); all_goals (intro hb; (first | with_reducible replace hb := nt_t hb | with_reducible replace hb := nt_f hb | skip); (first | replace hb := dc_t hb | replace hb := dc_f hb | have hb1 := eq_b hb | have hb1 := ne_b hb | have hb1 := bne_t hb | have hb1 := bne_f hb | skip); (try (exfalso; first | contradiction | omega)))))
  refine tr_loop (ι := Nat) (fun i A st' => i ≤ l.length ∧ Hid (V.ors (l.drop i) = B) ∧ A.df = [] ∧ A.e 3 = .i 0 ∧ A.e 6 = .sl o (l.map encI) ∧ A.e 7 = .i l.length ∧ A.e 8 = .i i ∧ st = st') (fun i => l.length - i) 0 ⟨Nat.zero_le _, HB, ?_, ?_, ?_, ?_, ?_, rfl⟩ ?_
  iterate 5 (focus (first | rfl | assumption | omega | (simp (disch := omega) only [push_cast, Nat.reduceEqDiff, reduceCtorEq, ↓reduceIte, Nat.reduceAdd, Nat.reduceMul, Nat.reduceSub, Nat.reduceLT, Nat.reduceLeDiff, Int.reduceToNat, Int.reduceLT, Int.reduceLE, Int.reduceAdd, Int.reduceSub, Int.reduceMul, Int.reduceBEq, Int.reduceBNe, encB, encI, V.cells_mk, V.cells_take, V.cells_len, isE_eq, bne_self_eq_false, *]; try omega; done)))
  rintro i A st' ⟨hi, HT, hdf, e3, e6, e7, e8, rfl⟩
  by_cases hlt : i < l.length
  · obtain ⟨x, hx⟩ : ∃ x, l[i]? = some x := ⟨_, List.getElem?_eq_getElem hlt⟩
    have HE := HT.out
    rw [V.drop_cons hx, V.ors] at HE
    clear HT HB
    by_cases h0 : x = 0
    · rw [if_pos h0] at HE
      have HE := Lib.hid HE
      subst h0
      repeat' (first | with_reducible refine Go1.go ?_ | ((with_reducible apply ev_go); (focus (try simp (disch := omega) only [push_cast, Nat.reduceEqDiff, reduceCtorEq, ↓reduceIte, Nat.reduceAdd, Nat.reduceMul, Nat.reduceSub, Nat.reduceLT, Nat.reduceLeDiff, Int.reduceToNat, Int.reduceLT, Int.reduceLE, Int.reduceAdd, Int.reduceSub, Int.reduceMul, Int.reduceBEq, Int.reduceBNe, encB, encI, V.cells_mk, V.cells_take, V.cells_len, isE_eq, bne_self_eq_false, *]); (try exact rfl); done)) | ((with_reducible refine w_last ?_ ?_ ?_); (focus kernel_rfl); (focus rfl)) | ((with_reducible apply w_stepG); (focus rfl)) | ((with_reducible apply lk_mem); (focus ((repeat (first | exact mm_h | apply mm_t)); done))) | with_reducible refine Go2.go ?_ | ((with_reducible apply sto_go); (focus (intro cs'; repeat (first | exact ra_h | apply ra_t)))) | ((with_reducible refine al_go ?_); intro b) | ((with_reducible refine And.intro ?_ ?_); (focus ((repeat (first | exact keep_none | exact keep_nil | exact keep_ro | refine keep_cons ?_)); done))) | ((with_reducible refine s_bi ?_ ?_); (focus rfl)) | ((with_reducible apply a2_go); (focus (first | assumption | (intro h; cases h))); (focus (intro o'; repeat (first | exact ra_h | apply ra_t))); (focus (first | assumption | exact len_nil | exact len_one rfl | (intro a ha; obtain ⟨x, -, rfl⟩ := List.mem_map.1 ha; first | rfl | simp) | (intro a ha; simp at ha; simp [ha]))); (focus (first | assumption | exact len_nil | exact len_one rfl | (intro a ha; obtain ⟨x, -, rfl⟩ := List.mem_map.1 ha; first | rfl | simp) | (intro a ha; simp at ha; simp [ha]))); (focus (first | omega | (simp only [List.length_map, List.length_cons, List.length_nil, List.length_append]; omega))); (focus (first | omega | (simp only [List.length_map, List.length_cons, List.length_nil, List.length_append]; omega))); intro o' ho') | ((with_reducible apply p2_go); (focus (first | assumption | (intro h; cases h))); (focus (intro o'; repeat (first | exact ra_h | apply ra_t))); (focus (first | assumption | exact len_nil | exact len_one rfl | (intro a ha; obtain ⟨x, -, rfl⟩ := List.mem_map.1 ha; first | rfl | simp) | (intro a ha; simp at ha; simp [ha]))); (focus (first | omega | (simp only [List.length_map, List.length_cons, List.length_nil, List.length_append]; omega))); (focus (first | omega | (simp only [List.length_map, List.length_cons, List.length_nil, List.length_append]; omega))); intro o' ho') | with_reducible refine blk_ne rfl ?_ | ((with_reducible refine w_region ?_ ?_); (focus kernel_rfl)) | ((with_reducible refine w_draw [] ?_ ?_ ?_ ?_ ?_); (iterate 3 (focus kernel_rfl)); (focus exact keeps_nil)) | ((with_reducible first | refine gd_d1 ?_ ?_ | refine gd_d0 ?_ ?_); all_goals (intro hb; (first | with_reducible replace hb := nt_t hb | with_reducible replace hb := nt_f hb | skip); (first | replace hb := dc_t hb | replace hb := dc_f hb | have hb1 := eq_b hb | have hb1 := ne_b hb | have hb1 := bne_t hb | have hb1 := bne_f hb | skip); (try (exfalso; first | contradiction | omega)))))
      refine ⟨i + 1, ⟨hlt, HE, ?_, ?_, ?_, ?_, ?_, rfl⟩, ?_⟩
      all_goals (first | rfl | assumption | omega | (simp (disch := omega) only [push_cast, Nat.reduceEqDiff, reduceCtorEq, ↓reduceIte, Nat.reduceAdd, Nat.reduceMul, Nat.reduceSub, Nat.reduceLT, Nat.reduceLeDiff, Int.reduceToNat, Int.reduceLT, Int.reduceLE, Int.reduceAdd, Int.reduceSub, Int.reduceMul, Int.reduceBEq, Int.reduceBNe, encB, encI, V.cells_mk, V.cells_take, V.cells_len, isE_eq, bne_self_eq_false, *]; try omega; done))
    · rw [if_neg h0] at HE
      rw [← HE]
      clear HE
      repeat' (first | with_reducible refine Go1.go ?_ | ((with_reducible apply ev_go); (focus (try simp (disch := omega) only [push_cast, Nat.reduceEqDiff, reduceCtorEq, ↓reduceIte, Nat.reduceAdd, Nat.reduceMul, Nat.reduceSub, Nat.reduceLT, Nat.reduceLeDiff, Int.reduceToNat, Int.reduceLT, Int.reduceLE, Int.reduceAdd, Int.reduceSub, Int.reduceMul, Int.reduceBEq, Int.reduceBNe, encB, encI, V.cells_mk, V.cells_take, V.cells_len, isE_eq, bne_self_eq_false, *]); (try exact rfl); done)) | ((with_reducible refine w_last ?_ ?_ ?_); (focus kernel_rfl); (focus rfl)) | ((with_reducible apply w_stepG); (focus rfl)) | ((with_reducible apply lk_mem); (focus ((repeat (first | exact mm_h | apply mm_t)); done))) | with_reducible refine Go2.go ?_ | ((with_reducible apply sto_go); (focus (intro cs'; repeat (first | exact ra_h | apply ra_t)))) | ((with_reducible refine al_go ?_); intro b) | ((with_reducible refine And.intro ?_ ?_); (focus ((repeat (first | exact keep_none | exact keep_nil | exact keep_ro | refine keep_cons ?_)); done))) | ((with_reducible refine s_bi ?_ ?_); (focus rfl)) | ((with_reducible apply a2_go); (focus (first | assumption | (intro h; cases h))); (focus (intro o'; repeat (first | exact ra_h | apply ra_t))); (focus (first | assumption | exact len_nil | exact len_one rfl | (intro a ha; obtain ⟨x, -, rfl⟩ := List.mem_map.1 ha; first | rfl | simp) | (intro a ha; simp at ha; simp [ha]))); (focus (first | assumption | exact len_nil | exact len_one rfl | (intro a ha; obtain ⟨x, -, rfl⟩ := List.mem_map.1 ha; first | rfl | simp) | (intro a ha; simp at ha; simp [ha]))); (focus (first | omega | (simp only [List.length_map, List.length_cons, List.length_nil, List.length_append]; omega))); (focus (first | omega | (simp only [List.length_map, List.length_cons, List.length_nil, List.length_append]; omega))); intro o' ho') | ((with_reducible apply p2_go); (focus (first | assumption | (intro h; cases h))); (focus (intro o'; repeat (first | exact ra_h | apply ra_t))); (focus (first | assumption | exact len_nil | exact len_one rfl | (intro a ha; obtain ⟨x, -, rfl⟩ := List.mem_map.1 ha; first | rfl | simp) | (intro a ha; simp at ha; simp [ha]))); (focus (first | omega | (simp only [List.length_map, List.length_cons, List.length_nil, List.length_append]; omega))); (focus (first | omega | (simp only [List.length_map, List.length_cons, List.length_nil, List.length_append]; omega))); intro o' ho') | with_reducible refine blk_ne rfl ?_ | ((with_reducible refine w_region ?_ ?_); (focus kernel_rfl)) | ((with_reducible refine w_draw [] ?_ ?_ ?_ ?_ ?_); (iterate 3 (focus kernel_rfl)); (focus exact keeps_nil)) | ((with_reducible first | refine gd_d1 ?_ ?_ | refine gd_d0 ?_ ?_); all_goals (intro hb; (first | with_reducible replace hb := nt_t hb | with_reducible replace hb := nt_f hb | skip); (first | replace hb := dc_t hb | replace hb := dc_f hb | have hb1 := eq_b hb | have hb1 := ne_b hb | have hb1 := bne_t hb | have hb1 := bne_f hb | skip); (try (exfalso; first | contradiction | omega)))))
      all_goals (refine ret_eq (by first | exact .inl rfl | exact .inr rfl) (by first | rfl | assumption) (by (repeat (first | exact List.Sublist.refl _ | apply List.Sublist.cons))) ?_; (try simp (disch := omega) only [push_cast, Nat.reduceEqDiff, reduceCtorEq, ↓reduceIte, Nat.reduceAdd, Nat.reduceMul, Nat.reduceSub, Nat.reduceLT, Nat.reduceLeDiff, Int.reduceToNat, Int.reduceLT, Int.reduceLE, Int.reduceAdd, Int.reduceSub, Int.reduceMul, Int.reduceBEq, Int.reduceBNe, encB, encI, V.cells_mk, V.cells_take, V.cells_len, isE_eq, bne_self_eq_false, *]); try (first | exact LE.refl _ | exact LE.sl _ _ | (refine LE.tup ?_; (repeat' (first | exact LEL.nil | refine LEL.cons ?_ ?_ | exact LE.refl _ | exact LE.sl _ _ | refine LE.agg ?_)); done) | (refine LE.agg ?_; (repeat' (first | exact LEL.nil | refine LEL.cons ?_ ?_ | exact LE.refl _ | exact LE.sl _ _)); done) | refine LE.of_eq ?_))
  · have HE := HT.out
    rw [List.drop_eq_nil_of_le (by omega), V.ors] at HE
    rw [← HE]
    clear HE HT HB
    repeat' (first | with_reducible refine Go1.go ?_ | ((with_reducible apply ev_go); (focus (try simp (disch := omega) only [push_cast, Nat.reduceEqDiff, reduceCtorEq, ↓reduceIte, Nat.reduceAdd, Nat.reduceMul, Nat.reduceSub, Nat.reduceLT, Nat.reduceLeDiff, Int.reduceToNat, Int.reduceLT, Int.reduceLE, Int.reduceAdd, Int.reduceSub, Int.reduceMul, Int.reduceBEq, Int.reduceBNe, encB, encI, V.cells_mk, V.cells_take, V.cells_len, isE_eq, bne_self_eq_false, *]); (try exact rfl); done)) | ((with_reducible refine w_last ?_ ?_ ?_); (focus kernel_rfl); (focus rfl)) | ((with_reducible apply w_stepG); (focus rfl)) | ((with_reducible apply lk_mem); (focus ((repeat (first | exact mm_h | apply mm_t)); done))) | with_reducible refine Go2.go ?_ | ((with_reducible apply sto_go); (focus (intro cs'; repeat (first | exact ra_h | apply ra_t)))) | ((with_reducible refine al_go ?_); intro b) | ((with_reducible refine And.intro ?_ ?_); (focus ((repeat (first | exact keep_none | exact keep_nil | exact keep_ro | refine keep_cons ?_)); done))) | ((with_reducible refine s_bi ?_ ?_); (focus rfl)) | ((with_reducible apply a2_go); (focus (first | assumption | (intro h; cases h))); (focus (intro o'; repeat (first | exact ra_h | apply ra_t))); (focus (first | assumption | exact len_nil | exact len_one rfl | (intro a ha; obtain ⟨x, -, rfl⟩ := List.mem_map.1 ha; first | rfl | simp) | (intro a ha; simp at ha; simp [ha]))); (focus (first | assumption | exact len_nil | exact len_one rfl | (intro a ha; obtain ⟨x, -, rfl⟩ := List.mem_map.1 ha; first | rfl | simp) | (intro a ha; simp at ha; simp [ha]))); (focus (first | omega | (simp only [List.length_map, List.length_cons, List.length_nil, List.length_append]; omega))); (focus (first | omega | (simp only [List.length_map, List.length_cons, List.length_nil, List.length_append]; omega))); intro o' ho') | ((with_reducible apply p2_go); (focus (first | assumption | (intro h; cases h))); (focus (intro o'; repeat (first | exact ra_h | apply ra_t))); (focus (first | assumption | exact len_nil | exact len_one rfl | (intro a ha; obtain ⟨x, -, rfl⟩ := List.mem_map.1 ha; first | rfl | simp) | (intro a ha; simp at ha; simp [ha]))); (focus (first | omega | (simp only [List.length_map, List.length_cons, List.length_nil, List.length_append]; omega))); (focus (first | omega | (simp only [List.length_map, List.length_cons, List.length_nil, List.length_append]; omega))); intro o' ho') | with_reducible refine blk_ne rfl ?_ | ((with_reducible refine w_region ?_ ?_); (focus kernel_rfl)) | ((with_reducible refine w_draw [] ?_ ?_ ?_ ?_ ?_); (iterate 3 (focus kernel_rfl)); (focus exact keeps_nil)) | ((with_reducible first | refine gd_d1 ?_ ?_ | refine gd_d0 ?_ ?_); all_goals (intro hb; (first | with_reducible replace hb := nt_t hb | with_reducible replace hb := nt_f hb | skip); (first | replace hb := dc_t hb | replace hb := dc_f hb | have hb1 := eq_b hb | have hb1 := ne_b hb | have hb1 := bne_t hb | have hb1 := bne_f hb | skip); (try (exfalso; first | contradiction | omega)))))
    all_goals (refine ret_eq (by first | exact .inl rfl | exact .inr rfl) (by first | rfl | assumption) (by (repeat (first | exact List.Sublist.refl _ | apply List.Sublist.cons))) ?_; (try simp (disch := omega) only [push_cast, Nat.reduceEqDiff, reduceCtorEq, ↓reduceIte, Nat.reduceAdd, Nat.reduceMul, Nat.reduceSub, Nat.reduceLT, Nat.reduceLeDiff, Int.reduceToNat, Int.reduceLT, Int.reduceLE, Int.reduceAdd, Int.reduceSub, Int.reduceMul, Int.reduceBEq, Int.reduceBNe, encB, encI, V.cells_mk, V.cells_take, V.cells_len, isE_eq, bne_self_eq_false, *]); try (first | exact LE.refl _ | exact LE.sl _ _ | (refine LE.tup ?_; (repeat' (first | exact LEL.nil | refine LEL.cons ?_ ?_ | exact LE.refl _ | exact LE.sl _ _ | refine LE.agg ?_)); done) | (refine LE.agg ?_; (repeat' (first | exact LEL.nil | refine LEL.cons ?_ ?_ | exact LE.refl _ | exact LE.sl _ _)); done) | refine LE.of_eq ?_))
theorem listsBF (o o' : Own) (a b : List UInt8) (ha : a.length ≤ maxLen) (st : St) : TrF Try.prog 112 [.sl o (a.map encB), .sl o' (b.map encB), .fn (.func 107) [] []] st fun x st' => x = .i (V.cmpB a b) ∧ st' = st := by
  unfold maxLen at ha
  obtain ⟨B, hB⟩ : ∃ B, V.cmpB a b = B := ⟨_, rfl⟩
  have HB : Hid (V.cmpB (a.drop 0) (b.drop 0) = B) := hB
  rw [hB]
  clear hB
  obtain ⟨m, hm, hm1, hm2, hm3⟩ : ∃ m : Nat, (if b.length < a.length then (b.length : Int) else a.length) = m ∧ m ≤ a.length ∧ m ≤ b.length ∧ (m = a.length ∨ m = b.length) := by
    by_cases h : b.length < a.length
    · exact ⟨b.length, by rw [if_pos h], by omega, by omega, by omega⟩
    · exact ⟨a.length, by rw [if_neg h], by omega, by omega, by omega⟩
  refine trF_enter (ts := [6]) Try.func112 rfl (by rw [Try.ntmps112]; exact Nat.le_of_ble_eq_true rfl) (fun tmps w => by simp [results, Try.results112, go_sem, resVal]) ?_
  simp only [Try.ntmps112]
  repeat' (first | with_reducible refine Go1.go ?_ | ((with_reducible apply ev_go); (focus (try simp (disch := omega) only [push_cast, Nat.reduceEqDiff, reduceCtorEq, ↓reduceIte, Nat.reduceAdd, Nat.reduceMul, Nat.reduceSub, Nat.reduceLT, Nat.reduceLeDiff, Int.reduceToNat, Int.reduceLT, Int.reduceLE, Int.reduceAdd, Int.reduceSub, Int.reduceMul, Int.reduceBEq, Int.reduceBNe, encB, encI, V.cells_mk, V.cells_take, V.cells_len, isE_eq, bne_self_eq_false, *]); (try exact rfl); done)) | ((with_reducible refine w_last ?_ ?_ ?_); (focus kernel_rfl); (focus rfl)) | ((with_reducible apply w_stepG); (focus rfl)) | ((with_reducible apply lk_mem); (focus ((repeat (first | exact mm_h | apply mm_t)); done))) | with_reducible refine Go2.go ?_ | ((with_reducible apply sto_go); (focus (intro cs'; repeat (first | exact ra_h | apply ra_t)))) | ((with_reducible refine al_go ?_); intro b) | ((with_reducible refine And.intro ?_ ?_); (focus ((repeat (first | exact keep_none | exact keep_nil | exact keep_ro | refine keep_cons ?_)); done))) | ((with_reducible refine s_bi ?_ ?_); (focus rfl)) | ((with_reducible apply a2_go); (focus (first | assumption | (intro h; cases h))); (focus (intro o'; repeat (first | exact ra_h | apply ra_t))); (focus (first | assumption | exact len_nil | exact len_one rfl | (intro a ha; obtain ⟨x, -, rfl⟩ := List.mem_map.1 ha; first | rfl | simp) | (intro a ha; simp at ha; simp [ha]))); (focus (first | assumption | exact len_nil | exact len_one rfl | (intro a ha; obtain ⟨x, -, rfl⟩ := List.mem_map.1 ha; first | rfl | simp) | (intro a ha; simp at ha; simp [ha]))); (focus (first | omega | (simp only [List.length_map, List.length_cons, List.length_nil, List.length_append]; omega))); (focus (first | omega | (simp only [List.length_map, List.length_cons, List.length_nil, List.length_append]; omega))); intro o' ho') | ((with_reducible apply p2_go); (focus (first | assumption | (intro h; cases h))); (focus (intro o'; repeat (first | exact ra_h | apply ra_t))); (focus (first | assumption | exact len_nil | exact len_one rfl | (intro a ha; obtain ⟨x, -, rfl⟩ := List.mem_map.1 ha; first | rfl | simp) | (intro a ha; simp at ha; simp [ha]))); (focus (first | omega | (simp only [List.length_map, List.length_cons, List.length_nil, List.length_append]; omega))); (focus (first | omega | (simp only [List.length_map, List.length_cons, List.length_nil, List.length_append]; omega))); intro o' ho') | with_reducible refine blk_ne rfl ?_ | ((with_reducible refine w_region ?_ ?_); (focus kernel_rfl)) | ((with_reducible refine w_draw [] ?_ ?_ ?_ ?_ ?_); (iterate 3 (focus kernel_rfl)); (focus exact keeps_nil)) | ((with_reducible first | refine gd_d1 ?_ ?_ | refine gd_d0 ?_ ?_); all_goals (intro hb; (first | with_reducible replace hb := nt_t hb | with_reducible replace hb := nt_f hb | skip); (first | replace hb := dc_t hb | replace hb := dc_f hb | have hb1 := eq_b hb | have hb1 := ne_b hb | have hb1 := bne_t hb | have hb1 := bne_f hb | skip); (try (exfalso; first | contradiction | omega)))))
  refine tr_loop (ι := Nat) (fun i A st' => i ≤ m ∧ Hid (V.cmpB (a.drop i) (b.drop i) = B) ∧ A.df = [] ∧ A.e 0 = .sl o (a.map encB) ∧ A.e 1 = .sl o' (b.map encB) ∧ A.e 2 = .fn (.func 107) [] [] ∧ A.e 13 = .i m ∧ A.e 14 = .i i ∧ st = st') (fun i => m - i) 0 ⟨Nat.zero_le _, HB, ?_, ?_, ?_, ?_, ?_, ?_, rfl⟩ ?_
  iterate 6 (focus (first | rfl | assumption | omega | (simp (disch := omega) only [push_cast, Nat.reduceEqDiff, reduceCtorEq, ↓reduceIte, Nat.reduceAdd, Nat.reduceMul, Nat.reduceSub, Nat.reduceLT, Nat.reduceLeDiff, Int.reduceToNat, Int.reduceLT, Int.reduceLE, Int.reduceAdd, Int.reduceSub, Int.reduceMul, Int.reduceBEq, Int.reduceBNe, encB, encI, V.cells_mk, V.cells_take, V.cells_len, isE_eq, bne_self_eq_false, *]; try omega; done)))
  clear hm
  rintro i A st' ⟨hi, HT, hdf, e0, e1, e2, e13, e14, rfl⟩
  by_cases hlt : i < m
  · obtain ⟨x, hx⟩ : ∃ x, a[i]? = some x := ⟨_, List.getElem?_eq_getElem (by omega)⟩
    obtain ⟨y, hy⟩ : ∃ y, b[i]? = some y := ⟨_, List.getElem?_eq_getElem (by omega)⟩
    have HE := HT.out
    rw [V.drop_cons hx, V.drop_cons hy, V.cmpB] at HE
    have hC := cmpB1F x y
    clear HT HB
    generalize V.sgn x.toNat y.toNat = q at *
    have hC := Lib.hid hC
    by_cases h0 : q = 0
    · rw [if_pos h0] at HE
      have HE := Lib.hid HE
      subst h0
      repeat' (first | with_reducible refine Go1.go ?_ | ((with_reducible apply ev_go); (focus (try simp (disch := omega) only [push_cast, Nat.reduceEqDiff, reduceCtorEq, ↓reduceIte, Nat.reduceAdd, Nat.reduceMul, Nat.reduceSub, Nat.reduceLT, Nat.reduceLeDiff, Int.reduceToNat, Int.reduceLT, Int.reduceLE, Int.reduceAdd, Int.reduceSub, Int.reduceMul, Int.reduceBEq, Int.reduceBNe, encB, encI, V.cells_mk, V.cells_take, V.cells_len, isE_eq, bne_self_eq_false, *]); (try exact rfl); done)) | ((with_reducible refine w_last ?_ ?_ ?_); (focus kernel_rfl); (focus rfl)) | ((with_reducible apply w_stepG); (focus rfl)) | ((with_reducible apply lk_mem); (focus ((repeat (first | exact mm_h | apply mm_t)); done))) | with_reducible refine Go2.go ?_ | ((with_reducible apply sto_go); (focus (intro cs'; repeat (first | exact ra_h | apply ra_t)))) | ((with_reducible refine al_go ?_); intro b) | ((with_reducible refine And.intro ?_ ?_); (focus ((repeat (first | exact keep_none | exact keep_nil | exact keep_ro | refine keep_cons ?_)); done))) | ((with_reducible apply (ck_le Try.call107)); (focus exact LEL.refl _); (focus exact hC.out _)) | ((with_reducible refine s_bi ?_ ?_); (focus rfl)) | ((with_reducible apply a2_go); (focus (first | assumption | (intro h; cases h))); (focus (intro o'; repeat (first | exact ra_h | apply ra_t))); (focus (first | assumption | exact len_nil | exact len_one rfl | (intro a ha; obtain ⟨x, -, rfl⟩ := List.mem_map.1 ha; first | rfl | simp) | (intro a ha; simp at ha; simp [ha]))); (focus (first | assumption | exact len_nil | exact len_one rfl | (intro a ha; obtain ⟨x, -, rfl⟩ := List.mem_map.1 ha; first | rfl | simp) | (intro a ha; simp at ha; simp [ha]))); (focus (first | omega | (simp only [List.length_map, List.length_cons, List.length_nil, List.length_append]; omega))); (focus (first | omega | (simp only [List.length_map, List.length_cons, List.length_nil, List.length_append]; omega))); intro o' ho') | ((with_reducible apply p2_go); (focus (first | assumption | (intro h; cases h))); (focus (intro o'; repeat (first | exact ra_h | apply ra_t))); (focus (first | assumption | exact len_nil | exact len_one rfl | (intro a ha; obtain ⟨x, -, rfl⟩ := List.mem_map.1 ha; first | rfl | simp) | (intro a ha; simp at ha; simp [ha]))); (focus (first | omega | (simp only [List.length_map, List.length_cons, List.length_nil, List.length_append]; omega))); (focus (first | omega | (simp only [List.length_map, List.length_cons, List.length_nil, List.length_append]; omega))); intro o' ho') | with_reducible refine blk_ne rfl ?_ | ((with_reducible refine w_region ?_ ?_); (focus kernel_rfl)) | ((with_reducible refine w_draw [] ?_ ?_ ?_ ?_ ?_); (iterate 3 (focus kernel_rfl)); (focus exact keeps_nil)) | ((with_reducible first | refine gd_d1 ?_ ?_ | refine gd_d0 ?_ ?_); all_goals (intro hb; (first | with_reducible replace hb := nt_t hb | with_reducible replace hb := nt_f hb | skip); (first | replace hb := dc_t hb | replace hb := dc_f hb | have hb1 := eq_b hb | have hb1 := ne_b hb | have hb1 := bne_t hb | have hb1 := bne_f hb | skip); (try (exfalso; first | contradiction | omega)))))
      refine ⟨i + 1, ⟨hlt, HE, ?_, ?_, ?_, ?_, ?_, ?_, rfl⟩, ?_⟩
      all_goals (first | rfl | assumption | omega | (simp (disch := omega) only [push_cast, Nat.reduceEqDiff, reduceCtorEq, ↓reduceIte, Nat.reduceAdd, Nat.reduceMul, Nat.reduceSub, Nat.reduceLT, Nat.reduceLeDiff, Int.reduceToNat, Int.reduceLT, Int.reduceLE, Int.reduceAdd, Int.reduceSub, Int.reduceMul, Int.reduceBEq, Int.reduceBNe, encB, encI, V.cells_mk, V.cells_take, V.cells_len, isE_eq, bne_self_eq_false, *]; try omega; done))
    · rw [if_neg h0] at HE
      rw [← HE]
      clear HE
      repeat' (first | with_reducible refine Go1.go ?_ | ((with_reducible apply ev_go); (focus (try simp (disch := omega) only [push_cast, Nat.reduceEqDiff, reduceCtorEq, ↓reduceIte, Nat.reduceAdd, Nat.reduceMul, Nat.reduceSub, Nat.reduceLT, Nat.reduceLeDiff, Int.reduceToNat, Int.reduceLT, Int.reduceLE, Int.reduceAdd, Int.reduceSub, Int.reduceMul, Int.reduceBEq, Int.reduceBNe, encB, encI, V.cells_mk, V.cells_take, V.cells_len, isE_eq, bne_self_eq_false, *]); (try exact rfl); done)) | ((with_reducible refine w_last ?_ ?_ ?_); (focus kernel_rfl); (focus rfl)) | ((with_reducible apply w_stepG); (focus rfl)) | ((with_reducible apply lk_mem); (focus ((repeat (first | exact mm_h | apply mm_t)); done))) | with_reducible refine Go2.go ?_ | ((with_reducible apply sto_go); (focus (intro cs'; repeat (first | exact ra_h | apply ra_t)))) | ((with_reducible refine al_go ?_); intro b) | ((with_reducible refine And.intro ?_ ?_); (focus ((repeat (first | exact keep_none | exact keep_nil | exact keep_ro | refine keep_cons ?_)); done))) | ((with_reducible apply (ck_le Try.call107)); (focus exact LEL.refl _); (focus exact hC.out _)) | ((with_reducible refine s_bi ?_ ?_); (focus rfl)) | ((with_reducible apply a2_go); (focus (first | assumption | (intro h; cases h))); (focus (intro o'; repeat (first | exact ra_h | apply ra_t))); (focus (first | assumption | exact len_nil | exact len_one rfl | (intro a ha; obtain ⟨x, -, rfl⟩ := List.mem_map.1 ha; first | rfl | simp) | (intro a ha; simp at ha; simp [ha]))); (focus (first | assumption | exact len_nil | exact len_one rfl | (intro a ha; obtain ⟨x, -, rfl⟩ := List.mem_map.1 ha; first | rfl | simp) | (intro a ha; simp at ha; simp [ha]))); (focus (first | omega | (simp only [List.length_map, List.length_cons, List.length_nil, List.length_append]; omega))); (focus (first | omega | (simp only [List.length_map, List.length_cons, List.length_nil, List.length_append]; omega))); intro o' ho') | ((with_reducible apply p2_go); (focus (first | assumption | (intro h; cases h))); (focus (intro o'; repeat (first | exact ra_h | apply ra_t))); (focus (first | assumption | exact len_nil | exact len_one rfl | (intro a ha; obtain ⟨x, -, rfl⟩ := List.mem_map.1 ha; first | rfl | simp) | (intro a ha; simp at ha; simp [ha]))); (focus (first | omega | (simp only [List.length_map, List.length_cons, List.length_nil, List.length_append]; omega))); (focus (first | omega | (simp only [List.length_map, List.length_cons, List.length_nil, List.length_append]; omega))); intro o' ho') | with_reducible refine blk_ne rfl ?_ | ((with_reducible refine w_region ?_ ?_); (focus kernel_rfl)) | ((with_reducible refine w_draw [] ?_ ?_ ?_ ?_ ?_); (iterate 3 (focus kernel_rfl)); (focus exact keeps_nil)) | ((with_reducible first | refine gd_d1 ?_ ?_ | refine gd_d0 ?_ ?_); all_goals (intro hb; (first | with_reducible replace hb := nt_t hb | with_reducible replace hb := nt_f hb | skip); (first | replace hb := dc_t hb | replace hb := dc_f hb | have hb1 := eq_b hb | have hb1 := ne_b hb | have hb1 := bne_t hb | have hb1 := bne_f hb | skip); (try (exfalso; first | contradiction | omega)))))
      all_goals (refine ret_eq (by first | exact .inl rfl | exact .inr rfl) (by first | rfl | assumption) (by (repeat (first | exact List.Sublist.refl _ | apply List.Sublist.cons))) ?_; (try simp (disch := omega) only [push_cast, Nat.reduceEqDiff, reduceCtorEq, ↓reduceIte, Nat.reduceAdd, Nat.reduceMul, Nat.reduceSub, Nat.reduceLT, Nat.reduceLeDiff, Int.reduceToNat, Int.reduceLT, Int.reduceLE, Int.reduceAdd, Int.reduceSub, Int.reduceMul, Int.reduceBEq, Int.reduceBNe, encB, encI, V.cells_mk, V.cells_take, V.cells_len, isE_eq, bne_self_eq_false, *]); try (first | exact LE.refl _ | exact LE.sl _ _ | (refine LE.tup ?_; (repeat' (first | exact LEL.nil | refine LEL.cons ?_ ?_ | exact LE.refl _ | exact LE.sl _ _ | refine LE.agg ?_)); done) | (refine LE.agg ?_; (repeat' (first | exact LEL.nil | refine LEL.cons ?_ ?_ | exact LE.refl _ | exact LE.sl _ _)); done) | refine LE.of_eq ?_))
  · have HE := HT.out
    rw [V.cmpB_end a b i (by omega) (by omega) (by omega)] at HE
    rw [← HE]
    clear HE HT HB
    repeat' (first | with_reducible refine Go1.go ?_ | ((with_reducible apply ev_go); (focus (try simp (disch := omega) only [push_cast, Nat.reduceEqDiff, reduceCtorEq, ↓reduceIte, Nat.reduceAdd, Nat.reduceMul, Nat.reduceSub, Nat.reduceLT, Nat.reduceLeDiff, Int.reduceToNat, Int.reduceLT, Int.reduceLE, Int.reduceAdd, Int.reduceSub, Int.reduceMul, Int.reduceBEq, Int.reduceBNe, encB, encI, V.cells_mk, V.cells_take, V.cells_len, isE_eq, bne_self_eq_false, *]); (try exact rfl); done)) | ((with_reducible refine w_last ?_ ?_ ?_); (focus kernel_rfl); (focus rfl)) | ((with_reducible apply w_stepG); (focus rfl)) | ((with_reducible apply lk_mem); (focus ((repeat (first | exact mm_h | apply mm_t)); done))) | with_reducible refine Go2.go ?_ | ((with_reducible apply sto_go); (focus (intro cs'; repeat (first | exact ra_h | apply ra_t)))) | ((with_reducible refine al_go ?_); intro b) | ((with_reducible refine And.intro ?_ ?_); (focus ((repeat (first | exact keep_none | exact keep_nil | exact keep_ro | refine keep_cons ?_)); done))) | ((with_reducible apply (ck_le Try.call110)); (focus exact LEL.refl _); (focus exact cmpIF _ _ _)) | ((with_reducible refine s_bi ?_ ?_); (focus rfl)) | ((with_reducible apply a2_go); (focus (first | assumption | (intro h; cases h))); (focus (intro o'; repeat (first | exact ra_h | apply ra_t))); (focus (first | assumption | exact len_nil | exact len_one rfl | (intro a ha; obtain ⟨x, -, rfl⟩ := List.mem_map.1 ha; first | rfl | simp) | (intro a ha; simp at ha; simp [ha]))); (focus (first | assumption | exact len_nil | exact len_one rfl | (intro a ha; obtain ⟨x, -, rfl⟩ := List.mem_map.1 ha; first | rfl | simp) | (intro a ha; simp at ha; simp [ha]))); (focus (first | omega | (simp only [List.length_map, List.length_cons, List.length_nil, List.length_append]; omega))); (focus (first | omega | (simp only [List.length_map, List.length_cons, List.length_nil, List.length_append]; omega))); intro o' ho') | ((with_reducible apply p2_go); (focus (first | assumption | (intro h; cases h))); (focus (intro o'; repeat (first | exact ra_h | apply ra_t))); (focus (first | assumption | exact len_nil | exact len_one rfl | (intro a ha; obtain ⟨x, -, rfl⟩ := List.mem_map.1 ha; first | rfl | simp) | (intro a ha; simp at ha; simp [ha]))); (focus (first | omega | (simp only [List.length_map, List.length_cons, List.length_nil, List.length_append]; omega))); (focus (first | omega | (simp only [List.length_map, List.length_cons, List.length_nil, List.length_append]; omega))); intro o' ho') | with_reducible refine blk_ne rfl ?_ | ((with_reducible refine w_region ?_ ?_); (focus kernel_rfl)) | ((with_reducible refine w_draw [] ?_ ?_ ?_ ?_ ?_); (iterate 3 (focus kernel_rfl)); (focus exact keeps_nil)) | ((with_reducible first | refine gd_d1 ?_ ?_ | refine gd_d0 ?_ ?_); all_goals (intro hb; (first | with_reducible replace hb := nt_t hb | with_reducible replace hb := nt_f hb | skip); (first | replace hb := dc_t hb | replace hb := dc_f hb | have hb1 := eq_b hb | have hb1 := ne_b hb | have hb1 := bne_t hb | have hb1 := bne_f hb | skip); (try (exfalso; first | contradiction | omega)))))
    all_goals (refine ret_eq (by first | exact .inl rfl | exact .inr rfl) (by first | rfl | assumption) (by (repeat (first | exact List.Sublist.refl _ | apply List.Sublist.cons))) ?_; (try simp (disch := omega) only [push_cast, Nat.reduceEqDiff, reduceCtorEq, ↓reduceIte, Nat.reduceAdd, Nat.reduceMul, Nat.reduceSub, Nat.reduceLT, Nat.reduceLeDiff, Int.reduceToNat, Int.reduceLT, Int.reduceLE, Int.reduceAdd, Int.reduceSub, Int.reduceMul, Int.reduceBEq, Int.reduceBNe, encB, encI, V.cells_mk, V.cells_take, V.cells_len, isE_eq, bne_self_eq_false, *]); try (first | exact LE.refl _ | exact LE.sl _ _ | (refine LE.tup ?_; (repeat' (first | exact LEL.nil | refine LEL.cons ?_ ?_ | exact LE.refl _ | exact LE.sl _ _ | refine LE.agg ?_)); done) | (refine LE.agg ?_; (repeat' (first | exact LEL.nil | refine LEL.cons ?_ ?_ | exact LE.refl _ | exact LE.sl _ _)); done) | refine LE.of_eq ?_))
end Go.Proofs.Ytooaagmhgakhgaa
end

section
namespace Go.Proofs.Ytooaagmhgakhgaa
set_option linter.unusedSimpArgs false
open Go.RowKit
set_option maxRecDepth 10000
set_option maxHeartbeats 4000000
namespace V
mutual
def cmp : V → V → Int
  | .mk k n s l, .mk k' n' s' l' => ors [sgn k k', sgn n n', cmpB s.data.toList s'.data.toList, cmpL l l']
def cmpL : List V → List V → Int
  | [], [] => 0
  | [], _ :: _ => -1
  | _ :: _, [] => 1
  | x :: a, y :: b => if x.cmp y = 0 then cmpL a b else x.cmp y
end
theorem cmpL_end (a b : List V) (i : Nat) (ha : i ≤ a.length) (hb : i ≤ b.length) (h : i = a.length ∨ i = b.length) : cmpL (a.drop i) (b.drop i) = sgn a.length b.length := by
  have h1 : (a.drop i).length = a.length - i := List.length_drop
  have h2 : (b.drop i).length = b.length - i := List.length_drop
  cases hx : a.drop i with
  | nil =>
    rw [hx] at h1
    cases hy : b.drop i with
    | nil => rw [hy] at h2; simp at h1 h2; rw [cmpL, sgn, if_neg (by omega), if_neg (by omega)]
    | cons y t => rw [hy] at h2; simp at h1 h2; rw [cmpL, sgn, if_pos (by omega)]
  | cons x s =>
    rw [hx] at h1
    cases hy : b.drop i with
    | nil => rw [hy] at h2; simp at h1 h2; rw [cmpL, sgn, if_neg (by omega), if_pos (by omega)]
    | cons y t => rw [hy] at h2; simp at h1 h2; omega
inductive Sm : V → Prop
  | mk {k n : Int} {s : ByteArray} {l : List V} (hs : s.size ≤ 1000000) (hl : l.length ≤ 1000000) (h : ∀ x ∈ l, Sm x) : Sm (.mk k n s l)
inductive Bg : V → Prop
  | mk {k n : Int} {s : ByteArray} {l : List V} (hs : s.size ≤ maxLen) (hl : l.length ≤ maxLen) (h : ∀ x ∈ l, Bg x) : Bg (.mk k n s l)
theorem Sm.bg {v : V} (h : Sm v) : Bg v := by
  have hML : 1000000 ≤ maxLen := Nat.le_of_ble_eq_true rfl
  induction h with
  | mk hs hl _ ih => exact .mk (Nat.le_trans hs hML) (Nat.le_trans hl hML) ih
theorem Ok.bg {v : V} (h : Ok v) : Bg v := by
  induction h with
  | mk _ _ hs hl _ ih => exact .mk hs hl ih
end V
open V in
theorem listsVF (a b : List V) (ha : a.length ≤ maxLen) (IH : ∀ x ∈ a, ∀ y ∈ b, ∀ st, TrF Try.prog 98 [.agg x.cells, .agg y.cells] st fun r st' => r = .i (x.cmp y) ∧ st' = st) (st : St) : TrF Try.prog 113 [.sl .shared (a.map V.cells), .sl .shared (b.map V.cells), .fn (.func 98) [] []] st fun x st' => x = .i (cmpL a b) ∧ st' = st := by
  unfold maxLen at ha
  obtain ⟨B, hB⟩ : ∃ B, cmpL a b = B := ⟨_, rfl⟩
  have HB : Hid (cmpL (a.drop 0) (b.drop 0) = B) := hB
  rw [hB]
  clear hB
  obtain ⟨m, hm, hm1, hm2, hm3⟩ : ∃ m : Nat, (if b.length < a.length then (b.length : Int) else a.length) = m ∧ m ≤ a.length ∧ m ≤ b.length ∧ (m = a.length ∨ m = b.length) := by
    by_cases h : b.length < a.length
    · exact ⟨b.length, by rw [if_pos h], by omega, by omega, by omega⟩
    · exact ⟨a.length, by rw [if_neg h], by omega, by omega, by omega⟩
  have IH := Lib.hid IH
  refine trF_enter (ts := [6]) Try.func113 rfl (by rw [Try.ntmps113]; exact Nat.le_of_ble_eq_true rfl) (fun tmps w => by simp [results, Try.results113, go_sem, resVal]) ?_
  simp only [Try.ntmps113]
  repeat' (first | with_reducible refine Go1.go ?_ | ((with_reducible apply ev_go); (focus (try simp (disch := omega) only [push_cast, Nat.reduceEqDiff, reduceCtorEq, ↓reduceIte, Nat.reduceAdd, Nat.reduceMul, Nat.reduceSub, Nat.reduceLT, Nat.reduceLeDiff, Int.reduceToNat, Int.reduceLT, Int.reduceLE, Int.reduceAdd, Int.reduceSub, Int.reduceMul, Int.reduceBEq, Int.reduceBNe, encB, encI, V.cells_mk, V.cells_take, V.cells_len, isE_eq, *]); (try exact rfl); done)) | ((with_reducible refine w_last ?_ ?_ ?_); (focus kernel_rfl); (focus rfl)) | ((with_reducible apply w_stepG); (focus rfl)) | ((with_reducible apply lk_mem); (focus ((repeat (first | exact mm_h | apply mm_t)); done))) | with_reducible refine Go2.go ?_ | ((with_reducible apply sto_go); (focus (intro cs'; repeat (first | exact ra_h | apply ra_t)))) | ((with_reducible refine al_go ?_); intro b) | ((with_reducible refine And.intro ?_ ?_); (focus ((repeat (first | exact keep_none | exact keep_nil | exact keep_ro | refine keep_cons ?_)); done))) | ((with_reducible refine s_bi ?_ ?_); (focus rfl)) | with_reducible refine blk_ne rfl ?_ | ((with_reducible refine w_region ?_ ?_); (focus kernel_rfl)) | ((with_reducible refine w_draw [] ?_ ?_ ?_ ?_ ?_); (iterate 3 (focus kernel_rfl)); (focus exact keeps_nil)) | ((with_reducible first | refine gd_d1 ?_ ?_ | refine gd_d0 ?_ ?_); all_goals (intro hb; (first | with_reducible replace hb := nt_t hb | with_reducible replace hb := nt_f hb | skip); (first | replace hb := dc_t hb | replace hb := dc_f hb | have hb1 := eq_b hb | have hb1 := ne_b hb | have hb1 := bne_t hb | have hb1 := bne_f hb | skip); (try (exfalso; first | contradiction | omega)))))
  refine tr_loop (ι := Nat) (fun i A st' => i ≤ m ∧ Hid (cmpL (a.drop i) (b.drop i) = B) ∧ A.df = [] ∧ A.e 0 = .sl .shared (a.map V.cells) ∧ A.e 1 = .sl .shared (b.map V.cells) ∧ A.e 2 = .fn (.func 98) [] [] ∧ A.e 13 = .i m ∧ A.e 14 = .i i ∧ st = st') (fun i => m - i) 0 ⟨Nat.zero_le _, HB, ?_, ?_, ?_, ?_, ?_, ?_, rfl⟩ ?_
  iterate 6 (focus (first | rfl | assumption | omega | (simp (disch := omega) only [push_cast, Nat.reduceEqDiff, reduceCtorEq, ↓reduceIte, Nat.reduceAdd, Nat.reduceMul, Nat.reduceSub, Nat.reduceLT, Nat.reduceLeDiff, Int.reduceToNat, Int.reduceLT, Int.reduceLE, Int.reduceAdd, Int.reduceSub, Int.reduceMul, Int.reduceBEq, Int.reduceBNe, encB, encI, V.cells_mk, V.cells_take, V.cells_len, isE_eq, *]; try omega; done)))
  clear hm
  rintro i A st' ⟨hi, HT, hdf, e0, e1, e2, e13, e14, rfl⟩
  by_cases hlt : i < m
  · obtain ⟨x, hx⟩ : ∃ x, a[i]? = some x := ⟨_, List.getElem?_eq_getElem (by omega)⟩
    obtain ⟨y, hy⟩ : ∃ y, b[i]? = some y := ⟨_, List.getElem?_eq_getElem (by omega)⟩
    have HE := HT.out
    rw [V.drop_cons hx, V.drop_cons hy, cmpL] at HE
    have hC := IH.out x (mem_of hx) y (mem_of hy)
    clear HT HB IH
    cases x with
    | mk k1 n1 s1 l1 =>
    cases y with
    | mk k2 n2 s2 l2 =>
    rw [V.cells_mk, V.cells_mk] at hC
    generalize V.cmp _ _ = q at *
    have hC := Lib.hid hC
    by_cases h0 : q = 0
    · rw [if_pos h0] at HE
      have HE := Lib.hid HE
      subst h0
      repeat' (first | with_reducible refine Go1.go ?_ | ((with_reducible apply ev_go); (focus (try simp (disch := omega) only [push_cast, Nat.reduceEqDiff, reduceCtorEq, ↓reduceIte, Nat.reduceAdd, Nat.reduceMul, Nat.reduceSub, Nat.reduceLT, Nat.reduceLeDiff, Int.reduceToNat, Int.reduceLT, Int.reduceLE, Int.reduceAdd, Int.reduceSub, Int.reduceMul, Int.reduceBEq, Int.reduceBNe, encB, encI, V.cells_mk, V.cells_take, V.cells_len, isE_eq, *]); (try exact rfl); done)) | ((with_reducible refine w_last ?_ ?_ ?_); (focus kernel_rfl); (focus rfl)) | ((with_reducible apply w_stepG); (focus rfl)) | ((with_reducible apply lk_mem); (focus ((repeat (first | exact mm_h | apply mm_t)); done))) | with_reducible refine Go2.go ?_ | ((with_reducible apply sto_go); (focus (intro cs'; repeat (first | exact ra_h | apply ra_t)))) | ((with_reducible refine al_go ?_); intro b) | ((with_reducible refine And.intro ?_ ?_); (focus ((repeat (first | exact keep_none | exact keep_nil | exact keep_ro | refine keep_cons ?_)); done))) | ((with_reducible apply (ck_le Try.call98)); (focus exact LEL.refl _); (focus exact hC.out _)) | ((with_reducible refine s_bi ?_ ?_); (focus rfl)) | with_reducible refine blk_ne rfl ?_ | ((with_reducible refine w_region ?_ ?_); (focus kernel_rfl)) | ((with_reducible refine w_draw [] ?_ ?_ ?_ ?_ ?_); (iterate 3 (focus kernel_rfl)); (focus exact keeps_nil)) | ((with_reducible first | refine gd_d1 ?_ ?_ | refine gd_d0 ?_ ?_); all_goals (intro hb; (first | with_reducible replace hb := nt_t hb | with_reducible replace hb := nt_f hb | skip); (first | replace hb := dc_t hb | replace hb := dc_f hb | have hb1 := eq_b hb | have hb1 := ne_b hb | have hb1 := bne_t hb | have hb1 := bne_f hb | skip); (try (exfalso; first | contradiction | omega)))))
      refine ⟨i + 1, ⟨hlt, HE, ?_, ?_, ?_, ?_, ?_, ?_, rfl⟩, ?_⟩
      all_goals (first | rfl | assumption | omega | (simp (disch := omega) only [push_cast, Nat.reduceEqDiff, reduceCtorEq, ↓reduceIte, Nat.reduceAdd, Nat.reduceMul, Nat.reduceSub, Nat.reduceLT, Nat.reduceLeDiff, Int.reduceToNat, Int.reduceLT, Int.reduceLE, Int.reduceAdd, Int.reduceSub, Int.reduceMul, Int.reduceBEq, Int.reduceBNe, encB, encI, V.cells_mk, V.cells_take, V.cells_len, isE_eq, *]; try omega; done))
    · rw [if_neg h0] at HE
      rw [← HE]
      clear HE
      repeat' (first | with_reducible refine Go1.go ?_ | ((with_reducible apply ev_go); (focus (try simp (disch := omega) only [push_cast, Nat.reduceEqDiff, reduceCtorEq, ↓reduceIte, Nat.reduceAdd, Nat.reduceMul, Nat.reduceSub, Nat.reduceLT, Nat.reduceLeDiff, Int.reduceToNat, Int.reduceLT, Int.reduceLE, Int.reduceAdd, Int.reduceSub, Int.reduceMul, Int.reduceBEq, Int.reduceBNe, encB, encI, V.cells_mk, V.cells_take, V.cells_len, isE_eq, *]); (try exact rfl); done)) | ((with_reducible refine w_last ?_ ?_ ?_); (focus kernel_rfl); (focus rfl)) | ((with_reducible apply w_stepG); (focus rfl)) | ((with_reducible apply lk_mem); (focus ((repeat (first | exact mm_h | apply mm_t)); done))) | with_reducible refine Go2.go ?_ | ((with_reducible apply sto_go); (focus (intro cs'; repeat (first | exact ra_h | apply ra_t)))) | ((with_reducible refine al_go ?_); intro b) | ((with_reducible refine And.intro ?_ ?_); (focus ((repeat (first | exact keep_none | exact keep_nil | exact keep_ro | refine keep_cons ?_)); done))) | ((with_reducible apply (ck_le Try.call98)); (focus exact LEL.refl _); (focus exact hC.out _)) | ((with_reducible refine s_bi ?_ ?_); (focus rfl)) | with_reducible refine blk_ne rfl ?_ | ((with_reducible refine w_region ?_ ?_); (focus kernel_rfl)) | ((with_reducible refine w_draw [] ?_ ?_ ?_ ?_ ?_); (iterate 3 (focus kernel_rfl)); (focus exact keeps_nil)) | ((with_reducible first | refine gd_d1 ?_ ?_ | refine gd_d0 ?_ ?_); all_goals (intro hb; (first | with_reducible replace hb := nt_t hb | with_reducible replace hb := nt_f hb | skip); (first | replace hb := dc_t hb | replace hb := dc_f hb | have hb1 := eq_b hb | have hb1 := ne_b hb | have hb1 := bne_t hb | have hb1 := bne_f hb | skip); (try (exfalso; first | contradiction | omega)))))
      all_goals (refine ret_eq (by first | exact .inl rfl | exact .inr rfl) (by first | rfl | assumption) (by (repeat (first | exact List.Sublist.refl _ | apply List.Sublist.cons))) ?_; (try simp (disch := omega) only [push_cast, Nat.reduceEqDiff, reduceCtorEq, ↓reduceIte, Nat.reduceAdd, Nat.reduceMul, Nat.reduceSub, Nat.reduceLT, Nat.reduceLeDiff, Int.reduceToNat, Int.reduceLT, Int.reduceLE, Int.reduceAdd, Int.reduceSub, Int.reduceMul, Int.reduceBEq, Int.reduceBNe, encB, encI, V.cells_mk, V.cells_take, V.cells_len, isE_eq, *]); try (first | exact LE.refl _ | exact LE.sl _ _ | (refine LE.tup ?_; (repeat' (first | exact LEL.nil | refine LEL.cons ?_ ?_ | exact LE.refl _ | exact LE.sl _ _ | refine LE.agg ?_)); done) | (refine LE.agg ?_; (repeat' (first | exact LEL.nil | refine LEL.cons ?_ ?_ | exact LE.refl _ | exact LE.sl _ _)); done) | refine LE.of_eq ?_))
  · have HE := HT.out
    rw [cmpL_end a b i (by omega) (by omega) (by omega)] at HE
    rw [← HE]
    clear HE HT HB IH
    repeat' (first | with_reducible refine Go1.go ?_ | ((with_reducible apply ev_go); (focus (try simp (disch := omega) only [push_cast, Nat.reduceEqDiff, reduceCtorEq, ↓reduceIte, Nat.reduceAdd, Nat.reduceMul, Nat.reduceSub, Nat.reduceLT, Nat.reduceLeDiff, Int.reduceToNat, Int.reduceLT, Int.reduceLE, Int.reduceAdd, Int.reduceSub, Int.reduceMul, Int.reduceBEq, Int.reduceBNe, encB, encI, V.cells_mk, V.cells_take, V.cells_len, isE_eq, *]); (try exact rfl); done)) | ((with_reducible refine w_last ?_ ?_ ?_); (focus kernel_rfl); (focus rfl)) | ((with_reducible apply w_stepG); (focus rfl)) | ((with_reducible apply lk_mem); (focus ((repeat (first | exact mm_h | apply mm_t)); done))) | with_reducible refine Go2.go ?_ | ((with_reducible apply sto_go); (focus (intro cs'; repeat (first | exact ra_h | apply ra_t)))) | ((with_reducible refine al_go ?_); intro b) | ((with_reducible refine And.intro ?_ ?_); (focus ((repeat (first | exact keep_none | exact keep_nil | exact keep_ro | refine keep_cons ?_)); done))) | ((with_reducible apply (ck_le Try.call110)); (focus exact LEL.refl _); (focus exact cmpIF _ _ _)) | ((with_reducible refine s_bi ?_ ?_); (focus rfl)) | with_reducible refine blk_ne rfl ?_ | ((with_reducible refine w_region ?_ ?_); (focus kernel_rfl)) | ((with_reducible refine w_draw [] ?_ ?_ ?_ ?_ ?_); (iterate 3 (focus kernel_rfl)); (focus exact keeps_nil)) | ((with_reducible first | refine gd_d1 ?_ ?_ | refine gd_d0 ?_ ?_); all_goals (intro hb; (first | with_reducible replace hb := nt_t hb | with_reducible replace hb := nt_f hb | skip); (first | replace hb := dc_t hb | replace hb := dc_f hb | have hb1 := eq_b hb | have hb1 := ne_b hb | have hb1 := bne_t hb | have hb1 := bne_f hb | skip); (try (exfalso; first | contradiction | omega)))))
    all_goals (refine ret_eq (by first | exact .inl rfl | exact .inr rfl) (by first | rfl | assumption) (by (repeat (first | exact List.Sublist.refl _ | apply List.Sublist.cons))) ?_; (try simp (disch := omega) only [push_cast, Nat.reduceEqDiff, reduceCtorEq, ↓reduceIte, Nat.reduceAdd, Nat.reduceMul, Nat.reduceSub, Nat.reduceLT, Nat.reduceLeDiff, Int.reduceToNat, Int.reduceLT, Int.reduceLE, Int.reduceAdd, Int.reduceSub, Int.reduceMul, Int.reduceBEq, Int.reduceBNe, encB, encI, V.cells_mk, V.cells_take, V.cells_len, isE_eq, *]); try (first | exact LE.refl _ | exact LE.sl _ _ | (refine LE.tup ?_; (repeat' (first | exact LEL.nil | refine LEL.cons ?_ ?_ | exact LE.refl _ | exact LE.sl _ _ | refine LE.agg ?_)); done) | (refine LE.agg ?_; (repeat' (first | exact LEL.nil | refine LEL.cons ?_ ?_ | exact LE.refl _ | exact LE.sl _ _)); done) | refine LE.of_eq ?_))
open V in
theorem valCompareB : ∀ (N : Nat) (a b : V), a.nodes ≤ N → a.Bg → b.Bg → ∀ st, TrF Try.prog 98 [.agg a.cells, .agg b.cells] st fun x st' => x = .i (a.cmp b) ∧ st' = st
  | 0, a, b, h, _, _ => by have := a.nodes_pos; omega
  | N + 1, .mk k n s l, .mk k' n' s' l', hN, hok, hok' => by
    intro st
    obtain ⟨hs, hl, hall⟩ := hok
    obtain ⟨hs', hl', hall'⟩ := hok'
    have IH := fun x (hx : x ∈ l) y (hy : y ∈ l') => valCompareB N x y (by have := nodes_lt (k := k) (n := n) (s := s) hx; omega) (hall x hx) (hall' y hy)
    have hL := Lib.hid (listsVF l l' hl IH)
    have hSL : s.data.toList.length = s.size := by simp
    have hB := Lib.hid fun o o' => listsBF o o' s.data.toList s'.data.toList (by omega)
    rw [V.cells_mk, V.cells_mk, show (V.mk k n s l).cmp (V.mk k' n' s' l') = ors [sgn k k', sgn n n', cmpB s.data.toList s'.data.toList, cmpL l l'] from cmp.eq_1 ..]
    clear IH hall hall' hN
    have hs : s.size ≤ 9223372036854775807 := hs
    have hs' : s'.size ≤ 9223372036854775807 := hs'
    generalize cmpL l l' = c4 at *
    generalize cmpB s.data.toList s'.data.toList = c3 at *
    obtain ⟨bs, hbs⟩ : ∃ bs, s.data.toList = bs := ⟨_, rfl⟩
    obtain ⟨bs', hbs'⟩ : ∃ bs, s'.data.toList = bs := ⟨_, rfl⟩
    rw [hbs] at hSL
    rw [hbs, hbs'] at hB
    refine trF_enter (ts := [4]) Try.func98 rfl (by rw [Try.ntmps98]; exact Nat.le_of_ble_eq_true rfl) (fun tmps w => by simp [results, Try.results98, go_sem, resVal]) ?_
    simp only [Try.ntmps98]
    repeat' (first | with_reducible refine Go1.go ?_ | ((with_reducible apply ev_go); (focus (try simp (disch := omega) only [push_cast, Nat.reduceEqDiff, reduceCtorEq, ↓reduceIte, Nat.reduceAdd, Nat.reduceMul, Nat.reduceSub, Nat.reduceLT, Nat.reduceLeDiff, Int.reduceToNat, Int.reduceLT, Int.reduceLE, Int.reduceAdd, Int.reduceSub, Int.reduceMul, Int.reduceBEq, Int.reduceBNe, encB, encI, V.cells_mk, V.cells_take, V.cells_len, isE_eq, *]); (try exact rfl); done)) | ((with_reducible refine w_last ?_ ?_ ?_); (focus kernel_rfl); (focus rfl)) | ((with_reducible apply w_stepG); (focus rfl)) | ((with_reducible apply lk_mem); (focus ((repeat (first | exact mm_h | apply mm_t)); done))) | with_reducible refine Go2.go ?_ | ((with_reducible apply sto_go); (focus (intro cs'; repeat (first | exact ra_h | apply ra_t)))) | ((with_reducible refine al_go ?_); intro b) | ((with_reducible refine And.intro ?_ ?_); (focus ((repeat (first | exact keep_none | exact keep_nil | exact keep_ro | refine keep_cons ?_)); done))) | ((with_reducible apply (ck_le Try.call110)); (focus exact LEL.refl _); (focus exact cmpIF _ _ _)) | ((with_reducible apply (ck_le Try.call111)); (focus exact LEL.refl _); (focus exact cmpLF _ _ _)) | ((with_reducible apply (ck_le Try.call112)); (focus exact LEL.refl _); (focus exact hB.out _ _ _)) | ((with_reducible apply (ck_le Try.call113)); (focus exact LEL.refl _); (focus exact hL.out _)) | ((with_reducible apply (ck_le Try.call109)); (focus exact LEL.refl _); (focus exact orF _ [sgn k k', sgn n n', c3, c4] (by simp) _)) | ((with_reducible refine s_bi ?_ ?_); (focus rfl)) | with_reducible refine blk_ne rfl ?_ | ((with_reducible refine w_region ?_ ?_); (focus kernel_rfl)) | ((with_reducible refine w_draw [] ?_ ?_ ?_ ?_ ?_); (iterate 3 (focus kernel_rfl)); (focus exact keeps_nil)) | ((with_reducible first | refine gd_d1 ?_ ?_ | refine gd_d0 ?_ ?_); all_goals (intro hb; (first | with_reducible replace hb := nt_t hb | with_reducible replace hb := nt_f hb | skip); (first | replace hb := dc_t hb | replace hb := dc_f hb | have hb1 := eq_b hb | have hb1 := ne_b hb | have hb1 := bne_t hb | have hb1 := bne_f hb | skip); (try (exfalso; first | contradiction | omega)))))
    all_goals (refine ret_eq (by first | exact .inl rfl | exact .inr rfl) (by first | rfl | assumption) (by (repeat (first | exact List.Sublist.refl _ | apply List.Sublist.cons))) ?_; (try simp (disch := omega) only [push_cast, Nat.reduceEqDiff, reduceCtorEq, ↓reduceIte, Nat.reduceAdd, Nat.reduceMul, Nat.reduceSub, Nat.reduceLT, Nat.reduceLeDiff, Int.reduceToNat, Int.reduceLT, Int.reduceLE, Int.reduceAdd, Int.reduceSub, Int.reduceMul, Int.reduceBEq, Int.reduceBNe, encB, encI, V.cells_mk, V.cells_take, V.cells_len, isE_eq, *]); try (first | exact LE.refl _ | exact LE.sl _ _ | (refine LE.tup ?_; (repeat' (first | exact LEL.nil | refine LEL.cons ?_ ?_ | exact LE.refl _ | exact LE.sl _ _ | refine LE.agg ?_)); done) | (refine LE.agg ?_; (repeat' (first | exact LEL.nil | refine LEL.cons ?_ ?_ | exact LE.refl _ | exact LE.sl _ _)); done) | refine LE.of_eq ?_))
open V in
theorem valSameB (a b : V) (ha : a.Bg) (hb : b.Bg) (st : St) : TrF Try.prog 83 [.agg a.cells, .agg b.cells] st fun x st' => x = .b (a.cmp b == 0) ∧ st' = st := by
  have hC := Lib.hid (valCompareB a.nodes a b (Nat.le_refl _) ha hb)
  cases a with
  | mk k n s l =>
  cases b with
  | mk k' n' s' l' =>
  rw [V.cells_mk, V.cells_mk] at *
  generalize V.cmp _ _ = q at *
  refine trF_enter (ts := [4]) Try.func83 rfl (by rw [Try.ntmps83]; exact Nat.le_of_ble_eq_true rfl) (fun tmps w => by simp [results, Try.results83, go_sem, resVal]) ?_
  simp only [Try.ntmps83]
  repeat' (first | with_reducible refine Go1.go ?_ | ((with_reducible apply ev_go); (focus (try simp (disch := omega) only [push_cast, Nat.reduceEqDiff, reduceCtorEq, ↓reduceIte, Nat.reduceAdd, Nat.reduceMul, Nat.reduceSub, Nat.reduceLT, Nat.reduceLeDiff, Int.reduceToNat, Int.reduceLT, Int.reduceLE, Int.reduceAdd, Int.reduceSub, Int.reduceMul, Int.reduceBEq, Int.reduceBNe, encB, encI, V.cells_mk, V.cells_take, V.cells_len, isE_eq, *]); (try exact rfl); done)) | ((with_reducible refine w_last ?_ ?_ ?_); (focus kernel_rfl); (focus rfl)) | ((with_reducible apply w_stepG); (focus rfl)) | ((with_reducible apply lk_mem); (focus ((repeat (first | exact mm_h | apply mm_t)); done))) | with_reducible refine Go2.go ?_ | ((with_reducible apply sto_go); (focus (intro cs'; repeat (first | exact ra_h | apply ra_t)))) | ((with_reducible refine al_go ?_); intro b) | ((with_reducible refine And.intro ?_ ?_); (focus ((repeat (first | exact keep_none | exact keep_nil | exact keep_ro | refine keep_cons ?_)); done))) | ((with_reducible apply (ck_le Try.call98)); (focus exact LEL.refl _); (focus exact hC.out _)) | ((with_reducible refine s_bi ?_ ?_); (focus rfl)) | with_reducible refine blk_ne rfl ?_ | ((with_reducible refine w_region ?_ ?_); (focus kernel_rfl)) | ((with_reducible refine w_draw [] ?_ ?_ ?_ ?_ ?_); (iterate 3 (focus kernel_rfl)); (focus exact keeps_nil)) | ((with_reducible first | refine gd_d1 ?_ ?_ | refine gd_d0 ?_ ?_); all_goals (intro hb; (first | with_reducible replace hb := nt_t hb | with_reducible replace hb := nt_f hb | skip); (first | replace hb := dc_t hb | replace hb := dc_f hb | have hb1 := eq_b hb | have hb1 := ne_b hb | have hb1 := bne_t hb | have hb1 := bne_f hb | skip); (try (exfalso; first | contradiction | omega)))))
  all_goals (refine ret_eq (by first | exact .inl rfl | exact .inr rfl) (by first | rfl | assumption) (by (repeat (first | exact List.Sublist.refl _ | apply List.Sublist.cons))) ?_; (try simp (disch := omega) only [push_cast, Nat.reduceEqDiff, reduceCtorEq, ↓reduceIte, Nat.reduceAdd, Nat.reduceMul, Nat.reduceSub, Nat.reduceLT, Nat.reduceLeDiff, Int.reduceToNat, Int.reduceLT, Int.reduceLE, Int.reduceAdd, Int.reduceSub, Int.reduceMul, Int.reduceBEq, Int.reduceBNe, encB, encI, V.cells_mk, V.cells_take, V.cells_len, isE_eq, *]); try (first | exact LE.refl _ | exact LE.sl _ _ | (refine LE.tup ?_; (repeat' (first | exact LEL.nil | refine LEL.cons ?_ ?_ | exact LE.refl _ | exact LE.sl _ _ | refine LE.agg ?_)); done) | (refine LE.agg ?_; (repeat' (first | exact LEL.nil | refine LEL.cons ?_ ?_ | exact LE.refl _ | exact LE.sl _ _)); done) | refine LE.of_eq ?_))
end Go.Proofs.Ytooaagmhgakhgaa
end

section
namespace Go.Proofs.Ytooaagmhgakhgaa
set_option linter.unusedSimpArgs false
open Go.RowKit
structure Sl where
  name : ByteArray
  types : Int
  req : Bool
  dv : V
def Sl.cells (s : Sl) : List D := .str s.name :: .i s.types :: .b s.req :: s.dv.cells
theorem Sl.cells_mk (nm : ByteArray) (ty : Int) (rq : Bool) (k n : Int) (s : ByteArray) (l : List V) : (Sl.mk nm ty rq (.mk k n s l)).cells = [.str nm, .i ty, .b rq, .i k, .i n, .str s, .sl .shared (l.map V.cells)] := by
  unfold Sl.cells; rw [V.cells_mk]
theorem Sl.cells_len (s : Sl) : s.cells.length = 7 := by
  unfold Sl.cells
  rw [List.length_cons, List.length_cons, List.length_cons, V.cells_len]
def Sl.Ok (s : Sl) : Prop := s.name.size ≤ maxLen ∧ (-9223372036854775808 ≤ s.types ∧ s.types ≤ 9223372036854775807) ∧ s.dv.Ok
structure Stp where
  kind : Int
  col : Int
  slot : Sl
  order : List Int
def Stp.cells (s : Stp) : List D := .i s.kind :: .i s.col :: (s.slot.cells ++ [.sl .shared (s.order.map encI)])
structure Tm where
  name : ByteArray
  slots : List Sl
  steps : List Stp
def Tm.cells (t : Tm) : List D := [.str t.name, .sl .shared (t.slots.map Sl.cells), .sl .shared (t.steps.map Stp.cells)]
structure Vr where
  slots : List Sl
  cols : List Nat
def encC (n : Nat) : List D := [.i n]
def Vr.cells (x : Vr) : List D := [.sl .shared (x.slots.map Sl.cells), .sl .shared (x.cols.map encC)]
namespace Sch
def zeroV : V := .mk 0 0 ⟨#[]⟩ []
def takes (t : Int) : Bool := decide (1 ≤ t) && decide (t ≤ 63)
def bit (t : Int) (k : Int) : Bool := bits .and .i64 (t / 2 ^ k.toNat) 1 == 1
def fits (s : Sl) (v : V) : Bool := v.right && bit s.types (match v with | .mk k _ _ _ => k)
def sound (s : Sl) : Bool := V.isName s.name.data.toList && takes s.types && fits s s.dv
def named (slots : List Sl) (name : ByteArray) (i : Nat) : Bool := (slots[i]?).any fun s => s.name.toList == name.toList
def colL (slots : List Sl) (name : ByteArray) : List Nat → Int
  | [] => -1
  | i :: l => if named slots name i then i else colL slots name l
def col (x : Vr) (name : ByteArray) : Int := colL x.slots name x.cols
def bare (s : Sl) (nm ty : Bool) : Bool := (nm || decide (s.name.size = 0)) && (ty || s.types == 0) && !s.req && (s.dv.cmp zeroV == 0)
def column (x : Vr) (s : Stp) : Bool := decide (0 ≤ s.col) && decide (s.col < x.cols.length) && decide (s.order.length = 0)
def addS (x : Vr) (s : Stp) : Option Vr :=
  if s.col = 0 ∧ s.order.length = 0 ∧ x.cols.length < 8 ∧ sound s.slot = true ∧ s.slot.req = false ∧ col x s.slot.name < 0 then some ⟨x.slots ++ [s.slot], x.cols ++ [x.slots.length]⟩ else none
def loseS (x : Vr) (s : Stp) : Option Vr :=
  if column x s = true ∧ bare s.slot false false = true ∧ x.cols.length ≠ 1 then some ⟨x.slots, x.cols.eraseIdx s.col.toNat⟩ else none
def at_ (x : Vr) (s : Stp) : Nat := x.cols.getD s.col.toNat 0
def renameS (x : Vr) (s : Stp) : Option Vr :=
  if column x s = true ∧ bare s.slot true false = true ∧ V.isName s.slot.name.data.toList = true ∧ col x s.slot.name < 0 then some ⟨x.slots.modify (at_ x s) fun y => { y with name := s.slot.name }, x.cols⟩ else none
def widenS (x : Vr) (s : Stp) : Option Vr :=
  if column x s = true ∧ bare s.slot false true = true ∧ takes s.slot.types = true ∧ (x.slots[at_ x s]?).any (fun y => bits .or .i64 y.types s.slot.types != y.types) = true then some ⟨x.slots.modify (at_ x s) fun y => { y with types := bits .or .i64 y.types s.slot.types }, x.cols⟩ else none
def reo (cols : List Nat) : List Int → List Nat → Option (List Nat)
  | [], out => some out
  | k :: l, out => if 0 ≤ k ∧ k < cols.length ∧ cols.getD k.toNat 0 ∉ out then reo cols l (out ++ [cols.getD k.toNat 0]) else none
def reorderS (x : Vr) (s : Stp) : Option Vr :=
  if s.col = 0 ∧ bare s.slot false false = true ∧ s.order.length = x.cols.length then (reo x.cols s.order []).map fun c => ⟨x.slots, c⟩ else none
def stepV (x : Vr) (s : Stp) : Option Vr :=
  if s.kind = 1 then addS x s else if s.kind = 2 then loseS x s else if s.kind = 3 then renameS x s else if s.kind = 4 then widenS x s else if s.kind = 5 then reorderS x s else none
def firstL : List Sl → Vr → Option Vr
  | [], x => some x
  | s :: l, x => if sound s = true ∧ col x s.name < 0 then firstL l ⟨x.slots ++ [s], x.cols ++ [x.slots.length]⟩ else none
def firstV (t : Tm) : Option Vr :=
  if V.isName t.name.data.toList = true ∧ 1 ≤ t.slots.length ∧ t.slots.length ≤ 8 ∧ t.steps.length ≤ 8 then firstL t.slots ⟨[], []⟩ else none
def versL : Vr → List Stp → List Vr
  | _, [] => []
  | x, s :: l => match stepV x s with
    | none => []
    | some y => y :: versL y l
def vers (t : Tm) : List Vr := match firstV t with
  | none => []
  | some x => x :: versL x t.steps
def last (t : Tm) : Nat := if (vers t).length = t.steps.length + 1 then t.steps.length + 1 else 0
def ver (t : Tm) (v : Int) : Option Vr := if 0 < last t ∧ 1 ≤ v then (vers t)[(v - 1).toNat]? else none
structure VOk (n : Nat) (x : Vr) : Prop where
  ls : x.slots.length ≤ n
  lc : 1 ≤ x.cols.length
  lc8 : x.cols.length ≤ 8
  cs : ∀ c ∈ x.cols, c < x.slots.length
  ok : ∀ s ∈ x.slots, s.Ok
end Sch
end Go.Proofs.Ytooaagmhgakhgaa
end

section
namespace Go.Proofs.Ytooaagmhgakhgaa
open Go.RowKit

theorem take_eq_stepI {α : Type} {xs ys : List α} {k : Nat} (h : xs.take k = ys.take k) (hx : k < xs.length) (hy : k < ys.length) (e : xs[k] = ys[k]) : xs.take (k + 1) = ys.take (k + 1) := by
  rw [take_snoc xs k hx, take_snoc ys k hy, h, e]

set_option maxHeartbeats 400000 in
theorem ints_any (u v : Value) (xs ys : List Int) (w : World) (hu : Sees iv w u xs) (hv : Sees iv w v ys) :
    Calls Try.prog 20 #[u, v] w fun e w' => e = .returned (.bool (decide (xs = ys))) ∧ ∃ n, w' = w.drewN n := by
  obtain ⟨a, cap, rfl, h1, h2, h3, h4⟩ := hu
  obtain ⟨a', cap', rfl, h1', h2', h3', h4'⟩ := hv
  unfold maxLen at h2 h2'
  by_cases hl : xs.length = ys.length
  · have hl' : ((xs.length : Int) != (ys.length : Int)) = false := by rw [bne_eq_false_iff_eq]; omega
    have HL := Lib.hid hl
    have i1 : xs.length ≤ ys.length := by omega
    have i2 : ys.length ≤ xs.length := by omega
    clear hl
    obtain ⟨q, hq⟩ : ∃ q, decide (xs = ys) = q := ⟨_, rfl⟩
    rw [hq]
    have HQ := Lib.hid hq; clear hq
    go_enter Try.func20, Try.ntmps20
    go_wp2
    go_loopw [5] (fun i wr => ∃ k : Nat, k ≤ xs.length ∧ i = .int .i64 k ∧ xs.take k = ys.take k ∧ ∃ n, wr = w.drewN n) (fun i _ => xs.length - (intOf i).toNat)
    case atStart => exact ⟨0, Nat.zero_le _, rfl, rfl, 0, rfl⟩
    case round =>
      obtain ⟨k, hk, rfl, htk, n, rfl⟩ := hrel
      have HT := Lib.hid htk; clear htk
      by_cases hlt : k < xs.length
      · have hlt' : k < ys.length := by omega
        obtain ⟨⟨b, off, s⟩, rfl⟩ : ∃ b, a = some b := by
          cases a with
          | none => have := h3 rfl; omega
          | some b => exact ⟨b, rfl⟩
        obtain ⟨⟨b', off', s'⟩, rfl⟩ : ∃ b, a' = some b := by
          cases a' with
          | none => have := h3' rfl; omega
          | some b => exact ⟨b, rfl⟩
        obtain ⟨e1, e2, e3⟩ := h4 _ rfl (by omega)
        obtain ⟨e1', e2', e3'⟩ := h4' _ rfl (by omega)
        dsimp only at e1 e2 e3 e1' e2' e3'
        subst e1 e1'
        have hc := e3 k hlt
        have hc' := e3' k hlt'
        have HX := Lib.hid (fun e : xs[k] = ys[k] => take_eq_stepI HT.out hlt hlt' e)
        have HN := Lib.hid (fun (h : xs[k] ≠ ys[k]) (e : xs = ys) => h (by simp only [e]))
        clear h4 h4' e3 e3' h3 h3'
        generalize xs[k] = x at *
        generalize ys[k] = y at *
        unfold iv at hc hc'
        by_cases hxy : x = y
        · subst hxy
          go_wp2
          go_quiet (fail)
          go_wp2
          go_roundw
          case rel => exact ⟨k + 1, by omega, by go_num, HX.out trivial, _, rfl⟩
          case measure => simp [intOf]; omega
        · have hn : (x != y) = true := by rw [bne_iff_ne]; exact hxy
          have hne : decide (xs = ys) = false := by rw [decide_eq_false_iff_not]; exact HN.out hxy
          have HE := Lib.hid (HQ.out.symm.trans hne)
          clear hne hxy
          go_wp2
          go_quiet (fail)
          go_wp2
          go_ret
          exact ⟨ret_bool HE.out.symm, _, by first | rfl | exact World.drewN_drewN _ _ _⟩
      · clear h4 h4' h3 h3'
        have HE : Hid (q = true) := by
          have := HT.out
          rw [List.take_of_length_le (by omega), List.take_of_length_le (by omega)] at this
          show q = true
          rw [← HQ.out, this]; simp
        go_wp2
        go_ret
        exact ⟨ret_bool HE.out.symm, _, by first | rfl | exact World.drewN_drewN _ _ _⟩
  · have hl' : ((xs.length : Int) != (ys.length : Int)) = true := by rw [bne_iff_ne]; omega
    have hne : decide (xs = ys) = false := by rw [decide_eq_false_iff_not]; intro e; exact hl (by rw [e])
    rw [hne]
    clear hne hl
    go_enter Try.func20, Try.ntmps20
    go_wp2
    go_ret
    exact ⟨rfl, 0, rfl⟩
end Go.Proofs.Ytooaagmhgakhgaa
end

section
namespace Go.Proofs.Ytooaagmhgakhgaa
set_option linter.unusedSimpArgs false
open Go.RowKit
set_option maxRecDepth 10000
set_option maxHeartbeats 4000000
def colC (l : List Nat) : List D := (l.map encC).flatten
theorem colC_len (l : List Nat) : (colC l).length = l.length * 1 := by
  unfold colC
  rw [flat_len (sz := 1) fun e he => by
    obtain ⟨x, -, rfl⟩ := List.mem_map.1 he
    rfl, List.length_map]
def slotC (l : List Sl) : List D := (l.map Sl.cells).flatten
theorem slotC_len (l : List Sl) : (slotC l).length = l.length * 7 := by
  unfold slotC
  rw [flat_len (sz := 7) fun e he => by
    obtain ⟨x, -, rfl⟩ := List.mem_map.1 he
    exact Sl.cells_len x, List.length_map]
theorem cloneIF (g cap : Nat) (l : List Nat) (zs : List D) (hl : l ≠ []) (h8 : l.length ≤ 1000000) (st : St) (hm : Res.box g 3 (colC l ++ zs) ∈ st) : TrF Try.prog 89 [.ar g 0 l.length cap] st fun d st' => d = .sl .shared (l.map encC) ∧ st' = st := by
  have hcl := colC_len l
  have hpos : 0 < l.length := List.length_pos_iff.2 hl
  refine TrF.freeze (el := 3) (sz := 1) (n := l.length) ?_ (by decide) (fun e he => by
    obtain ⟨x, -, rfl⟩ := List.mem_map.1 he
    rfl) (List.length_map ..)
  show TrF _ _ _ _ fun d st' => ∃ g' cap' zs', d = .ar g' 0 l.length cap' ∧ st' = .box g' _ (colC l ++ zs') :: st
  generalize colC l = R at *
  generalize l.length = n at *
  refine trF_enter (ts := [2]) Try.func89 rfl (by rw [Try.ntmps89]; exact Nat.le_of_ble_eq_true rfl) (fun tmps w => by simp [results, Try.results89, go_sem, resVal]) ?_
  simp only [Try.ntmps89]
  repeat' (first | with_reducible refine Go1.go ?_ | ((with_reducible apply ev_go); (focus (try simp (disch := omega) only [push_cast, Nat.reduceEqDiff, reduceCtorEq, ↓reduceIte, Nat.reduceAdd, Nat.reduceMul, Nat.reduceSub, Nat.reduceLT, Nat.reduceLeDiff, Int.reduceToNat, Int.reduceLT, Int.reduceLE, Int.reduceAdd, Int.reduceSub, Int.reduceMul, Int.reduceBEq, Int.reduceBNe, encB, encI, encC, V.cells_mk, V.cells_len, Nat.mul_one, Int.sub_zero, List.map_nil, beq_self_eq_true, *]); (try exact rfl); done)) | ((with_reducible apply s_isNilA); (focus simp (disch := omega) only [push_cast, Nat.reduceEqDiff, reduceCtorEq, ↓reduceIte, Nat.reduceAdd, Nat.reduceMul, Nat.reduceSub, Nat.reduceLT, Nat.reduceLeDiff, Int.reduceToNat, Int.reduceLT, Int.reduceLE, Int.reduceAdd, Int.reduceSub, Int.reduceMul, Int.reduceBEq, Int.reduceBNe, encB, encI, encC, V.cells_mk, V.cells_len, Nat.mul_one, Int.sub_zero, List.map_nil, beq_self_eq_true, *]; exact rfl); (focus simp (disch := omega) only [push_cast, Nat.reduceEqDiff, reduceCtorEq, ↓reduceIte, Nat.reduceAdd, Nat.reduceMul, Nat.reduceSub, Nat.reduceLT, Nat.reduceLeDiff, Int.reduceToNat, Int.reduceLT, Int.reduceLE, Int.reduceAdd, Int.reduceSub, Int.reduceMul, Int.reduceBEq, Int.reduceBNe, encB, encI, encC, V.cells_mk, V.cells_len, Nat.mul_one, Int.sub_zero, List.map_nil, beq_self_eq_true, *]; exact rfl)) | with_reducible refine s_appC ?_ | with_reducible refine rc_go ?_ | ((with_reducible apply (rc2_go hm)); (focus assumption); (focus assumption); (focus omega); (focus omega); intro g' cap' zs' hc hl') | ((with_reducible refine w_last ?_ ?_ ?_); (focus kernel_rfl); (focus rfl)) | ((with_reducible apply w_stepG); (focus rfl)) | ((with_reducible apply lk_mem); (focus ((repeat (first | exact mm_h | apply mm_t)); done))) | with_reducible refine Go2.go ?_ | ((with_reducible apply sto_go); (focus (intro cs'; repeat (first | exact ra_h | apply ra_t)))) | ((with_reducible refine al_go ?_); intro b) | ((with_reducible refine And.intro ?_ ?_); (focus ((repeat (first | exact keep_none | exact keep_nil | exact keep_ro | refine keep_cons ?_)); done))) | ((with_reducible refine s_bi ?_ ?_); (focus rfl)) | with_reducible refine blk_ne rfl ?_ | ((with_reducible refine w_region ?_ ?_); (focus kernel_rfl)) | ((with_reducible refine w_draw [] ?_ ?_ ?_ ?_ ?_); (iterate 3 (focus kernel_rfl)); (focus exact keeps_nil)) | ((with_reducible first | refine gd_d1 ?_ ?_ | refine gd_d0 ?_ ?_); all_goals (intro hb; (first | with_reducible replace hb := nt_t hb | with_reducible replace hb := nt_f hb | skip); (first | replace hb := dc_t hb | replace hb := dc_f hb | have hb1 := eq_b hb | have hb1 := ne_b hb | have hb1 := bne_t hb | have hb1 := bne_f hb | skip); (try (exfalso; first | contradiction | omega)))))
  all_goals (refine retA_mk (by first | exact .inl rfl | exact .inr rfl) rfl (List.Sublist.refl _) (LE.of_eq ?_) ⟨g', cap', zs', rfl, rfl⟩; simp (disch := omega) only [push_cast, Nat.reduceEqDiff, reduceCtorEq, ↓reduceIte, Nat.reduceAdd, Nat.reduceMul, Nat.reduceSub, Nat.reduceLT, Nat.reduceLeDiff, Int.reduceToNat, Int.reduceLT, Int.reduceLE, Int.reduceAdd, Int.reduceSub, Int.reduceMul, Int.reduceBEq, Int.reduceBNe, encB, encI, encC, V.cells_mk, V.cells_len, Nat.mul_one, Int.sub_zero, List.map_nil, beq_self_eq_true, *])

theorem cloneSF (g cap : Nat) (l : List Sl) (zs : List D) (hl : l ≠ []) (h8 : l.length ≤ 1000000) (st : St) (hm : Res.box g 26 (slotC l ++ zs) ∈ st) : TrF Try.prog 88 [.ar g 0 l.length cap] st fun d st' => d = .sl .shared (l.map Sl.cells) ∧ st' = st := by
  have hcl := slotC_len l
  have hpos : 0 < l.length := List.length_pos_iff.2 hl
  refine TrF.freeze (el := 26) (sz := 7) (n := l.length) ?_ (by decide) (fun e he => by
    obtain ⟨x, -, rfl⟩ := List.mem_map.1 he
    exact Sl.cells_len x) (List.length_map ..)
  show TrF _ _ _ _ fun d st' => ∃ g' cap' zs', d = .ar g' 0 l.length cap' ∧ st' = .box g' _ (slotC l ++ zs') :: st
  generalize slotC l = R at *
  generalize l.length = n at *
  refine trF_enter (ts := [2]) Try.func88 rfl (by rw [Try.ntmps88]; exact Nat.le_of_ble_eq_true rfl) (fun tmps w => by simp [results, Try.results88, go_sem, resVal]) ?_
  simp only [Try.ntmps88]
  repeat' (first | with_reducible refine Go1.go ?_ | ((with_reducible apply ev_go); (focus (try simp (disch := omega) only [push_cast, Nat.reduceEqDiff, reduceCtorEq, ↓reduceIte, Nat.reduceAdd, Nat.reduceMul, Nat.reduceSub, Nat.reduceLT, Nat.reduceLeDiff, Int.reduceToNat, Int.reduceLT, Int.reduceLE, Int.reduceAdd, Int.reduceSub, Int.reduceMul, Int.reduceBEq, Int.reduceBNe, encB, encI, encC, V.cells_mk, V.cells_len, Nat.mul_one, Int.sub_zero, List.map_nil, beq_self_eq_true, *]); (try exact rfl); done)) | ((with_reducible apply s_isNilA); (focus simp (disch := omega) only [push_cast, Nat.reduceEqDiff, reduceCtorEq, ↓reduceIte, Nat.reduceAdd, Nat.reduceMul, Nat.reduceSub, Nat.reduceLT, Nat.reduceLeDiff, Int.reduceToNat, Int.reduceLT, Int.reduceLE, Int.reduceAdd, Int.reduceSub, Int.reduceMul, Int.reduceBEq, Int.reduceBNe, encB, encI, encC, V.cells_mk, V.cells_len, Nat.mul_one, Int.sub_zero, List.map_nil, beq_self_eq_true, *]; exact rfl); (focus simp (disch := omega) only [push_cast, Nat.reduceEqDiff, reduceCtorEq, ↓reduceIte, Nat.reduceAdd, Nat.reduceMul, Nat.reduceSub, Nat.reduceLT, Nat.reduceLeDiff, Int.reduceToNat, Int.reduceLT, Int.reduceLE, Int.reduceAdd, Int.reduceSub, Int.reduceMul, Int.reduceBEq, Int.reduceBNe, encB, encI, encC, V.cells_mk, V.cells_len, Nat.mul_one, Int.sub_zero, List.map_nil, beq_self_eq_true, *]; exact rfl)) | with_reducible refine s_appC ?_ | with_reducible refine rc_go ?_ | ((with_reducible apply (rc2_go hm)); (focus assumption); (focus assumption); (focus omega); (focus omega); intro g' cap' zs' hc hl') | ((with_reducible refine w_last ?_ ?_ ?_); (focus kernel_rfl); (focus rfl)) | ((with_reducible apply w_stepG); (focus rfl)) | ((with_reducible apply lk_mem); (focus ((repeat (first | exact mm_h | apply mm_t)); done))) | with_reducible refine Go2.go ?_ | ((with_reducible apply sto_go); (focus (intro cs'; repeat (first | exact ra_h | apply ra_t)))) | ((with_reducible refine al_go ?_); intro b) | ((with_reducible refine And.intro ?_ ?_); (focus ((repeat (first | exact keep_none | exact keep_nil | exact keep_ro | refine keep_cons ?_)); done))) | ((with_reducible refine s_bi ?_ ?_); (focus rfl)) | with_reducible refine blk_ne rfl ?_ | ((with_reducible refine w_region ?_ ?_); (focus kernel_rfl)) | ((with_reducible refine w_draw [] ?_ ?_ ?_ ?_ ?_); (iterate 3 (focus kernel_rfl)); (focus exact keeps_nil)) | ((with_reducible first | refine gd_d1 ?_ ?_ | refine gd_d0 ?_ ?_); all_goals (intro hb; (first | with_reducible replace hb := nt_t hb | with_reducible replace hb := nt_f hb | skip); (first | replace hb := dc_t hb | replace hb := dc_f hb | have hb1 := eq_b hb | have hb1 := ne_b hb | have hb1 := bne_t hb | have hb1 := bne_f hb | skip); (try (exfalso; first | contradiction | omega)))))
  all_goals (refine retA_mk (by first | exact .inl rfl | exact .inr rfl) rfl (List.Sublist.refl _) (LE.of_eq ?_) ⟨g', cap', zs', rfl, rfl⟩; simp (disch := omega) only [push_cast, Nat.reduceEqDiff, reduceCtorEq, ↓reduceIte, Nat.reduceAdd, Nat.reduceMul, Nat.reduceSub, Nat.reduceLT, Nat.reduceLeDiff, Int.reduceToNat, Int.reduceLT, Int.reduceLE, Int.reduceAdd, Int.reduceSub, Int.reduceMul, Int.reduceBEq, Int.reduceBNe, encB, encI, encC, V.cells_mk, V.cells_len, Nat.mul_one, Int.sub_zero, List.map_nil, beq_self_eq_true, *])

theorem containsF (o : Own) (l : List Nat) (x : Nat) (st : St) : TrF Try.prog 106 [.sl o (l.map encC), .i x] st fun d st' => d = .b (decide (x ∈ l)) ∧ st' = st :=
  trF_pure fun vs w hv => by
    obtain ⟨v, v', rfl, h1, h2⟩ := args2 hv
    cases rep_s h2
    have hs : Sees (fun n : Nat => Value.int .i64 n) w v l := sees_of_rep (f := fun n : Nat => Value.int .i64 n) h1
    refine ⟨_, fun _ _ => .s _ rfl, ?_⟩
    obtain ⟨a, cap, rfl, q1, q2, q3, q4⟩ := hs
    cases l with
    | nil =>
      refine (Try.slices_Contains_int_empty a cap x w).mono ?_
      rintro e w' ⟨he, rfl⟩
      exact ⟨he, Below.refl _ _⟩
    | cons y r =>
      obtain ⟨b, rfl⟩ : ∃ b, a = some b := by
        cases a with
        | none => have := q3 rfl; simp at q1; omega
        | some b => exact ⟨b, rfl⟩
      obtain ⟨e1, e2, e3⟩ := q4 b rfl (by simp)
      obtain ⟨bk, off, sp⟩ := b
      dsimp only at e1 e2 e3
      subst e1
      have hc := Try.slices_Contains_int bk off (y :: r).length cap ((y :: r).map Int.ofNat) x w (by simp) (by unfold maxLen at q2; omega) (fun j hj => by
        rw [List.length_map] at hj
        rw [e3 j hj, List.getD_eq_getElem?_getD, List.getElem?_map, List.getElem?_eq_getElem hj]; rfl)
      refine hc.mono ?_
      rintro e w' ⟨he, rfl⟩
      refine ⟨?_, Below.refl _ _⟩
      rw [he]
      congr 2
      rw [List.take_of_length_le (by simp), Bool.eq_iff_iff, List.contains_iff_mem, decide_eq_true_eq, List.mem_map]
      constructor
      · rintro ⟨a, h1, h2⟩
        have : a = x := Int.ofNat.inj h2
        exact this ▸ h1
      · intro h; exact ⟨x, h, rfl⟩
theorem deleteF (g cap i : Nat) (l : List Nat) (zs : List D) (hi : i < l.length) (hzs : (colC l ++ zs).length = cap * 1) (st : St) : TrF Try.prog 105 [.ar g 0 l.length cap, .i i, .i ((i : Int) + 1)] (.box g 3 (colC l ++ zs) :: st) fun d st' => d = .ar g 0 (l.eraseIdx i).length cap ∧ st' = .box g 3 (colC (l.eraseIdx i) ++ (.i 0 :: zs)) :: st := by
  intro vs w hv hh
  obtain ⟨lv⟩ := vs
  obtain ⟨v0, t0, e0, h1, hv⟩ := hv.inv_cons
  obtain ⟨v1, t1, e1, h2, hv⟩ := hv.inv_cons
  obtain ⟨v2, t2, e2, h3, hv⟩ := hv.inv_cons
  have e3 := hv.inv_nil
  dsimp only at e0
  subst e3 e2 e1 e0
  cases rep_s h2
  cases rep_s h3
  have hh1 := h1
  cases h1 with
  | ar _ _ _ _ c1 c2 =>
  obtain ⟨⟨us, hb, hr⟩, hlc⟩ := hh.2 _ (List.mem_cons_self ..)
  have hul := hr.1
  have hcl := colC_len l
  rw [List.length_append] at hul
  have hcm : ∀ l : List Nat, colC l = l.map fun c : Nat => D.i c := by
    intro l
    unfold colC
    induction l with
    | nil => rfl
    | cons x l ih => rw [List.map_cons, List.flatten_cons, ih]; rfl
  have hat : ∀ j (hj : j < l.length), us[j]? = some (.int .i64 (l[j] : Nat)) := fun j hj => by
    have hd : (colC l ++ zs)[j]? = some (.i (l[j] : Nat)) := by
      rw [List.getElem?_append_left (by omega), hcm, List.getElem?_map, List.getElem?_eq_getElem hj]; rfl
    obtain ⟨u, hu, hru⟩ := hr.get? hd
    rw [rep_s hru] at hu
    rw [← hu]; simp
  have hH : Sort.Holds (Value.int .i64) w g 0 ((l.map Int.ofNat).toArray) := fun j hj => by
    have hj' : j < l.length := by simpa using hj
    refine ⟨?_, ?_⟩
    · rw [Nat.zero_add, cell_of_row w g j us _ (0, 0) hb, hat j hj', getElem!_pos _ j hj]
      simp
    · unfold World.frozen?
      dsimp only
      rw [hb]; simp
  have hc := Try.slices_Delete_int g 0 cap i (i + 1) (l.map Int.ofNat) w hH (by simpa using c1) (by unfold maxLen at c2; omega) (by omega) (by rw [List.length_map]; omega)
  rw [List.length_map] at hc
  have hcast : ((i + 1 : Nat) : Int) = (i : Int) + 1 := by omega
  rw [hcast] at hc
  refine hc.mono ?_
  rintro e w' ⟨rfl, q, hw⟩
  refine ⟨_, rfl, ?_⟩
  obtain ⟨d', hd'⟩ : ∃ d', ((l.map Int.ofNat).take i ++ (l.map Int.ofNat).drop (i + 1) ++ List.replicate (i + 1 - i) 0) = d' := ⟨_, rfl⟩
  rw [hd'] at hw
  have hdl : d'.length = l.length := by
    rw [← hd']
    simp only [List.length_append, List.length_take, List.length_drop, List.length_map, List.length_replicate]
    omega
  have hus : (Sort.putCells (Value.int .i64) 0 d'.toArray us).toList = d'.map (Value.int .i64) ++ us.toList.drop l.length := by
    apply List.ext_getElem?
    intro k
    unfold Sort.putCells
    rw [Array.getElem?_toList, Array.getElem?_mapIdx]
    by_cases hk : k < l.length
    · have hk2 : k < us.size := by rw [← Array.length_toList]; omega
      rw [List.getElem?_append_left (by rw [List.length_map]; omega), Array.getElem?_eq_getElem hk2, List.getElem?_map, List.getElem?_eq_getElem (by omega : k < d'.length)]
      simp only [Option.map_some, Nat.zero_le, Nat.zero_add, List.size_toArray, hdl, hk, and_self, if_true, Nat.sub_zero, true_and]
      rw [getElem!_pos _ k (by simp; omega)]
      simp
    · rw [List.getElem?_append_right (by rw [List.length_map]; omega), List.length_map, hdl, List.getElem?_drop, show l.length + (k - l.length) = k by omega, Array.getElem?_toList]
      cases us[k]? with
      | none => rfl
      | some u => simp [hdl, hk]
  have hrep : RepL (OwnS (.box g 3 (colC l ++ zs) :: st)) w (Sort.putCells (Value.int .i64) 0 d'.toArray us).toList (colC (l.eraseIdx i) ++ (.i 0 :: zs)) := by
    rw [hus, show colC (l.eraseIdx i) ++ (.i 0 :: zs) = (d'.map fun n => D.i n) ++ zs by
      rw [← hd', hcm, List.eraseIdx_eq_take_drop_succ, show i + 1 - i = 1 by omega]
      simp only [List.map_append, List.map_take, List.map_drop, List.map_map, List.append_assoc, List.replicate, List.map_cons, List.map_nil, List.cons_append, List.nil_append]
      rfl]
    refine RepL.append (RepL.map fun x _ => .s _ rfl) ?_
    have := hr.drop l.length
    rwa [List.drop_append, List.drop_of_length_le (l := colC l) (by omega), List.nil_append, show l.length - (colC l).length = 0 by omega, List.drop_zero] at this
  have hw' : w'.heap[g]? = some (.cells (Sort.putCells (Value.int .i64) 0 d'.toArray us) 3 (0, 0)) := by
    rw [hw]
    simp only [Sort.putRow, Sort.mapBlock, Sort.ahead]
    rw [Array.getElem?_modify]
    simp [hb, Sort.onCells]
  have hs := set_any (w' := w') hh hb (by simp [Sort.putCells]) (by rw [hw]; rfl) (by rw [hw]; rfl) (by rw [hw]; rfl) (by rw [hw]; simp [Sort.putRow, Sort.mapBlock, Sort.ahead]) hw' (fun k hk => by
    rw [hw]
    simp only [Sort.putRow, Sort.mapBlock, Sort.ahead]
    rw [Array.getElem?_modify, if_neg (Ne.symm hk)]) hrep (fun d hd => by
      rw [hcm, List.mem_append] at hd
      rcases hd with hd | hd
      · obtain ⟨c, -, rfl⟩ := List.mem_map.1 hd; rfl
      · rcases List.mem_cons.1 hd with rfl | hd
        · rfl
        · exact hlc d (List.mem_append_right _ hd))
  have hel : (l.eraseIdx i).length = l.length - (i + 1 - i) := by rw [List.length_eraseIdx_of_lt hi]; omega
  refine ⟨.ar g 0 (l.eraseIdx i).length cap, _, ?_, hs.1, hs.2, rfl, rfl⟩
  rw [hel]
  exact .ar g 0 _ cap (by omega) c2
end Go.Proofs.Ytooaagmhgakhgaa
end

section
namespace Go.Proofs.Ytooaagmhgakhgaa
set_option linter.unusedSimpArgs false
open Go.RowKit
set_option maxRecDepth 10000
set_option maxHeartbeats 4000000
theorem schTakesF (t : Int) (st : St) : TrF Try.prog 102 [.i t] st fun x st' => x = .b (Sch.takes t) ∧ st' = st := by
  unfold Sch.takes
  refine trF_enter (ts := [2]) Try.func102 rfl (by rw [Try.ntmps102]; exact Nat.le_of_ble_eq_true rfl) (fun tmps w => by simp [results, Try.results102, go_sem, resVal]) ?_
  simp only [Try.ntmps102]
  repeat' (first | with_reducible refine Go1.go ?_ | ((with_reducible apply ev_go); (focus (try simp (disch := omega) only [push_cast, Nat.reduceEqDiff, reduceCtorEq, ↓reduceIte, Nat.reduceAdd, Nat.reduceMul, Nat.reduceSub, Nat.reduceLT, Nat.reduceLeDiff, Int.reduceToNat, Int.reduceLT, Int.reduceLE, Int.reduceAdd, Int.reduceSub, Int.reduceMul, Int.reduceBEq, Int.reduceBNe, encB, encI, encC, V.cells_mk, V.cells_len, Nat.mul_one, Int.sub_zero, List.map_nil, beq_self_eq_true, *]); (try exact rfl); done)) | ((with_reducible refine w_last ?_ ?_ ?_); (focus kernel_rfl); (focus rfl)) | ((with_reducible apply w_stepG); (focus rfl)) | ((with_reducible apply lk_mem); (focus ((repeat (first | exact mm_h | apply mm_t)); done))) | with_reducible refine Go2.go ?_ | ((with_reducible apply sto_go); (focus (intro cs'; repeat (first | exact ra_h | apply ra_t)))) | ((with_reducible refine al_go ?_); intro b) | ((with_reducible refine And.intro ?_ ?_); (focus ((repeat (first | exact keep_none | exact keep_nil | exact keep_ro | refine keep_cons ?_)); done))) | ((with_reducible refine s_bi ?_ ?_); (focus rfl)) | with_reducible refine blk_ne rfl ?_ | ((with_reducible refine w_region ?_ ?_); (focus kernel_rfl)) | ((with_reducible refine w_draw [] ?_ ?_ ?_ ?_ ?_); (iterate 3 (focus kernel_rfl)); (focus exact keeps_nil)) | ((with_reducible first | refine gd_d1 ?_ ?_ | refine gd_d0 ?_ ?_); all_goals (intro hb; (first | with_reducible replace hb := nt_t hb | with_reducible replace hb := nt_f hb | skip); (first | replace hb := dc_t hb | replace hb := dc_f hb | have hb1 := eq_b hb | have hb1 := ne_b hb | have hb1 := bne_t hb | have hb1 := bne_f hb | skip); (try (exfalso; first | contradiction | omega)))))
  all_goals (refine ret_eq (by first | exact .inl rfl | exact .inr rfl) (by first | rfl | assumption) (by (repeat (first | exact List.Sublist.refl _ | apply List.Sublist.cons))) ?_; (try simp (disch := omega) only [push_cast, Nat.reduceEqDiff, reduceCtorEq, ↓reduceIte, Nat.reduceAdd, Nat.reduceMul, Nat.reduceSub, Nat.reduceLT, Nat.reduceLeDiff, Int.reduceToNat, Int.reduceLT, Int.reduceLE, Int.reduceAdd, Int.reduceSub, Int.reduceMul, Int.reduceBEq, Int.reduceBNe, encB, encI, encC, V.cells_mk, V.cells_len, Nat.mul_one, Int.sub_zero, List.map_nil, beq_self_eq_true, *]); try (first | exact LE.refl _ | exact LE.sl _ _ | (refine LE.tup ?_; (repeat' (first | exact LEL.nil | refine LEL.cons ?_ ?_ | exact LE.refl _ | exact LE.sl _ _ | refine LE.agg ?_)); done) | (refine LE.agg ?_; (repeat' (first | exact LEL.nil | refine LEL.cons ?_ ?_ | exact LE.refl _ | exact LE.sl _ _)); done) | refine LE.of_eq ?_))
  all_goals (first | rfl | (refine congrArg D.b ?_; rw [Bool.eq_iff_iff]; simp only [Bool.true_and, Bool.false_and, Bool.and_true, Bool.and_false, Bool.or_false, Bool.or_true, Bool.true_or, Bool.false_or, true_and, and_true, Bool.not_eq_true', Bool.not_eq_false', decide_eq_true_eq, decide_eq_false_iff_not, beq_iff_eq, beq_eq_false_iff_ne, bne_iff_ne, ne_eq, reduceCtorEq, iff_true, true_iff, iff_false, false_iff, Bool.and_eq_true, Bool.or_eq_true, Bool.false_eq_true, Bool.true_eq_false]; first | done | omega))
theorem schFitsF (nm : ByteArray) (ty : Int) (rq : Bool) (dv v : V) (hB : v.nodes ≤ 4611686018427387904) (st : St) : TrF Try.prog 13 [.agg (Sl.mk nm ty rq dv).cells, .agg v.cells] st fun x st' => x = .b (Sch.fits (Sl.mk nm ty rq dv) v) ∧ st' = st := by
  have hR := valRightF v hB
  unfold Sch.fits
  cases hr : v.right with
  | false =>
    rw [hr] at hR
    cases v with
    | mk k n s l =>
    cases dv with
    | mk dk dn ds dl =>
    rw [V.cells_mk] at hR
    rw [Sl.cells_mk, V.cells_mk]
    replace hR := Lib.hid hR
    refine trF_enter (ts := [4]) Try.func13 rfl (by rw [Try.ntmps13]; exact Nat.le_of_ble_eq_true rfl) (fun tmps w => by simp [results, Try.results13, go_sem, resVal]) ?_
    simp only [Try.ntmps13]
    repeat' (first | with_reducible refine Go1.go ?_ | ((with_reducible apply ev_go); (focus (try simp (disch := omega) only [push_cast, Nat.reduceEqDiff, reduceCtorEq, ↓reduceIte, Nat.reduceAdd, Nat.reduceMul, Nat.reduceSub, Nat.reduceLT, Nat.reduceLeDiff, Int.reduceToNat, Int.reduceLT, Int.reduceLE, Int.reduceAdd, Int.reduceSub, Int.reduceMul, Int.reduceBEq, Int.reduceBNe, encB, encI, encC, V.cells_mk, V.cells_len, Nat.mul_one, Int.sub_zero, List.map_nil, beq_self_eq_true, *]); (try exact rfl); done)) | ((with_reducible refine w_last ?_ ?_ ?_); (focus kernel_rfl); (focus rfl)) | ((with_reducible apply w_stepG); (focus rfl)) | ((with_reducible apply lk_mem); (focus ((repeat (first | exact mm_h | apply mm_t)); done))) | with_reducible refine Go2.go ?_ | ((with_reducible apply sto_go); (focus (intro cs'; repeat (first | exact ra_h | apply ra_t)))) | ((with_reducible refine al_go ?_); intro b) | ((with_reducible refine And.intro ?_ ?_); (focus ((repeat (first | exact keep_none | exact keep_nil | exact keep_ro | refine keep_cons ?_)); done))) | ((with_reducible apply (ck_le Try.call42)); (focus exact LEL.refl _); (focus exact hR.out _)) | ((with_reducible refine s_bi ?_ ?_); (focus rfl)) | with_reducible refine blk_ne rfl ?_ | ((with_reducible refine w_region ?_ ?_); (focus kernel_rfl)) | ((with_reducible refine w_draw [] ?_ ?_ ?_ ?_ ?_); (iterate 3 (focus kernel_rfl)); (focus exact keeps_nil)) | ((with_reducible first | refine gd_d1 ?_ ?_ | refine gd_d0 ?_ ?_); all_goals (intro hb; (first | with_reducible replace hb := nt_t hb | with_reducible replace hb := nt_f hb | skip); (first | replace hb := dc_t hb | replace hb := dc_f hb | have hb1 := eq_b hb | have hb1 := ne_b hb | have hb1 := bne_t hb | have hb1 := bne_f hb | skip); (try (exfalso; first | contradiction | omega)))))
    all_goals (refine ret_eq (by first | exact .inl rfl | exact .inr rfl) (by first | rfl | assumption) (by (repeat (first | exact List.Sublist.refl _ | apply List.Sublist.cons))) ?_; (try simp (disch := omega) only [push_cast, Nat.reduceEqDiff, reduceCtorEq, ↓reduceIte, Nat.reduceAdd, Nat.reduceMul, Nat.reduceSub, Nat.reduceLT, Nat.reduceLeDiff, Int.reduceToNat, Int.reduceLT, Int.reduceLE, Int.reduceAdd, Int.reduceSub, Int.reduceMul, Int.reduceBEq, Int.reduceBNe, encB, encI, encC, V.cells_mk, V.cells_len, Nat.mul_one, Int.sub_zero, List.map_nil, beq_self_eq_true, *]); try (first | exact LE.refl _ | exact LE.sl _ _ | (refine LE.tup ?_; (repeat' (first | exact LEL.nil | refine LEL.cons ?_ ?_ | exact LE.refl _ | exact LE.sl _ _ | refine LE.agg ?_)); done) | (refine LE.agg ?_; (repeat' (first | exact LEL.nil | refine LEL.cons ?_ ?_ | exact LE.refl _ | exact LE.sl _ _)); done) | refine LE.of_eq ?_))
  | true =>
    rw [hr] at hR
    cases v with
    | mk k n s l =>
    cases dv with
    | mk dk dn ds dl =>
    have hk : 0 ≤ k ∧ k ≤ 5 := by
      have := (V.right_iff.1 hr).1
      rw [V.parts, Bool.and_eq_true, Bool.and_eq_true] at this
      have := this.1.1
      unfold V.sgl at this
      repeat' split at this
      all_goals (first | omega | exact absurd this (by decide))
    obtain ⟨hk1, hk2⟩ := hk
    rw [V.cells_mk] at hR
    rw [Sl.cells_mk, V.cells_mk]
    replace hR := Lib.hid hR
    unfold Sch.bit
    clear hr
    refine trF_enter (ts := [4]) Try.func13 rfl (by rw [Try.ntmps13]; exact Nat.le_of_ble_eq_true rfl) (fun tmps w => by simp [results, Try.results13, go_sem, resVal]) ?_
    simp only [Try.ntmps13]
    repeat' (first | with_reducible refine Go1.go ?_ | ((with_reducible apply ev_go); (focus (try simp (disch := omega) only [push_cast, Nat.reduceEqDiff, reduceCtorEq, ↓reduceIte, Nat.reduceAdd, Nat.reduceMul, Nat.reduceSub, Nat.reduceLT, Nat.reduceLeDiff, Int.reduceToNat, Int.reduceLT, Int.reduceLE, Int.reduceAdd, Int.reduceSub, Int.reduceMul, Int.reduceBEq, Int.reduceBNe, encB, encI, encC, V.cells_mk, V.cells_len, Nat.mul_one, Int.sub_zero, List.map_nil, beq_self_eq_true, *]); (try exact rfl); done)) | ((with_reducible refine w_last ?_ ?_ ?_); (focus kernel_rfl); (focus rfl)) | ((with_reducible apply w_stepG); (focus rfl)) | ((with_reducible apply lk_mem); (focus ((repeat (first | exact mm_h | apply mm_t)); done))) | with_reducible refine Go2.go ?_ | ((with_reducible apply sto_go); (focus (intro cs'; repeat (first | exact ra_h | apply ra_t)))) | ((with_reducible refine al_go ?_); intro b) | ((with_reducible refine And.intro ?_ ?_); (focus ((repeat (first | exact keep_none | exact keep_nil | exact keep_ro | refine keep_cons ?_)); done))) | ((with_reducible apply (ck_le Try.call42)); (focus exact LEL.refl _); (focus exact hR.out _)) | ((with_reducible refine s_bi ?_ ?_); (focus rfl)) | with_reducible refine blk_ne rfl ?_ | ((with_reducible refine w_region ?_ ?_); (focus kernel_rfl)) | ((with_reducible refine w_draw [] ?_ ?_ ?_ ?_ ?_); (iterate 3 (focus kernel_rfl)); (focus exact keeps_nil)) | ((with_reducible first | refine gd_d1 ?_ ?_ | refine gd_d0 ?_ ?_); all_goals (intro hb; (first | with_reducible replace hb := nt_t hb | with_reducible replace hb := nt_f hb | skip); (first | replace hb := dc_t hb | replace hb := dc_f hb | have hb1 := eq_b hb | have hb1 := ne_b hb | have hb1 := bne_t hb | have hb1 := bne_f hb | skip); (try (exfalso; first | contradiction | omega)))))
    all_goals (refine ret_eq (by first | exact .inl rfl | exact .inr rfl) (by first | rfl | assumption) (by (repeat (first | exact List.Sublist.refl _ | apply List.Sublist.cons))) ?_; (try simp (disch := omega) only [push_cast, Nat.reduceEqDiff, reduceCtorEq, ↓reduceIte, Nat.reduceAdd, Nat.reduceMul, Nat.reduceSub, Nat.reduceLT, Nat.reduceLeDiff, Int.reduceToNat, Int.reduceLT, Int.reduceLE, Int.reduceAdd, Int.reduceSub, Int.reduceMul, Int.reduceBEq, Int.reduceBNe, encB, encI, encC, V.cells_mk, V.cells_len, Nat.mul_one, Int.sub_zero, List.map_nil, beq_self_eq_true, *]); try (first | exact LE.refl _ | exact LE.sl _ _ | (refine LE.tup ?_; (repeat' (first | exact LEL.nil | refine LEL.cons ?_ ?_ | exact LE.refl _ | exact LE.sl _ _ | refine LE.agg ?_)); done) | (refine LE.agg ?_; (repeat' (first | exact LEL.nil | refine LEL.cons ?_ ?_ | exact LE.refl _ | exact LE.sl _ _)); done) | refine LE.of_eq ?_))

theorem schSoundF (s : Sl) (hB : s.dv.nodes ≤ 4611686018427387904) (st : St) : TrF Try.prog 87 [.agg s.cells] st fun x st' => x = .b (Sch.sound s) ∧ st' = st := by
  have hN := Lib.hid (valIsNameF s.name)
  have hT := Lib.hid (schTakesF s.types)
  have hF := schFitsF s.name s.types s.req s.dv s.dv hB
  unfold Sch.sound
  cases s with
  | mk nm ty rq dv =>
  dsimp only at hN hT hF ⊢
  generalize V.isName nm.data.toList = q1 at *
  generalize Sch.takes ty = q2 at *
  generalize Sch.fits (Sl.mk nm ty rq dv) dv = q3 at *
  cases dv with
  | mk k n s l =>
  rw [Sl.cells_mk, V.cells_mk] at hF
  rw [Sl.cells_mk]
  replace hF := Lib.hid hF
  cases q1 <;> cases q2 <;> cases q3
  all_goals skip
  all_goals (
    refine trF_enter (ts := [2]) Try.func87 rfl (by rw [Try.ntmps87]; exact Nat.le_of_ble_eq_true rfl) (fun tmps w => by simp [results, Try.results87, go_sem, resVal]) ?_
    simp only [Try.ntmps87]
    repeat' (first | with_reducible refine Go1.go ?_ | ((with_reducible apply ev_go); (focus (try simp (disch := omega) only [push_cast, Nat.reduceEqDiff, reduceCtorEq, ↓reduceIte, Nat.reduceAdd, Nat.reduceMul, Nat.reduceSub, Nat.reduceLT, Nat.reduceLeDiff, Int.reduceToNat, Int.reduceLT, Int.reduceLE, Int.reduceAdd, Int.reduceSub, Int.reduceMul, Int.reduceBEq, Int.reduceBNe, encB, encI, encC, V.cells_mk, V.cells_len, Nat.mul_one, Int.sub_zero, List.map_nil, beq_self_eq_true, *]); (try exact rfl); done)) | ((with_reducible refine w_last ?_ ?_ ?_); (focus kernel_rfl); (focus rfl)) | ((with_reducible apply w_stepG); (focus rfl)) | ((with_reducible apply lk_mem); (focus ((repeat (first | exact mm_h | apply mm_t)); done))) | with_reducible refine Go2.go ?_ | ((with_reducible apply sto_go); (focus (intro cs'; repeat (first | exact ra_h | apply ra_t)))) | ((with_reducible refine al_go ?_); intro b) | ((with_reducible refine And.intro ?_ ?_); (focus ((repeat (first | exact keep_none | exact keep_nil | exact keep_ro | refine keep_cons ?_)); done))) | ((with_reducible apply (ck_le Try.call86)); (focus exact LEL.refl _); (focus exact hN.out _)) | ((with_reducible apply (ck_le Try.call102)); (focus exact LEL.refl _); (focus exact hT.out _)) | ((with_reducible apply (ck_le Try.call13)); (focus exact LEL.refl _); (focus exact hF.out _)) | ((with_reducible refine s_bi ?_ ?_); (focus rfl)) | with_reducible refine blk_ne rfl ?_ | ((with_reducible refine w_region ?_ ?_); (focus kernel_rfl)) | ((with_reducible refine w_draw [] ?_ ?_ ?_ ?_ ?_); (iterate 3 (focus kernel_rfl)); (focus exact keeps_nil)) | ((with_reducible first | refine gd_d1 ?_ ?_ | refine gd_d0 ?_ ?_); all_goals (intro hb; (first | with_reducible replace hb := nt_t hb | with_reducible replace hb := nt_f hb | skip); (first | replace hb := dc_t hb | replace hb := dc_f hb | have hb1 := eq_b hb | have hb1 := ne_b hb | have hb1 := bne_t hb | have hb1 := bne_f hb | skip); (try (exfalso; first | contradiction | omega)))))
    all_goals (refine ret_eq (by first | exact .inl rfl | exact .inr rfl) (by first | rfl | assumption) (by (repeat (first | exact List.Sublist.refl _ | apply List.Sublist.cons))) ?_; (try simp (disch := omega) only [push_cast, Nat.reduceEqDiff, reduceCtorEq, ↓reduceIte, Nat.reduceAdd, Nat.reduceMul, Nat.reduceSub, Nat.reduceLT, Nat.reduceLeDiff, Int.reduceToNat, Int.reduceLT, Int.reduceLE, Int.reduceAdd, Int.reduceSub, Int.reduceMul, Int.reduceBEq, Int.reduceBNe, encB, encI, encC, V.cells_mk, V.cells_len, Nat.mul_one, Int.sub_zero, List.map_nil, beq_self_eq_true, *]); try (first | exact LE.refl _ | exact LE.sl _ _ | (refine LE.tup ?_; (repeat' (first | exact LEL.nil | refine LEL.cons ?_ ?_ | exact LE.refl _ | exact LE.sl _ _ | refine LE.agg ?_)); done) | (refine LE.agg ?_; (repeat' (first | exact LEL.nil | refine LEL.cons ?_ ?_ | exact LE.refl _ | exact LE.sl _ _)); done) | refine LE.of_eq ?_)))
theorem schBareF (s : Sl) (b1 b2 : Bool) (hB : s.dv.Bg) (st : St) : TrF Try.prog 104 [.agg s.cells, .b b1, .b b2] st fun x st' => x = .b (Sch.bare s b1 b2) ∧ st' = st := by
  have hS := valSameB s.dv Sch.zeroV hB (.mk (Nat.zero_le _) (Nat.zero_le _) fun x h => by cases h)
  unfold Sch.bare
  cases s with
  | mk nm ty rq dv =>
  dsimp only at hS ⊢
  have hE := isE_eq nm
  generalize decide (nm.size = 0) = q1 at *
  generalize (dv.cmp Sch.zeroV == 0) = q3 at *
  unfold Sch.zeroV at hS
  cases dv with
  | mk k n s l =>
  rw [V.cells_mk, V.cells_mk, List.map_nil] at hS
  rw [Sl.cells_mk]
  replace hS := Lib.hid hS
  obtain ⟨q2, h2⟩ : ∃ q2, (ty == 0) = q2 := ⟨_, rfl⟩
  rw [h2]
  refine trF_enter (ts := [6]) Try.func104 rfl (by rw [Try.ntmps104]; exact Nat.le_of_ble_eq_true rfl) (fun tmps w => by simp [results, Try.results104, go_sem, resVal]) ?_
  simp only [Try.ntmps104]
  cases b1 <;> cases b2 <;> cases q1 <;> cases q2 <;> cases rq
  all_goals skip
  all_goals (
    repeat' (first | with_reducible refine Go1.go ?_ | ((with_reducible apply ev_go); (focus (try simp (disch := omega) only [push_cast, Nat.reduceEqDiff, reduceCtorEq, ↓reduceIte, Nat.reduceAdd, Nat.reduceMul, Nat.reduceSub, Nat.reduceLT, Nat.reduceLeDiff, Int.reduceToNat, Int.reduceLT, Int.reduceLE, Int.reduceAdd, Int.reduceSub, Int.reduceMul, Int.reduceBEq, Int.reduceBNe, encB, encI, encC, V.cells_mk, V.cells_len, Nat.mul_one, Int.sub_zero, List.map_nil, beq_self_eq_true, *]); (try exact rfl); done)) | ((with_reducible refine w_last ?_ ?_ ?_); (focus kernel_rfl); (focus rfl)) | ((with_reducible apply w_stepG); (focus rfl)) | ((with_reducible apply lk_mem); (focus ((repeat (first | exact mm_h | apply mm_t)); done))) | with_reducible refine Go2.go ?_ | ((with_reducible apply sto_go); (focus (intro cs'; repeat (first | exact ra_h | apply ra_t)))) | ((with_reducible refine al_go ?_); intro b) | ((with_reducible refine And.intro ?_ ?_); (focus ((repeat (first | exact keep_none | exact keep_nil | exact keep_ro | refine keep_cons ?_)); done))) | ((with_reducible apply (ck_el Try.call83)); (focus exact hS.out _); (focus ((repeat' (first | exact LEL.nil | refine LEL.cons ?_ ?_ | exact LE.refl _ | exact LE.sl _ _ | refine LE.agg ?_)); done))) | ((with_reducible refine s_bi ?_ ?_); (focus rfl)) | with_reducible refine blk_ne rfl ?_ | ((with_reducible refine w_region ?_ ?_); (focus kernel_rfl)) | ((with_reducible refine w_draw [] ?_ ?_ ?_ ?_ ?_); (iterate 3 (focus kernel_rfl)); (focus exact keeps_nil)) | ((with_reducible first | refine gd_d1 ?_ ?_ | refine gd_d0 ?_ ?_); all_goals (intro hb; (first | with_reducible replace hb := nt_t hb | with_reducible replace hb := nt_f hb | skip); (first | replace hb := dc_t hb | replace hb := dc_f hb | have hb1 := eq_b hb | have hb1 := ne_b hb | have hb1 := bne_t hb | have hb1 := bne_f hb | skip); (try (exfalso; first | contradiction | omega)))))
    all_goals (refine ret_eq (by first | exact .inl rfl | exact .inr rfl) (by first | rfl | assumption) (by (repeat (first | exact List.Sublist.refl _ | apply List.Sublist.cons))) ?_; (try simp (disch := omega) only [push_cast, Nat.reduceEqDiff, reduceCtorEq, ↓reduceIte, Nat.reduceAdd, Nat.reduceMul, Nat.reduceSub, Nat.reduceLT, Nat.reduceLeDiff, Int.reduceToNat, Int.reduceLT, Int.reduceLE, Int.reduceAdd, Int.reduceSub, Int.reduceMul, Int.reduceBEq, Int.reduceBNe, encB, encI, encC, V.cells_mk, V.cells_len, Nat.mul_one, Int.sub_zero, List.map_nil, beq_self_eq_true, *]); try (first | exact LE.refl _ | exact LE.sl _ _ | (refine LE.tup ?_; (repeat' (first | exact LEL.nil | refine LEL.cons ?_ ?_ | exact LE.refl _ | exact LE.sl _ _ | refine LE.agg ?_)); done) | (refine LE.agg ?_; (repeat' (first | exact LEL.nil | refine LEL.cons ?_ ?_ | exact LE.refl _ | exact LE.sl _ _)); done) | refine LE.of_eq ?_)))
end Go.Proofs.Ytooaagmhgakhgaa
end

section
namespace Go.Proofs.Ytooaagmhgakhgaa
set_option linter.unusedSimpArgs false
open Go.RowKit
set_option maxRecDepth 10000
set_option maxHeartbeats 4000000
theorem colL_drop {slots : List Sl} {name : ByteArray} {cols : List Nat} {i c : Nat} (h : cols[i]? = some c) : Sch.colL slots name (cols.drop i) = if Sch.named slots name c then (c : Int) else Sch.colL slots name (cols.drop (i + 1)) := by
  obtain ⟨h1, rfl⟩ := List.getElem?_eq_some_iff.1 h
  rw [List.drop_eq_getElem_cons h1, Sch.colL]
theorem schColF (slots : List Sl) (cols : List Nat) (name : ByteArray) (hl : slots.length ≤ 1000000) (hc : cols.length ≤ 1000000) (st : St) : TrF Try.prog 38 [.agg [.sl .shared (slots.map Sl.cells), .sl .shared (cols.map encC)], .str name] st fun x st' => x = .i (Sch.colL slots name cols) ∧ st' = st := by
  obtain ⟨B, hB⟩ : ∃ B, Sch.colL slots name cols = B := ⟨_, rfl⟩
  have HB : Hid (Sch.colL slots name (cols.drop 0) = B) := hB
  rw [hB]
  clear hB
  refine trF_enter (ts := [4]) Try.func38 rfl (by rw [Try.ntmps38]; exact Nat.le_of_ble_eq_true rfl) (fun tmps w => by simp [results, Try.results38, go_sem, resVal]) ?_
  simp only [Try.ntmps38]
  repeat' (first | with_reducible refine Go1.go ?_ | ((with_reducible apply ev_go); (focus (try simp (disch := omega) only [push_cast, Nat.reduceEqDiff, reduceCtorEq, ↓reduceIte, Nat.reduceAdd, Nat.reduceMul, Nat.reduceSub, Nat.reduceLT, Nat.reduceLeDiff, Int.reduceToNat, Int.reduceLT, Int.reduceLE, Int.reduceAdd, Int.reduceSub, Int.reduceMul, Int.reduceBEq, Int.reduceBNe, encB, encI, encC, V.cells_mk, V.cells_len, Nat.mul_one, Int.sub_zero, List.map_nil, beq_self_eq_true, *]); (try exact rfl); done)) | ((with_reducible refine w_last ?_ ?_ ?_); (focus kernel_rfl); (focus rfl)) | ((with_reducible apply w_stepG); (focus rfl)) | ((with_reducible apply lk_mem); (focus ((repeat (first | exact mm_h | apply mm_t)); done))) | with_reducible refine Go2.go ?_ | ((with_reducible apply sto_go); (focus (intro cs'; repeat (first | exact ra_h | apply ra_t)))) | ((with_reducible refine al_go ?_); intro b) | ((with_reducible refine And.intro ?_ ?_); (focus ((repeat (first | exact keep_none | exact keep_nil | exact keep_ro | refine keep_cons ?_)); done))) | ((with_reducible refine s_bi ?_ ?_); (focus rfl)) | with_reducible refine blk_ne rfl ?_ | ((with_reducible refine w_region ?_ ?_); (focus kernel_rfl)) | ((with_reducible refine w_draw [] ?_ ?_ ?_ ?_ ?_); (iterate 3 (focus kernel_rfl)); (focus exact keeps_nil)) | ((with_reducible first | refine gd_d1 ?_ ?_ | refine gd_d0 ?_ ?_); all_goals (intro hb; (first | with_reducible replace hb := nt_t hb | with_reducible replace hb := nt_f hb | skip); (first | replace hb := dc_t hb | replace hb := dc_f hb | have hb1 := eq_b hb | have hb1 := ne_b hb | have hb1 := bne_t hb | have hb1 := bne_f hb | skip); (try (exfalso; first | contradiction | omega)))))
  refine tr_loop (ι := Nat) (fun i A st' => i ≤ cols.length ∧ Hid (Sch.colL slots name (cols.drop i) = B) ∧ A.df = [] ∧ A.e 1 = .str name ∧ A.e 2 = .ip [.sl .shared (slots.map Sl.cells), .sl .shared (cols.map encC)] ∧ A.e 8 = .sl .shared (cols.map encC) ∧ A.e 9 = .i cols.length ∧ A.e 10 = .i i ∧ st = st') (fun i => cols.length - i) 0 ⟨Nat.zero_le _, HB, ?_, ?_, ?_, ?_, ?_, ?_, rfl⟩ ?_
  iterate 6 (focus (first | rfl | assumption | omega | (simp (disch := omega) only [push_cast, Nat.reduceEqDiff, reduceCtorEq, ↓reduceIte, Nat.reduceAdd, Nat.reduceMul, Nat.reduceSub, Nat.reduceLT, Nat.reduceLeDiff, Int.reduceToNat, Int.reduceLT, Int.reduceLE, Int.reduceAdd, Int.reduceSub, Int.reduceMul, Int.reduceBEq, Int.reduceBNe, encB, encI, encC, V.cells_mk, V.cells_len, Nat.mul_one, Int.sub_zero, List.map_nil, beq_self_eq_true, *]; try omega; done)))
  rintro i A st' ⟨hi, HT, hdf, e1, e2, e8, e9, e10, rfl⟩
  by_cases hlt : i < cols.length
  · obtain ⟨c, hx⟩ : ∃ c, cols[i]? = some c := ⟨_, List.getElem?_eq_getElem hlt⟩
    have HE := HT.out
    rw [colL_drop hx] at HE
    clear HT HB
    by_cases hcs : c < slots.length
    · obtain ⟨s, hs⟩ : ∃ s, slots[c]? = some s := ⟨_, List.getElem?_eq_getElem hcs⟩
      cases s with
      | mk nm ty rq dv =>
      cases dv with
      | mk k n sv l =>
      obtain ⟨q, hq⟩ : ∃ q, (nm.toList == name.toList) = q := ⟨_, rfl⟩
      have hnm : Sch.named slots name c = q := by
        unfold Sch.named
        rw [hs, ← hq]; rfl
      rw [hnm] at HE
      clear hnm
      have hcell : (slots.map Sl.cells)[c]? = some [.str nm, .i ty, .b rq, .i k, .i n, .str sv, .sl .shared (l.map V.cells)] := by
        rw [List.getElem?_map, hs, ← Sl.cells_mk]; rfl
      clear hs
      have hsl : (slots.map Sl.cells).length = slots.length := List.length_map ..
      generalize slots.map Sl.cells = SL at *
      cases q with
      | true =>
        rw [if_pos rfl] at HE
        rw [← HE]
        clear HE
        repeat' (first | with_reducible refine Go1.go ?_ | ((with_reducible apply ev_go); (focus (try simp (disch := omega) only [push_cast, Nat.reduceEqDiff, reduceCtorEq, ↓reduceIte, Nat.reduceAdd, Nat.reduceMul, Nat.reduceSub, Nat.reduceLT, Nat.reduceLeDiff, Int.reduceToNat, Int.reduceLT, Int.reduceLE, Int.reduceAdd, Int.reduceSub, Int.reduceMul, Int.reduceBEq, Int.reduceBNe, encB, encI, encC, V.cells_mk, V.cells_len, Nat.mul_one, Int.sub_zero, List.map_nil, beq_self_eq_true, *]); (try exact rfl); done)) | ((with_reducible refine w_last ?_ ?_ ?_); (focus kernel_rfl); (focus rfl)) | ((with_reducible apply w_stepG); (focus rfl)) | ((with_reducible apply lk_mem); (focus ((repeat (first | exact mm_h | apply mm_t)); done))) | with_reducible refine Go2.go ?_ | ((with_reducible apply sto_go); (focus (intro cs'; repeat (first | exact ra_h | apply ra_t)))) | ((with_reducible refine al_go ?_); intro b) | ((with_reducible refine And.intro ?_ ?_); (focus ((repeat (first | exact keep_none | exact keep_nil | exact keep_ro | refine keep_cons ?_)); done))) | ((with_reducible refine s_bi ?_ ?_); (focus rfl)) | with_reducible refine blk_ne rfl ?_ | ((with_reducible refine w_region ?_ ?_); (focus kernel_rfl)) | ((with_reducible refine w_draw [] ?_ ?_ ?_ ?_ ?_); (iterate 3 (focus kernel_rfl)); (focus exact keeps_nil)) | ((with_reducible first | refine gd_d1 ?_ ?_ | refine gd_d0 ?_ ?_); all_goals (intro hb; (first | with_reducible replace hb := nt_t hb | with_reducible replace hb := nt_f hb | skip); (first | replace hb := dc_t hb | replace hb := dc_f hb | have hb1 := eq_b hb | have hb1 := ne_b hb | have hb1 := bne_t hb | have hb1 := bne_f hb | skip); (try (exfalso; first | contradiction | omega)))))
        all_goals (refine ret_eq (by first | exact .inl rfl | exact .inr rfl) (by first | rfl | assumption) (by (repeat (first | exact List.Sublist.refl _ | apply List.Sublist.cons))) ?_; (try simp (disch := omega) only [push_cast, Nat.reduceEqDiff, reduceCtorEq, ↓reduceIte, Nat.reduceAdd, Nat.reduceMul, Nat.reduceSub, Nat.reduceLT, Nat.reduceLeDiff, Int.reduceToNat, Int.reduceLT, Int.reduceLE, Int.reduceAdd, Int.reduceSub, Int.reduceMul, Int.reduceBEq, Int.reduceBNe, encB, encI, encC, V.cells_mk, V.cells_len, Nat.mul_one, Int.sub_zero, List.map_nil, beq_self_eq_true, *]); try (first | exact LE.refl _ | exact LE.sl _ _ | (refine LE.tup ?_; (repeat' (first | exact LEL.nil | refine LEL.cons ?_ ?_ | exact LE.refl _ | exact LE.sl _ _ | refine LE.agg ?_)); done) | (refine LE.agg ?_; (repeat' (first | exact LEL.nil | refine LEL.cons ?_ ?_ | exact LE.refl _ | exact LE.sl _ _)); done) | refine LE.of_eq ?_))
      | false =>
        rw [if_neg (by decide)] at HE
        replace HE := Lib.hid HE
        repeat' (first | with_reducible refine Go1.go ?_ | ((with_reducible apply ev_go); (focus (try simp (disch := omega) only [push_cast, Nat.reduceEqDiff, reduceCtorEq, ↓reduceIte, Nat.reduceAdd, Nat.reduceMul, Nat.reduceSub, Nat.reduceLT, Nat.reduceLeDiff, Int.reduceToNat, Int.reduceLT, Int.reduceLE, Int.reduceAdd, Int.reduceSub, Int.reduceMul, Int.reduceBEq, Int.reduceBNe, encB, encI, encC, V.cells_mk, V.cells_len, Nat.mul_one, Int.sub_zero, List.map_nil, beq_self_eq_true, *]); (try exact rfl); done)) | ((with_reducible refine w_last ?_ ?_ ?_); (focus kernel_rfl); (focus rfl)) | ((with_reducible apply w_stepG); (focus rfl)) | ((with_reducible apply lk_mem); (focus ((repeat (first | exact mm_h | apply mm_t)); done))) | with_reducible refine Go2.go ?_ | ((with_reducible apply sto_go); (focus (intro cs'; repeat (first | exact ra_h | apply ra_t)))) | ((with_reducible refine al_go ?_); intro b) | ((with_reducible refine And.intro ?_ ?_); (focus ((repeat (first | exact keep_none | exact keep_nil | exact keep_ro | refine keep_cons ?_)); done))) | ((with_reducible refine s_bi ?_ ?_); (focus rfl)) | with_reducible refine blk_ne rfl ?_ | ((with_reducible refine w_region ?_ ?_); (focus kernel_rfl)) | ((with_reducible refine w_draw [] ?_ ?_ ?_ ?_ ?_); (iterate 3 (focus kernel_rfl)); (focus exact keeps_nil)) | ((with_reducible first | refine gd_d1 ?_ ?_ | refine gd_d0 ?_ ?_); all_goals (intro hb; (first | with_reducible replace hb := nt_t hb | with_reducible replace hb := nt_f hb | skip); (first | replace hb := dc_t hb | replace hb := dc_f hb | have hb1 := eq_b hb | have hb1 := ne_b hb | have hb1 := bne_t hb | have hb1 := bne_f hb | skip); (try (exfalso; first | contradiction | omega)))))
        refine ⟨i + 1, ⟨hlt, HE, ?_, ?_, ?_, ?_, ?_, ?_, rfl⟩, ?_⟩
        all_goals (first | rfl | assumption | omega | (simp (disch := omega) only [push_cast, Nat.reduceEqDiff, reduceCtorEq, ↓reduceIte, Nat.reduceAdd, Nat.reduceMul, Nat.reduceSub, Nat.reduceLT, Nat.reduceLeDiff, Int.reduceToNat, Int.reduceLT, Int.reduceLE, Int.reduceAdd, Int.reduceSub, Int.reduceMul, Int.reduceBEq, Int.reduceBNe, encB, encI, encC, V.cells_mk, V.cells_len, Nat.mul_one, Int.sub_zero, List.map_nil, beq_self_eq_true, *]; try omega; done))
    · have hnm : Sch.named slots name c = false := by
        unfold Sch.named
        rw [List.getElem?_eq_none (by omega)]; rfl
      rw [hnm, if_neg (by decide)] at HE
      replace HE := Lib.hid HE
      clear hnm
      repeat' (first | with_reducible refine Go1.go ?_ | ((with_reducible apply ev_go); (focus (try simp (disch := omega) only [push_cast, Nat.reduceEqDiff, reduceCtorEq, ↓reduceIte, Nat.reduceAdd, Nat.reduceMul, Nat.reduceSub, Nat.reduceLT, Nat.reduceLeDiff, Int.reduceToNat, Int.reduceLT, Int.reduceLE, Int.reduceAdd, Int.reduceSub, Int.reduceMul, Int.reduceBEq, Int.reduceBNe, encB, encI, encC, V.cells_mk, V.cells_len, Nat.mul_one, Int.sub_zero, List.map_nil, beq_self_eq_true, *]); (try exact rfl); done)) | ((with_reducible refine w_last ?_ ?_ ?_); (focus kernel_rfl); (focus rfl)) | ((with_reducible apply w_stepG); (focus rfl)) | ((with_reducible apply lk_mem); (focus ((repeat (first | exact mm_h | apply mm_t)); done))) | with_reducible refine Go2.go ?_ | ((with_reducible apply sto_go); (focus (intro cs'; repeat (first | exact ra_h | apply ra_t)))) | ((with_reducible refine al_go ?_); intro b) | ((with_reducible refine And.intro ?_ ?_); (focus ((repeat (first | exact keep_none | exact keep_nil | exact keep_ro | refine keep_cons ?_)); done))) | ((with_reducible refine s_bi ?_ ?_); (focus rfl)) | with_reducible refine blk_ne rfl ?_ | ((with_reducible refine w_region ?_ ?_); (focus kernel_rfl)) | ((with_reducible refine w_draw [] ?_ ?_ ?_ ?_ ?_); (iterate 3 (focus kernel_rfl)); (focus exact keeps_nil)) | ((with_reducible first | refine gd_d1 ?_ ?_ | refine gd_d0 ?_ ?_); all_goals (intro hb; (first | with_reducible replace hb := nt_t hb | with_reducible replace hb := nt_f hb | skip); (first | replace hb := dc_t hb | replace hb := dc_f hb | have hb1 := eq_b hb | have hb1 := ne_b hb | have hb1 := bne_t hb | have hb1 := bne_f hb | skip); (try (exfalso; first | contradiction | omega)))))
      refine ⟨i + 1, ⟨hlt, HE, ?_, ?_, ?_, ?_, ?_, ?_, rfl⟩, ?_⟩
      all_goals (first | rfl | assumption | omega | (simp (disch := omega) only [push_cast, Nat.reduceEqDiff, reduceCtorEq, ↓reduceIte, Nat.reduceAdd, Nat.reduceMul, Nat.reduceSub, Nat.reduceLT, Nat.reduceLeDiff, Int.reduceToNat, Int.reduceLT, Int.reduceLE, Int.reduceAdd, Int.reduceSub, Int.reduceMul, Int.reduceBEq, Int.reduceBNe, encB, encI, encC, V.cells_mk, V.cells_len, Nat.mul_one, Int.sub_zero, List.map_nil, beq_self_eq_true, *]; try omega; done))
  · have HE := HT.out
    rw [List.drop_of_length_le (by omega), Sch.colL] at HE
    rw [← HE]
    clear HE HT HB
    repeat' (first | with_reducible refine Go1.go ?_ | ((with_reducible apply ev_go); (focus (try simp (disch := omega) only [push_cast, Nat.reduceEqDiff, reduceCtorEq, ↓reduceIte, Nat.reduceAdd, Nat.reduceMul, Nat.reduceSub, Nat.reduceLT, Nat.reduceLeDiff, Int.reduceToNat, Int.reduceLT, Int.reduceLE, Int.reduceAdd, Int.reduceSub, Int.reduceMul, Int.reduceBEq, Int.reduceBNe, encB, encI, encC, V.cells_mk, V.cells_len, Nat.mul_one, Int.sub_zero, List.map_nil, beq_self_eq_true, *]); (try exact rfl); done)) | ((with_reducible refine w_last ?_ ?_ ?_); (focus kernel_rfl); (focus rfl)) | ((with_reducible apply w_stepG); (focus rfl)) | ((with_reducible apply lk_mem); (focus ((repeat (first | exact mm_h | apply mm_t)); done))) | with_reducible refine Go2.go ?_ | ((with_reducible apply sto_go); (focus (intro cs'; repeat (first | exact ra_h | apply ra_t)))) | ((with_reducible refine al_go ?_); intro b) | ((with_reducible refine And.intro ?_ ?_); (focus ((repeat (first | exact keep_none | exact keep_nil | exact keep_ro | refine keep_cons ?_)); done))) | ((with_reducible refine s_bi ?_ ?_); (focus rfl)) | with_reducible refine blk_ne rfl ?_ | ((with_reducible refine w_region ?_ ?_); (focus kernel_rfl)) | ((with_reducible refine w_draw [] ?_ ?_ ?_ ?_ ?_); (iterate 3 (focus kernel_rfl)); (focus exact keeps_nil)) | ((with_reducible first | refine gd_d1 ?_ ?_ | refine gd_d0 ?_ ?_); all_goals (intro hb; (first | with_reducible replace hb := nt_t hb | with_reducible replace hb := nt_f hb | skip); (first | replace hb := dc_t hb | replace hb := dc_f hb | have hb1 := eq_b hb | have hb1 := ne_b hb | have hb1 := bne_t hb | have hb1 := bne_f hb | skip); (try (exfalso; first | contradiction | omega)))))
    all_goals (refine ret_eq (by first | exact .inl rfl | exact .inr rfl) (by first | rfl | assumption) (by (repeat (first | exact List.Sublist.refl _ | apply List.Sublist.cons))) ?_; (try simp (disch := omega) only [push_cast, Nat.reduceEqDiff, reduceCtorEq, ↓reduceIte, Nat.reduceAdd, Nat.reduceMul, Nat.reduceSub, Nat.reduceLT, Nat.reduceLeDiff, Int.reduceToNat, Int.reduceLT, Int.reduceLE, Int.reduceAdd, Int.reduceSub, Int.reduceMul, Int.reduceBEq, Int.reduceBNe, encB, encI, encC, V.cells_mk, V.cells_len, Nat.mul_one, Int.sub_zero, List.map_nil, beq_self_eq_true, *]); try (first | exact LE.refl _ | exact LE.sl _ _ | (refine LE.tup ?_; (repeat' (first | exact LEL.nil | refine LEL.cons ?_ ?_ | exact LE.refl _ | exact LE.sl _ _ | refine LE.agg ?_)); done) | (refine LE.agg ?_; (repeat' (first | exact LEL.nil | refine LEL.cons ?_ ?_ | exact LE.refl _ | exact LE.sl _ _)); done) | refine LE.of_eq ?_))
theorem schColumnF (x : Vr) (s : Stp) (st : St) (ho : s.order.length ≤ 9223372036854775807) (hc : x.cols.length ≤ 1000000) : TrF Try.prog 103 [.ip x.cells, .agg s.cells] st fun d st' => d = .b (Sch.column x s) ∧ st' = st := by
  unfold Sch.column Vr.cells Stp.cells
  cases s with
  | mk kd col slot order =>
  cases slot with
  | mk nm ty rq dv =>
  cases dv with
  | mk k n sv l =>
  rw [Sl.cells_mk]
  dsimp only [List.cons_append, List.nil_append] at ho ⊢
  refine trF_enter (ts := [4]) Try.func103 rfl (by rw [Try.ntmps103]; exact Nat.le_of_ble_eq_true rfl) (fun tmps w => by simp [results, Try.results103, go_sem, resVal]) ?_
  simp only [Try.ntmps103]
  repeat' (first | with_reducible refine Go1.go ?_ | ((with_reducible apply ev_go); (focus (try simp (disch := omega) only [push_cast, Nat.reduceEqDiff, reduceCtorEq, ↓reduceIte, Nat.reduceAdd, Nat.reduceMul, Nat.reduceSub, Nat.reduceLT, Nat.reduceLeDiff, Int.reduceToNat, Int.reduceLT, Int.reduceLE, Int.reduceAdd, Int.reduceSub, Int.reduceMul, Int.reduceBEq, Int.reduceBNe, encB, encI, encC, V.cells_mk, V.cells_len, Nat.mul_one, Int.sub_zero, List.map_nil, beq_self_eq_true, *]); (try exact rfl); done)) | ((with_reducible refine w_last ?_ ?_ ?_); (focus kernel_rfl); (focus rfl)) | ((with_reducible apply w_stepG); (focus rfl)) | ((with_reducible apply lk_mem); (focus ((repeat (first | exact mm_h | apply mm_t)); done))) | with_reducible refine Go2.go ?_ | ((with_reducible apply sto_go); (focus (intro cs'; repeat (first | exact ra_h | apply ra_t)))) | ((with_reducible refine al_go ?_); intro b) | ((with_reducible refine And.intro ?_ ?_); (focus ((repeat (first | exact keep_none | exact keep_nil | exact keep_ro | refine keep_cons ?_)); done))) | ((with_reducible refine s_bi ?_ ?_); (focus rfl)) | with_reducible refine blk_ne rfl ?_ | ((with_reducible refine w_region ?_ ?_); (focus kernel_rfl)) | ((with_reducible refine w_draw [] ?_ ?_ ?_ ?_ ?_); (iterate 3 (focus kernel_rfl)); (focus exact keeps_nil)) | ((with_reducible first | refine gd_d1 ?_ ?_ | refine gd_d0 ?_ ?_); all_goals (intro hb; (first | with_reducible replace hb := nt_t hb | with_reducible replace hb := nt_f hb | skip); (first | replace hb := dc_t hb | replace hb := dc_f hb | have hb1 := eq_b hb | have hb1 := ne_b hb | have hb1 := bne_t hb | have hb1 := bne_f hb | skip); (try (exfalso; first | contradiction | omega)))))
  all_goals (refine ret_eq (by first | exact .inl rfl | exact .inr rfl) (by first | rfl | assumption) (by (repeat (first | exact List.Sublist.refl _ | apply List.Sublist.cons))) ?_; (try simp (disch := omega) only [push_cast, Nat.reduceEqDiff, reduceCtorEq, ↓reduceIte, Nat.reduceAdd, Nat.reduceMul, Nat.reduceSub, Nat.reduceLT, Nat.reduceLeDiff, Int.reduceToNat, Int.reduceLT, Int.reduceLE, Int.reduceAdd, Int.reduceSub, Int.reduceMul, Int.reduceBEq, Int.reduceBNe, encB, encI, encC, V.cells_mk, V.cells_len, Nat.mul_one, Int.sub_zero, List.map_nil, beq_self_eq_true, *]); try (first | exact LE.refl _ | exact LE.sl _ _ | (refine LE.tup ?_; (repeat' (first | exact LEL.nil | refine LEL.cons ?_ ?_ | exact LE.refl _ | exact LE.sl _ _ | refine LE.agg ?_)); done) | (refine LE.agg ?_; (repeat' (first | exact LEL.nil | refine LEL.cons ?_ ?_ | exact LE.refl _ | exact LE.sl _ _)); done) | refine LE.of_eq ?_))
  all_goals (first | rfl | (refine congrArg D.b ?_; rw [Bool.eq_iff_iff]; simp only [Bool.true_and, Bool.false_and, Bool.and_true, Bool.and_false, Bool.or_false, Bool.or_true, Bool.true_or, Bool.false_or, true_and, and_true, Bool.not_eq_true', Bool.not_eq_false', decide_eq_true_eq, decide_eq_false_iff_not, beq_iff_eq, beq_eq_false_iff_ne, bne_iff_ne, ne_eq, reduceCtorEq, iff_true, true_iff, iff_false, false_iff, Bool.and_eq_true, Bool.or_eq_true, Bool.false_eq_true, Bool.true_eq_false]; first | done | omega))
end Go.Proofs.Ytooaagmhgakhgaa
end

section
namespace Go.Proofs.Ytooaagmhgakhgaa
set_option linter.unusedSimpArgs false
open Go.RowKit

def RoundC (P : Program) (l : Nat) (args : List D) (st : St) (R : D → St → Prop) : Prop :=
  ∀ (vs : Array Value) w, RepL (OwnS st) w vs.toList args → Holds st w → YieldAt (FR none) 0 P l vs w fun e w' => ∃ v, e = .returned v ∧ PostV st w R v w'
theorem yield_mono {F : Fence} {m : Nat} {P : Program} {l : Nat} {args : Array Value} {W : World} {R R' : Ending → World → Prop} (h : YieldAt F m P l args W R) (hr : ∀ e w, R e w → R' e w) : YieldAt F m P l args W R' := by
  obtain ⟨fn, t, a, b, h1, h2⟩ := h
  exact ⟨fn, t, a, b, h1, h2.mono hr⟩
theorem RoundC.perm {P : Program} {l : Nat} {args : List D} {st st1 : St} {R R' : D → St → Prop} (hp : st.Perm st1) (h : RoundC P l args st1 R) (hR : ∀ d s, R d s → ∃ s', s'.Perm s ∧ R' d s') : RoundC P l args st R' := by
  intro vs w h1 h2
  have e := OwnS.perm hp
  refine yield_mono (h vs w (by rw [← e]; exact h1) (h2.perm hp)) fun _ _ ⟨v, ev, d, s, k1, k2, k3, k4⟩ => ?_
  obtain ⟨s', q1, q2⟩ := hR d s k4
  have e' := OwnS.perm q1
  exact ⟨v, ev, d, s', by rw [e']; exact k1, k2.perm q1.symm, by rw [e, e']; exact k3, q2⟩
theorem RoundC.le {P : Program} {l : Nat} {args args' : List D} {st : St} {R : D → St → Prop} (h : RoundC P l args' st R) (hl : LEL args args') : RoundC P l args st R := fun vs w h1 h2 => h vs w (hl.repL h1) h2
def Yields (P : Program) (l : Nat) {X : Type} (args : X → List D) (L : List X) (J Jx : Nat → St → Prop) : Prop :=
  (∀ (i : Nat) (x : X) (C : St), L[i]? = some x → J i C → (∃ C', J (i + 1) C') ∨ ∃ C', Jx (i + 1) C') ∧ ∀ (i : Nat) (x : X) (C K : St), L[i]? = some x → J i C → RoundC P l (args x) (C ++ K) fun d st' => ∃ C', st' = C' ++ K ∧ ((d = .s (.bool true) ∧ J (i + 1) C') ∨ (d = .s (.bool false) ∧ Jx (i + 1) C'))
def IterC (P : Program) (g : FuncId) (caps : List D) {X : Type} (args : X → List D) (L : List X) (K0 : St) (Kend : St → Prop) (Kstop : Nat → St → Prop) : Prop :=
  ∀ (l : Nat) (C : St) (J Jx : Nat → St → Prop), Yields P l args L J Jx → J 0 C → TrF P g (.fn (.yield l) [] [] :: caps) (K0 ++ C) fun _ st' => ∃ K1 C', st' = K1 ++ C' ∧ ((Kend K1 ∧ J L.length C') ∨ ∃ i, Kstop i K1 ∧ Jx i C')
theorem tl_nil : ∀ C : St, C = [] ++ C := fun _ => rfl
theorem tl_cons {f : St → St} {K : St} {x : Res} (h : ∀ C, f C = K ++ C) : ∀ C, x :: f C = (x :: K) ++ C := fun C => by rw [h]; rfl
section
variable {P : Program} {N : Nat} {r : Option Nat} {A : AA} {st : St} {w : World} {Q : Exit → AA → St → Prop} {m : Option Ro} {k : D → St → Prop} {dst : Option Tmp} {ty : TypeId} {pos : String} {aft : Array Edge} {gd : Option (Nat × Bool)} {o : Oper}
theorem opC_yield {c : Call} {e : Nat → D} {g : Operand} {l : Nat} {ds : List D} {K : D → St → Prop} (ho : o.op = .call c) (hc : c.callee = .value g) (hg : ev e g = some (.fn (.yield l) [] []))
    (hargs : evL e c.args.toList = some ds) (h : RoundC P l ds st K) : OpC P r o e st K := by
  intro ρ w h1 h2
  rw [ho] at h1
  have hfn := h1 g (by simp [Op.operands, Call.operands, hc]) _ hg
  have hds := evL_rep h1 (fun x hx => by simp only [Op.operands, Call.operands, Array.mem_append]; exact .inr (by simpa using hx)) hargs
  rw [Oper.semAt_eq r ρ o (by rw [ho]; intro c hc; cases hc)]
  unfold execOp
  rw [ho]
  simp only [resolve, hc]
  generalize ρ g = gv at hfn
  cases hfn with
  | fn _ us1 us2 _ _ l1 l2 r1 r2 =>
    obtain rfl : us1 = [] := List.eq_nil_of_length_eq_zero l1
    obtain ⟨fn, tmps, assign, body, hy, hr⟩ := h (c.args.map ρ) w (by simpa using hds) h2
    have hy' : (Instr.yield l (#[] ++ c.args.map ρ)).run P w = .ok (.round l fn tmps assign body) w := by simpa using hy
    simp only [Deferred.ofValue, Sem.run_bind, Sem.run_pure, Result.andThen_ok, invoke, hy']
    exact hr.mono fun ev w' ⟨v, e, hp⟩ => ⟨v, e, hp⟩
theorem s_yield {l : Nat} {X : Type} {args : X → List D} {L : List X} {J Jx : Nat → St → Prop} {f : St → St} {K C : St} {i : Nat} {x : X} {g : Operand} {oas : Array Operand} {tys : Array TypeId} {ds : List D}
    (hY : Yields P l args L J Jx) (hJ : J i C) (hx : L[i]? = some x) (hg : ev A.e g = some (.fn (.yield l) [] [])) (ha : evL A.e oas.toList = some ds) (hle : LEL ds (args x)) (hf : ∀ C, f C = K ++ C)
    (hk1 : ∀ C', J (i + 1) C' → Keep m (f C') ∧ k (.s (.bool true)) (f C')) (hk0 : ∀ C', Jx (i + 1) C' → Keep m (f C') ∧ k (.s (.bool false)) (f C')) : S P r m ⟨dst, .call ⟨.value g, oas, tys⟩, ty, pos, aft, gd⟩ A (f C) k := by
  refine s_chain (R := fun d st' => ∃ C', st' = f C' ∧ ((d = .s (.bool true) ∧ J (i + 1) C') ∨ (d = .s (.bool false) ∧ Jx (i + 1) C'))) rfl (opC_yield rfl rfl hg ha ?_) ?_ ?_
  · refine (RoundC.perm (by rw [hf]; exact List.perm_append_comm) (hY.2 i x C K hx hJ) ?_).le hle
    rintro d s ⟨C', rfl, hc⟩
    exact ⟨f C', by rw [hf]; exact List.perm_append_comm, C', rfl, hc⟩
  · rcases hY.1 i x C hx hJ with ⟨C', hC⟩ | ⟨C', hC⟩
    · exact ⟨_, _, C', rfl, .inl ⟨rfl, hC⟩⟩
    · exact ⟨_, _, C', rfl, .inr ⟨rfl, hC⟩⟩
  · rintro d st' ⟨C', rfl, ⟨rfl, h⟩ | ⟨rfl, h⟩⟩
    · exact hk1 C' h
    · exact hk0 C' h
theorem Holds.know (h : Holds st w) {f : Nat → Value} {e : Nat → D} (hk : ∀ t, Rep (OwnS st) w (f t) (e t)) : Holds (.know f e :: st) w ∧ Ext (OwnS st) w (OwnS (.know f e :: st)) w := by
  have he : Ext (OwnS st) w (OwnS (.know f e :: st)) w := (Ext.refl _ w).less fun b off ho => (OwnS.cons_iff.1 ho).elim (fun x => by cases x.1) id
  exact ⟨h.push he (fun _ _ _ _ => rfl) (fun t => (hk t).ext he) (fun x _ b e => by cases e), he⟩
theorem raw_set {b : Nat} {o o' : Obj} (h : Holds (.raw b o :: st) w) (hn : ∀ c E fr, o ≠ .cells c E fr) : Holds (.raw b o' :: st) (w.putObj b o') ∧ Ext (OwnS (.raw b o :: st)) w (OwnS (.raw b o' :: st)) (w.putObj b o') := by
  have hb : w.heap[b]? = some o := h.2 _ (List.mem_cons_self ..)
  have hlt := (Array.getElem?_eq_some_iff.1 hb).1
  have hown : ∀ c off, OwnS (.raw b o' :: st) c off → OwnS (.raw b o :: st) c off := fun c off ho => OwnS.cons_iff.2 ((OwnS.cons_iff.1 ho).imp id id)
  have he : Ext (OwnS (.raw b o :: st)) w (OwnS (.raw b o' :: st)) (w.putObj b o') := by
    refine ⟨rfl, rfl, rfl, by simp, fun c off _ ho => hown c off ho, fun c hc hno => World.putObj_heap_other fun e => hno 0 (OwnS.cons_iff.2 (.inl ⟨by rw [e]; rfl, Nat.zero_le _⟩)), fun c cs E fr hc => ⟨cs, fr, ?_, rfl, fun _ _ => rfl⟩⟩
    refine (World.putObj_heap_other fun e => ?_).trans hc
    subst e
    rw [hb] at hc
    cases hc
    exact hn _ _ _ rfl
  refine ⟨h.put he (fun x hx c hc => World.putObj_heap_other fun e => (List.pairwise_cons.1 h.1).1 x hx b rfl (e ▸ hc)) (World.putObj_heap_same hlt) fun x hx c hc hc' => (List.pairwise_cons.1 h.1).1 x hx c hc hc', he⟩
theorem raw_at {C T : St} {b : Nat} {o o' : Obj} (h : Holds (C ++ .raw b o :: T) w) (hn : ∀ c E fr, o ≠ .cells c E fr) : Holds (C ++ .raw b o' :: T) (w.putObj b o') ∧ Ext (OwnS (C ++ .raw b o :: T)) w (OwnS (C ++ .raw b o' :: T)) (w.putObj b o') := by
  have h1 := raw_set (o' := o') (h.perm List.perm_middle) hn
  exact ⟨h1.1.perm List.perm_middle.symm, h1.2.perm List.perm_middle List.perm_middle⟩
def setA : AA → List Tmp → List D → AA
  | A, p :: ps, d :: ds => setA (A.put (some p) d) ps ds
  | A, _, _ => A
theorem setA_rel {O : Nat → Nat → Prop} : ∀ (ps : List Tmp) (vs : List Value) (ds : List D) (tm : Array Value) (A : AA), (∀ p ∈ ps, p < N) → RelA N O w ⟨tm, []⟩ A → RepL O w vs ds → RelA N O w ⟨(ps.zip vs).foldl (fun t (p, v) => t.setIfInBounds p v) tm, []⟩ (setA A ps ds)
  | [], vs, ds, tm, A, _, h, _ => by cases vs <;> exact h
  | p :: ps, [], ds, tm, A, _, h, hv => by
    obtain rfl : ds = [] := List.eq_nil_of_length_eq_zero hv.1.symm
    exact h
  | p :: ps, v :: vs, [], tm, A, _, h, hv => by have := hv.1; simp at this
  | p :: ps, v :: vs, d :: ds, tm, A, hp, h, hv => by
    obtain ⟨u, t, e, h1, h2⟩ := hv.inv_cons
    cases e
    exact setA_rel ps vs ds _ _ (fun q hq => hp q (List.mem_cons_of_mem _ hq)) (h.put (dst := some p) (by simp [dstOk, hp p (List.mem_cons_self ..)]) h1) h2
def roundQ (K : St) (i : Nat) (J : Nat → St → Prop) (Jx : Code → Nat → St → Prop) : Exit → AA → St → Prop
  | .normal, _, st' => ∃ C', (C' ++ K).Sublist st' ∧ J i C'
  | .ret, _, st' => ∃ C', (C' ++ K).Sublist st' ∧ Jx .ret i C'
  | .exit id, _, st' => ∃ C', (C' ++ K).Sublist st' ∧ Jx (.exit id) i C'
  | .goto t, _, st' => ∃ C', (C' ++ K).Sublist st' ∧ Jx (.goto t) i C'
  | _, _, _ => False
abbrev lrec (fn : FuncId) (tmps : Array Value) (ps : Array Tmp) (assign body : Code) (d : Nat) (s : LoopState) (pe : Option Code) : Loop := { state := s, pending := pe, fn, tmps, params := ps, assign, body, defers := d }
theorem perm_know {K C : St} {x y z : Res} : (z :: x :: y :: (K ++ C)).Perm (K ++ (C ++ [x, y, z])) := by
  rw [← List.append_assoc]
  refine List.Perm.trans ?_ List.perm_append_comm
  exact (List.Perm.swap _ _ _).trans (.cons _ (.swap _ _ _))
theorem tr_rangeS {X : Type} {g : Operand} {ps : Array Tmp} {assign body : Code} {gf : FuncId} {caps : List D} {args : X → List D} {L : List X} {K0 C : St} {Kend : St → Prop} {Kstop : Nat → St → Prop}
    (hit : IterC P gf caps args L K0 Kend Kstop) (hent : ∀ args w, (callFunc gf args).run P w = .ok (.enter gf args) w) (hg : ev A.e g = some (.fn (.func gf) [] caps)) (hps : ∀ x, (args x).length = ps.size) (hpN : ps.toList.all (fun t => decide (t < N)) = true)
    (J : Nat → St → Prop) (Jx : Code → Nat → St → Prop) (h0 : J 0 C) (hne : ∀ (i : Nat) (x : X) (C : St), L[i]? = some x → J i C → (∃ C', J (i + 1) C') ∨ ∃ c C', Jx c (i + 1) C')
    (hround : ∀ l i x C K, L[i]? = some x → J i C → Tr P N (some l) assign (setA ⟨A.e, []⟩ ps.toList (args x)) (C ++ K) (thenA (fun A' st' => ∃ C1, (C1 ++ K).Sublist st' ∧ ∀ K', Tr P N (some l) body A' (C1 ++ K') (roundQ K' (i + 1) J Jx)) (fun _ _ _ => False)))
    (hdone : ∀ d K1 C', Kend K1 → J L.length C' → Q .normal ⟨A.e, mark d :: A.df⟩ (markR d :: (K1 ++ C')))
    (hstop : ∀ c d i K1 C', Kstop i K1 → Jx c i C' → Tr P N none c ⟨A.e, mark d :: A.df⟩ (markR d :: (K1 ++ C')) Q) :
    Tr P N none (.rangeFunc g ps assign body) A (K0 ++ C) Q := by
  intro a w h1 h2
  have hr := ev_rep h1 hg
  generalize hgv : a.eval g = gv at hr
  cases hr with
  | fn _ us1 us2 _ _ l1 l2 r1 r2 =>
  obtain rfl : us1 = [] := List.eq_nil_of_length_eq_zero l1
  refine wpIn_rangeFunc fun fn hfn => ?_
  obtain ⟨d, hd⟩ : ∃ d, d = w.heap.size := ⟨_, rfl⟩
  obtain ⟨rec, hrec⟩ : ∃ rec, rec = lrec fn a.tmps ps assign body d := ⟨_, rfl⟩
  have n1 := new_own h2 (Res.raw d (.deferred (some []))) (fun b e => by cases e; exact hd) (.deferred (some [])) (fun _ => by rw [hd]; exact heap_alloc_new w _)
  obtain ⟨w1, hw1⟩ : ∃ w1, w1 = w.alloc (.deferred (some [])) := ⟨_, rfl⟩
  rw [← hw1] at n1
  have hs1 : w1.heap.size = d + 1 := by rw [hw1, hd]; simp
  have n2 := new_own n1.1 (Res.raw (d + 1) (.loop (rec .ready none))) (fun b e => by cases e; exact hs1.symm) (.loop (rec .ready none)) (fun _ => by rw [← hs1]; exact heap_alloc_new w1 _)
  obtain ⟨W1, hW1⟩ : ∃ W1, W1 = w1.alloc (.loop (rec .ready none)) := ⟨_, rfl⟩
  rw [← hW1] at n2
  obtain ⟨tm, htm⟩ : ∃ tm : Nat → Value, tm = fun t => a.tmps.getD t undef := ⟨_, rfl⟩
  have n3 := n2.1.know (f := tm) (e := A.e) (fun t => by rw [htm]; exact ((h1.ext n1.2).ext n2.2).2.2 t)
  obtain ⟨B, hB⟩ : ∃ B : LoopState → Option Code → St, B = fun s pe => [Res.raw (d + 1) (.loop (rec s pe)), Res.raw d (.deferred (some [])), Res.know tm A.e] := ⟨_, rfl⟩
  have hp : (Res.know tm A.e :: Res.raw (d + 1) (.loop (rec .ready none)) :: Res.raw d (.deferred (some [])) :: (K0 ++ C)).Perm (K0 ++ (C ++ B .ready none)) := by rw [hB]; exact perm_know
  have E3 : Ext (OwnS (K0 ++ C)) w (OwnS (K0 ++ (C ++ B .ready none))) W1 := by rw [← OwnS.perm hp]; exact n1.2.trans (n2.2.trans n3.2)
  have H3 := n3.1.perm hp
  have hnl : ∀ (x : Loop) c E fr, Obj.loop x ≠ .cells c E fr := fun _ _ _ _ e => by cases e
  have hY : Yields P (d + 1) args L (fun i C' => ∃ C, C' = C ++ B .ready none ∧ J i C) (fun i C' => ∃ c C, C' = C ++ B .done (some c) ∧ Jx c i C) := by
    refine ⟨fun i x C' hx ⟨C, _, hJ⟩ => (hne i x C hx hJ).elim (fun ⟨C1, h⟩ => .inl ⟨_, C1, rfl, h⟩) fun ⟨c, C1, h⟩ => .inr ⟨_, c, C1, rfl, h⟩, ?_⟩
    rintro i x C' K hx ⟨Cn, rfl, hJ⟩ vs w2 hv hh
    rw [List.append_assoc] at hv hh
    have hl : w2.heap[d + 1]? = some (.loop (rec .ready none)) := hh.2 (Res.raw (d + 1) (.loop (rec .ready none))) (by rw [hB]; simp)
    have hkn : ∀ t, Rep (OwnS (Cn ++ (B .ready none ++ K))) w2 (tm t) (A.e t) := hh.2 (Res.know tm A.e) (by rw [hB]; simp)
    have hy := run_yield (P := P) (args := vs) hl (by rw [hrec, ← Array.length_toList, hv.1]; exact hps x)
    rw [hrec] at hy
    refine ⟨fn, _, assign, body, hy, roundIn_of_wpIn hfn ?_⟩
    clear hy
    have hz : (ps.zip vs).foldl (fun tmps (t, a) => tmps.setIfInBounds t a) a.tmps = (ps.toList.zip vs.toList).foldl (fun t (p, v) => t.setIfInBounds p v) a.tmps := by
      rw [← Array.foldl_toList, Array.toList_zip]
    have hrel : RelA N (OwnS (Cn ++ (B .ready none ++ K))) w2 ⟨(ps.zip vs).foldl (fun tmps (t, a) => tmps.setIfInBounds t a) a.tmps, []⟩ (setA ⟨A.e, []⟩ ps.toList (args x)) := by
      rw [hz]
      refine setA_rel _ _ _ _ _ (fun p hp => by simpa using List.all_eq_true.1 hpN p hp) ⟨h1.1, rfl, fun t => ?_⟩ hv
      have := hkn t
      rw [htm] at this
      exact this
    refine wpIn_mono (hround (d + 1) i x Cn (B .ready none ++ K) hx hJ _ w2 hrel hh) ?_
    rintro e a3 w3 ⟨A3, st3, k1, k2, k3, k4⟩
    cases e with
    | normal =>
      obtain ⟨C1, hsub, hbody⟩ := k4
      have e3 := Ext.drop (fun _ h => hsub.subset h) w3
      have H4 := k2.sub hsub
      have hl3 : w3.heap[d + 1]? = some (.loop (rec .ready none)) := H4.2 (Res.raw (d + 1) (.loop (rec .ready none))) (by rw [hB]; simp)
      refine ⟨_, run_beginRound hl3 (by rw [hrec]), ?_⟩
      have q := raw_at (C := C1) (T := [Res.raw d (.deferred (some [])), Res.know tm A.e] ++ K) (o' := .loop { rec .ready none with state := .busy }) (by rw [hB] at H4; exact H4) (hnl _)
      have hbz : C1 ++ (Res.raw (d + 1) (.loop { rec .ready none with state := .busy }) :: ([Res.raw d (.deferred (some [])), Res.know tm A.e] ++ K)) = C1 ++ (B .busy none ++ K) := by rw [hB, hrec]; rfl
      have hbr : C1 ++ (Res.raw (d + 1) (.loop (rec .ready none)) :: ([Res.raw d (.deferred (some [])), Res.know tm A.e] ++ K)) = C1 ++ (B .ready none ++ K) := by rw [hB]; rfl
      rw [hbz] at q
      rw [hbr] at q
      have E4 := (k3.trans e3).trans q.2
      refine wpIn_mono (hbody (B .busy none ++ K) _ _ ((k1.ext e3).ext q.2) q.1) ?_
      have fin : ∀ (jump : Option Code) (C5 st5 : St) (w5 : World), (C5 ++ (B .busy none ++ K)).Sublist st5 → Holds st5 w5 → Ext (OwnS (C1 ++ (B .busy none ++ K))) (w3.putObj (d + 1) (.loop { rec .ready none with state := .busy })) (OwnS st5) w5 →
          (Instr.endRound (d + 1) jump).run P w5 = .ok (.bool jump.isNone) (w5.putObj (d + 1) (.loop (rec (if jump.isNone then .ready else .done) jump))) ∧
          Holds (C5 ++ B (if jump.isNone then .ready else .done) jump ++ K) (w5.putObj (d + 1) (.loop (rec (if jump.isNone then .ready else .done) jump))) ∧
          Ext (OwnS (Cn ++ B .ready none ++ K)) w2 (OwnS (C5 ++ B (if jump.isNone then .ready else .done) jump ++ K)) (w5.putObj (d + 1) (.loop (rec (if jump.isNone then .ready else .done) jump))) := fun jump C5 st5 w5 hs5 hh5 he5 => by
        have e5 := Ext.drop (fun _ h => hs5.subset h) w5
        have H6 := hh5.sub hs5
        have hl5 : w5.heap[d + 1]? = some (.loop (rec .busy none)) := H6.2 (Res.raw (d + 1) (.loop (rec .busy none))) (by rw [hB]; simp)
        have hr5 := run_endRound (P := P) jump hl5
        rw [hrec] at hr5 ⊢
        have q5 := raw_at (C := C5) (T := [Res.raw d (.deferred (some [])), Res.know tm A.e] ++ K) (o' := .loop (lrec fn a.tmps ps assign body d (if jump.isNone then .ready else .done) jump)) (by rw [hB] at H6; exact H6) (hnl _)
        have hbz5 : C5 ++ (Res.raw (d + 1) (.loop (lrec fn a.tmps ps assign body d (if jump.isNone then .ready else .done) jump)) :: ([Res.raw d (.deferred (some [])), Res.know tm A.e] ++ K)) = C5 ++ B (if jump.isNone then .ready else .done) jump ++ K := by rw [hB, hrec, List.append_assoc]; rfl
        have hbr5 : C5 ++ (Res.raw (d + 1) (.loop (rec .busy none)) :: ([Res.raw d (.deferred (some [])), Res.know tm A.e] ++ K)) = C5 ++ (B .busy none ++ K) := by rw [hB]; rfl
        rw [hbz5] at q5
        rw [hbr5] at q5
        refine ⟨hr5, q5.1, ?_⟩
        rw [show Cn ++ B .ready none ++ K = Cn ++ (B .ready none ++ K) by rw [List.append_assoc]]
        exact (E4.trans (he5.trans e5)).trans q5.2
      rintro e a5 w5 ⟨A5, st5, m1, m2, m3, m4⟩
      cases e with
      | normal =>
        obtain ⟨C5, hs5, hJ5⟩ := m4
        obtain ⟨f1, f2, f3⟩ := fin none C5 st5 w5 hs5 m2 m3
        exact ⟨_, _, f1, _, rfl, .s (.bool true), _, .s _ rfl, f2, f3, _, rfl, .inl ⟨rfl, C5, rfl, hJ5⟩⟩
      | ret =>
        obtain ⟨C5, hs5, hJ5⟩ := m4
        obtain ⟨f1, f2, f3⟩ := fin (some .ret) C5 st5 w5 hs5 m2 m3
        exact ⟨_, _, f1, _, rfl, .s (.bool false), _, .s _ rfl, f2, f3, _, rfl, .inr ⟨rfl, .ret, C5, rfl, hJ5⟩⟩
      | exit id =>
        obtain ⟨C5, hs5, hJ5⟩ := m4
        obtain ⟨f1, f2, f3⟩ := fin (some (.exit id)) C5 st5 w5 hs5 m2 m3
        exact ⟨_, _, f1, _, rfl, .s (.bool false), _, .s _ rfl, f2, f3, _, rfl, .inr ⟨rfl, .exit id, C5, rfl, hJ5⟩⟩
      | goto t =>
        obtain ⟨C5, hs5, hJ5⟩ := m4
        obtain ⟨f1, f2, f3⟩ := fin (some (.goto t)) C5 st5 w5 hs5 m2 m3
        exact ⟨_, _, f1, _, rfl, .s (.bool false), _, .s _ rfl, f2, f3, _, rfl, .inr ⟨rfl, .goto t, C5, rfl, hJ5⟩⟩
      | panic c => exact m4.elim
      | outgrown => exact m4.elim
    | exit id => exact k4.elim
    | goto t => exact k4.elim
    | ret => exact k4.elim
    | panic c => exact k4.elim
    | outgrown => exact k4.elim
  refine ⟨d + 1, [mark d], W1, { target := .fn (.func gf) us2.toArray, args := #[.func (.yield (d + 1)) #[] #[]] }, W1, gf, #[.func (.yield (d + 1)) #[] #[]] ++ us2.toArray, W1, ?_, ?_, fun _ _ => trivial, ?_, (fun h => by cases h), ?_⟩
  · rw [hW1, hrec, hw1, hd]
    exact run_enterLoop_outer _ _ _ _ _
  · simp only [resolve, hgv]
    simp [go_sem]
  · simp [invoke, go_sem, hent]
  · have hcall := hit (d + 1) (C ++ B .ready none) _ _ hY ⟨C, rfl, h0⟩ (#[.func (.yield (d + 1)) #[] #[]] ++ us2.toArray) W1 (by
      have hvs : (#[Value.func (.yield (d + 1)) #[] #[]] ++ us2.toArray).toList = Value.func (.yield (d + 1)) #[] #[] :: us2 := by simp
      rw [hvs]
      refine RepL.cons ?_ ?_
      · exact .fn (.yield (d + 1)) [] [] [] [] rfl rfl (fun i h => absurd h (Nat.not_lt_zero _)) (fun i h => absurd h (Nat.not_lt_zero _))
      · exact ⟨l2, fun i h h' => (r2 i h h').ext E3⟩) H3
    refine (callsIn_wide.2 hcall).mono ?_
    rintro e w2 ⟨v, rfl, dd, st2, -, q2, q3, K1, C2, rfl, ⟨hk, Cn, rfl, hJ⟩ | ⟨i, hk, c, Cn, rfl, hJ⟩⟩
    · have hl : w2.heap[d + 1]? = some (.loop (rec .ready none)) := q2.2 (Res.raw (d + 1) (.loop (rec .ready none))) (by rw [hB]; simp)
      have hend : (Instr.endLoop (d + 1)).run P w2 = .ok none (w2.putObj (d + 1) (.loop { rec .ready none with state := .exhausted })) := by
        subst hrec; exact run_endLoop (P := P) hl (by simp)
      have q2' : Holds ((K1 ++ Cn) ++ Res.raw (d + 1) (.loop (rec .ready none)) :: [Res.raw d (.deferred (some [])), Res.know tm A.e]) w2 := by rw [hB, ← List.append_assoc] at q2; exact q2
      have q := raw_at (o' := .loop { rec .ready none with state := .exhausted }) q2' (hnl _)
      have hsub : (markR d :: (K1 ++ Cn)).Sublist (markR d :: (K1 ++ Cn ++ [Res.raw (d + 1) (.loop { rec .ready none with state := .exhausted }), Res.know tm A.e])) := (List.sublist_append_left _ _).cons_cons _
      have hpm : (K1 ++ Cn ++ Res.raw (d + 1) (.loop { rec .ready none with state := .exhausted }) :: [Res.raw d (.deferred (some [])), Res.know tm A.e]).Perm (markR d :: (K1 ++ Cn ++ [Res.raw (d + 1) (.loop { rec .ready none with state := .exhausted }), Res.know tm A.e])) := by
        refine (List.Perm.append_left _ (.swap _ _ _)).trans ?_
        exact List.perm_middle
      have hq3 : Ext (OwnS (K0 ++ C)) w (OwnS ((K1 ++ Cn) ++ Res.raw (d + 1) (.loop (rec .ready none)) :: [Res.raw d (.deferred (some [])), Res.know tm A.e])) w2 := by
        have := E3.trans q3
        rw [hB, ← List.append_assoc] at this
        exact this
      have Ef : Ext (OwnS (K0 ++ C)) w (OwnS (markR d :: (K1 ++ Cn))) (w2.putObj (d + 1) (.loop { rec .ready none with state := .exhausted })) := by
        refine ((hq3.trans q.2).trans ?_)
        rw [OwnS.perm hpm]
        exact Ext.drop (fun _ h => hsub.subset h) _
      exact ⟨none, _, hend, ⟨A.e, mark d :: A.df⟩, _, ⟨h1.1, by show mark d :: a.defers = mark d :: A.df; rw [h1.2.1], fun t => (h1.2.2 t).ext Ef⟩, (q.1.perm hpm).sub hsub, Ef, hdone d K1 Cn hk hJ⟩
    · have hl : w2.heap[d + 1]? = some (.loop (rec .done (some c))) := q2.2 (Res.raw (d + 1) (.loop (rec .done (some c)))) (by rw [hB]; simp)
      have hend : (Instr.endLoop (d + 1)).run P w2 = .ok (some c) (w2.putObj (d + 1) (.loop { rec .done (some c) with state := .exhausted })) := by
        subst hrec; exact run_endLoop (P := P) hl (by simp)
      have q2' : Holds ((K1 ++ Cn) ++ Res.raw (d + 1) (.loop (rec .done (some c))) :: [Res.raw d (.deferred (some [])), Res.know tm A.e]) w2 := by rw [hB, ← List.append_assoc] at q2; exact q2
      have q := raw_at (o' := .loop { rec .done (some c) with state := .exhausted }) q2' (hnl _)
      have hsub : (markR d :: (K1 ++ Cn)).Sublist (markR d :: (K1 ++ Cn ++ [Res.raw (d + 1) (.loop { rec .done (some c) with state := .exhausted }), Res.know tm A.e])) := (List.sublist_append_left _ _).cons_cons _
      have hpm : (K1 ++ Cn ++ Res.raw (d + 1) (.loop { rec .done (some c) with state := .exhausted }) :: [Res.raw d (.deferred (some [])), Res.know tm A.e]).Perm (markR d :: (K1 ++ Cn ++ [Res.raw (d + 1) (.loop { rec .done (some c) with state := .exhausted }), Res.know tm A.e])) := by
        refine (List.Perm.append_left _ (.swap _ _ _)).trans ?_
        exact List.perm_middle
      have hq3 : Ext (OwnS (K0 ++ C)) w (OwnS ((K1 ++ Cn) ++ Res.raw (d + 1) (.loop (rec .done (some c))) :: [Res.raw d (.deferred (some [])), Res.know tm A.e])) w2 := by
        have := E3.trans q3
        rw [hB, ← List.append_assoc] at this
        exact this
      have Ef : Ext (OwnS (K0 ++ C)) w (OwnS (markR d :: (K1 ++ Cn))) (w2.putObj (d + 1) (.loop { rec .done (some c) with state := .exhausted })) := by
        refine ((hq3.trans q.2).trans ?_)
        rw [OwnS.perm hpm]
        exact Ext.drop (fun _ h => hsub.subset h) _
      exact ⟨some c, _, hend, wpIn_mono (hstop c d i K1 Cn hk hJ _ _ ⟨h1.1, by show mark d :: a.defers = mark d :: A.df; rw [h1.2.1], fun t => (h1.2.2 t).ext Ef⟩ ((q.1.perm hpm).sub hsub)) fun _ _ _ => PostA.ext Ef⟩
theorem tr_range {X : Type} {g : Operand} {ps : Array Tmp} {assign body : Code} {gf : FuncId} {caps : List D} {args : X → List D} {L : List X} {K0 C : St} {Kend : St → Prop} {Kstop : Nat → St → Prop}
    (hit : IterC P gf caps args L K0 Kend Kstop) (hent : ∀ args w, (callFunc gf args).run P w = .ok (.enter gf args) w) (hg : ev A.e g = some (.fn (.func gf) [] caps)) (hps : ∀ x, (args x).length = ps.size) (hpN : ps.toList.all (fun t => decide (t < N)) = true)
    (J : Nat → St → Prop) (Jx : Code → Nat → St → Prop) (h0 : J 0 C) (hne : ∀ i, i ≤ L.length → ∃ C, J i C)
    (hround : ∀ l i x C K, L[i]? = some x → J i C → Tr P N (some l) assign (setA ⟨A.e, []⟩ ps.toList (args x)) (C ++ K) (thenA (fun A' st' => ∃ C1, (C1 ++ K).Sublist st' ∧ ∀ K', Tr P N (some l) body A' (C1 ++ K') (roundQ K' (i + 1) J Jx)) (fun _ _ _ => False)))
    (hdone : ∀ d K1 C', Kend K1 → J L.length C' → Q .normal ⟨A.e, mark d :: A.df⟩ (markR d :: (K1 ++ C')))
    (hstop : ∀ c d i K1 C', Kstop i K1 → Jx c i C' → Tr P N none c ⟨A.e, mark d :: A.df⟩ (markR d :: (K1 ++ C')) Q) :
    Tr P N none (.rangeFunc g ps assign body) A (K0 ++ C) Q :=
  tr_rangeS hit hent hg hps hpN J Jx h0 (fun i x C hx _ => .inl (hne (i + 1) (List.getElem?_eq_some_iff.1 hx).1)) hround hdone hstop
end
theorem out_here {r : Res} {s : St} : (r :: s).Perm (r :: s) := .refl _
theorem out_there {r x : Res} {s s2 : St} (h : s.Perm (r :: s2)) : (x :: s).Perm (r :: x :: s2) := (h.cons _).trans (.swap _ _ _)
theorem retA_mark {ts : List Tmp} {R : D → St → Prop} {ex : Exit} {A : AA} {X : D} {st st0 s2 : St} {d : Nat} (hex : ex = .normal ∨ ex = .ret) (hdf : A.df = [mark d]) (hp : st.Perm (markR d :: s2)) (hs : st0.Sublist s2) (hd : LE (resD ts A.e) X) (hR : R X st0) : retA ts R ex A st := by
  rcases hex with rfl | rfl <;> exact ⟨[d], X, s2, st0, hdf, hp, hs, hd, hR⟩
theorem keep_more {b : Nat} {ty : TypeId} {cs : List D} {ro : Ro} {st : St} (h : Res.box b ty cs ∈ st) (k : Keep (some ro) st) : Keep (some ((b, cs) :: ro)) st := fun b' cs' hl => by
  rw [List.lookup_cons] at hl
  split at hl
  · rename_i he
    cases hl
    have : b' = b := eq_of_beq he
    subst this
    exact ⟨ty, h⟩
  · exact k b' cs' hl
inductive At2 (a b a' b' : Res) : St → St → Prop
  | here {s : St} : At2 a b a' b' (a :: b :: s) (a' :: b' :: s)
  | there {x : Res} {s s' : St} (h : At2 a b a' b' s s') : At2 a b a' b' (x :: s) (x :: s')
theorem At2.perm {a b a' b' : Res} {s s' : St} (h : At2 a b a' b' s s') : ∃ s0, s.Perm (a :: b :: s0) ∧ s'.Perm (a' :: b' :: s0) := by
  induction h with
  | here => exact ⟨_, .refl _, .refl _⟩
  | there h ih =>
    obtain ⟨s0, h1, h2⟩ := ih
    exact ⟨_, (h1.cons _).trans ((List.Perm.swap _ _ _).trans (.cons _ (.swap _ _ _))), (h2.cons _).trans ((List.Perm.swap _ _ _).trans (.cons _ (.swap _ _ _)))⟩
theorem perm_cons_out {r : Res} {st s s' : St} (h : st.Perm (r :: s)) (k : s.Perm s') : st.Perm (r :: s') := h.trans (k.cons _)
end Go.Proofs.Ytooaagmhgakhgaa
end

section
namespace Go.Proofs.Ytooaagmhgakhgaa
set_option linter.unusedSimpArgs false
open Go.RowKit
set_option maxRecDepth 10000
set_option maxHeartbeats 4000000
abbrev VB (bx gs cS : Nat) (zS : List D) (gc cC : Nat) (zC : List D) (x : Vr) (s : St) : St :=
  .box bx 38 [.ar gs 0 x.slots.length cS, .ar gc 0 x.cols.length cC] :: .box gs 26 (slotC x.slots ++ zS) :: .box gc 3 (colC x.cols ++ zC) :: s
def VL (cS : Nat) (zS : List D) (cC : Nat) (zC : List D) (x : Vr) : Prop := (slotC x.slots ++ zS).length = cS * 7 ∧ (colC x.cols ++ zC).length = cC * 1
structure VW (x : Vr) : Prop where
  ls : x.slots.length ≤ 1000
  lc : x.cols.length ≤ 8
  cs : ∀ c ∈ x.cols, c < x.slots.length
def Stp.Ok (s : Stp) : Prop := s.slot.dv.nodes ≤ 1000 ∧ s.slot.dv.Bg ∧ s.order.length ≤ 1000
theorem slotC_flat (x : Vr) : (x.slots.map Sl.cells).flatten = slotC x.slots := rfl
theorem colC_flat (x : Vr) : (x.cols.map encC).flatten = colC x.cols := rfl
theorem slots_each (l : List Sl) : ∀ e ∈ l.map Sl.cells, e.length = 7 := fun e he => by
  obtain ⟨x, -, rfl⟩ := List.mem_map.1 he
  exact Sl.cells_len x
theorem cols_each (l : List Nat) : ∀ e ∈ l.map encC, e.length = 1 := fun e he => by
  obtain ⟨x, -, rfl⟩ := List.mem_map.1 he
  rfl
def StepR (F : Vr → Stp → Option Vr) (x : Vr) (stp : Stp) (bx : Nat) (s : St) (d : D) (st' : St) : Prop :=
  (F x stp = none ∧ d = .b false ∧ st' = s) ∨ ∃ x' gs cS zS gc cC zC, F x stp = some x' ∧ VL cS zS cC zC x' ∧ d = .b true ∧ st' = VB bx gs cS zS gc cC zC x' s
theorem slotC_add (l : List Sl) (s : Sl) : slotC (l ++ [s]) = slotC l ++ [s.cells].flatten := by
  unfold slotC; simp
theorem colC_add (l : List Nat) (c : Nat) : colC (l ++ [c]) = colC l ++ [[D.i c]].flatten := by
  unfold colC; simp [encC]
theorem schAddF (bx gs cS gc cC : Nat) (zS zC : List D) (x : Vr) (stp : Stp) (hx : VW x) (hs : stp.Ok) (hz : VL cS zS cC zC x) (s : St) : TrF Try.prog 90 [.ptr bx 0, .agg stp.cells] (VB bx gs cS zS gc cC zC x s) (StepR Sch.addS x stp bx s) := by
  obtain ⟨ls, lc, -⟩ := hx
  obtain ⟨hn, -, ho⟩ := hs
  obtain ⟨hz1, hz2⟩ := hz
  have hS := schSoundF stp.slot (by omega)
  have hC := schColF x.slots x.cols stp.slot.name (by omega) (by omega) []
  have hr1 := slotC_len x.slots
  have hr2 := colC_len x.cols
  have e1 := Lib.hid (slots_each x.slots)
  have e2 := Lib.hid (cols_each x.cols)
  have f1 := Lib.hid (slotC_flat x)
  have f2 := Lib.hid (colC_flat x)
  have l1 : Hid ((x.slots.map Sl.cells).length = x.slots.length) := List.length_map ..
  have l2 : Hid ((x.cols.map encC).length = x.cols.length) := List.length_map ..
  have g1 := Lib.hid (slotC_add x.slots stp.slot)
  have g2 := Lib.hid (colC_add x.cols x.slots.length)
  have g3 : Hid ((x.slots ++ [stp.slot]).length = x.slots.length + 1) := List.length_append
  have g4 : Hid ((x.cols ++ [x.slots.length]).length = x.cols.length + 1) := List.length_append
  obtain ⟨x', hx'⟩ : ∃ x' : Vr, x' = ⟨x.slots ++ [stp.slot], x.cols ++ [x.slots.length]⟩ := ⟨_, rfl⟩
  have hF : Hid (Sch.addS x stp = if stp.col = 0 ∧ stp.order.length = 0 ∧ x.cols.length < 8 ∧ Sch.sound stp.slot = true ∧ stp.slot.req = false ∧ Sch.colL x.slots stp.slot.name x.cols < 0 then some x' else none) := by rw [hx']; rfl
  have s1 : Hid (x'.slots = x.slots ++ [stp.slot]) := by rw [hx']; rfl
  have s2 : Hid (x'.cols = x.cols ++ [x.slots.length]) := by rw [hx']; rfl
  clear hx'
  unfold StepR VL VB Stp.cells
  generalize Sch.addS x stp = F at *
  cases stp with
  | mk kd col slot order =>
  cases slot with
  | mk nm ty rq dv =>
  cases dv with
  | mk k n sv l =>
  dsimp only at hS hC ho hF ⊢
  generalize Sch.sound _ = q at *
  generalize Sch.colL _ _ _ = cv at *
  generalize slotC x.slots = R1 at *
  generalize colC x.cols = R2 at *
  generalize x.slots.map Sl.cells = L1 at *
  generalize x.cols.map encC = L2 at *
  rw [Sl.cells_mk] at *
  dsimp only [List.cons_append, List.nil_append] at ho ⊢
  generalize x.slots.length = m1 at *
  generalize x.cols.length = m2 at *
  replace hS := Lib.hid hS
  replace hC := Lib.hid hC
  refine trF_enter (ts := [4]) Try.func90 rfl (by rw [Try.ntmps90]; exact Nat.le_of_ble_eq_true rfl) (fun tmps w => by simp [results, Try.results90, go_sem, resVal]) ?_
  simp only [Try.ntmps90]
  repeat' (first | with_reducible refine Go1.go ?_ | ((with_reducible apply ev_go); (focus (try simp (disch := omega) only [push_cast, Nat.reduceEqDiff, reduceCtorEq, ↓reduceIte, Nat.reduceAdd, Nat.reduceMul, Nat.reduceSub, Nat.reduceLT, Nat.reduceLeDiff, Int.reduceToNat, Int.reduceLT, Int.reduceLE, Int.reduceAdd, Int.reduceSub, Int.reduceMul, Int.reduceBEq, Int.reduceBNe, encB, encI, encC, V.cells_mk, V.cells_len, Nat.mul_one, Int.sub_zero, List.map_nil, beq_self_eq_true, *]); (try exact rfl); done)) | ((with_reducible refine w_draw [(bx, [.ar gs 0 m1 cS, .ar gc 0 m2 cC])] ?_ ?_ ?_ ?_ ?_); (iterate 3 (focus kernel_rfl)); (focus ((repeat (first | exact keep_nil | refine keep_more (by repeat (first | exact mm_h | apply mm_t)) ?_)); done))) | ((with_reducible refine And.intro ?_ ?_); (focus ((repeat (first | exact keep_nil | refine keep_more (by (repeat (first | exact mm_h | apply mm_t)); done) ?_)); done))) | ((with_reducible refine w_draw [(bx, [.ar gs 0 m1 cS, .ar gc' 0 (m2 + 1) cC'])] ?_ ?_ ?_ ?_ ?_); (iterate 3 (focus kernel_rfl)); (focus ((repeat (first | exact keep_nil | refine keep_more (by repeat (first | exact mm_h | apply mm_t)) ?_)); done))) | ((with_reducible refine And.intro ?_ ?_); (focus ((repeat (first | exact keep_nil | refine keep_more (by (repeat (first | exact mm_h | apply mm_t)); done) ?_)); done))) | with_reducible refine s_appR ?_ | with_reducible refine rk_go ?_ | ((with_reducible apply (r2_go hr1 hz1)); (focus (intro g' cs'; repeat (first | exact ra_h | apply ra_t))); (focus exact len_one rfl); (focus (simp only [List.length_cons, List.length_nil]; omega)); (focus (simp only [List.length_cons, List.length_nil]; omega)); intro gs' cS' zS' hcs hls) | ((with_reducible apply (r2_go hr2 hz2)); (focus (intro g' cs'; repeat (first | exact ra_h | apply ra_t))); (focus exact len_one rfl); (focus (simp only [List.length_cons, List.length_nil]; omega)); (focus (simp only [List.length_cons, List.length_nil]; omega)); intro gc' cC' zC' hcc hlc) | ((with_reducible refine w_last ?_ ?_ ?_); (focus kernel_rfl); (focus rfl)) | ((with_reducible apply w_stepG); (focus rfl)) | ((with_reducible apply lk_mem); (focus ((repeat (first | exact mm_h | apply mm_t)); done))) | with_reducible refine Go2.go ?_ | ((with_reducible apply sto_go); (focus (intro cs'; repeat (first | exact ra_h | apply ra_t)))) | ((with_reducible refine al_go ?_); intro b) | ((with_reducible refine And.intro ?_ ?_); (focus ((repeat (first | exact keep_none | exact keep_nil | exact keep_ro | refine keep_cons ?_)); done))) | ((with_reducible apply (ck_le Try.call87)); (focus exact LEL.refl _); (focus exact hS.out _)) | ((with_reducible apply (ck_lend Try.call38)); (focus exact hC.out); (focus exact ⟨Lend.agg ⟨Lend.rowE (by repeat (first | exact mm_h | apply mm_t)) f1.out (by decide) e1.out l1.out, Lend.rowE (by repeat (first | exact mm_h | apply mm_t)) f2.out (by decide) e2.out l2.out, trivial⟩, Lend.refl _, trivial⟩)) | ((with_reducible refine s_bi ?_ ?_); (focus rfl)) | with_reducible refine blk_ne rfl ?_ | ((with_reducible refine w_region ?_ ?_); (focus kernel_rfl)) | ((with_reducible refine w_draw [] ?_ ?_ ?_ ?_ ?_); (iterate 3 (focus kernel_rfl)); (focus exact keeps_nil)) | ((with_reducible first | refine gd_d1 ?_ ?_ | refine gd_d0 ?_ ?_); all_goals (intro hb; (first | with_reducible replace hb := nt_t hb | with_reducible replace hb := nt_f hb | skip); (first | replace hb := dc_t hb | replace hb := dc_f hb | have hb1 := eq_b hb | have hb1 := ne_b hb | have hb1 := bne_t hb | have hb1 := bne_f hb | skip); (try (exfalso; first | contradiction | omega)))))
  all_goals first
    | ((refine retA_mk (by first | exact .inl rfl | exact .inr rfl) (by first | rfl | assumption) (by (repeat (first | exact List.Sublist.refl _ | apply List.Sublist.cons))) (LE.of_eq ?_) (.inl ⟨?_, rfl, rfl⟩)); (focus simp (disch := omega) only [push_cast, Nat.reduceEqDiff, reduceCtorEq, ↓reduceIte, Nat.reduceAdd, Nat.reduceMul, Nat.reduceSub, Nat.reduceLT, Nat.reduceLeDiff, Int.reduceToNat, Int.reduceLT, Int.reduceLE, Int.reduceAdd, Int.reduceSub, Int.reduceMul, Int.reduceBEq, Int.reduceBNe, encB, encI, encC, V.cells_mk, V.cells_len, Nat.mul_one, Int.sub_zero, List.map_nil, beq_self_eq_true, *]); (focus (rw [hF.out]; refine if_neg ?_; rintro ⟨h1, h2, h3, h4, h5, h6⟩; (first | omega | exact Bool.noConfusion (h4.symm.trans (by assumption) : true = false) | exact Bool.noConfusion (h5.symm.trans (by assumption) : false = true)))))
    | ((refine retA_mk (by first | exact .inl rfl | exact .inr rfl) (by first | rfl | assumption) (List.Sublist.refl _) (LE.of_eq ?_) (.inr ⟨x', gs', cS', zS', gc', cC', zC', ?_, ⟨?_, ?_⟩, rfl, ?_⟩)); (focus simp (disch := omega) only [push_cast, Nat.reduceEqDiff, reduceCtorEq, ↓reduceIte, Nat.reduceAdd, Nat.reduceMul, Nat.reduceSub, Nat.reduceLT, Nat.reduceLeDiff, Int.reduceToNat, Int.reduceLT, Int.reduceLE, Int.reduceAdd, Int.reduceSub, Int.reduceMul, Int.reduceBEq, Int.reduceBNe, encB, encI, encC, V.cells_mk, V.cells_len, Nat.mul_one, Int.sub_zero, List.map_nil, beq_self_eq_true, *]); (focus (rw [hF.out]; refine if_pos ⟨?_, ?_, ?_, ?_, ?_, ?_⟩ <;> first | assumption | omega)); (focus (rw [s1.out, g1.out, (by assumption : rq = false)]; exact hls)); (focus (rw [s2.out, g2.out]; exact hlc)); (focus (rw [s1.out, s2.out, g1.out, g2.out, g3.out, g4.out, (by assumption : rq = false)])))
end Go.Proofs.Ytooaagmhgakhgaa
end

section
namespace Go.Proofs.Ytooaagmhgakhgaa
set_option linter.unusedSimpArgs false
open Go.RowKit
set_option maxRecDepth 10000
set_option maxHeartbeats 4000000
theorem row_drop {sz o : Nat} {e : List D} (zs : List D) : ∀ (es : List (List D)) (c : Nat), (∀ x ∈ es, x.length = sz) → es[c]? = some e → o ≤ sz → ∃ tl, (es.flatten ++ zs).drop (c * sz + o) = e.drop o ++ tl
  | [], c, _, h, _ => by simp at h
  | x :: es, 0, hs, h, ho => by
    simp only [List.getElem?_cons_zero, Option.some.injEq] at h
    subst h
    have hx := hs x (List.mem_cons_self ..)
    refine ⟨es.flatten ++ zs, ?_⟩
    rw [List.flatten_cons, List.append_assoc, Nat.zero_mul, Nat.zero_add, List.drop_append_of_le_length (by omega)]
  | x :: es, c + 1, hs, h, ho => by
    rw [List.getElem?_cons_succ] at h
    obtain ⟨tl, ht⟩ := row_drop zs es c (fun y hy => hs y (List.mem_cons_of_mem _ hy)) h ho
    have hx := hs x (List.mem_cons_self ..)
    refine ⟨tl, ?_⟩
    rw [List.flatten_cons, List.append_assoc, show (c + 1) * sz + o = sz + (c * sz + o) by rw [Nat.succ_mul]; omega, ← List.drop_drop, List.drop_left' hx, ht]
theorem splice_app {e R ds : List D} {sz o : Nat} (he : e.length = sz) : splice (e ++ R) (sz + o) ds = e ++ splice R o ds := by
  unfold splice
  rw [List.take_append, List.take_of_length_le (l := e) (by omega), show sz + o - e.length = o by omega, show sz + o + ds.length = sz + (o + ds.length) by omega, ← List.drop_drop, List.drop_left' he]
  simp only [List.append_assoc]
theorem row_splice {sz o : Nat} {e ds : List D} (zs : List D) : ∀ (es : List (List D)) (c : Nat), (∀ x ∈ es, x.length = sz) → es[c]? = some e → o + ds.length ≤ sz → splice (es.flatten ++ zs) (c * sz + o) ds = (es.set c (splice e o ds)).flatten ++ zs
  | [], c, _, h, _ => by simp at h
  | x :: es, 0, hs, h, ho => by
    simp only [List.getElem?_cons_zero, Option.some.injEq] at h
    subst h
    have hx := hs x (List.mem_cons_self ..)
    rw [List.set_cons_zero, List.flatten_cons, List.flatten_cons, Nat.zero_mul, Nat.zero_add]
    unfold splice
    rw [show x ++ es.flatten ++ zs = x ++ (es.flatten ++ zs) from List.append_assoc .., List.take_append_of_le_length (by omega), List.drop_append_of_le_length (by omega)]
    simp only [List.append_assoc]
  | x :: es, c + 1, hs, h, ho => by
    rw [List.getElem?_cons_succ] at h
    have := row_splice zs es c (fun y hy => hs y (List.mem_cons_of_mem _ hy)) h ho
    have hx := hs x (List.mem_cons_self ..)
    rw [List.set_cons_succ, List.flatten_cons, List.flatten_cons, List.append_assoc, List.append_assoc, show (c + 1) * sz + o = sz + (c * sz + o) by rw [Nat.succ_mul]; omega, splice_app hx, this]
theorem w_draw_ne3 {P : Program} {N : Nat} {r : Option Nat} {A : AA} {b b' b'' : Nat} {ty ty' ty'' : TypeId} {cs cs' cs'' : List D} {s : St} {Q : Exit → AA → St → Prop} {l : List Oper} {id : Nat} (hm : P.follows .mixedOrders = true) (hB : mixBA .any l.toArray = true) (hok : opsOk N l = true)
    (h : (b' == b) = false → (b'' == b) = false → (b'' == b') = false → W P r (some (roOf (.box b ty cs :: .box b' ty' cs' :: .box b'' ty'' cs'' :: s))) l.toArray (Q .normal) l A (.box b ty cs :: .box b' ty' cs' :: .box b'' ty'' cs'' :: s)) : Tr P N r (.region id l.toArray true) A (.box b ty cs :: .box b' ty' cs' :: .box b'' ty'' cs'' :: s) Q := by
  intro a w ha hh
  have h1 := List.pairwise_cons.1 hh.1
  have h2 := List.pairwise_cons.1 h1.2
  have n1 : b' ≠ b := fun e => h1.1 (.box b' ty' cs') (List.Mem.head _) b rfl (by rw [← e]; rfl)
  have n2 : b'' ≠ b := fun e => h1.1 (.box b'' ty'' cs'') (List.Mem.tail _ (List.Mem.head _)) b rfl (by rw [← e]; rfl)
  have n3 : b'' ≠ b' := fun e => h2.1 (.box b'' ty'' cs'') (List.Mem.head _) b' rfl (by rw [← e]; rfl)
  exact w_draw _ hm hB hok (keeps_roOf _) (h (beq_eq_false_iff_ne.2 n1) (beq_eq_false_iff_ne.2 n2) (beq_eq_false_iff_ne.2 n3)) a w ha hh
theorem lendP {st : St} {bx gs gc m1 m2 cS cC : Nat} {T T1 T2 : TypeId} {R1 R2 zS zC : List D} {L1 L2 : List (List D)} (h1 : Res.box bx T [.ar gs 0 m1 cS, .ar gc 0 m2 cC] ∈ st) (h2 : Res.box gs T1 (R1 ++ zS) ∈ st) (h3 : Res.box gc T2 (R2 ++ zC) ∈ st)
    (f1 : L1.flatten = R1) (e1 : ∀ e ∈ L1, e.length = 7) (l1 : L1.length = m1) (f2 : L2.flatten = R2) (e2 : ∀ e ∈ L2, e.length = 1) (l2 : L2.length = m2) : Lend st (.ptr bx 0) (.ip [.sl .shared L1, .sl .shared L2]) :=
  Lend.ptr h1 ⟨Lend.rowE h2 f1 (by decide) e1 l1, Lend.rowE h3 f2 (by decide) e2 l2, trivial⟩ (by
    intro d hd
    simp only [List.mem_cons, List.not_mem_nil, or_false] at hd
    rcases hd with rfl | rfl <;> rfl)
theorem schLoseF (bx gs cS gc cC : Nat) (zS zC : List D) (x : Vr) (stp : Stp) (hx : VW x) (hs : stp.Ok) (hz : VL cS zS cC zC x) (s : St) : TrF Try.prog 91 [.ptr bx 0, .agg stp.cells] (VB bx gs cS zS gc cC zC x s) (StepR Sch.loseS x stp bx s) := by
  obtain ⟨ls, lc, hcs⟩ := hx
  obtain ⟨hn, hbg, ho⟩ := hs
  obtain ⟨hz1, hz2⟩ := hz
  have hK := schColumnF x stp [] (by omega) (by omega)
  have hB := schBareF stp.slot false false hbg
  have hF : Hid (Sch.loseS x stp = if Sch.column x stp = true ∧ Sch.bare stp.slot false false = true ∧ x.cols.length ≠ 1 then some ⟨x.slots, x.cols.eraseIdx stp.col.toNat⟩ else none) := rfl
  have e1 := Lib.hid (slots_each x.slots)
  have e2 := Lib.hid (cols_each x.cols)
  have f1 := Lib.hid (slotC_flat x)
  have f2 := Lib.hid (colC_flat x)
  have l1 : Hid ((x.slots.map Sl.cells).length = x.slots.length) := List.length_map ..
  have l2 : Hid ((x.cols.map encC).length = x.cols.length) := List.length_map ..
  unfold StepR VL VB Stp.cells
  generalize Sch.loseS x stp = F at *
  cases hcl : Sch.column x stp with
  | false =>
    rw [hcl] at hK hF
    unfold Vr.cells Stp.cells at hK
    clear hcl
    cases stp with
    | mk kd col slot order =>
    cases slot with
    | mk nm ty rq dv =>
    cases dv with
    | mk k n sv l =>
    dsimp only at ho ⊢
    generalize slotC x.slots = R1 at *
    generalize colC x.cols = R2 at *
    generalize x.slots.map Sl.cells = L1 at *
    generalize x.cols.map encC = L2 at *
    rw [Sl.cells_mk] at *
    dsimp only [List.cons_append, List.nil_append] at hK ⊢
    generalize x.slots.length = m1 at *
    generalize x.cols.length = m2 at *
    replace hK := Lib.hid hK
    refine trF_enter (ts := [4]) Try.func91 rfl (by rw [Try.ntmps91]; exact Nat.le_of_ble_eq_true rfl) (fun tmps w => by simp [results, Try.results91, go_sem, resVal]) ?_
    simp only [Try.ntmps91]
    repeat' (first | with_reducible refine Go1.go ?_ | ((with_reducible apply ev_go); (focus (try simp (disch := omega) only [push_cast, Nat.reduceEqDiff, reduceCtorEq, ↓reduceIte, Nat.reduceAdd, Nat.reduceMul, Nat.reduceSub, Nat.reduceLT, Nat.reduceLeDiff, Int.reduceToNat, Int.reduceLT, Int.reduceLE, Int.reduceAdd, Int.reduceSub, Int.reduceMul, Int.reduceBEq, Int.reduceBNe, encB, encI, encC, V.cells_mk, V.cells_len, Nat.mul_one, Int.sub_zero, List.map_nil, beq_self_eq_true, List.head?_cons, *]); (try exact rfl); done)) | ((with_reducible refine w_last ?_ ?_ ?_); (focus kernel_rfl); (focus rfl)) | ((with_reducible apply w_stepG); (focus rfl)) | ((with_reducible apply lk_mem); (focus ((repeat (first | exact mm_h | apply mm_t)); done))) | with_reducible refine Go2.go ?_ | ((with_reducible apply sto_go); (focus (intro cs'; repeat (first | exact ra_h | apply ra_t)))) | ((with_reducible refine al_go ?_); intro b) | ((with_reducible refine And.intro ?_ ?_); (focus ((repeat (first | exact keep_none | exact keep_nil | exact keep_ro | refine keep_cons ?_)); done))) | ((with_reducible apply (ck_lend Try.call103)); (focus exact hK.out); (focus exact ⟨lendP (by repeat (first | exact mm_h | apply mm_t)) (by repeat (first | exact mm_h | apply mm_t)) (by repeat (first | exact mm_h | apply mm_t)) f1.out e1.out l1.out f2.out e2.out l2.out, Lend.refl _, trivial⟩)) | ((with_reducible refine s_bi ?_ ?_); (focus rfl)) | with_reducible refine blk_ne rfl ?_ | ((with_reducible refine w_region ?_ ?_); (focus kernel_rfl)) | ((with_reducible refine w_draw [] ?_ ?_ ?_ ?_ ?_); (iterate 3 (focus kernel_rfl)); (focus exact keeps_nil)) | ((with_reducible first | refine gd_d1 ?_ ?_ | refine gd_d0 ?_ ?_); all_goals (intro hb; (first | with_reducible replace hb := nt_t hb | with_reducible replace hb := nt_f hb | skip); (first | replace hb := dc_t hb | replace hb := dc_f hb | have hb1 := eq_b hb | have hb1 := ne_b hb | have hb1 := bne_t hb | have hb1 := bne_f hb | skip); (try (exfalso; first | contradiction | omega)))))
    all_goals ((refine retA_mk (by first | exact .inl rfl | exact .inr rfl) (by first | rfl | assumption) (by (repeat (first | exact List.Sublist.refl _ | apply List.Sublist.cons))) (LE.of_eq ?_) (.inl ⟨?_, rfl, rfl⟩)); (focus simp (disch := omega) only [push_cast, Nat.reduceEqDiff, reduceCtorEq, ↓reduceIte, Nat.reduceAdd, Nat.reduceMul, Nat.reduceSub, Nat.reduceLT, Nat.reduceLeDiff, Int.reduceToNat, Int.reduceLT, Int.reduceLE, Int.reduceAdd, Int.reduceSub, Int.reduceMul, Int.reduceBEq, Int.reduceBNe, encB, encI, encC, V.cells_mk, V.cells_len, Nat.mul_one, Int.sub_zero, List.map_nil, beq_self_eq_true, List.head?_cons, *]); (focus (rw [hF.out]; refine if_neg ?_; rintro ⟨h1, h2, h3⟩; (first | omega | exact Bool.noConfusion (h1.symm.trans (by assumption) : true = false) | exact Bool.noConfusion (h2.symm.trans (by assumption) : true = false) | exact Bool.noConfusion (h3.symm.trans (by assumption) : true = false) | (exact Bool.noConfusion (h1 : false = true))))))
  | true =>
    obtain ⟨hk1, hk2, hk3⟩ : 0 ≤ stp.col ∧ stp.col < x.cols.length ∧ stp.order.length = 0 := by
      unfold Sch.column at hcl
      simpa [and_assoc] using hcl
    obtain ⟨i, hi⟩ := Int.eq_ofNat_of_zero_le hk1
    have hlt : i < x.cols.length := by omega
    rw [hcl] at hK hF
    unfold Vr.cells Stp.cells at hK
    clear hcl hk1 hk2
    have hD := fun s => deleteF gc cC i x.cols zC hlt hz2 s
    have hcl2 := colC_len (x.cols.eraseIdx i)
    have hcl := colC_len x.cols
    have hel : (x.cols.eraseIdx i).length + 1 = x.cols.length := by rw [List.length_eraseIdx_of_lt hlt]; omega
    obtain ⟨x', hx'⟩ : ∃ x' : Vr, x' = ⟨x.slots, x.cols.eraseIdx stp.col.toNat⟩ := ⟨_, rfl⟩
    rw [← hx'] at hF
    rw [hi, Int.toNat_natCast] at hx'
    have s1 : Hid (x'.slots = x.slots) := Lib.hid (by rw [hx'])
    have s2 : Hid (x'.cols = x.cols.eraseIdx i) := Lib.hid (by rw [hx'])
    clear hx'
    generalize hE : x.cols.eraseIdx i = ec at *
    generalize Sch.bare stp.slot false false = q at *
    generalize hRE : colC ec = RE at *
    generalize hme : ec.length = me at *
    replace hE := Lib.hid hE
    replace hRE := Lib.hid hRE
    replace hme := Lib.hid hme
    replace hel := Lib.hid hel
    replace hcl2 := Lib.hid hcl2
    replace hcl := Lib.hid hcl
    cases stp with
    | mk kd col slot order =>
    cases slot with
    | mk nm ty rq dv =>
    cases dv with
    | mk k n sv l =>
    dsimp only at hB ho hi hF ⊢
    subst hi
    generalize hR1 : slotC x.slots = R1 at *
    generalize hR2 : colC x.cols = R2 at *
    generalize x.slots.map Sl.cells = L1 at *
    generalize x.cols.map encC = L2 at *
    rw [Sl.cells_mk] at *
    dsimp only [List.cons_append, List.nil_append] at hK ⊢
    generalize hm1 : x.slots.length = m1 at *
    generalize hm2 : x.cols.length = m2 at *
    replace hR1 := Lib.hid hR1
    replace hR2 := Lib.hid hR2
    replace hm1 := Lib.hid hm1
    replace hm2 := Lib.hid hm2
    replace hK := Lib.hid hK
    replace hB := Lib.hid hB
    replace hD := Lib.hid hD
    refine trF_enter (ts := [4]) Try.func91 rfl (by rw [Try.ntmps91]; exact Nat.le_of_ble_eq_true rfl) (fun tmps w => by simp [results, Try.results91, go_sem, resVal]) ?_
    simp only [Try.ntmps91]
    repeat' (first | with_reducible refine Go1.go ?_ | ((with_reducible apply ev_go); (focus (try simp (disch := omega) only [push_cast, Nat.reduceEqDiff, reduceCtorEq, ↓reduceIte, Nat.reduceAdd, Nat.reduceMul, Nat.reduceSub, Nat.reduceLT, Nat.reduceLeDiff, Int.reduceToNat, Int.reduceLT, Int.reduceLE, Int.reduceAdd, Int.reduceSub, Int.reduceMul, Int.reduceBEq, Int.reduceBNe, encB, encI, encC, V.cells_mk, V.cells_len, Nat.mul_one, Int.sub_zero, List.map_nil, beq_self_eq_true, List.head?_cons, *]); (try exact rfl); done)) | ((with_reducible refine w_draw [(bx, [.ar gs 0 m1 cS, .ar gc 0 m2 cC])] ?_ ?_ ?_ ?_ ?_); (iterate 3 (focus kernel_rfl)); (focus ((repeat (first | exact keep_nil | refine keep_more (by repeat (first | exact mm_h | apply mm_t)) ?_)); done))) | ((with_reducible refine And.intro ?_ ?_); (focus ((repeat (first | exact keep_nil | refine keep_more (by (repeat (first | exact mm_h | apply mm_t)); done) ?_)); done))) | ((with_reducible refine w_last ?_ ?_ ?_); (focus kernel_rfl); (focus rfl)) | ((with_reducible apply w_stepG); (focus rfl)) | ((with_reducible apply lk_mem); (focus ((repeat (first | exact mm_h | apply mm_t)); done))) | with_reducible refine Go2.go ?_ | ((with_reducible apply sto_go); (focus (intro cs'; repeat (first | exact ra_h | apply ra_t)))) | ((with_reducible refine al_go ?_); intro b) | ((with_reducible refine And.intro ?_ ?_); (focus ((repeat (first | exact keep_none | exact keep_nil | exact keep_ro | refine keep_cons ?_)); done))) | ((with_reducible apply (ck_lend Try.call103)); (focus exact hK.out); (focus exact ⟨lendP (by repeat (first | exact mm_h | apply mm_t)) (by repeat (first | exact mm_h | apply mm_t)) (by repeat (first | exact mm_h | apply mm_t)) f1.out e1.out l1.out f2.out e2.out l2.out, Lend.refl _, trivial⟩)) | ((with_reducible apply (ck_le Try.call104)); (focus exact LEL.refl _); (focus exact hB.out _)) | ((with_reducible apply (ck_at Try.call105)); (focus exact LEL.refl _); (focus exact hD.out); (focus ((repeat (first | exact ra_h | apply ra_t)); done))) | ((with_reducible refine s_bi ?_ ?_); (focus rfl)) | with_reducible refine blk_ne rfl ?_ | ((with_reducible refine w_region ?_ ?_); (focus kernel_rfl)) | ((with_reducible refine w_draw [] ?_ ?_ ?_ ?_ ?_); (iterate 3 (focus kernel_rfl)); (focus exact keeps_nil)) | ((with_reducible first | refine gd_d1 ?_ ?_ | refine gd_d0 ?_ ?_); all_goals (intro hb; (first | with_reducible replace hb := nt_t hb | with_reducible replace hb := nt_f hb | skip); (first | replace hb := dc_t hb | replace hb := dc_f hb | have hb1 := eq_b hb | have hb1 := ne_b hb | have hb1 := bne_t hb | have hb1 := bne_f hb | skip); (try (exfalso; first | contradiction | omega)))))
    all_goals first
      | ((refine retA_mk (by first | exact .inl rfl | exact .inr rfl) (by first | rfl | assumption) (by (repeat (first | exact List.Sublist.refl _ | apply List.Sublist.cons))) (LE.of_eq ?_) (.inl ⟨?_, rfl, rfl⟩)); (focus simp (disch := omega) only [push_cast, Nat.reduceEqDiff, reduceCtorEq, ↓reduceIte, Nat.reduceAdd, Nat.reduceMul, Nat.reduceSub, Nat.reduceLT, Nat.reduceLeDiff, Int.reduceToNat, Int.reduceLT, Int.reduceLE, Int.reduceAdd, Int.reduceSub, Int.reduceMul, Int.reduceBEq, Int.reduceBNe, encB, encI, encC, V.cells_mk, V.cells_len, Nat.mul_one, Int.sub_zero, List.map_nil, beq_self_eq_true, List.head?_cons, *]); (focus (rw [hF.out]; refine if_neg ?_; rintro ⟨h1, h2, h3⟩; (first | omega | exact Bool.noConfusion (h1.symm.trans (by assumption) : true = false) | exact Bool.noConfusion (h2.symm.trans (by assumption) : true = false) | exact Bool.noConfusion (h3.symm.trans (by assumption) : true = false) | (exact Bool.noConfusion (h1 : false = true))))))
      | ((refine retA_mk (by first | exact .inl rfl | exact .inr rfl) (by first | rfl | assumption) (List.Sublist.refl _) (LE.of_eq ?_) (.inr ⟨x', gs, cS, zS, gc, cC, D.i 0 :: zC, ?_, ⟨?_, ?_⟩, rfl, ?_⟩)); (focus simp (disch := omega) only [push_cast, Nat.reduceEqDiff, reduceCtorEq, ↓reduceIte, Nat.reduceAdd, Nat.reduceMul, Nat.reduceSub, Nat.reduceLT, Nat.reduceLeDiff, Int.reduceToNat, Int.reduceLT, Int.reduceLE, Int.reduceAdd, Int.reduceSub, Int.reduceMul, Int.reduceBEq, Int.reduceBNe, encB, encI, encC, V.cells_mk, V.cells_len, Nat.mul_one, Int.sub_zero, List.map_nil, beq_self_eq_true, List.head?_cons, *]); (focus (rw [hF.out]; refine if_pos ⟨rfl, ?_, ?_⟩ <;> first | assumption | omega)); (focus (rw [s1.out, hR1.out]; exact hz1)); (focus (rw [s2.out, hRE.out]; have h1 := hel.out; have h2 := hcl2.out; have h3 := hcl.out; rw [List.length_append] at hz2 ⊢; rw [List.length_cons]; omega)); (focus (rw [s1.out, s2.out, hR1.out, hRE.out, hm1.out, hme.out])))
end Go.Proofs.Ytooaagmhgakhgaa
end

section
namespace Go.Proofs.Ytooaagmhgakhgaa
set_option linter.unusedSimpArgs false
open Go.RowKit
set_option maxRecDepth 10000
set_option maxHeartbeats 4000000
theorem modify_set {α : Type} {l : List α} {f : α → α} {i : Nat} {y : α} (h : l[i]? = some y) : l.modify i f = l.set i (f y) := by
  apply List.ext_getElem?
  intro j
  rw [List.getElem?_modify, List.getElem?_set]
  by_cases hj : i = j
  · subst hj
    obtain ⟨hlt, rfl⟩ := List.getElem?_eq_some_iff.1 h
    simp [hlt]
  · simp [hj]
theorem schRenameF (bx gs cS gc cC : Nat) (zS zC : List D) (x : Vr) (stp : Stp) (hx : VW x) (hs : stp.Ok) (hz : VL cS zS cC zC x) (s : St) : TrF Try.prog 92 [.ptr bx 0, .agg stp.cells] (VB bx gs cS zS gc cC zC x s) (StepR Sch.renameS x stp bx s) := by
  obtain ⟨ls, lc, hcs⟩ := hx
  obtain ⟨hn, hbg, ho⟩ := hs
  obtain ⟨hz1, hz2⟩ := hz
  have hK := schColumnF x stp [] (by omega) (by omega)
  have hB := schBareF stp.slot true false hbg
  have hN := valIsNameF stp.slot.name
  have hC := schColF x.slots x.cols stp.slot.name (by omega) (by omega) []
  have hF : Hid (Sch.renameS x stp = if Sch.column x stp = true ∧ Sch.bare stp.slot true false = true ∧ V.isName stp.slot.name.data.toList = true ∧ Sch.colL x.slots stp.slot.name x.cols < 0 then some ⟨x.slots.modify (Sch.at_ x stp) fun y => { y with name := stp.slot.name }, x.cols⟩ else none) := rfl
  have e1 := Lib.hid (slots_each x.slots)
  have e2 := Lib.hid (cols_each x.cols)
  have f1 := Lib.hid (slotC_flat x)
  have f2 := Lib.hid (colC_flat x)
  have l1 : Hid ((x.slots.map Sl.cells).length = x.slots.length) := List.length_map ..
  have l2 : Hid ((x.cols.map encC).length = x.cols.length) := List.length_map ..
  unfold StepR VL VB Stp.cells
  generalize Sch.renameS x stp = F at *
  cases hcl : Sch.column x stp with
  | false =>
    rw [hcl] at hK hF
    unfold Vr.cells Stp.cells at hK
    clear hcl
    cases stp with
    | mk kd col slot order =>
    cases slot with
    | mk nm ty rq dv =>
    cases dv with
    | mk k n sv l =>
    dsimp only at ho ⊢
    generalize slotC x.slots = R1 at *
    generalize colC x.cols = R2 at *
    generalize x.slots.map Sl.cells = L1 at *
    generalize x.cols.map encC = L2 at *
    rw [Sl.cells_mk] at *
    dsimp only [List.cons_append, List.nil_append] at hK ⊢
    generalize x.slots.length = m1 at *
    generalize x.cols.length = m2 at *
    replace hK := Lib.hid hK
    refine trF_enter (ts := [4]) Try.func92 rfl (by rw [Try.ntmps92]; exact Nat.le_of_ble_eq_true rfl) (fun tmps w => by simp [results, Try.results92, go_sem, resVal]) ?_
    simp only [Try.ntmps92]
    repeat' (first | with_reducible refine Go1.go ?_ | ((with_reducible apply ev_go); (focus (try simp (disch := omega) only [push_cast, Nat.reduceEqDiff, reduceCtorEq, ↓reduceIte, Nat.reduceAdd, Nat.reduceMul, Nat.reduceSub, Nat.reduceLT, Nat.reduceLeDiff, Int.reduceToNat, Int.reduceLT, Int.reduceLE, Int.reduceAdd, Int.reduceSub, Int.reduceMul, Int.reduceBEq, Int.reduceBNe, encB, encI, encC, V.cells_mk, V.cells_len, Nat.mul_one, Int.sub_zero, List.map_nil, beq_self_eq_true, List.head?_cons, *]); (try exact rfl); done)) | ((with_reducible refine w_last ?_ ?_ ?_); (focus kernel_rfl); (focus rfl)) | ((with_reducible apply w_stepG); (focus rfl)) | ((with_reducible apply lk_mem); (focus ((repeat (first | exact mm_h | apply mm_t)); done))) | with_reducible refine Go2.go ?_ | ((with_reducible apply sto_go); (focus (intro cs'; repeat (first | exact ra_h | apply ra_t)))) | ((with_reducible refine al_go ?_); intro b) | ((with_reducible refine And.intro ?_ ?_); (focus ((repeat (first | exact keep_none | exact keep_nil | exact keep_ro | refine keep_cons ?_)); done))) | ((with_reducible apply (ck_lend Try.call103)); (focus exact hK.out); (focus exact ⟨lendP (by repeat (first | exact mm_h | apply mm_t)) (by repeat (first | exact mm_h | apply mm_t)) (by repeat (first | exact mm_h | apply mm_t)) f1.out e1.out l1.out f2.out e2.out l2.out, Lend.refl _, trivial⟩)) | ((with_reducible refine s_bi ?_ ?_); (focus rfl)) | with_reducible refine blk_ne rfl ?_ | ((with_reducible refine w_region ?_ ?_); (focus kernel_rfl)) | ((with_reducible refine w_draw [] ?_ ?_ ?_ ?_ ?_); (iterate 3 (focus kernel_rfl)); (focus exact keeps_nil)) | ((with_reducible first | refine gd_d1 ?_ ?_ | refine gd_d0 ?_ ?_); all_goals (intro hb; (first | with_reducible replace hb := nt_t hb | with_reducible replace hb := nt_f hb | skip); (first | replace hb := dc_t hb | replace hb := dc_f hb | have hb1 := eq_b hb | have hb1 := ne_b hb | have hb1 := bne_t hb | have hb1 := bne_f hb | skip); (try (exfalso; first | contradiction | omega)))))
    all_goals ((refine retA_mk (by first | exact .inl rfl | exact .inr rfl) (by first | rfl | assumption) (by (repeat (first | exact List.Sublist.refl _ | apply List.Sublist.cons))) (LE.of_eq ?_) (.inl ⟨?_, rfl, rfl⟩)); (focus simp (disch := omega) only [push_cast, Nat.reduceEqDiff, reduceCtorEq, ↓reduceIte, Nat.reduceAdd, Nat.reduceMul, Nat.reduceSub, Nat.reduceLT, Nat.reduceLeDiff, Int.reduceToNat, Int.reduceLT, Int.reduceLE, Int.reduceAdd, Int.reduceSub, Int.reduceMul, Int.reduceBEq, Int.reduceBNe, encB, encI, encC, V.cells_mk, V.cells_len, Nat.mul_one, Int.sub_zero, List.map_nil, beq_self_eq_true, List.head?_cons, *]); (focus (rw [hF.out]; refine if_neg ?_; rintro ⟨h1, h2, h3, h4⟩; (first | omega | exact Bool.noConfusion (h1.symm.trans (by assumption) : true = false) | exact Bool.noConfusion (h2.symm.trans (by assumption) : true = false) | exact Bool.noConfusion (h3.symm.trans (by assumption) : true = false) | exact Bool.noConfusion (h4.symm.trans (by assumption) : true = false) | (exact Bool.noConfusion (h1 : false = true))))))
  | true =>
    obtain ⟨hk1, hk2, hk3⟩ : 0 ≤ stp.col ∧ stp.col < x.cols.length ∧ stp.order.length = 0 := by
      unfold Sch.column at hcl
      simpa [and_assoc] using hcl
    obtain ⟨i, hi⟩ := Int.eq_ofNat_of_zero_le hk1
    have hlt : i < x.cols.length := by omega
    rw [hcl] at hK hF
    unfold Vr.cells Stp.cells at hK
    clear hcl hk1 hk2
    obtain ⟨c, hc⟩ : ∃ c, x.cols[i]? = some c := ⟨_, List.getElem?_eq_getElem hlt⟩
    have hcm : c < x.slots.length := hcs c (List.mem_of_getElem? hc)
    obtain ⟨y, hy⟩ : ∃ y, x.slots[c]? = some y := ⟨_, List.getElem?_eq_getElem hcm⟩
    have hat : Sch.at_ x stp = c := by
      unfold Sch.at_
      rw [hi, Int.toNat_natCast, List.getD_eq_getElem?_getD, hc]; rfl
    have hL2 : (x.cols.map encC)[i]? = some [D.i c] := by rw [List.getElem?_map, hc]; rfl
    have hL1 : (x.slots.map Sl.cells)[c]? = some y.cells := by rw [List.getElem?_map, hy]; rfl
    obtain ⟨t1, hld⟩ : ∃ tl, List.drop i (colC x.cols ++ zC) = D.i c :: tl := by
      obtain ⟨tl, h⟩ := row_drop (sz := 1) (o := 0) zC _ i (cols_each x.cols) hL2 (by omega)
      rw [Nat.mul_one, Nat.add_zero] at h
      exact ⟨tl, h⟩
    obtain ⟨x', hx'⟩ : ∃ x' : Vr, x' = ⟨x.slots.modify (Sch.at_ x stp) fun y => { y with name := stp.slot.name }, x.cols⟩ := ⟨_, rfl⟩
    rw [← hx'] at hF
    rw [hat, modify_set hy] at hx'
    have s1 : Hid (x'.slots = x.slots.set c { y with name := stp.slot.name }) := Lib.hid (by rw [hx'])
    have s2 : Hid (x'.cols = x.cols) := Lib.hid (by rw [hx'])
    have s3 : Hid ((x.slots.set c { y with name := stp.slot.name }).length = x.slots.length) := List.length_set
    have hsp : List.take (c * 7) (slotC x.slots ++ zS) ++ [D.str stp.slot.name] ++ List.drop (c * 7 + 1) (slotC x.slots ++ zS) = slotC (x.slots.set c { y with name := stp.slot.name }) ++ zS := by
      have h := row_splice (o := 0) (ds := [D.str stp.slot.name]) zS _ c (slots_each x.slots) hL1 (by simp)
      rw [show splice y.cells 0 [D.str stp.slot.name] = Sl.cells { y with name := stp.slot.name } from rfl, show (x.slots.map Sl.cells).set c (Sl.cells { y with name := stp.slot.name }) = (x.slots.set c { y with name := stp.slot.name }).map Sl.cells from (List.map_set ..).symm] at h
      exact h
    have hle : c * 7 + 1 ≤ cS * 7 := by
      have := slotC_len x.slots
      rw [List.length_append] at hz1
      omega
    have hl3 : (slotC (x.slots.set c { y with name := stp.slot.name }) ++ zS).length = cS * 7 := by
      rw [List.length_append] at hz1 ⊢
      rw [slotC_len, List.length_set, ← slotC_len]; exact hz1
    clear hx' hat hL1 hL2 hy hc
    generalize Sch.bare stp.slot true false = q at *
    generalize V.isName stp.slot.name.data.toList = qn at *
    generalize Sch.colL x.slots stp.slot.name x.cols = cv at *
    generalize hRE : slotC (x.slots.set c { y with name := stp.slot.name }) = RE at *
    replace hRE := Lib.hid hRE
    replace hl3 := Lib.hid hl3
    cases stp with
    | mk kd col slot order =>
    cases slot with
    | mk nm ty rq dv =>
    cases dv with
    | mk k n sv l =>
    dsimp only at hB hN hC ho hi hF ⊢
    subst hi
    generalize hR1 : slotC x.slots = R1 at *
    generalize hR2 : colC x.cols = R2 at *
    generalize x.slots.map Sl.cells = L1 at *
    generalize x.cols.map encC = L2 at *
    rw [Sl.cells_mk] at *
    dsimp only [List.cons_append, List.nil_append] at hK ⊢
    generalize hm1 : x.slots.length = m1 at *
    generalize hm2 : x.cols.length = m2 at *
    replace hR1 := Lib.hid hR1
    replace hR2 := Lib.hid hR2
    replace hm1 := Lib.hid hm1
    replace hm2 := Lib.hid hm2
    replace hK := Lib.hid hK
    replace hB := Lib.hid hB
    replace hN := Lib.hid hN
    replace hC := Lib.hid hC
    refine trF_enter (ts := [4]) Try.func92 rfl (by rw [Try.ntmps92]; exact Nat.le_of_ble_eq_true rfl) (fun tmps w => by simp [results, Try.results92, go_sem, resVal]) ?_
    simp only [Try.ntmps92]
    repeat' (first | with_reducible refine Go1.go ?_ | ((with_reducible apply ev_go); (focus (try simp (disch := omega) only [push_cast, Nat.reduceEqDiff, reduceCtorEq, ↓reduceIte, Nat.reduceAdd, Nat.reduceMul, Nat.reduceSub, Nat.reduceLT, Nat.reduceLeDiff, Int.reduceToNat, Int.reduceLT, Int.reduceLE, Int.reduceAdd, Int.reduceSub, Int.reduceMul, Int.reduceBEq, Int.reduceBNe, encB, encI, encC, V.cells_mk, V.cells_len, Nat.mul_one, Int.sub_zero, List.map_nil, beq_self_eq_true, List.head?_cons, *]); (try exact rfl); done)) | ((with_reducible refine w_draw_ne3 ?_ ?_ ?_ ?_); (iterate 3 (focus kernel_rfl)); intro hne1 hne2 hne3) | ((with_reducible refine w_last ?_ ?_ ?_); (focus kernel_rfl); (focus rfl)) | ((with_reducible apply w_stepG); (focus rfl)) | ((with_reducible apply lk_mem); (focus ((repeat (first | exact mm_h | apply mm_t)); done))) | with_reducible refine Go2.go ?_ | ((with_reducible apply sto_go); (focus (intro cs'; repeat (first | exact ra_h | apply ra_t)))) | ((with_reducible refine al_go ?_); intro b) | ((with_reducible refine And.intro ?_ ?_); (focus ((repeat (first | exact keep_none | exact keep_nil | exact keep_ro | refine keep_cons ?_)); done))) | ((with_reducible apply (ck_lend Try.call103)); (focus exact hK.out); (focus exact ⟨lendP (by repeat (first | exact mm_h | apply mm_t)) (by repeat (first | exact mm_h | apply mm_t)) (by repeat (first | exact mm_h | apply mm_t)) f1.out e1.out l1.out f2.out e2.out l2.out, Lend.refl _, trivial⟩)) | ((with_reducible apply (ck_lend Try.call38)); (focus exact hC.out); (focus exact ⟨Lend.agg ⟨Lend.rowE (by repeat (first | exact mm_h | apply mm_t)) f1.out (by decide) e1.out l1.out, Lend.rowE (by repeat (first | exact mm_h | apply mm_t)) f2.out (by decide) e2.out l2.out, trivial⟩, Lend.refl _, trivial⟩)) | ((with_reducible apply (ck_le Try.call104)); (focus exact LEL.refl _); (focus exact hB.out _)) | ((with_reducible apply (ck_le Try.call86)); (focus exact LEL.refl _); (focus exact hN.out _)) | ((with_reducible refine s_bi ?_ ?_); (focus rfl)) | with_reducible refine blk_ne rfl ?_ | ((with_reducible refine w_region ?_ ?_); (focus kernel_rfl)) | ((with_reducible refine w_draw [] ?_ ?_ ?_ ?_ ?_); (iterate 3 (focus kernel_rfl)); (focus exact keeps_nil)) | ((with_reducible first | refine gd_d1 ?_ ?_ | refine gd_d0 ?_ ?_); all_goals (intro hb; (first | with_reducible replace hb := nt_t hb | with_reducible replace hb := nt_f hb | skip); (first | replace hb := dc_t hb | replace hb := dc_f hb | have hb1 := eq_b hb | have hb1 := ne_b hb | have hb1 := bne_t hb | have hb1 := bne_f hb | skip); (try (exfalso; first | contradiction | omega)))))
    all_goals first
      | ((refine retA_mk (by first | exact .inl rfl | exact .inr rfl) (by first | rfl | assumption) (by (repeat (first | exact List.Sublist.refl _ | apply List.Sublist.cons))) (LE.of_eq ?_) (.inl ⟨?_, rfl, rfl⟩)); (focus simp (disch := omega) only [push_cast, Nat.reduceEqDiff, reduceCtorEq, ↓reduceIte, Nat.reduceAdd, Nat.reduceMul, Nat.reduceSub, Nat.reduceLT, Nat.reduceLeDiff, Int.reduceToNat, Int.reduceLT, Int.reduceLE, Int.reduceAdd, Int.reduceSub, Int.reduceMul, Int.reduceBEq, Int.reduceBNe, encB, encI, encC, V.cells_mk, V.cells_len, Nat.mul_one, Int.sub_zero, List.map_nil, beq_self_eq_true, List.head?_cons, *]); (focus (rw [hF.out]; refine if_neg ?_; rintro ⟨h1, h2, h3, h4⟩; (first | omega | exact Bool.noConfusion (h1.symm.trans (by assumption) : true = false) | exact Bool.noConfusion (h2.symm.trans (by assumption) : true = false) | exact Bool.noConfusion (h3.symm.trans (by assumption) : true = false) | exact Bool.noConfusion (h4.symm.trans (by assumption) : true = false) | (exact Bool.noConfusion (h1 : false = true))))))
      | ((refine retA_mk (by first | exact .inl rfl | exact .inr rfl) (by first | rfl | assumption) (List.Sublist.refl _) (LE.of_eq ?_) (.inr ⟨x', gs, cS, zS, gc, cC, zC, ?_, ⟨?_, ?_⟩, rfl, ?_⟩)); (focus simp (disch := omega) only [push_cast, Nat.reduceEqDiff, reduceCtorEq, ↓reduceIte, Nat.reduceAdd, Nat.reduceMul, Nat.reduceSub, Nat.reduceLT, Nat.reduceLeDiff, Int.reduceToNat, Int.reduceLT, Int.reduceLE, Int.reduceAdd, Int.reduceSub, Int.reduceMul, Int.reduceBEq, Int.reduceBNe, encB, encI, encC, V.cells_mk, V.cells_len, Nat.mul_one, Int.sub_zero, List.map_nil, beq_self_eq_true, List.head?_cons, *]); (focus (rw [hF.out]; refine if_pos ⟨rfl, ?_, ?_, ?_⟩ <;> first | assumption | omega)); (focus (rw [s1.out, hRE.out]; exact hl3.out)); (focus (rw [s2.out, hR2.out]; exact hz2)); (focus (rw [s1.out, s2.out, s3.out, hRE.out, hR2.out, hm2.out])))
end Go.Proofs.Ytooaagmhgakhgaa
end

section
namespace Go.Proofs.Ytooaagmhgakhgaa
set_option linter.unusedSimpArgs false
open Go.RowKit
set_option maxRecDepth 10000
set_option maxHeartbeats 4000000
theorem schWidenF (bx gs cS gc cC : Nat) (zS zC : List D) (x : Vr) (stp : Stp) (hx : VW x) (hs : stp.Ok) (hz : VL cS zS cC zC x) (s : St) : TrF Try.prog 93 [.ptr bx 0, .agg stp.cells] (VB bx gs cS zS gc cC zC x s) (StepR Sch.widenS x stp bx s) := by
  obtain ⟨ls, lc, hcs⟩ := hx
  obtain ⟨hn, hbg, ho⟩ := hs
  obtain ⟨hz1, hz2⟩ := hz
  have hK := schColumnF x stp [] (by omega) (by omega)
  have hB := schBareF stp.slot false true hbg
  have hT := schTakesF stp.slot.types
  have hF : Hid (Sch.widenS x stp = if Sch.column x stp = true ∧ Sch.bare stp.slot false true = true ∧ Sch.takes stp.slot.types = true ∧ (x.slots[Sch.at_ x stp]?).any (fun y => bits .or .i64 y.types stp.slot.types != y.types) = true then some ⟨x.slots.modify (Sch.at_ x stp) fun y => { y with types := bits .or .i64 y.types stp.slot.types }, x.cols⟩ else none) := rfl
  have e1 := Lib.hid (slots_each x.slots)
  have e2 := Lib.hid (cols_each x.cols)
  have f1 := Lib.hid (slotC_flat x)
  have f2 := Lib.hid (colC_flat x)
  have l1 : Hid ((x.slots.map Sl.cells).length = x.slots.length) := List.length_map ..
  have l2 : Hid ((x.cols.map encC).length = x.cols.length) := List.length_map ..
  unfold StepR VL VB Stp.cells
  generalize Sch.widenS x stp = F at *
  cases hcl : Sch.column x stp with
  | false =>
    rw [hcl] at hK hF
    unfold Vr.cells Stp.cells at hK
    clear hcl
    cases stp with
    | mk kd col slot order =>
    cases slot with
    | mk nm ty rq dv =>
    cases dv with
    | mk k n sv l =>
    dsimp only at ho ⊢
    generalize slotC x.slots = R1 at *
    generalize colC x.cols = R2 at *
    generalize x.slots.map Sl.cells = L1 at *
    generalize x.cols.map encC = L2 at *
    rw [Sl.cells_mk] at *
    dsimp only [List.cons_append, List.nil_append] at hK ⊢
    generalize x.slots.length = m1 at *
    generalize x.cols.length = m2 at *
    replace hK := Lib.hid hK
    refine trF_enter (ts := [4]) Try.func93 rfl (by rw [Try.ntmps93]; exact Nat.le_of_ble_eq_true rfl) (fun tmps w => by simp [results, Try.results93, go_sem, resVal]) ?_
    simp only [Try.ntmps93]
    repeat' (first | with_reducible refine Go1.go ?_ | ((with_reducible apply ev_go); (focus (try simp (disch := omega) only [push_cast, Nat.reduceEqDiff, reduceCtorEq, ↓reduceIte, Nat.reduceAdd, Nat.reduceMul, Nat.reduceSub, Nat.reduceLT, Nat.reduceLeDiff, Int.reduceToNat, Int.reduceLT, Int.reduceLE, Int.reduceAdd, Int.reduceSub, Int.reduceMul, Int.reduceBEq, Int.reduceBNe, encB, encI, encC, V.cells_mk, V.cells_len, Nat.mul_one, Int.sub_zero, List.map_nil, beq_self_eq_true, List.head?_cons, *]); (try exact rfl); done)) | ((with_reducible refine w_last ?_ ?_ ?_); (focus kernel_rfl); (focus rfl)) | ((with_reducible apply w_stepG); (focus rfl)) | ((with_reducible apply lk_mem); (focus ((repeat (first | exact mm_h | apply mm_t)); done))) | with_reducible refine Go2.go ?_ | ((with_reducible apply sto_go); (focus (intro cs'; repeat (first | exact ra_h | apply ra_t)))) | ((with_reducible refine al_go ?_); intro b) | ((with_reducible refine And.intro ?_ ?_); (focus ((repeat (first | exact keep_none | exact keep_nil | exact keep_ro | refine keep_cons ?_)); done))) | ((with_reducible apply (ck_lend Try.call103)); (focus exact hK.out); (focus exact ⟨lendP (by repeat (first | exact mm_h | apply mm_t)) (by repeat (first | exact mm_h | apply mm_t)) (by repeat (first | exact mm_h | apply mm_t)) f1.out e1.out l1.out f2.out e2.out l2.out, Lend.refl _, trivial⟩)) | ((with_reducible refine s_bi ?_ ?_); (focus rfl)) | with_reducible refine blk_ne rfl ?_ | ((with_reducible refine w_region ?_ ?_); (focus kernel_rfl)) | ((with_reducible refine w_draw [] ?_ ?_ ?_ ?_ ?_); (iterate 3 (focus kernel_rfl)); (focus exact keeps_nil)) | ((with_reducible first | refine gd_d1 ?_ ?_ | refine gd_d0 ?_ ?_); all_goals (intro hb; (first | with_reducible replace hb := nt_t hb | with_reducible replace hb := nt_f hb | skip); (first | replace hb := dc_t hb | replace hb := dc_f hb | have hb1 := eq_b hb | have hb1 := ne_b hb | have hb1 := bne_t hb | have hb1 := bne_f hb | skip); (try (exfalso; first | contradiction | omega)))))
    all_goals ((refine retA_mk (by first | exact .inl rfl | exact .inr rfl) (by first | rfl | assumption) (by (repeat (first | exact List.Sublist.refl _ | apply List.Sublist.cons))) (LE.of_eq ?_) (.inl ⟨?_, rfl, rfl⟩)); (focus simp (disch := omega) only [push_cast, Nat.reduceEqDiff, reduceCtorEq, ↓reduceIte, Nat.reduceAdd, Nat.reduceMul, Nat.reduceSub, Nat.reduceLT, Nat.reduceLeDiff, Int.reduceToNat, Int.reduceLT, Int.reduceLE, Int.reduceAdd, Int.reduceSub, Int.reduceMul, Int.reduceBEq, Int.reduceBNe, encB, encI, encC, V.cells_mk, V.cells_len, Nat.mul_one, Int.sub_zero, List.map_nil, beq_self_eq_true, List.head?_cons, *]); (focus (rw [hF.out]; refine if_neg ?_; rintro ⟨h1, h2, h3, h4⟩; (first | omega | exact Bool.noConfusion (h1.symm.trans (by assumption) : true = false) | exact Bool.noConfusion (h2.symm.trans (by assumption) : true = false) | exact Bool.noConfusion (h3.symm.trans (by assumption) : true = false) | exact Bool.noConfusion (h4.symm.trans (by assumption) : true = false) | (exact Bool.noConfusion (h1 : false = true))))))
  | true =>
    obtain ⟨hk1, hk2, hk3⟩ : 0 ≤ stp.col ∧ stp.col < x.cols.length ∧ stp.order.length = 0 := by
      unfold Sch.column at hcl
      simpa [and_assoc] using hcl
    obtain ⟨i, hi⟩ := Int.eq_ofNat_of_zero_le hk1
    have hlt : i < x.cols.length := by omega
    rw [hcl] at hK hF
    unfold Vr.cells Stp.cells at hK
    clear hcl hk1 hk2
    obtain ⟨c, hc⟩ : ∃ c, x.cols[i]? = some c := ⟨_, List.getElem?_eq_getElem hlt⟩
    have hcm : c < x.slots.length := hcs c (List.mem_of_getElem? hc)
    obtain ⟨y, hy⟩ : ∃ y, x.slots[c]? = some y := ⟨_, List.getElem?_eq_getElem hcm⟩
    have hat : Sch.at_ x stp = c := by
      unfold Sch.at_
      rw [hi, Int.toNat_natCast, List.getD_eq_getElem?_getD, hc]; rfl
    have hL2 : (x.cols.map encC)[i]? = some [D.i c] := by rw [List.getElem?_map, hc]; rfl
    have hL1 : (x.slots.map Sl.cells)[c]? = some y.cells := by rw [List.getElem?_map, hy]; rfl
    obtain ⟨t1, hld⟩ : ∃ tl, List.drop i (colC x.cols ++ zC) = D.i c :: tl := by
      obtain ⟨tl, h⟩ := row_drop (sz := 1) (o := 0) zC _ i (cols_each x.cols) hL2 (by omega)
      rw [Nat.mul_one, Nat.add_zero] at h
      exact ⟨tl, h⟩
    obtain ⟨w, hw⟩ : ∃ w, bits .or .i64 y.types stp.slot.types = w := ⟨_, rfl⟩
    obtain ⟨wb, hwb⟩ : ∃ wb, (w != y.types) = wb := ⟨_, rfl⟩
    obtain ⟨x', hx'⟩ : ∃ x' : Vr, x' = ⟨x.slots.modify (Sch.at_ x stp) fun y => { y with types := bits .or .i64 y.types stp.slot.types }, x.cols⟩ := ⟨_, rfl⟩
    rw [← hx'] at hF
    rw [hat, hy, Option.any_some, hw, hwb] at hF
    rw [hat, modify_set hy] at hx'
    rw [hw] at hx'
    have s1 : Hid (x'.slots = x.slots.set c { y with types := w }) := Lib.hid (by rw [hx'])
    have s2 : Hid (x'.cols = x.cols) := Lib.hid (by rw [hx'])
    have s3 : Hid ((x.slots.set c { y with types := w }).length = x.slots.length) := List.length_set
    have hsp : List.take (c * 7 + 1) (slotC x.slots ++ zS) ++ [D.i w] ++ List.drop (c * 7 + 1 + 1) (slotC x.slots ++ zS) = slotC (x.slots.set c { y with types := w }) ++ zS := by
      have h := row_splice (o := 1) (ds := [D.i w]) zS _ c (slots_each x.slots) hL1 (by simp)
      rw [show splice y.cells 1 [D.i w] = Sl.cells { y with types := w } from rfl, show (x.slots.map Sl.cells).set c (Sl.cells { y with types := w }) = (x.slots.set c { y with types := w }).map Sl.cells from (List.map_set ..).symm] at h
      exact h
    obtain ⟨t2, hld2⟩ : ∃ tl, List.drop (c * 7 + 1) (slotC x.slots ++ zS) = D.i y.types :: tl := by
      obtain ⟨tl, h⟩ := row_drop (sz := 7) (o := 1) zS _ c (slots_each x.slots) hL1 (by omega)
      exact ⟨_, h⟩
    obtain ⟨t3, hld3⟩ : ∃ tl, List.drop (c * 7 + 1) (slotC (x.slots.set c { y with types := w }) ++ zS) = D.i w :: tl := by
      obtain ⟨tl, h⟩ := row_drop (sz := 7) (o := 1) (e := Sl.cells { y with types := w }) zS _ c (slots_each (x.slots.set c { y with types := w })) (by rw [List.getElem?_map, List.getElem?_set_self hcm]; rfl) (by omega)
      exact ⟨_, h⟩
    have hle : c * 7 + 1 + 1 ≤ cS * 7 := by
      have := slotC_len x.slots
      rw [List.length_append] at hz1
      omega
    have hl3 : (slotC (x.slots.set c { y with types := w }) ++ zS).length = cS * 7 := by
      rw [List.length_append] at hz1 ⊢
      rw [slotC_len, List.length_set, ← slotC_len]; exact hz1
    clear hx' hat hL1 hL2 hy hc
    generalize Sch.bare stp.slot false true = q at *
    generalize Sch.takes stp.slot.types = qt at *
    generalize hRE : slotC (x.slots.set c { y with types := w }) = RE at *
    replace hRE := Lib.hid hRE
    replace hl3 := Lib.hid hl3
    generalize y.types = yt at *
    cases stp with
    | mk kd col slot order =>
    cases slot with
    | mk nm ty rq dv =>
    cases dv with
    | mk k n sv l =>
    dsimp only at hB hT ho hi hF ⊢
    subst hi
    generalize hR1 : slotC x.slots = R1 at *
    generalize hR2 : colC x.cols = R2 at *
    generalize x.slots.map Sl.cells = L1 at *
    generalize x.cols.map encC = L2 at *
    rw [Sl.cells_mk] at *
    dsimp only [List.cons_append, List.nil_append] at hK ⊢
    generalize hm1 : x.slots.length = m1 at *
    generalize hm2 : x.cols.length = m2 at *
    replace hR1 := Lib.hid hR1
    replace hR2 := Lib.hid hR2
    replace hm1 := Lib.hid hm1
    replace hm2 := Lib.hid hm2
    replace hK := Lib.hid hK
    replace hB := Lib.hid hB
    replace hT := Lib.hid hT
    cases wb
    all_goals skip
    all_goals (
      refine trF_enter (ts := [4]) Try.func93 rfl (by rw [Try.ntmps93]; exact Nat.le_of_ble_eq_true rfl) (fun tmps w => by simp [results, Try.results93, go_sem, resVal]) ?_
      simp only [Try.ntmps93]
      repeat' (first | with_reducible refine Go1.go ?_ | ((with_reducible apply ev_go); (focus (try simp (disch := omega) only [push_cast, Nat.reduceEqDiff, reduceCtorEq, ↓reduceIte, Nat.reduceAdd, Nat.reduceMul, Nat.reduceSub, Nat.reduceLT, Nat.reduceLeDiff, Int.reduceToNat, Int.reduceLT, Int.reduceLE, Int.reduceAdd, Int.reduceSub, Int.reduceMul, Int.reduceBEq, Int.reduceBNe, encB, encI, encC, V.cells_mk, V.cells_len, Nat.mul_one, Int.sub_zero, List.map_nil, beq_self_eq_true, List.head?_cons, *]); (try exact rfl); done)) | ((with_reducible refine w_draw_ne3 ?_ ?_ ?_ ?_); (iterate 3 (focus kernel_rfl)); intro hne1 hne2 hne3) | ((with_reducible refine w_last ?_ ?_ ?_); (focus kernel_rfl); (focus rfl)) | ((with_reducible apply w_stepG); (focus rfl)) | ((with_reducible apply lk_mem); (focus ((repeat (first | exact mm_h | apply mm_t)); done))) | with_reducible refine Go2.go ?_ | ((with_reducible apply sto_go); (focus (intro cs'; repeat (first | exact ra_h | apply ra_t)))) | ((with_reducible refine al_go ?_); intro b) | ((with_reducible refine And.intro ?_ ?_); (focus ((repeat (first | exact keep_none | exact keep_nil | exact keep_ro | refine keep_cons ?_)); done))) | ((with_reducible apply (ck_lend Try.call103)); (focus exact hK.out); (focus exact ⟨lendP (by repeat (first | exact mm_h | apply mm_t)) (by repeat (first | exact mm_h | apply mm_t)) (by repeat (first | exact mm_h | apply mm_t)) f1.out e1.out l1.out f2.out e2.out l2.out, Lend.refl _, trivial⟩)) | ((with_reducible apply (ck_le Try.call104)); (focus exact LEL.refl _); (focus exact hB.out _)) | ((with_reducible apply (ck_le Try.call102)); (focus exact LEL.refl _); (focus exact hT.out _)) | ((with_reducible refine s_bi ?_ ?_); (focus rfl)) | with_reducible refine blk_ne rfl ?_ | ((with_reducible refine w_region ?_ ?_); (focus kernel_rfl)) | ((with_reducible refine w_draw [] ?_ ?_ ?_ ?_ ?_); (iterate 3 (focus kernel_rfl)); (focus exact keeps_nil)) | ((with_reducible first | refine gd_d1 ?_ ?_ | refine gd_d0 ?_ ?_); all_goals (intro hb; (first | with_reducible replace hb := nt_t hb | with_reducible replace hb := nt_f hb | skip); (first | replace hb := dc_t hb | replace hb := dc_f hb | have hb1 := eq_b hb | have hb1 := ne_b hb | have hb1 := bne_t hb | have hb1 := bne_f hb | skip); (try (exfalso; first | contradiction | omega)))))
      all_goals first
        | ((refine retA_mk (by first | exact .inl rfl | exact .inr rfl) (by first | rfl | assumption) (by (repeat (first | exact List.Sublist.refl _ | apply List.Sublist.cons))) (LE.of_eq ?_) (.inl ⟨?_, rfl, rfl⟩)); (focus simp (disch := omega) only [push_cast, Nat.reduceEqDiff, reduceCtorEq, ↓reduceIte, Nat.reduceAdd, Nat.reduceMul, Nat.reduceSub, Nat.reduceLT, Nat.reduceLeDiff, Int.reduceToNat, Int.reduceLT, Int.reduceLE, Int.reduceAdd, Int.reduceSub, Int.reduceMul, Int.reduceBEq, Int.reduceBNe, encB, encI, encC, V.cells_mk, V.cells_len, Nat.mul_one, Int.sub_zero, List.map_nil, beq_self_eq_true, List.head?_cons, *]); (focus (rw [hF.out]; refine if_neg ?_; rintro ⟨h1, h2, h3, h4⟩; (first | omega | exact Bool.noConfusion (h1.symm.trans (by assumption) : true = false) | exact Bool.noConfusion (h2.symm.trans (by assumption) : true = false) | exact Bool.noConfusion (h3.symm.trans (by assumption) : true = false) | exact Bool.noConfusion (h4.symm.trans (by assumption) : true = false) | (exact Bool.noConfusion (h1 : false = true))))))
        | ((refine retA_mk (by first | exact .inl rfl | exact .inr rfl) (by first | rfl | assumption) (by (repeat (first | exact List.Sublist.refl _ | apply List.Sublist.cons))) (LE.of_eq ?_) (.inl ⟨?_, rfl, rfl⟩)); (focus (simp (disch := omega) only [push_cast, Nat.reduceEqDiff, reduceCtorEq, ↓reduceIte, Nat.reduceAdd, Nat.reduceMul, Nat.reduceSub, Nat.reduceLT, Nat.reduceLeDiff, Int.reduceToNat, Int.reduceLT, Int.reduceLE, Int.reduceAdd, Int.reduceSub, Int.reduceMul, Int.reduceBEq, Int.reduceBNe, encB, encI, encC, V.cells_mk, V.cells_len, Nat.mul_one, Int.sub_zero, List.map_nil, beq_self_eq_true, List.head?_cons, *]; done)); (focus (rw [hF.out]; refine if_neg ?_; rintro ⟨h1, h2, h3, h4⟩; exact Bool.noConfusion h4)))
        | ((refine retA_mk (by first | exact .inl rfl | exact .inr rfl) (by first | rfl | assumption) (List.Sublist.refl _) (LE.of_eq ?_) (.inr ⟨x', gs, cS, zS, gc, cC, zC, ?_, ⟨?_, ?_⟩, rfl, ?_⟩)); (focus simp (disch := omega) only [push_cast, Nat.reduceEqDiff, reduceCtorEq, ↓reduceIte, Nat.reduceAdd, Nat.reduceMul, Nat.reduceSub, Nat.reduceLT, Nat.reduceLeDiff, Int.reduceToNat, Int.reduceLT, Int.reduceLE, Int.reduceAdd, Int.reduceSub, Int.reduceMul, Int.reduceBEq, Int.reduceBNe, encB, encI, encC, V.cells_mk, V.cells_len, Nat.mul_one, Int.sub_zero, List.map_nil, beq_self_eq_true, List.head?_cons, *]); (focus (rw [hF.out]; refine if_pos ⟨rfl, ?_, ?_, ?_⟩ <;> first | assumption | omega | rfl)); (focus (rw [s1.out, hRE.out]; exact hl3.out)); (focus (rw [s2.out, hR2.out]; exact hz2)); (focus (rw [s1.out, s2.out, s3.out, hRE.out, hR2.out, hm2.out]))))
end Go.Proofs.Ytooaagmhgakhgaa
end

section
namespace Go.Proofs.Ytooaagmhgakhgaa
set_option linter.unusedSimpArgs false
open Go.RowKit
set_option maxRecDepth 10000
set_option maxHeartbeats 4000000
theorem retA_perm {ts : List Tmp} {R : D → St → Prop} {ex : Exit} {A : AA} {X : D} {st st0 s2 : St} (hex : ex = .normal ∨ ex = .ret) (hdf : A.df = []) (hp : st.Perm s2) (hs : st0.Sublist s2) (hd : LE (resD ts A.e) X) (hR : R X st0) : retA ts R ex A st := by
  rcases hex with rfl | rfl <;> exact ⟨[], X, s2, st0, hdf, hp, hs, hd, hR⟩
theorem reo_drop {cols : List Nat} {order : List Int} {j : Nat} {k : Int} {out : List Nat} (h : order[j]? = some k) : Sch.reo cols (order.drop j) out = if 0 ≤ k ∧ k < cols.length ∧ cols.getD k.toNat 0 ∉ out then Sch.reo cols (order.drop (j + 1)) (out ++ [cols.getD k.toNat 0]) else none := by
  obtain ⟨h1, rfl⟩ := List.getElem?_eq_some_iff.1 h
  rw [List.drop_eq_getElem_cons h1, Sch.reo]
theorem schReorderF (bx gs cS gc cC : Nat) (zS zC : List D) (x : Vr) (stp : Stp) (hx : VW x) (hc1 : 1 ≤ x.cols.length) (hs : stp.Ok) (hz : VL cS zS cC zC x) (s : St) : TrF Try.prog 94 [.ptr bx 0, .agg stp.cells] (VB bx gs cS zS gc cC zC x s) (StepR Sch.reorderS x stp bx s) := by
  obtain ⟨ls, lc, hcs⟩ := hx
  obtain ⟨hn, hbg, ho⟩ := hs
  obtain ⟨hz1, hz2⟩ := hz
  have hB := schBareF stp.slot false false hbg
  have e2 := Lib.hid (cols_each x.cols)
  have f2 := Lib.hid (colC_flat x)
  have l2 : Hid ((x.cols.map encC).length = x.cols.length) := List.length_map ..
  have hF : Hid (Sch.reorderS x stp = if stp.col = 0 ∧ Sch.bare stp.slot false false = true ∧ stp.order.length = x.cols.length then (Sch.reo x.cols stp.order []).map fun c => ⟨x.slots, c⟩ else none) := rfl
  by_cases hno : ¬ (stp.col = 0 ∧ Sch.bare stp.slot false false = true ∧ stp.order.length = x.cols.length)
  · have hF2 : Hid (Sch.reorderS x stp = none) := Lib.hid (by rw [hF.out, if_neg hno])
    unfold StepR VL VB Stp.cells
    generalize Sch.reorderS x stp = F at *
    clear hF
    cases stp with
    | mk kd col slot order =>
    cases slot with
    | mk nm ty rq dv =>
    cases dv with
    | mk k n sv l =>
    dsimp only at hB ho hno ⊢
    generalize Sch.bare _ false false = q at *
    generalize slotC x.slots = R1 at *
    generalize colC x.cols = R2 at *
    rw [Sl.cells_mk] at *
    dsimp only [List.cons_append, List.nil_append] at ⊢
    generalize x.slots.length = m1 at *
    generalize x.cols.length = m2 at *
    replace hB := Lib.hid hB
    have hno' : col ≠ 0 ∨ (col = 0 ∧ q = false) ∨ (col = 0 ∧ q = true ∧ (order.length : Int) ≠ m2) := by
      by_cases h1 : col = 0
      · cases q
        · exact .inr (.inl ⟨h1, rfl⟩)
        · refine .inr (.inr ⟨h1, rfl, fun h => hno ⟨h1, rfl, by omega⟩⟩)
      · exact .inl h1
    clear hno
    rcases hno' with h0 | ⟨rfl, rfl⟩ | ⟨rfl, rfl, h0⟩
    all_goals skip
    all_goals (
      refine trF_enter (ts := [4]) Try.func94 rfl (by rw [Try.ntmps94]; exact Nat.le_of_ble_eq_true rfl) (fun tmps w => by simp [results, Try.results94, go_sem, resVal]) ?_
      simp only [Try.ntmps94]
      repeat' (first | with_reducible refine Go1.go ?_ | ((with_reducible apply ev_go); (focus (try simp (disch := omega) only [push_cast, Nat.reduceEqDiff, reduceCtorEq, ↓reduceIte, Nat.reduceAdd, Nat.reduceMul, Nat.reduceSub, Nat.reduceLT, Nat.reduceLeDiff, Int.reduceToNat, Int.reduceLT, Int.reduceLE, Int.reduceAdd, Int.reduceSub, Int.reduceMul, Int.reduceBEq, Int.reduceBNe, encB, encI, encC, V.cells_mk, V.cells_len, Nat.mul_one, Int.sub_zero, List.map_nil, beq_self_eq_true, List.head?_cons, *]); (try exact rfl); done)) | ((with_reducible refine w_draw [(bx, [.ar gs 0 m1 cS, .ar gc 0 m2 cC])] ?_ ?_ ?_ ?_ ?_); (iterate 3 (focus kernel_rfl)); (focus ((repeat (first | exact keep_nil | refine keep_more (by repeat (first | exact mm_h | apply mm_t)) ?_)); done))) | ((with_reducible refine And.intro ?_ ?_); (focus ((repeat (first | exact keep_nil | refine keep_more (by (repeat (first | exact mm_h | apply mm_t)); done) ?_)); done))) | ((with_reducible refine w_last ?_ ?_ ?_); (focus kernel_rfl); (focus rfl)) | ((with_reducible apply w_stepG); (focus rfl)) | ((with_reducible apply lk_mem); (focus ((repeat (first | exact mm_h | apply mm_t)); done))) | with_reducible refine Go2.go ?_ | ((with_reducible apply sto_go); (focus (intro cs'; repeat (first | exact ra_h | apply ra_t)))) | ((with_reducible refine al_go ?_); intro b) | ((with_reducible refine And.intro ?_ ?_); (focus ((repeat (first | exact keep_none | exact keep_nil | exact keep_ro | refine keep_cons ?_)); done))) | ((with_reducible apply (ck_le Try.call104)); (focus exact LEL.refl _); (focus exact hB.out _)) | ((with_reducible refine s_bi ?_ ?_); (focus rfl)) | with_reducible refine blk_ne rfl ?_ | ((with_reducible refine w_region ?_ ?_); (focus kernel_rfl)) | ((with_reducible refine w_draw [] ?_ ?_ ?_ ?_ ?_); (iterate 3 (focus kernel_rfl)); (focus exact keeps_nil)) | ((with_reducible first | refine gd_d1 ?_ ?_ | refine gd_d0 ?_ ?_); all_goals (intro hb; (first | with_reducible replace hb := nt_t hb | with_reducible replace hb := nt_f hb | skip); (first | replace hb := dc_t hb | replace hb := dc_f hb | have hb1 := eq_b hb | have hb1 := ne_b hb | have hb1 := bne_t hb | have hb1 := bne_f hb | skip); (try (exfalso; first | contradiction | omega)))))
      all_goals ((refine retA_mk (by first | exact .inl rfl | exact .inr rfl) (by first | rfl | assumption) (by (repeat (first | exact List.Sublist.refl _ | apply List.Sublist.cons))) (LE.of_eq ?_) (.inl ⟨hF2.out, rfl, rfl⟩)); simp (disch := omega) only [push_cast, Nat.reduceEqDiff, reduceCtorEq, ↓reduceIte, Nat.reduceAdd, Nat.reduceMul, Nat.reduceSub, Nat.reduceLT, Nat.reduceLeDiff, Int.reduceToNat, Int.reduceLT, Int.reduceLE, Int.reduceAdd, Int.reduceSub, Int.reduceMul, Int.reduceBEq, Int.reduceBNe, encB, encI, encC, V.cells_mk, V.cells_len, Nat.mul_one, Int.sub_zero, List.map_nil, beq_self_eq_true, List.head?_cons, *]))
  have hyes := Decidable.of_not_not hno
  obtain ⟨h1, h2, h3⟩ := hyes
  have hF2 : Hid (Sch.reorderS x stp = (Sch.reo x.cols stp.order []).map fun c => ⟨x.slots, c⟩) := Lib.hid (by rw [hF.out, if_pos ⟨h1, h2, h3⟩])
  clear hF hno
  rw [h2] at hB
  clear h2
  have hcl := colC_len x.cols
  have hle2 : x.cols.length ≤ cC := by rw [List.length_append] at hz2; omega
  have hcell : Hid (∀ (i c : Nat), x.cols[i]? = some c → ∃ tl, List.drop i (colC x.cols ++ zC) = D.i c :: tl) := fun i c hc => by
    have hL2 : (x.cols.map encC)[i]? = some [D.i c] := by rw [List.getElem?_map, hc]; rfl
    obtain ⟨tl, h⟩ := row_drop (sz := 1) (o := 0) zC _ i (cols_each x.cols) hL2 (by omega)
    rw [Nat.mul_one, Nat.add_zero] at h
    exact ⟨tl, h⟩
  unfold StepR VL VB Stp.cells
  generalize Sch.reorderS x stp = F at *
  cases stp with
  | mk kd col slot order =>
  cases slot with
  | mk nm ty rq dv =>
  cases dv with
  | mk k n sv l =>
  dsimp only at hB ho h1 h3 hF2 ⊢
  subst h1
  rw [Sl.cells_mk] at *
  dsimp only [List.cons_append, List.nil_append] at ⊢
  obtain ⟨R1, hR1⟩ : ∃ R1, slotC x.slots = R1 := ⟨_, rfl⟩
  obtain ⟨R2, hR2⟩ : ∃ R2, colC x.cols = R2 := ⟨_, rfl⟩
  obtain ⟨m1, hm1⟩ : ∃ m1, x.slots.length = m1 := ⟨_, rfl⟩
  obtain ⟨m2, hm2⟩ : ∃ m2, x.cols.length = m2 := ⟨_, rfl⟩
  simp only [hR1, hR2, hm1, hm2] at hz1 hz2 hcl hle2 h3 hc1 hcell lc ls ⊢
  replace hR1 := Lib.hid hR1
  replace hR2 := Lib.hid hR2
  replace hm1 := Lib.hid hm1
  replace hm2 := Lib.hid hm2
  replace hB := Lib.hid hB
  obtain ⟨B, hBr⟩ : ∃ B, Sch.reo x.cols order [] = B := ⟨_, rfl⟩
  have HB : Hid (Sch.reo x.cols (order.drop 0) [] = B) := hBr
  rw [hBr] at hF2
  clear hBr
  refine trF_enter (ts := [4]) Try.func94 rfl (by rw [Try.ntmps94]; exact Nat.le_of_ble_eq_true rfl) (fun tmps w => by simp [results, Try.results94, go_sem, resVal]) ?_
  simp only [Try.ntmps94]
  repeat' (first | with_reducible refine Go1.go ?_ | ((with_reducible apply ev_go); (focus (try simp (disch := omega) only [push_cast, Nat.reduceEqDiff, reduceCtorEq, ↓reduceIte, Nat.reduceAdd, Nat.reduceMul, Nat.reduceSub, Nat.reduceLT, Nat.reduceLeDiff, Int.reduceToNat, Int.reduceLT, Int.reduceLE, Int.reduceAdd, Int.reduceSub, Int.reduceMul, Int.reduceBEq, Int.reduceBNe, encB, encI, encC, V.cells_mk, V.cells_len, Nat.mul_one, Int.sub_zero, List.map_nil, beq_self_eq_true, List.head?_cons, *]); (try exact rfl); done)) | ((with_reducible refine w_draw [(bx, [.ar gs 0 m1 cS, .ar gc 0 m2 cC])] ?_ ?_ ?_ ?_ ?_); (iterate 3 (focus kernel_rfl)); (focus ((repeat (first | exact keep_nil | refine keep_more (by repeat (first | exact mm_h | apply mm_t)) ?_)); done))) | ((with_reducible refine And.intro ?_ ?_); (focus ((repeat (first | exact keep_nil | refine keep_more (by (repeat (first | exact mm_h | apply mm_t)); done) ?_)); done))) | ((with_reducible refine w_last ?_ ?_ ?_); (focus kernel_rfl); (focus rfl)) | ((with_reducible apply w_stepG); (focus rfl)) | ((with_reducible apply lk_mem); (focus ((repeat (first | exact mm_h | apply mm_t)); done))) | with_reducible refine Go2.go ?_ | ((with_reducible apply sto_go); (focus (intro cs'; repeat (first | exact ra_h | apply ra_t)))) | ((with_reducible refine al_go ?_); intro b) | ((with_reducible refine And.intro ?_ ?_); (focus ((repeat (first | exact keep_none | exact keep_nil | exact keep_ro | refine keep_cons ?_)); done))) | ((with_reducible apply (ck_le Try.call104)); (focus exact LEL.refl _); (focus exact hB.out _)) | ((with_reducible refine s_bi ?_ ?_); (focus rfl)) | with_reducible refine blk_ne rfl ?_ | ((with_reducible refine w_region ?_ ?_); (focus kernel_rfl)) | ((with_reducible refine w_draw [] ?_ ?_ ?_ ?_ ?_); (iterate 3 (focus kernel_rfl)); (focus exact keeps_nil)) | ((with_reducible first | refine gd_d1 ?_ ?_ | refine gd_d0 ?_ ?_); all_goals (intro hb; (first | with_reducible replace hb := nt_t hb | with_reducible replace hb := nt_f hb | skip); (first | replace hb := dc_t hb | replace hb := dc_f hb | have hb1 := eq_b hb | have hb1 := ne_b hb | have hb1 := bne_t hb | have hb1 := bne_f hb | skip); (try (exfalso; first | contradiction | omega)))))
  refine tr_loopd (ι := Nat) (fun j A st' => j ≤ order.length ∧ A.df = [] ∧ A.e 0 = .ptr bx 0 ∧ A.e 29 = .sl .shared (order.map encI) ∧ A.e 30 = .i order.length ∧ A.e 31 = .i j ∧ ∃ out : List Nat, out.length = j ∧ Hid (Sch.reo x.cols (order.drop j) out = B) ∧ ((j = 0 ∧ A.e 5 = .sl .tight [] ∧ st' = .box bx 38 [.ar gs 0 m1 cS, .ar gc 0 m2 cC] :: .box gs 26 (R1 ++ zS) :: .box gc 3 (R2 ++ zC) :: s) ∨
    (0 < j ∧ ∃ go co zo, A.e 5 = .ar go 0 j co ∧ (colC out ++ zo).length = co * 1 ∧ st' = .box go 3 (colC out ++ zo) :: .box bx 38 [.ar gs 0 m1 cS, .ar gc 0 m2 cC] :: .box gs 26 (R1 ++ zS) :: .box gc 3 (R2 ++ zC) :: s))) (fun j => order.length - j) 0 ⟨Nat.zero_le _, by (first | rfl | assumption | omega | (simp (disch := omega) only [push_cast, Nat.reduceEqDiff, reduceCtorEq, ↓reduceIte, Nat.reduceAdd, Nat.reduceMul, Nat.reduceSub, Nat.reduceLT, Nat.reduceLeDiff, Int.reduceToNat, Int.reduceLT, Int.reduceLE, Int.reduceAdd, Int.reduceSub, Int.reduceMul, Int.reduceBEq, Int.reduceBNe, encB, encI, encC, V.cells_mk, V.cells_len, Nat.mul_one, Int.sub_zero, List.map_nil, beq_self_eq_true, List.head?_cons, *]; try omega; done)), by (first | rfl | assumption | omega | (simp (disch := omega) only [push_cast, Nat.reduceEqDiff, reduceCtorEq, ↓reduceIte, Nat.reduceAdd, Nat.reduceMul, Nat.reduceSub, Nat.reduceLT, Nat.reduceLeDiff, Int.reduceToNat, Int.reduceLT, Int.reduceLE, Int.reduceAdd, Int.reduceSub, Int.reduceMul, Int.reduceBEq, Int.reduceBNe, encB, encI, encC, V.cells_mk, V.cells_len, Nat.mul_one, Int.sub_zero, List.map_nil, beq_self_eq_true, List.head?_cons, *]; try omega; done)), by (first | rfl | assumption | omega | (simp (disch := omega) only [push_cast, Nat.reduceEqDiff, reduceCtorEq, ↓reduceIte, Nat.reduceAdd, Nat.reduceMul, Nat.reduceSub, Nat.reduceLT, Nat.reduceLeDiff, Int.reduceToNat, Int.reduceLT, Int.reduceLE, Int.reduceAdd, Int.reduceSub, Int.reduceMul, Int.reduceBEq, Int.reduceBNe, encB, encI, encC, V.cells_mk, V.cells_len, Nat.mul_one, Int.sub_zero, List.map_nil, beq_self_eq_true, List.head?_cons, *]; try omega; done)), by (first | rfl | assumption | omega | (simp (disch := omega) only [push_cast, Nat.reduceEqDiff, reduceCtorEq, ↓reduceIte, Nat.reduceAdd, Nat.reduceMul, Nat.reduceSub, Nat.reduceLT, Nat.reduceLeDiff, Int.reduceToNat, Int.reduceLT, Int.reduceLE, Int.reduceAdd, Int.reduceSub, Int.reduceMul, Int.reduceBEq, Int.reduceBNe, encB, encI, encC, V.cells_mk, V.cells_len, Nat.mul_one, Int.sub_zero, List.map_nil, beq_self_eq_true, List.head?_cons, *]; try omega; done)), by (first | rfl | assumption | omega | (simp (disch := omega) only [push_cast, Nat.reduceEqDiff, reduceCtorEq, ↓reduceIte, Nat.reduceAdd, Nat.reduceMul, Nat.reduceSub, Nat.reduceLT, Nat.reduceLeDiff, Int.reduceToNat, Int.reduceLT, Int.reduceLE, Int.reduceAdd, Int.reduceSub, Int.reduceMul, Int.reduceBEq, Int.reduceBNe, encB, encI, encC, V.cells_mk, V.cells_len, Nat.mul_one, Int.sub_zero, List.map_nil, beq_self_eq_true, List.head?_cons, *]; try omega; done)), [], rfl, HB, .inl ⟨rfl, by (first | rfl | assumption | omega | (simp (disch := omega) only [push_cast, Nat.reduceEqDiff, reduceCtorEq, ↓reduceIte, Nat.reduceAdd, Nat.reduceMul, Nat.reduceSub, Nat.reduceLT, Nat.reduceLeDiff, Int.reduceToNat, Int.reduceLT, Int.reduceLE, Int.reduceAdd, Int.reduceSub, Int.reduceMul, Int.reduceBEq, Int.reduceBNe, encB, encI, encC, V.cells_mk, V.cells_len, Nat.mul_one, Int.sub_zero, List.map_nil, beq_self_eq_true, List.head?_cons, *]; try omega; done)), rfl⟩⟩ ?_
  rintro j A st' ⟨hj, hdf, e0, e29, e30, e31, out, hol, HT, hcase⟩
  clear HB
  by_cases hlt : j < order.length
  · obtain ⟨k, hk⟩ : ∃ k, order[j]? = some k := ⟨_, List.getElem?_eq_getElem hlt⟩
    have HE := HT.out
    rw [reo_drop hk, hm2.out] at HE
    clear HT
    by_cases hkr : 0 ≤ k ∧ k < (m2 : Int)
    · obtain ⟨hk0, hk1⟩ := hkr
      obtain ⟨kn, rfl⟩ := Int.eq_ofNat_of_zero_le hk0
      obtain ⟨c, hc⟩ : ∃ c, x.cols[kn]? = some c := ⟨_, List.getElem?_eq_getElem (by rw [hm2.out]; omega)⟩
      obtain ⟨t1, hld⟩ := hcell.out kn c hc
      have hgd : x.cols.getD kn 0 = c := by rw [List.getD_eq_getElem?_getD, hc]; rfl
      rw [Int.toNat_natCast, hgd] at HE
      have hCt := containsF .shared out c []
      have f3 : Hid ((out.map encC).flatten = colC out) := rfl
      have e3 := Lib.hid (cols_each out)
      have l3 : Hid ((out.map encC).length = j) := Lib.hid (by rw [List.length_map, hol])
      have g3 := Lib.hid (colC_add out c)
      have hro : (colC out).length = j * 1 := by rw [colC_len, hol]
      clear hgd hc
      by_cases hmem : c ∈ out
      · rw [if_neg (fun h => h.2.2 hmem)] at HE
        replace HE := Lib.hid HE
        rw [decide_eq_true hmem] at hCt
        replace hCt := Lib.hid hCt
        rcases hcase with ⟨rfl, e5, rfl⟩ | ⟨hj0, go, co, zo, e5, hlo, rfl⟩
        · rw [List.eq_nil_of_length_eq_zero hol] at hmem; cases hmem
        · generalize colC out = Ro at *
          generalize out.map encC = Lo at *
          repeat' (first | with_reducible refine Go1.go ?_ | ((with_reducible apply ev_go); (focus (try simp (disch := omega) only [push_cast, Nat.reduceEqDiff, reduceCtorEq, ↓reduceIte, Nat.reduceAdd, Nat.reduceMul, Nat.reduceSub, Nat.reduceLT, Nat.reduceLeDiff, Int.reduceToNat, Int.reduceLT, Int.reduceLE, Int.reduceAdd, Int.reduceSub, Int.reduceMul, Int.reduceBEq, Int.reduceBNe, encB, encI, encC, V.cells_mk, V.cells_len, Nat.mul_one, Int.sub_zero, List.map_nil, beq_self_eq_true, List.head?_cons, *]); (try exact rfl); done)) | ((with_reducible refine w_last ?_ ?_ ?_); (focus kernel_rfl); (focus rfl)) | ((with_reducible apply w_stepG); (focus rfl)) | ((with_reducible apply lk_mem); (focus ((repeat (first | exact mm_h | apply mm_t)); done))) | with_reducible refine Go2.go ?_ | ((with_reducible apply sto_go); (focus (intro cs'; repeat (first | exact ra_h | apply ra_t)))) | ((with_reducible refine al_go ?_); intro b) | ((with_reducible refine And.intro ?_ ?_); (focus ((repeat (first | exact keep_none | exact keep_nil | exact keep_ro | refine keep_cons ?_)); done))) | ((with_reducible apply (ck_lend Try.call106)); (focus exact hCt.out); (focus exact ⟨Lend.rowE (by repeat (first | exact mm_h | apply mm_t)) f3.out (by decide) e3.out l3.out, Lend.refl _, trivial⟩)) | ((with_reducible refine s_bi ?_ ?_); (focus rfl)) | with_reducible refine blk_ne rfl ?_ | ((with_reducible refine w_region ?_ ?_); (focus kernel_rfl)) | ((with_reducible refine w_draw [] ?_ ?_ ?_ ?_ ?_); (iterate 3 (focus kernel_rfl)); (focus exact keeps_nil)) | ((with_reducible first | refine gd_d1 ?_ ?_ | refine gd_d0 ?_ ?_); all_goals (intro hb; (first | with_reducible replace hb := nt_t hb | with_reducible replace hb := nt_f hb | skip); (first | replace hb := dc_t hb | replace hb := dc_f hb | have hb1 := eq_b hb | have hb1 := ne_b hb | have hb1 := bne_t hb | have hb1 := bne_f hb | skip); (try (exfalso; first | contradiction | omega)))))
          all_goals ((refine retA_mk (by first | exact .inl rfl | exact .inr rfl) (by first | rfl | assumption) (by (repeat (first | exact List.Sublist.refl _ | apply List.Sublist.cons))) (LE.of_eq ?_) (.inl ⟨by rw [hF2.out, ← HE.out]; rfl, rfl, rfl⟩)); simp (disch := omega) only [push_cast, Nat.reduceEqDiff, reduceCtorEq, ↓reduceIte, Nat.reduceAdd, Nat.reduceMul, Nat.reduceSub, Nat.reduceLT, Nat.reduceLeDiff, Int.reduceToNat, Int.reduceLT, Int.reduceLE, Int.reduceAdd, Int.reduceSub, Int.reduceMul, Int.reduceBEq, Int.reduceBNe, encB, encI, encC, V.cells_mk, V.cells_len, Nat.mul_one, Int.sub_zero, List.map_nil, beq_self_eq_true, List.head?_cons, *])
      · rw [if_pos ⟨hk0, hk1, hmem⟩] at HE
        replace HE := Lib.hid HE
        rw [decide_eq_false hmem] at hCt
        replace hCt := Lib.hid hCt
        rcases hcase with ⟨rfl, e5, rfl⟩ | ⟨hj0, go, co, zo, e5, hlo, rfl⟩
        · have hno := List.eq_nil_of_length_eq_zero hol
          subst hno
          rw [List.map_nil] at hCt
          repeat' (first | with_reducible refine Go1.go ?_ | ((with_reducible apply ev_go); (focus (try simp (disch := omega) only [push_cast, Nat.reduceEqDiff, reduceCtorEq, ↓reduceIte, Nat.reduceAdd, Nat.reduceMul, Nat.reduceSub, Nat.reduceLT, Nat.reduceLeDiff, Int.reduceToNat, Int.reduceLT, Int.reduceLE, Int.reduceAdd, Int.reduceSub, Int.reduceMul, Int.reduceBEq, Int.reduceBNe, encB, encI, encC, V.cells_mk, V.cells_len, Nat.mul_one, Int.sub_zero, List.map_nil, beq_self_eq_true, List.head?_cons, *]); (try exact rfl); done)) | with_reducible refine s_appN ?_ | with_reducible refine rn_go ?_ | ((with_reducible apply rn2_go); (focus (simp only [List.length_cons, List.length_nil]; omega)); (focus exact len_one rfl); (focus (simp only [List.length_cons, List.length_nil]; omega)); (focus (simp only [List.length_cons, List.length_nil]; omega)); intro go' co' zo' hco hlo') | ((with_reducible refine w_last ?_ ?_ ?_); (focus kernel_rfl); (focus rfl)) | ((with_reducible apply w_stepG); (focus rfl)) | ((with_reducible apply lk_mem); (focus ((repeat (first | exact mm_h | apply mm_t)); done))) | with_reducible refine Go2.go ?_ | ((with_reducible apply sto_go); (focus (intro cs'; repeat (first | exact ra_h | apply ra_t)))) | ((with_reducible refine al_go ?_); intro b) | ((with_reducible refine And.intro ?_ ?_); (focus ((repeat (first | exact keep_none | exact keep_nil | exact keep_ro | refine keep_cons ?_)); done))) | ((with_reducible apply (ck_lend Try.call106)); (focus exact hCt.out); (focus exact ⟨Lend.sl _ _, Lend.refl _, trivial⟩)) | ((with_reducible refine s_bi ?_ ?_); (focus rfl)) | with_reducible refine blk_ne rfl ?_ | ((with_reducible refine w_region ?_ ?_); (focus kernel_rfl)) | ((with_reducible refine w_draw [] ?_ ?_ ?_ ?_ ?_); (iterate 3 (focus kernel_rfl)); (focus exact keeps_nil)) | ((with_reducible first | refine gd_d1 ?_ ?_ | refine gd_d0 ?_ ?_); all_goals (intro hb; (first | with_reducible replace hb := nt_t hb | with_reducible replace hb := nt_f hb | skip); (first | replace hb := dc_t hb | replace hb := dc_f hb | have hb1 := eq_b hb | have hb1 := ne_b hb | have hb1 := bne_t hb | have hb1 := bne_f hb | skip); (try (exfalso; first | contradiction | omega)))))
          refine ⟨1, .box go' 3 ([[.i c]].flatten ++ zo') :: .box bx 38 [.ar gs 0 m1 cS, .ar gc 0 m2 cC] :: .box gs 26 (R1 ++ zS) :: .box gc 3 (R2 ++ zC) :: s, (by (repeat (first | exact List.Sublist.refl _ | apply List.Sublist.cons))), ⟨hlt, ?_, ?_, ?_, ?_, ?_, [c], rfl, HE, .inr ⟨Nat.zero_lt_one, go', co', zo', ?_, ?_, ?_⟩⟩, ?_⟩
          · (first | rfl | assumption | omega | (simp (disch := omega) only [push_cast, Nat.reduceEqDiff, reduceCtorEq, ↓reduceIte, Nat.reduceAdd, Nat.reduceMul, Nat.reduceSub, Nat.reduceLT, Nat.reduceLeDiff, Int.reduceToNat, Int.reduceLT, Int.reduceLE, Int.reduceAdd, Int.reduceSub, Int.reduceMul, Int.reduceBEq, Int.reduceBNe, encB, encI, encC, V.cells_mk, V.cells_len, Nat.mul_one, Int.sub_zero, List.map_nil, beq_self_eq_true, List.head?_cons, *]; try omega; done))
          · (first | rfl | assumption | omega | (simp (disch := omega) only [push_cast, Nat.reduceEqDiff, reduceCtorEq, ↓reduceIte, Nat.reduceAdd, Nat.reduceMul, Nat.reduceSub, Nat.reduceLT, Nat.reduceLeDiff, Int.reduceToNat, Int.reduceLT, Int.reduceLE, Int.reduceAdd, Int.reduceSub, Int.reduceMul, Int.reduceBEq, Int.reduceBNe, encB, encI, encC, V.cells_mk, V.cells_len, Nat.mul_one, Int.sub_zero, List.map_nil, beq_self_eq_true, List.head?_cons, *]; try omega; done))
          · (first | rfl | assumption | omega | (simp (disch := omega) only [push_cast, Nat.reduceEqDiff, reduceCtorEq, ↓reduceIte, Nat.reduceAdd, Nat.reduceMul, Nat.reduceSub, Nat.reduceLT, Nat.reduceLeDiff, Int.reduceToNat, Int.reduceLT, Int.reduceLE, Int.reduceAdd, Int.reduceSub, Int.reduceMul, Int.reduceBEq, Int.reduceBNe, encB, encI, encC, V.cells_mk, V.cells_len, Nat.mul_one, Int.sub_zero, List.map_nil, beq_self_eq_true, List.head?_cons, *]; try omega; done))
          · (first | rfl | assumption | omega | (simp (disch := omega) only [push_cast, Nat.reduceEqDiff, reduceCtorEq, ↓reduceIte, Nat.reduceAdd, Nat.reduceMul, Nat.reduceSub, Nat.reduceLT, Nat.reduceLeDiff, Int.reduceToNat, Int.reduceLT, Int.reduceLE, Int.reduceAdd, Int.reduceSub, Int.reduceMul, Int.reduceBEq, Int.reduceBNe, encB, encI, encC, V.cells_mk, V.cells_len, Nat.mul_one, Int.sub_zero, List.map_nil, beq_self_eq_true, List.head?_cons, *]; try omega; done))
          · (first | rfl | assumption | omega | (simp (disch := omega) only [push_cast, Nat.reduceEqDiff, reduceCtorEq, ↓reduceIte, Nat.reduceAdd, Nat.reduceMul, Nat.reduceSub, Nat.reduceLT, Nat.reduceLeDiff, Int.reduceToNat, Int.reduceLT, Int.reduceLE, Int.reduceAdd, Int.reduceSub, Int.reduceMul, Int.reduceBEq, Int.reduceBNe, encB, encI, encC, V.cells_mk, V.cells_len, Nat.mul_one, Int.sub_zero, List.map_nil, beq_self_eq_true, List.head?_cons, *]; try omega; done))
          · (first | rfl | assumption | omega | (simp (disch := omega) only [push_cast, Nat.reduceEqDiff, reduceCtorEq, ↓reduceIte, Nat.reduceAdd, Nat.reduceMul, Nat.reduceSub, Nat.reduceLT, Nat.reduceLeDiff, Int.reduceToNat, Int.reduceLT, Int.reduceLE, Int.reduceAdd, Int.reduceSub, Int.reduceMul, Int.reduceBEq, Int.reduceBNe, encB, encI, encC, V.cells_mk, V.cells_len, Nat.mul_one, Int.sub_zero, List.map_nil, beq_self_eq_true, List.head?_cons, *]; try omega; done))
          · exact hlo'
          · rfl
          · omega
        · generalize colC out = Ro at *
          generalize out.map encC = Lo at *
          repeat' (first | with_reducible refine Go1.go ?_ | ((with_reducible apply ev_go); (focus (try simp (disch := omega) only [push_cast, Nat.reduceEqDiff, reduceCtorEq, ↓reduceIte, Nat.reduceAdd, Nat.reduceMul, Nat.reduceSub, Nat.reduceLT, Nat.reduceLeDiff, Int.reduceToNat, Int.reduceLT, Int.reduceLE, Int.reduceAdd, Int.reduceSub, Int.reduceMul, Int.reduceBEq, Int.reduceBNe, encB, encI, encC, V.cells_mk, V.cells_len, Nat.mul_one, Int.sub_zero, List.map_nil, beq_self_eq_true, List.head?_cons, *]); (try exact rfl); done)) | with_reducible refine s_appR ?_ | with_reducible refine rk_go ?_ | ((with_reducible apply (r2_go hro hlo)); (focus (intro g' cs'; repeat (first | exact ra_h | apply ra_t))); (focus exact len_one rfl); (focus (simp only [List.length_cons, List.length_nil]; omega)); (focus (simp only [List.length_cons, List.length_nil]; omega)); intro go' co' zo' hco hlo') | ((with_reducible refine w_last ?_ ?_ ?_); (focus kernel_rfl); (focus rfl)) | ((with_reducible apply w_stepG); (focus rfl)) | ((with_reducible apply lk_mem); (focus ((repeat (first | exact mm_h | apply mm_t)); done))) | with_reducible refine Go2.go ?_ | ((with_reducible apply sto_go); (focus (intro cs'; repeat (first | exact ra_h | apply ra_t)))) | ((with_reducible refine al_go ?_); intro b) | ((with_reducible refine And.intro ?_ ?_); (focus ((repeat (first | exact keep_none | exact keep_nil | exact keep_ro | refine keep_cons ?_)); done))) | ((with_reducible apply (ck_lend Try.call106)); (focus exact hCt.out); (focus exact ⟨Lend.rowE (by repeat (first | exact mm_h | apply mm_t)) f3.out (by decide) e3.out l3.out, Lend.refl _, trivial⟩)) | ((with_reducible refine s_bi ?_ ?_); (focus rfl)) | with_reducible refine blk_ne rfl ?_ | ((with_reducible refine w_region ?_ ?_); (focus kernel_rfl)) | ((with_reducible refine w_draw [] ?_ ?_ ?_ ?_ ?_); (iterate 3 (focus kernel_rfl)); (focus exact keeps_nil)) | ((with_reducible first | refine gd_d1 ?_ ?_ | refine gd_d0 ?_ ?_); all_goals (intro hb; (first | with_reducible replace hb := nt_t hb | with_reducible replace hb := nt_f hb | skip); (first | replace hb := dc_t hb | replace hb := dc_f hb | have hb1 := eq_b hb | have hb1 := ne_b hb | have hb1 := bne_t hb | have hb1 := bne_f hb | skip); (try (exfalso; first | contradiction | omega)))))
          refine ⟨j + 1, .box go' 3 (Ro ++ [[.i c]].flatten ++ zo') :: .box bx 38 [.ar gs 0 m1 cS, .ar gc 0 m2 cC] :: .box gs 26 (R1 ++ zS) :: .box gc 3 (R2 ++ zC) :: s, (by (repeat (first | exact List.Sublist.refl _ | apply List.Sublist.cons))), ⟨hlt, ?_, ?_, ?_, ?_, ?_, out ++ [c], by rw [List.length_append, hol]; rfl, HE, .inr ⟨Nat.succ_pos _, go', co', zo', ?_, ?_, ?_⟩⟩, ?_⟩
          · (first | rfl | assumption | omega | (simp (disch := omega) only [push_cast, Nat.reduceEqDiff, reduceCtorEq, ↓reduceIte, Nat.reduceAdd, Nat.reduceMul, Nat.reduceSub, Nat.reduceLT, Nat.reduceLeDiff, Int.reduceToNat, Int.reduceLT, Int.reduceLE, Int.reduceAdd, Int.reduceSub, Int.reduceMul, Int.reduceBEq, Int.reduceBNe, encB, encI, encC, V.cells_mk, V.cells_len, Nat.mul_one, Int.sub_zero, List.map_nil, beq_self_eq_true, List.head?_cons, *]; try omega; done))
          · (first | rfl | assumption | omega | (simp (disch := omega) only [push_cast, Nat.reduceEqDiff, reduceCtorEq, ↓reduceIte, Nat.reduceAdd, Nat.reduceMul, Nat.reduceSub, Nat.reduceLT, Nat.reduceLeDiff, Int.reduceToNat, Int.reduceLT, Int.reduceLE, Int.reduceAdd, Int.reduceSub, Int.reduceMul, Int.reduceBEq, Int.reduceBNe, encB, encI, encC, V.cells_mk, V.cells_len, Nat.mul_one, Int.sub_zero, List.map_nil, beq_self_eq_true, List.head?_cons, *]; try omega; done))
          · (first | rfl | assumption | omega | (simp (disch := omega) only [push_cast, Nat.reduceEqDiff, reduceCtorEq, ↓reduceIte, Nat.reduceAdd, Nat.reduceMul, Nat.reduceSub, Nat.reduceLT, Nat.reduceLeDiff, Int.reduceToNat, Int.reduceLT, Int.reduceLE, Int.reduceAdd, Int.reduceSub, Int.reduceMul, Int.reduceBEq, Int.reduceBNe, encB, encI, encC, V.cells_mk, V.cells_len, Nat.mul_one, Int.sub_zero, List.map_nil, beq_self_eq_true, List.head?_cons, *]; try omega; done))
          · (first | rfl | assumption | omega | (simp (disch := omega) only [push_cast, Nat.reduceEqDiff, reduceCtorEq, ↓reduceIte, Nat.reduceAdd, Nat.reduceMul, Nat.reduceSub, Nat.reduceLT, Nat.reduceLeDiff, Int.reduceToNat, Int.reduceLT, Int.reduceLE, Int.reduceAdd, Int.reduceSub, Int.reduceMul, Int.reduceBEq, Int.reduceBNe, encB, encI, encC, V.cells_mk, V.cells_len, Nat.mul_one, Int.sub_zero, List.map_nil, beq_self_eq_true, List.head?_cons, *]; try omega; done))
          · (first | rfl | assumption | omega | (simp (disch := omega) only [push_cast, Nat.reduceEqDiff, reduceCtorEq, ↓reduceIte, Nat.reduceAdd, Nat.reduceMul, Nat.reduceSub, Nat.reduceLT, Nat.reduceLeDiff, Int.reduceToNat, Int.reduceLT, Int.reduceLE, Int.reduceAdd, Int.reduceSub, Int.reduceMul, Int.reduceBEq, Int.reduceBNe, encB, encI, encC, V.cells_mk, V.cells_len, Nat.mul_one, Int.sub_zero, List.map_nil, beq_self_eq_true, List.head?_cons, *]; try omega; done))
          · (first | rfl | assumption | omega | (simp (disch := omega) only [push_cast, Nat.reduceEqDiff, reduceCtorEq, ↓reduceIte, Nat.reduceAdd, Nat.reduceMul, Nat.reduceSub, Nat.reduceLT, Nat.reduceLeDiff, Int.reduceToNat, Int.reduceLT, Int.reduceLE, Int.reduceAdd, Int.reduceSub, Int.reduceMul, Int.reduceBEq, Int.reduceBNe, encB, encI, encC, V.cells_mk, V.cells_len, Nat.mul_one, Int.sub_zero, List.map_nil, beq_self_eq_true, List.head?_cons, *]; try omega; done))
          · rw [g3.out]; exact hlo'
          · rw [g3.out]
          · omega
    · rw [if_neg (fun h => hkr ⟨h.1, h.2.1⟩)] at HE
      replace HE := Lib.hid HE
      have hkr' : k < 0 ∨ (0 ≤ k ∧ (m2 : Int) ≤ k) := by omega
      clear hkr
      rcases hkr' with hk0 | ⟨hk0, hk1⟩ <;> rcases hcase with ⟨rfl, e5, rfl⟩ | ⟨hj0, go, co, zo, e5, hlo, rfl⟩
      all_goals skip
      all_goals (
        repeat' (first | with_reducible refine Go1.go ?_ | ((with_reducible apply ev_go); (focus (try simp (disch := omega) only [push_cast, Nat.reduceEqDiff, reduceCtorEq, ↓reduceIte, Nat.reduceAdd, Nat.reduceMul, Nat.reduceSub, Nat.reduceLT, Nat.reduceLeDiff, Int.reduceToNat, Int.reduceLT, Int.reduceLE, Int.reduceAdd, Int.reduceSub, Int.reduceMul, Int.reduceBEq, Int.reduceBNe, encB, encI, encC, V.cells_mk, V.cells_len, Nat.mul_one, Int.sub_zero, List.map_nil, beq_self_eq_true, List.head?_cons, *]); (try exact rfl); done)) | ((with_reducible refine w_last ?_ ?_ ?_); (focus kernel_rfl); (focus rfl)) | ((with_reducible apply w_stepG); (focus rfl)) | ((with_reducible apply lk_mem); (focus ((repeat (first | exact mm_h | apply mm_t)); done))) | with_reducible refine Go2.go ?_ | ((with_reducible apply sto_go); (focus (intro cs'; repeat (first | exact ra_h | apply ra_t)))) | ((with_reducible refine al_go ?_); intro b) | ((with_reducible refine And.intro ?_ ?_); (focus ((repeat (first | exact keep_none | exact keep_nil | exact keep_ro | refine keep_cons ?_)); done))) | ((with_reducible refine s_bi ?_ ?_); (focus rfl)) | with_reducible refine blk_ne rfl ?_ | ((with_reducible refine w_region ?_ ?_); (focus kernel_rfl)) | ((with_reducible refine w_draw [] ?_ ?_ ?_ ?_ ?_); (iterate 3 (focus kernel_rfl)); (focus exact keeps_nil)) | ((with_reducible first | refine gd_d1 ?_ ?_ | refine gd_d0 ?_ ?_); all_goals (intro hb; (first | with_reducible replace hb := nt_t hb | with_reducible replace hb := nt_f hb | skip); (first | replace hb := dc_t hb | replace hb := dc_f hb | have hb1 := eq_b hb | have hb1 := ne_b hb | have hb1 := bne_t hb | have hb1 := bne_f hb | skip); (try (exfalso; first | contradiction | omega)))))
        all_goals ((refine retA_mk (by first | exact .inl rfl | exact .inr rfl) (by first | rfl | assumption) (by (repeat (first | exact List.Sublist.refl _ | apply List.Sublist.cons))) (LE.of_eq ?_) (.inl ⟨by rw [hF2.out, ← HE.out]; rfl, rfl, rfl⟩)); simp (disch := omega) only [push_cast, Nat.reduceEqDiff, reduceCtorEq, ↓reduceIte, Nat.reduceAdd, Nat.reduceMul, Nat.reduceSub, Nat.reduceLT, Nat.reduceLeDiff, Int.reduceToNat, Int.reduceLT, Int.reduceLE, Int.reduceAdd, Int.reduceSub, Int.reduceMul, Int.reduceBEq, Int.reduceBNe, encB, encI, encC, V.cells_mk, V.cells_len, Nat.mul_one, Int.sub_zero, List.map_nil, beq_self_eq_true, List.head?_cons, *]))
  · have HE := HT.out
    rw [List.drop_of_length_le (by omega), Sch.reo] at HE
    have hjm : j = m2 := by omega
    subst hjm
    rcases hcase with ⟨rfl, e5, rfl⟩ | ⟨hj0, go, co, zo, e5, hlo, rfl⟩
    · omega
    · have hco : Hid (colC out = colC out) := rfl
      generalize hRo : colC out = Ro at *
      replace hRo := Lib.hid hRo
      replace HE := Lib.hid HE
      clear HT
      repeat' (first | with_reducible refine Go1.go ?_ | ((with_reducible apply ev_go); (focus (try simp (disch := omega) only [push_cast, Nat.reduceEqDiff, reduceCtorEq, ↓reduceIte, Nat.reduceAdd, Nat.reduceMul, Nat.reduceSub, Nat.reduceLT, Nat.reduceLeDiff, Int.reduceToNat, Int.reduceLT, Int.reduceLE, Int.reduceAdd, Int.reduceSub, Int.reduceMul, Int.reduceBEq, Int.reduceBNe, encB, encI, encC, V.cells_mk, V.cells_len, Nat.mul_one, Int.sub_zero, List.map_nil, beq_self_eq_true, List.head?_cons, *]); (try exact rfl); done)) | ((with_reducible refine w_last ?_ ?_ ?_); (focus kernel_rfl); (focus rfl)) | ((with_reducible apply w_stepG); (focus rfl)) | ((with_reducible apply lk_mem); (focus ((repeat (first | exact mm_h | apply mm_t)); done))) | with_reducible refine Go2.go ?_ | ((with_reducible apply sto_go); (focus (intro cs'; repeat (first | exact ra_h | apply ra_t)))) | ((with_reducible refine al_go ?_); intro b) | ((with_reducible refine And.intro ?_ ?_); (focus ((repeat (first | exact keep_none | exact keep_nil | exact keep_ro | refine keep_cons ?_)); done))) | ((with_reducible refine s_bi ?_ ?_); (focus rfl)) | with_reducible refine blk_ne rfl ?_ | ((with_reducible refine w_region ?_ ?_); (focus kernel_rfl)) | ((with_reducible refine w_draw [] ?_ ?_ ?_ ?_ ?_); (iterate 3 (focus kernel_rfl)); (focus exact keeps_nil)) | ((with_reducible first | refine gd_d1 ?_ ?_ | refine gd_d0 ?_ ?_); all_goals (intro hb; (first | with_reducible replace hb := nt_t hb | with_reducible replace hb := nt_f hb | skip); (first | replace hb := dc_t hb | replace hb := dc_f hb | have hb1 := eq_b hb | have hb1 := ne_b hb | have hb1 := bne_t hb | have hb1 := bne_f hb | skip); (try (exfalso; first | contradiction | omega)))))
      all_goals ((refine retA_perm (s2 := .box bx 38 [.ar gs 0 m1 cS, .ar go 0 j co] :: .box gs 26 (R1 ++ zS) :: .box go 3 (Ro ++ zo) :: .box gc 3 (R2 ++ zC) :: s) (st0 := .box bx 38 [.ar gs 0 m1 cS, .ar go 0 j co] :: .box gs 26 (R1 ++ zS) :: .box go 3 (Ro ++ zo) :: s) (by first | exact .inl rfl | exact .inr rfl) (by first | rfl | assumption) ?_ (((List.sublist_cons_self _ _).cons₂ _).cons₂ _ |>.cons₂ _) (LE.of_eq ?_) (.inr ⟨⟨x.slots, out⟩, gs, cS, zS, go, co, zo, ?_, ⟨?_, ?_⟩, rfl, ?_⟩)); (focus exact (List.Perm.swap _ _ _).trans (.cons _ (.swap _ _ _))); (focus simp (disch := omega) only [push_cast, Nat.reduceEqDiff, reduceCtorEq, ↓reduceIte, Nat.reduceAdd, Nat.reduceMul, Nat.reduceSub, Nat.reduceLT, Nat.reduceLeDiff, Int.reduceToNat, Int.reduceLT, Int.reduceLE, Int.reduceAdd, Int.reduceSub, Int.reduceMul, Int.reduceBEq, Int.reduceBNe, encB, encI, encC, V.cells_mk, V.cells_len, Nat.mul_one, Int.sub_zero, List.map_nil, beq_self_eq_true, List.head?_cons, *]); (focus (rw [hF2.out, ← HE.out]; rfl)); (focus (rw [hR1.out]; exact hz1)); (focus (rw [hRo.out]; exact hlo)); (focus (rw [hR1.out, hRo.out, hm1.out, hol])))
end Go.Proofs.Ytooaagmhgakhgaa
end
