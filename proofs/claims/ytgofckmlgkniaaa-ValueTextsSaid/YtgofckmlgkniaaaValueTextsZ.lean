/- The walk of the statement ValueTexts. -/
import Derived.Test.YtgofckmlgkniaaaZ5
set_option linter.all false
section
namespace Go.Proofs.Ytgofckmlgkniaaa
set_option linter.unusedSimpArgs false
open Go.RowKit
set_option maxRecDepth 10000
set_option maxHeartbeats 4000000
namespace V
theorem sgl_size {k n : Int} {s : ByteArray} {m : Nat} (h : sgl k n s m = true) : s.size ≤ 200 := by
  unfold sgl at h
  repeat' split at h
  all_goals (try simp only [Bool.and_eq_true, Bool.or_eq_true, decide_eq_true_eq] at h)
  all_goals (try omega)
  · have := h.2
    unfold isName at this
    simp only [Bool.and_eq_true, decide_eq_true_eq] at this
    have := this.1.2
    have h5 : s.data.toList.length = s.size := rfl
    omega
  · exact Bool.noConfusion h
mutual
theorem wt_small : ∀ v : V, v.parts = true → v.wt ≤ 425 * v.nodes
  | .mk k n s l, h => by
    rw [parts, Bool.and_eq_true, Bool.and_eq_true] at h
    have h1 := sgl_size h.1.1
    have h2 := wtL_small l h.2
    rw [wt, nodes]; omega
theorem wtL_small : ∀ l : List V, partsL l = true → wtL l ≤ 425 * nodesL l
  | [], _ => Nat.le_refl _
  | x :: l, h => by
    rw [partsL, Bool.and_eq_true] at h
    have h1 := wt_small x h.1
    have h2 := wtL_small l h.2
    rw [wtL, nodesL]; omega
end
end V
theorem rowC_cons (k n : Int) (s : ByteArray) (y l : List V) : rowC (.mk k n s y :: l) = .i k :: .i n :: .str s :: .sl .shared (y.map V.cells) :: rowC l := by
  unfold rowC
  rw [List.map_cons, List.flatten_cons, V.cells_mk]; rfl
theorem rowC_at {kx nx : Int} {sx : ByteArray} {lx : List V} (zs : List D) : ∀ (l : List V) (i : Nat), l[i]? = some (.mk kx nx sx lx) → ∃ tl, (rowC l ++ zs).drop (i * 4 + 1) = .i nx :: tl
  | [], i, h => by simp at h
  | .mk k n s y :: l, 0, h => by
    simp only [List.getElem?_cons_zero, Option.some.injEq, V.mk.injEq] at h
    obtain ⟨rfl, rfl, rfl, rfl⟩ := h
    rw [rowC_cons]
    exact ⟨_, rfl⟩
  | .mk k n s y :: l, i + 1, h => by
    rw [List.getElem?_cons_succ] at h
    obtain ⟨tl, e⟩ := rowC_at zs l i h
    rw [rowC_cons, show (i + 1) * 4 + 1 = i * 4 + 1 + 4 by omega]
    exact ⟨tl, e⟩
theorem splice_four (a b c d : D) (R ds : List D) (o : Nat) : splice (a :: b :: c :: d :: R) (o + 4) ds = a :: b :: c :: d :: splice R o ds := by
  unfold splice
  rw [show o + 4 + ds.length = o + ds.length + 4 by omega]
  simp
theorem rowC_set {kx nx nx' : Int} {sx : ByteArray} {lx : List V} (zs : List D) : ∀ (l : List V) (i : Nat), l[i]? = some (.mk kx nx sx lx) → splice (rowC l ++ zs) (i * 4 + 1) [.i nx'] = rowC (l.set i (.mk kx nx' sx lx)) ++ zs
  | [], i, h => by simp at h
  | .mk k n s y :: l, 0, h => by
    simp only [List.getElem?_cons_zero, Option.some.injEq, V.mk.injEq] at h
    obtain ⟨rfl, rfl, rfl, rfl⟩ := h
    rw [rowC_cons, List.set_cons_zero, rowC_cons]
    simp [splice]
  | .mk k n s y :: l, i + 1, h => by
    rw [List.getElem?_cons_succ] at h
    rw [rowC_cons, show (i + 1) * 4 + 1 = i * 4 + 1 + 4 by omega, List.set_cons_succ, rowC_cons]
    simp only [List.cons_append]
    rw [splice_four, rowC_set zs l i h]
theorem wrap_succ (n : Int) (h : -9223372036854775808 ≤ n ∧ n ≤ 9223372036854775807) : IntKind.i64.wrap (n + 1) ≠ n := by
  by_cases hn : n = 9223372036854775807
  · subst hn; decide
  · rw [i64_in (by omega) (by omega)]; omega
theorem Lend.rowE {st : St} {g : Nat} {el : TypeId} {es : List (List D)} {R zs : List D} {sz n cap : Nat} (hm : Res.box g el (R ++ zs) ∈ st) (hR : es.flatten = R) (hsz : 0 < sz) (hes : ∀ e ∈ es, e.length = sz) (hn : es.length = n) : Lend st (.ar g 0 n cap) (.sl .shared es) := by
  subst hR
  exact Lend.row hm hsz hes hn
theorem valueTextsLaw (a b : V) (kk : UInt8) (ha : a.Ok) (hb : b.Ok) (st : St) : TrF Try.prog 8 [.agg a.cells, .agg b.cells, .y kk] st fun d st' => d = .b true ∧ st' = st := by
  have hA := Lib.hid val03AliveF
  have hG := refGreatF a ha
  have hG2 := refGreatF b hb
  by_cases hgr : a.great = true
  · rw [hgr] at hG
    cases a with
    | mk k n1 t l =>
    cases b with
    | mk k' n1' t' l' =>
    rw [V.cells_mk] at *
    rw [V.cells_mk] at *
    replace hG := Lib.hid hG
    clear hG2
    refine trF_enter (ts := [6]) Try.func8 rfl (by rw [Try.ntmps8]; exact Nat.le_of_ble_eq_true rfl) (fun tmps w => by simp [results, Try.results8, go_sem, resVal]) ?_
    simp only [Try.ntmps8]
    repeat' (first | ((with_reducible apply ev_go); (focus (try simp (disch := omega) only [push_cast, Nat.reduceEqDiff, reduceCtorEq, ↓reduceIte, Nat.reduceAdd, Nat.reduceMul, Nat.reduceSub, Nat.reduceLT, Nat.reduceLeDiff, Int.reduceToNat, Int.reduceLT, Int.reduceLE, Int.reduceAdd, Int.reduceSub, Int.reduceMul, Int.reduceBEq, Int.reduceBNe, encB, encI, V.cells_mk, V.cells_take, V.cells_len, Nat.mul_one, Int.sub_zero, List.map_nil, beq_self_eq_true, List.head?_cons, *]); (try exact rfl); done)) | ((with_reducible refine w_last ?_ ?_ ?_); (focus kernel_rfl); (focus rfl)) | ((with_reducible apply w_stepG); (focus rfl)) | ((with_reducible apply lk_mem); (focus ((repeat (first | exact mm_h | apply mm_t)); done))) | with_reducible (first | refine w_step0 ?_ | refine w_nil ?_ | refine gd_tt ?_ | refine gd_ff ?_ | refine gd_tf ?_ | refine gd_ft ?_ | refine gd_un ?_ | refine s_move ?_ | refine s_assign ?_ | refine s_bin ?_ | refine s_un ?_ | refine s_conv ?_ | refine s_field ?_ | refine s_fieldAddr ?_ | refine s_ext ?_ | refine s_pick ?_ | refine s_nil ?_ | refine s_load ?_ | refine lk_ip ?_ | refine lk_ptr ?_ | refine s_index ?_ | refine s_indexAddr ?_ | refine s_slice ?_ | refine s_build ?_ | refine s_buildSlice ?_ | refine s_mk ?_ | refine s_store ?_ | refine s_alloc ?_ | refine s_call ?_ | refine s_ip ?_ | refine tr_seq ?_ | refine tr_block ?_ | refine tr_skip ?_ | refine tr_ret ?_ | refine tr_exit ?_ | refine tr_label ?_ | refine strip_norm ?_ | refine strip_ret ?_ | refine strip_exit ?_ | refine blk_norm ?_ | refine blk_ret ?_ | refine blk_same ?_ | refine tr_condT ?_ | refine tr_condCt ?_ | refine tr_condCf ?_) | ((with_reducible apply sto_go); (focus (intro cs'; repeat (first | exact ra_h | apply ra_t)))) | ((with_reducible refine al_go ?_); intro b) | ((with_reducible refine And.intro ?_ ?_); (focus ((repeat (first | exact keep_none | exact keep_nil | exact keep_ro | refine keep_cons ?_)); done))) | ((with_reducible apply (ck_le Try.call41)); (focus exact LEL.refl _); (focus exact hA.out _)) | ((with_reducible apply (ck_le Try.call12)); (focus exact LEL.refl _); (focus exact hG.out _)) | ((with_reducible refine s_bi ?_ ?_); (focus rfl)) | with_reducible refine blk_ne rfl ?_ | ((with_reducible refine w_region ?_ ?_); (focus kernel_rfl)) | ((with_reducible refine w_draw [] ?_ ?_ ?_ ?_ ?_); (iterate 3 (focus kernel_rfl)); (focus exact keeps_nil)) | ((with_reducible first | refine gd_d1 ?_ ?_ | refine gd_d0 ?_ ?_); all_goals (intro hb; (first | with_reducible replace hb := nt_t hb | with_reducible replace hb := nt_f hb | skip); (first | replace hb := dc_t hb | replace hb := dc_f hb | have hb1 := eq_b hb | have hb1 := ne_b hb | have hb1 := bne_t hb | have hb1 := bne_f hb | skip); (try (exfalso; first | contradiction | omega)))))
    all_goals (refine ret_eq (by first | exact .inl rfl | exact .inr rfl) (by first | rfl | assumption) (by (repeat (first | exact List.Sublist.refl _ | apply List.Sublist.cons))) ?_; (try simp (disch := omega) only [push_cast, Nat.reduceEqDiff, reduceCtorEq, ↓reduceIte, Nat.reduceAdd, Nat.reduceMul, Nat.reduceSub, Nat.reduceLT, Nat.reduceLeDiff, Int.reduceToNat, Int.reduceLT, Int.reduceLE, Int.reduceAdd, Int.reduceSub, Int.reduceMul, Int.reduceBEq, Int.reduceBNe, encB, encI, V.cells_mk, V.cells_take, V.cells_len, Nat.mul_one, Int.sub_zero, List.map_nil, beq_self_eq_true, List.head?_cons, *]); try (first | exact LE.refl _ | exact LE.sl _ _ | (refine LE.tup ?_; (repeat' (first | exact LEL.nil | refine LEL.cons ?_ ?_ | exact LE.refl _ | exact LE.sl _ _ | refine LE.agg ?_)); done) | (refine LE.agg ?_; (repeat' (first | exact LEL.nil | refine LEL.cons ?_ ?_ | exact LE.refl _ | exact LE.sl _ _)); done) | refine LE.of_eq ?_))
  have hgr : a.great = false := by simpa using hgr
  rw [hgr] at hG
  by_cases hgr2 : b.great = true
  · rw [hgr2] at hG2
    cases a with
    | mk k n1 t l =>
    cases b with
    | mk k' n1' t' l' =>
    rw [V.cells_mk] at *
    rw [V.cells_mk] at *
    replace hG := Lib.hid hG
    replace hG2 := Lib.hid hG2
    refine trF_enter (ts := [6]) Try.func8 rfl (by rw [Try.ntmps8]; exact Nat.le_of_ble_eq_true rfl) (fun tmps w => by simp [results, Try.results8, go_sem, resVal]) ?_
    simp only [Try.ntmps8]
    repeat' (first | ((with_reducible apply ev_go); (focus (try simp (disch := omega) only [push_cast, Nat.reduceEqDiff, reduceCtorEq, ↓reduceIte, Nat.reduceAdd, Nat.reduceMul, Nat.reduceSub, Nat.reduceLT, Nat.reduceLeDiff, Int.reduceToNat, Int.reduceLT, Int.reduceLE, Int.reduceAdd, Int.reduceSub, Int.reduceMul, Int.reduceBEq, Int.reduceBNe, encB, encI, V.cells_mk, V.cells_take, V.cells_len, Nat.mul_one, Int.sub_zero, List.map_nil, beq_self_eq_true, List.head?_cons, *]); (try exact rfl); done)) | ((with_reducible refine w_last ?_ ?_ ?_); (focus kernel_rfl); (focus rfl)) | ((with_reducible apply w_stepG); (focus rfl)) | ((with_reducible apply lk_mem); (focus ((repeat (first | exact mm_h | apply mm_t)); done))) | with_reducible (first | refine w_step0 ?_ | refine w_nil ?_ | refine gd_tt ?_ | refine gd_ff ?_ | refine gd_tf ?_ | refine gd_ft ?_ | refine gd_un ?_ | refine s_move ?_ | refine s_assign ?_ | refine s_bin ?_ | refine s_un ?_ | refine s_conv ?_ | refine s_field ?_ | refine s_fieldAddr ?_ | refine s_ext ?_ | refine s_pick ?_ | refine s_nil ?_ | refine s_load ?_ | refine lk_ip ?_ | refine lk_ptr ?_ | refine s_index ?_ | refine s_indexAddr ?_ | refine s_slice ?_ | refine s_build ?_ | refine s_buildSlice ?_ | refine s_mk ?_ | refine s_store ?_ | refine s_alloc ?_ | refine s_call ?_ | refine s_ip ?_ | refine tr_seq ?_ | refine tr_block ?_ | refine tr_skip ?_ | refine tr_ret ?_ | refine tr_exit ?_ | refine tr_label ?_ | refine strip_norm ?_ | refine strip_ret ?_ | refine strip_exit ?_ | refine blk_norm ?_ | refine blk_ret ?_ | refine blk_same ?_ | refine tr_condT ?_ | refine tr_condCt ?_ | refine tr_condCf ?_) | ((with_reducible apply sto_go); (focus (intro cs'; repeat (first | exact ra_h | apply ra_t)))) | ((with_reducible refine al_go ?_); intro b) | ((with_reducible refine And.intro ?_ ?_); (focus ((repeat (first | exact keep_none | exact keep_nil | exact keep_ro | refine keep_cons ?_)); done))) | ((with_reducible apply (ck_le Try.call41)); (focus exact LEL.refl _); (focus exact hA.out _)) | ((with_reducible apply (ck_le Try.call12)); (focus exact LEL.refl _); (focus exact hG.out _)) | ((with_reducible apply (ck_le Try.call12)); (focus exact LEL.refl _); (focus exact hG2.out _)) | ((with_reducible refine s_bi ?_ ?_); (focus rfl)) | with_reducible refine blk_ne rfl ?_ | ((with_reducible refine w_region ?_ ?_); (focus kernel_rfl)) | ((with_reducible refine w_draw [] ?_ ?_ ?_ ?_ ?_); (iterate 3 (focus kernel_rfl)); (focus exact keeps_nil)) | ((with_reducible first | refine gd_d1 ?_ ?_ | refine gd_d0 ?_ ?_); all_goals (intro hb; (first | with_reducible replace hb := nt_t hb | with_reducible replace hb := nt_f hb | skip); (first | replace hb := dc_t hb | replace hb := dc_f hb | have hb1 := eq_b hb | have hb1 := ne_b hb | have hb1 := bne_t hb | have hb1 := bne_f hb | skip); (try (exfalso; first | contradiction | omega)))))
    all_goals (refine ret_eq (by first | exact .inl rfl | exact .inr rfl) (by first | rfl | assumption) (by (repeat (first | exact List.Sublist.refl _ | apply List.Sublist.cons))) ?_; (try simp (disch := omega) only [push_cast, Nat.reduceEqDiff, reduceCtorEq, ↓reduceIte, Nat.reduceAdd, Nat.reduceMul, Nat.reduceSub, Nat.reduceLT, Nat.reduceLeDiff, Int.reduceToNat, Int.reduceLT, Int.reduceLE, Int.reduceAdd, Int.reduceSub, Int.reduceMul, Int.reduceBEq, Int.reduceBNe, encB, encI, V.cells_mk, V.cells_take, V.cells_len, Nat.mul_one, Int.sub_zero, List.map_nil, beq_self_eq_true, List.head?_cons, *]); try (first | exact LE.refl _ | exact LE.sl _ _ | (refine LE.tup ?_; (repeat' (first | exact LEL.nil | refine LEL.cons ?_ ?_ | exact LE.refl _ | exact LE.sl _ _ | refine LE.agg ?_)); done) | (refine LE.agg ?_; (repeat' (first | exact LEL.nil | refine LEL.cons ?_ ?_ | exact LE.refl _ | exact LE.sl _ _)); done) | refine LE.of_eq ?_))
  have hgr2 : b.great = false := by simpa using hgr2
  rw [hgr2] at hG2
  obtain ⟨hn1, hn2⟩ := V.not_great hgr
  obtain ⟨hn3, hn4⟩ := V.not_great hgr2
  have hR := valRightF a (by omega)
  have hR2 := valRightF b (by omega)
  clear hgr hgr2
  cases hr : a.right with
  | false =>
    rw [hr] at hR
    cases a with
    | mk k n1 t l =>
    cases b with
    | mk k' n1' t' l' =>
    rw [V.cells_mk] at *
    rw [V.cells_mk] at *
    replace hG := Lib.hid hG
    replace hG2 := Lib.hid hG2
    replace hR := Lib.hid hR
    clear hR2
    refine trF_enter (ts := [6]) Try.func8 rfl (by rw [Try.ntmps8]; exact Nat.le_of_ble_eq_true rfl) (fun tmps w => by simp [results, Try.results8, go_sem, resVal]) ?_
    simp only [Try.ntmps8]
    repeat' (first | ((with_reducible apply ev_go); (focus (try simp (disch := omega) only [push_cast, Nat.reduceEqDiff, reduceCtorEq, ↓reduceIte, Nat.reduceAdd, Nat.reduceMul, Nat.reduceSub, Nat.reduceLT, Nat.reduceLeDiff, Int.reduceToNat, Int.reduceLT, Int.reduceLE, Int.reduceAdd, Int.reduceSub, Int.reduceMul, Int.reduceBEq, Int.reduceBNe, encB, encI, V.cells_mk, V.cells_take, V.cells_len, Nat.mul_one, Int.sub_zero, List.map_nil, beq_self_eq_true, List.head?_cons, *]); (try exact rfl); done)) | ((with_reducible refine w_last ?_ ?_ ?_); (focus kernel_rfl); (focus rfl)) | ((with_reducible apply w_stepG); (focus rfl)) | ((with_reducible apply lk_mem); (focus ((repeat (first | exact mm_h | apply mm_t)); done))) | with_reducible (first | refine w_step0 ?_ | refine w_nil ?_ | refine gd_tt ?_ | refine gd_ff ?_ | refine gd_tf ?_ | refine gd_ft ?_ | refine gd_un ?_ | refine s_move ?_ | refine s_assign ?_ | refine s_bin ?_ | refine s_un ?_ | refine s_conv ?_ | refine s_field ?_ | refine s_fieldAddr ?_ | refine s_ext ?_ | refine s_pick ?_ | refine s_nil ?_ | refine s_load ?_ | refine lk_ip ?_ | refine lk_ptr ?_ | refine s_index ?_ | refine s_indexAddr ?_ | refine s_slice ?_ | refine s_build ?_ | refine s_buildSlice ?_ | refine s_mk ?_ | refine s_store ?_ | refine s_alloc ?_ | refine s_call ?_ | refine s_ip ?_ | refine tr_seq ?_ | refine tr_block ?_ | refine tr_skip ?_ | refine tr_ret ?_ | refine tr_exit ?_ | refine tr_label ?_ | refine strip_norm ?_ | refine strip_ret ?_ | refine strip_exit ?_ | refine blk_norm ?_ | refine blk_ret ?_ | refine blk_same ?_ | refine tr_condT ?_ | refine tr_condCt ?_ | refine tr_condCf ?_) | ((with_reducible apply sto_go); (focus (intro cs'; repeat (first | exact ra_h | apply ra_t)))) | ((with_reducible refine al_go ?_); intro b) | ((with_reducible refine And.intro ?_ ?_); (focus ((repeat (first | exact keep_none | exact keep_nil | exact keep_ro | refine keep_cons ?_)); done))) | ((with_reducible apply (ck_le Try.call41)); (focus exact LEL.refl _); (focus exact hA.out _)) | ((with_reducible apply (ck_le Try.call12)); (focus exact LEL.refl _); (focus exact hG.out _)) | ((with_reducible apply (ck_le Try.call12)); (focus exact LEL.refl _); (focus exact hG2.out _)) | ((with_reducible apply (ck_le Try.call42)); (focus exact LEL.refl _); (focus exact hR.out _)) | ((with_reducible refine s_bi ?_ ?_); (focus rfl)) | with_reducible refine blk_ne rfl ?_ | ((with_reducible refine w_region ?_ ?_); (focus kernel_rfl)) | ((with_reducible refine w_draw [] ?_ ?_ ?_ ?_ ?_); (iterate 3 (focus kernel_rfl)); (focus exact keeps_nil)) | ((with_reducible first | refine gd_d1 ?_ ?_ | refine gd_d0 ?_ ?_); all_goals (intro hb; (first | with_reducible replace hb := nt_t hb | with_reducible replace hb := nt_f hb | skip); (first | replace hb := dc_t hb | replace hb := dc_f hb | have hb1 := eq_b hb | have hb1 := ne_b hb | have hb1 := bne_t hb | have hb1 := bne_f hb | skip); (try (exfalso; first | contradiction | omega)))))
    all_goals (refine ret_eq (by first | exact .inl rfl | exact .inr rfl) (by first | rfl | assumption) (by (repeat (first | exact List.Sublist.refl _ | apply List.Sublist.cons))) ?_; (try simp (disch := omega) only [push_cast, Nat.reduceEqDiff, reduceCtorEq, ↓reduceIte, Nat.reduceAdd, Nat.reduceMul, Nat.reduceSub, Nat.reduceLT, Nat.reduceLeDiff, Int.reduceToNat, Int.reduceLT, Int.reduceLE, Int.reduceAdd, Int.reduceSub, Int.reduceMul, Int.reduceBEq, Int.reduceBNe, encB, encI, V.cells_mk, V.cells_take, V.cells_len, Nat.mul_one, Int.sub_zero, List.map_nil, beq_self_eq_true, List.head?_cons, *]); try (first | exact LE.refl _ | exact LE.sl _ _ | (refine LE.tup ?_; (repeat' (first | exact LEL.nil | refine LEL.cons ?_ ?_ | exact LE.refl _ | exact LE.sl _ _ | refine LE.agg ?_)); done) | (refine LE.agg ?_; (repeat' (first | exact LEL.nil | refine LEL.cons ?_ ?_ | exact LE.refl _ | exact LE.sl _ _)); done) | refine LE.of_eq ?_))
  | true =>
  rw [hr] at hR
  cases hr2 : b.right with
  | false =>
    rw [hr2] at hR2
    cases a with
    | mk k n1 t l =>
    cases b with
    | mk k' n1' t' l' =>
    rw [V.cells_mk] at *
    rw [V.cells_mk] at *
    replace hG := Lib.hid hG
    replace hG2 := Lib.hid hG2
    replace hR := Lib.hid hR
    replace hR2 := Lib.hid hR2
    refine trF_enter (ts := [6]) Try.func8 rfl (by rw [Try.ntmps8]; exact Nat.le_of_ble_eq_true rfl) (fun tmps w => by simp [results, Try.results8, go_sem, resVal]) ?_
    simp only [Try.ntmps8]
    repeat' (first | ((with_reducible apply ev_go); (focus (try simp (disch := omega) only [push_cast, Nat.reduceEqDiff, reduceCtorEq, ↓reduceIte, Nat.reduceAdd, Nat.reduceMul, Nat.reduceSub, Nat.reduceLT, Nat.reduceLeDiff, Int.reduceToNat, Int.reduceLT, Int.reduceLE, Int.reduceAdd, Int.reduceSub, Int.reduceMul, Int.reduceBEq, Int.reduceBNe, encB, encI, V.cells_mk, V.cells_take, V.cells_len, Nat.mul_one, Int.sub_zero, List.map_nil, beq_self_eq_true, List.head?_cons, *]); (try exact rfl); done)) | ((with_reducible refine w_last ?_ ?_ ?_); (focus kernel_rfl); (focus rfl)) | ((with_reducible apply w_stepG); (focus rfl)) | ((with_reducible apply lk_mem); (focus ((repeat (first | exact mm_h | apply mm_t)); done))) | with_reducible (first | refine w_step0 ?_ | refine w_nil ?_ | refine gd_tt ?_ | refine gd_ff ?_ | refine gd_tf ?_ | refine gd_ft ?_ | refine gd_un ?_ | refine s_move ?_ | refine s_assign ?_ | refine s_bin ?_ | refine s_un ?_ | refine s_conv ?_ | refine s_field ?_ | refine s_fieldAddr ?_ | refine s_ext ?_ | refine s_pick ?_ | refine s_nil ?_ | refine s_load ?_ | refine lk_ip ?_ | refine lk_ptr ?_ | refine s_index ?_ | refine s_indexAddr ?_ | refine s_slice ?_ | refine s_build ?_ | refine s_buildSlice ?_ | refine s_mk ?_ | refine s_store ?_ | refine s_alloc ?_ | refine s_call ?_ | refine s_ip ?_ | refine tr_seq ?_ | refine tr_block ?_ | refine tr_skip ?_ | refine tr_ret ?_ | refine tr_exit ?_ | refine tr_label ?_ | refine strip_norm ?_ | refine strip_ret ?_ | refine strip_exit ?_ | refine blk_norm ?_ | refine blk_ret ?_ | refine blk_same ?_ | refine tr_condT ?_ | refine tr_condCt ?_ | refine tr_condCf ?_) | ((with_reducible apply sto_go); (focus (intro cs'; repeat (first | exact ra_h | apply ra_t)))) | ((with_reducible refine al_go ?_); intro b) | ((with_reducible refine And.intro ?_ ?_); (focus ((repeat (first | exact keep_none | exact keep_nil | exact keep_ro | refine keep_cons ?_)); done))) | ((with_reducible apply (ck_le Try.call41)); (focus exact LEL.refl _); (focus exact hA.out _)) | ((with_reducible apply (ck_le Try.call12)); (focus exact LEL.refl _); (focus exact hG.out _)) | ((with_reducible apply (ck_le Try.call12)); (focus exact LEL.refl _); (focus exact hG2.out _)) | ((with_reducible apply (ck_le Try.call42)); (focus exact LEL.refl _); (focus exact hR.out _)) | ((with_reducible apply (ck_le Try.call42)); (focus exact LEL.refl _); (focus exact hR2.out _)) | ((with_reducible refine s_bi ?_ ?_); (focus rfl)) | with_reducible refine blk_ne rfl ?_ | ((with_reducible refine w_region ?_ ?_); (focus kernel_rfl)) | ((with_reducible refine w_draw [] ?_ ?_ ?_ ?_ ?_); (iterate 3 (focus kernel_rfl)); (focus exact keeps_nil)) | ((with_reducible first | refine gd_d1 ?_ ?_ | refine gd_d0 ?_ ?_); all_goals (intro hb; (first | with_reducible replace hb := nt_t hb | with_reducible replace hb := nt_f hb | skip); (first | replace hb := dc_t hb | replace hb := dc_f hb | have hb1 := eq_b hb | have hb1 := ne_b hb | have hb1 := bne_t hb | have hb1 := bne_f hb | skip); (try (exfalso; first | contradiction | omega)))))
    all_goals (refine ret_eq (by first | exact .inl rfl | exact .inr rfl) (by first | rfl | assumption) (by (repeat (first | exact List.Sublist.refl _ | apply List.Sublist.cons))) ?_; (try simp (disch := omega) only [push_cast, Nat.reduceEqDiff, reduceCtorEq, ↓reduceIte, Nat.reduceAdd, Nat.reduceMul, Nat.reduceSub, Nat.reduceLT, Nat.reduceLeDiff, Int.reduceToNat, Int.reduceLT, Int.reduceLE, Int.reduceAdd, Int.reduceSub, Int.reduceMul, Int.reduceBEq, Int.reduceBNe, encB, encI, V.cells_mk, V.cells_take, V.cells_len, Nat.mul_one, Int.sub_zero, List.map_nil, beq_self_eq_true, List.head?_cons, *]); try (first | exact LE.refl _ | exact LE.sl _ _ | (refine LE.tup ?_; (repeat' (first | exact LEL.nil | refine LEL.cons ?_ ?_ | exact LE.refl _ | exact LE.sl _ _ | refine LE.agg ?_)); done) | (refine LE.agg ?_; (repeat' (first | exact LEL.nil | refine LEL.cons ?_ ?_ | exact LE.refl _ | exact LE.sl _ _)); done) | refine LE.of_eq ?_))
  | true =>
  rw [hr2] at hR2
  have hpa := (V.right_iff.1 hr).1
  have hpb := (V.right_iff.1 hr2).1
  have hsa := V.parts_sm a.nodes a (Nat.le_refl _) hpa
  have hsb := V.parts_sm b.nodes b (Nat.le_refl _) hpb
  have hwa := V.wt_small a hpa
  have hwb := V.wt_small b hpb
  have hT := valTextF a.nodes a (Nat.le_refl _) ha (by omega)
  have hT2 := valTextF b.nodes b (Nat.le_refl _) hb (by omega)
  have hS := valSameF a b hsa hsb
  have hSa := valSameF a a hsa hsa
  rw [V.cmp_self] at hSa
  have hCs := valCopyF a.nodes a (Nat.le_refl _) (by omega)
  have hTT : (ByteArray.toList ⟨a.text.toArray⟩ == ByteArray.toList ⟨b.text.toArray⟩) = (a.cmp b == 0) := by
    rw [ByteArray.toList_eq, ByteArray.toList_eq, Bool.eq_iff_iff, beq_iff_eq, beq_iff_eq]
    show a.text = b.text ↔ _
    rw [V.text_one hr hr2]
    exact ⟨fun h => by rw [h]; exact V.cmp_self b, V.cmp_eq a b⟩
  clear hr hr2 hpb hwa hwb hsb hn4 hn3 hb
  generalize (a.cmp b == 0) = q at *
  generalize (⟨a.text.toArray⟩ : ByteArray) = ta at *
  generalize (⟨b.text.toArray⟩ : ByteArray) = tb at *
  cases b with
  | mk k' n1' t' l' =>
  cases a with
  | mk k n t l =>
  by_cases hl0 : l = []
  · subst hl0
    simp only [V.cells_mk, List.map_nil] at hG hG2 hR hR2 hT hT2 hS hSa hCs ⊢
    replace hG := Lib.hid hG
    replace hG2 := Lib.hid hG2
    replace hR := Lib.hid hR
    replace hR2 := Lib.hid hR2
    replace hT := Lib.hid hT
    replace hT2 := Lib.hid hT2
    replace hS := Lib.hid hS
    replace hSa := Lib.hid hSa
    replace hCs := Lib.hid hCs
    clear hpa hsa ha
    refine trF_enter (ts := [6]) Try.func8 rfl (by rw [Try.ntmps8]; exact Nat.le_of_ble_eq_true rfl) (fun tmps w => by simp [results, Try.results8, go_sem, resVal]) ?_
    simp only [Try.ntmps8]
    repeat' (first | ((with_reducible refine w_draw [(b, [.i k, .i n, .str t, .sl .shared []])] ?_ ?_ ?_ ?_ ?_); (iterate 3 (focus kernel_rfl)); (focus (repeat (first | exact keep_nil | refine keep_more (by repeat (first | exact mm_h | apply mm_t)) ?_)))) | ((with_reducible refine And.intro ?_ ?_); (focus ((repeat (first | exact keep_nil | refine keep_more (by (repeat (first | exact mm_h | apply mm_t)); done) ?_)); done))) | ((with_reducible apply ev_go); (focus (try simp (disch := omega) only [push_cast, Nat.reduceEqDiff, reduceCtorEq, ↓reduceIte, Nat.reduceAdd, Nat.reduceMul, Nat.reduceSub, Nat.reduceLT, Nat.reduceLeDiff, Int.reduceToNat, Int.reduceLT, Int.reduceLE, Int.reduceAdd, Int.reduceSub, Int.reduceMul, Int.reduceBEq, Int.reduceBNe, encB, encI, V.cells_mk, V.cells_take, V.cells_len, Nat.mul_one, Int.sub_zero, List.map_nil, beq_self_eq_true, List.head?_cons, *]); (try exact rfl); done)) | ((with_reducible refine w_last ?_ ?_ ?_); (focus kernel_rfl); (focus rfl)) | ((with_reducible apply w_stepG); (focus rfl)) | ((with_reducible apply lk_mem); (focus ((repeat (first | exact mm_h | apply mm_t)); done))) | with_reducible (first | refine w_step0 ?_ | refine w_nil ?_ | refine gd_tt ?_ | refine gd_ff ?_ | refine gd_tf ?_ | refine gd_ft ?_ | refine gd_un ?_ | refine s_move ?_ | refine s_assign ?_ | refine s_bin ?_ | refine s_un ?_ | refine s_conv ?_ | refine s_field ?_ | refine s_fieldAddr ?_ | refine s_ext ?_ | refine s_pick ?_ | refine s_nil ?_ | refine s_load ?_ | refine lk_ip ?_ | refine lk_ptr ?_ | refine s_index ?_ | refine s_indexAddr ?_ | refine s_slice ?_ | refine s_build ?_ | refine s_buildSlice ?_ | refine s_mk ?_ | refine s_store ?_ | refine s_alloc ?_ | refine s_call ?_ | refine s_ip ?_ | refine tr_seq ?_ | refine tr_block ?_ | refine tr_skip ?_ | refine tr_ret ?_ | refine tr_exit ?_ | refine tr_label ?_ | refine strip_norm ?_ | refine strip_ret ?_ | refine strip_exit ?_ | refine blk_norm ?_ | refine blk_ret ?_ | refine blk_same ?_ | refine tr_condT ?_ | refine tr_condCt ?_ | refine tr_condCf ?_) | ((with_reducible apply sto_go); (focus (intro cs'; repeat (first | exact ra_h | apply ra_t)))) | ((with_reducible refine al_go ?_); intro b) | ((with_reducible refine And.intro ?_ ?_); (focus ((repeat (first | exact keep_none | exact keep_nil | exact keep_ro | refine keep_cons ?_)); done))) | ((with_reducible apply (ck_le Try.call41)); (focus exact LEL.refl _); (focus exact hA.out _)) | ((with_reducible apply (ck_le Try.call12)); (focus exact LEL.refl _); (focus exact hG.out _)) | ((with_reducible apply (ck_le Try.call12)); (focus exact LEL.refl _); (focus exact hG2.out _)) | ((with_reducible apply (ck_le Try.call42)); (focus exact LEL.refl _); (focus exact hR.out _)) | ((with_reducible apply (ck_le Try.call42)); (focus exact LEL.refl _); (focus exact hR2.out _)) | ((with_reducible apply (ck_le Try.call43)); (focus exact LEL.refl _); (focus exact hT.out _)) | ((with_reducible apply (ck_le Try.call43)); (focus exact LEL.refl _); (focus exact hT2.out _)) | ((with_reducible apply (ck_le Try.call44)); (focus exact LEL.refl _); (focus exact hS.out _)) | ((with_reducible apply (ck_le Try.call44)); (focus exact LEL.refl _); (focus exact hSa.out _)) | ((with_reducible apply (ck_le Try.call45)); (focus exact LEL.refl _); (focus exact hCs.out _)) | ((with_reducible refine s_bi ?_ ?_); (focus rfl)) | with_reducible refine blk_ne rfl ?_ | ((with_reducible refine w_region ?_ ?_); (focus kernel_rfl)) | ((with_reducible refine w_draw [] ?_ ?_ ?_ ?_ ?_); (iterate 3 (focus kernel_rfl)); (focus exact keeps_nil)) | ((with_reducible first | refine gd_d1 ?_ ?_ | refine gd_d0 ?_ ?_); all_goals (intro hb; (first | with_reducible replace hb := nt_t hb | with_reducible replace hb := nt_f hb | skip); (first | replace hb := dc_t hb | replace hb := dc_f hb | have hb1 := eq_b hb | have hb1 := ne_b hb | have hb1 := bne_t hb | have hb1 := bne_f hb | skip); (try (exfalso; first | contradiction | omega)))))
    all_goals (refine ret_eq (by first | exact .inl rfl | exact .inr rfl) (by first | rfl | assumption) (by (repeat (first | exact List.Sublist.refl _ | apply List.Sublist.cons))) ?_; (try simp (disch := omega) only [push_cast, Nat.reduceEqDiff, reduceCtorEq, ↓reduceIte, Nat.reduceAdd, Nat.reduceMul, Nat.reduceSub, Nat.reduceLT, Nat.reduceLeDiff, Int.reduceToNat, Int.reduceLT, Int.reduceLE, Int.reduceAdd, Int.reduceSub, Int.reduceMul, Int.reduceBEq, Int.reduceBNe, encB, encI, V.cells_mk, V.cells_take, V.cells_len, Nat.mul_one, Int.sub_zero, List.map_nil, beq_self_eq_true, List.head?_cons, *]); try (first | exact LE.refl _ | exact LE.sl _ _ | (refine LE.tup ?_; (repeat' (first | exact LEL.nil | refine LEL.cons ?_ ?_ | exact LE.refl _ | exact LE.sl _ _ | refine LE.agg ?_)); done) | (refine LE.agg ?_; (repeat' (first | exact LEL.nil | refine LEL.cons ?_ ?_ | exact LE.refl _ | exact LE.sl _ _)); done) | refine LE.of_eq ?_))
  · have hCr := valCopyRowF k n t l hl0 (by omega) st
    obtain ⟨idx, hidx⟩ : ∃ idx, kk.toNat % l.length = idx := ⟨_, rfl⟩
    have hpos : 0 < l.length := List.length_pos_iff.2 hl0
    have hlt : idx < l.length := by rw [← hidx]; exact Nat.mod_lt _ hpos
    obtain ⟨x, hx⟩ : ∃ x, l[idx]? = some x := ⟨_, List.getElem?_eq_getElem hlt⟩
    cases x with
    | mk kx nx sx lx =>
    have hrem : ∀ t, aBin Try.prog .rem t (.i kk.toNat) (.i l.length) = some (.i idx) := fun t => by
      rw [bin_rem (by simp; omega)]
      congr 3
      rw [← hidx]; rfl
    obtain ⟨-, -, -, hlm, hall⟩ := ha
    obtain ⟨-, hnb, -⟩ := hall _ (V.mem_of hx)
    have hnx := wrap_succ nx hnb
    obtain ⟨nx', hnx'⟩ : ∃ nx', IntKind.i64.wrap (nx + 1) = nx' := ⟨_, rfl⟩
    rw [hnx'] at hnx
    obtain ⟨l2, hl2⟩ : ∃ l2, l.set idx (.mk kx nx' sx lx) = l2 := ⟨_, rfl⟩
    have hl2len : l2.length = l.length := by rw [← hl2, List.length_set]
    have hne : ((V.mk k n t l).cmp (.mk k n t l2) == 0) = false := by
      rw [beq_eq_false_iff_ne]
      intro h
      have := V.cmp_eq _ _ h
      rw [V.mk.injEq] at this
      have h2 : l[idx]? = l2[idx]? := by rw [← this.2.2.2]
      rw [hx, ← hl2, List.getElem?_set_self hlt, Option.some.injEq, V.mk.injEq] at h2
      exact hnx h2.2.1.symm
    have hsm2 : V.Sm (.mk k n t l2) := by
      cases hsa with
      | mk h1 h2 h3 =>
        refine .mk h1 (by omega) fun y hy => ?_
        rw [← hl2] at hy
        rcases List.mem_or_eq_of_mem_set hy with hy | rfl
        · exact h3 y hy
        · have := h3 _ (V.mem_of hx)
          cases this with
          | mk q1 q2 q3 => exact .mk q1 q2 q3
    have hSx := valSameF _ _ hsa hsm2 []
    rw [hne] at hSx
    have hld := rowC_at (kx := kx) (nx := nx) (sx := sx) (lx := lx)
    have hsp := rowC_set (kx := kx) (nx := nx) (nx' := nx') (sx := sx) (lx := lx)
    replace hld := fun zs => hld zs l idx hx
    have hsp : ∀ zs, List.take (idx * 4 + 1) (rowC l ++ zs) ++ [D.s (Value.int IntKind.i64 nx')] ++ List.drop (idx * 4 + 1 + 1) (rowC l ++ zs) = rowC l2 ++ zs := fun zs => by
      have := hsp zs l idx hx
      rw [hl2] at this
      exact this
    have hfl : (l2.map V.cells).flatten = rowC l2 := rfl
    have hRl := rowC_len l
    have hes : ∀ e ∈ l2.map V.cells, e.length = 4 := fun e he => by
      obtain ⟨x, -, rfl⟩ := List.mem_map.1 he
      exact V.cells_len x
    have hel : (l2.map V.cells).length = l.length := by rw [List.length_map, hl2len]
    simp only [V.cells_mk] at hG hG2 hR hR2 hT hT2 hS hSa hCs hCr hSx ⊢
    clear hne hnx hnb hall hsm2 hidx hpa hsa hl2 hl2len hx hl0
    generalize rowC l2 = R2 at *
    generalize rowC l = R at *
    generalize l2.map V.cells = L2 at *
    generalize l.map V.cells = L at *
    generalize l.length = m at *
    generalize l'.map V.cells = L' at *
    have hn8 := kk.toNat_lt
    replace hld := Lib.hid hld
    replace hsp := Lib.hid hsp
    replace hG := Lib.hid hG
    replace hG2 := Lib.hid hG2
    replace hR := Lib.hid hR
    replace hR2 := Lib.hid hR2
    replace hT := Lib.hid hT
    replace hT2 := Lib.hid hT2
    replace hS := Lib.hid hS
    replace hSa := Lib.hid hSa
    replace hCs := Lib.hid hCs
    replace hCr := Lib.hid hCr
    replace hSx := Lib.hid hSx
    replace hes := Lib.hid hes
    replace hel := Lib.hid hel
    replace hfl := Lib.hid hfl
    refine trF_enter (ts := [6]) Try.func8 rfl (by rw [Try.ntmps8]; exact Nat.le_of_ble_eq_true rfl) (fun tmps w => by simp [results, Try.results8, go_sem, resVal]) ?_
    simp only [Try.ntmps8]
    repeat' (first | ((with_reducible refine w_draw_ne ?_ ?_ ?_ ?_); (iterate 3 (focus kernel_rfl)); intro hne1 hne2) | ((with_reducible apply ev_go); (focus (try simp (disch := omega) only [push_cast, Nat.reduceEqDiff, reduceCtorEq, ↓reduceIte, Nat.reduceAdd, Nat.reduceMul, Nat.reduceSub, Nat.reduceLT, Nat.reduceLeDiff, Int.reduceToNat, Int.reduceLT, Int.reduceLE, Int.reduceAdd, Int.reduceSub, Int.reduceMul, Int.reduceBEq, Int.reduceBNe, encB, encI, V.cells_mk, V.cells_take, V.cells_len, Nat.mul_one, Int.sub_zero, List.map_nil, beq_self_eq_true, List.head?_cons, *]); (try exact rfl); done)) | ((with_reducible refine w_last ?_ ?_ ?_); (focus kernel_rfl); (focus rfl)) | ((with_reducible apply w_stepG); (focus rfl)) | ((with_reducible apply lk_mem); (focus ((repeat (first | exact mm_h | apply mm_t)); done))) | with_reducible (first | refine w_step0 ?_ | refine w_nil ?_ | refine gd_tt ?_ | refine gd_ff ?_ | refine gd_tf ?_ | refine gd_ft ?_ | refine gd_un ?_ | refine s_move ?_ | refine s_assign ?_ | refine s_bin ?_ | refine s_un ?_ | refine s_conv ?_ | refine s_field ?_ | refine s_fieldAddr ?_ | refine s_ext ?_ | refine s_pick ?_ | refine s_nil ?_ | refine s_load ?_ | refine lk_ip ?_ | refine lk_ptr ?_ | refine s_index ?_ | refine s_indexAddr ?_ | refine s_slice ?_ | refine s_build ?_ | refine s_buildSlice ?_ | refine s_mk ?_ | refine s_store ?_ | refine s_alloc ?_ | refine s_call ?_ | refine s_ip ?_ | refine tr_seq ?_ | refine tr_block ?_ | refine tr_skip ?_ | refine tr_ret ?_ | refine tr_exit ?_ | refine tr_label ?_ | refine strip_norm ?_ | refine strip_ret ?_ | refine strip_exit ?_ | refine blk_norm ?_ | refine blk_ret ?_ | refine blk_same ?_ | refine tr_condT ?_ | refine tr_condCt ?_ | refine tr_condCf ?_) | ((with_reducible apply sto_go); (focus (intro cs'; repeat (first | exact ra_h | apply ra_t)))) | ((with_reducible refine al_go ?_); intro b) | ((with_reducible refine And.intro ?_ ?_); (focus ((repeat (first | exact keep_none | exact keep_nil | exact keep_ro | refine keep_cons ?_)); done))) | ((with_reducible apply (ck_row Try.call45)); (focus exact hCr.out); (focus exact LEL.refl _); (focus exact ⟨0, m, [], by simp [hRl]⟩); intro g cap zs hcap; obtain ⟨tl, hld1⟩ := hld.out zs; have hsp1 := hsp.out zs; have hle : idx * 4 + 1 + 1 ≤ cap * 4 := (by rw [List.length_append] at hcap; omega)) | ((with_reducible apply (ck_lend Try.call44)); (focus exact hSx.out); (focus exact ⟨Lend.refl _, Lend.agg ⟨Lend.refl _, Lend.refl _, Lend.refl _, Lend.rowE (by repeat (first | exact mm_h | apply mm_t)) hfl.out (by decide) hes.out hel.out, trivial⟩, trivial⟩)) | ((with_reducible apply (ck_le Try.call41)); (focus exact LEL.refl _); (focus exact hA.out _)) | ((with_reducible apply (ck_le Try.call12)); (focus exact LEL.refl _); (focus exact hG.out _)) | ((with_reducible apply (ck_le Try.call12)); (focus exact LEL.refl _); (focus exact hG2.out _)) | ((with_reducible apply (ck_le Try.call42)); (focus exact LEL.refl _); (focus exact hR.out _)) | ((with_reducible apply (ck_le Try.call42)); (focus exact LEL.refl _); (focus exact hR2.out _)) | ((with_reducible apply (ck_le Try.call43)); (focus exact LEL.refl _); (focus exact hT.out _)) | ((with_reducible apply (ck_le Try.call43)); (focus exact LEL.refl _); (focus exact hT2.out _)) | ((with_reducible apply (ck_le Try.call44)); (focus exact LEL.refl _); (focus exact hS.out _)) | ((with_reducible apply (ck_le Try.call44)); (focus exact LEL.refl _); (focus exact hSa.out _)) | ((with_reducible apply (ck_le Try.call45)); (focus exact LEL.refl _); (focus exact hCs.out _)) | ((with_reducible refine s_bi ?_ ?_); (focus rfl)) | with_reducible refine blk_ne rfl ?_ | ((with_reducible refine w_region ?_ ?_); (focus kernel_rfl)) | ((with_reducible refine w_draw [] ?_ ?_ ?_ ?_ ?_); (iterate 3 (focus kernel_rfl)); (focus exact keeps_nil)) | ((with_reducible first | refine gd_d1 ?_ ?_ | refine gd_d0 ?_ ?_); all_goals (intro hb; (first | with_reducible replace hb := nt_t hb | with_reducible replace hb := nt_f hb | skip); (first | replace hb := dc_t hb | replace hb := dc_f hb | have hb1 := eq_b hb | have hb1 := ne_b hb | have hb1 := bne_t hb | have hb1 := bne_f hb | skip); (try (exfalso; first | contradiction | omega)))))
    all_goals (refine ret_eq (by first | exact .inl rfl | exact .inr rfl) (by first | rfl | assumption) (by (repeat (first | exact List.Sublist.refl _ | apply List.Sublist.cons))) ?_; (try simp (disch := omega) only [push_cast, Nat.reduceEqDiff, reduceCtorEq, ↓reduceIte, Nat.reduceAdd, Nat.reduceMul, Nat.reduceSub, Nat.reduceLT, Nat.reduceLeDiff, Int.reduceToNat, Int.reduceLT, Int.reduceLE, Int.reduceAdd, Int.reduceSub, Int.reduceMul, Int.reduceBEq, Int.reduceBNe, encB, encI, V.cells_mk, V.cells_take, V.cells_len, Nat.mul_one, Int.sub_zero, List.map_nil, beq_self_eq_true, List.head?_cons, *]); try (first | exact LE.refl _ | exact LE.sl _ _ | (refine LE.tup ?_; (repeat' (first | exact LEL.nil | refine LEL.cons ?_ ?_ | exact LE.refl _ | exact LE.sl _ _ | refine LE.agg ?_)); done) | (refine LE.agg ?_; (repeat' (first | exact LEL.nil | refine LEL.cons ?_ ?_ | exact LE.refl _ | exact LE.sl _ _)); done) | refine LE.of_eq ?_))
end Go.Proofs.Ytgofckmlgkniaaa
end
