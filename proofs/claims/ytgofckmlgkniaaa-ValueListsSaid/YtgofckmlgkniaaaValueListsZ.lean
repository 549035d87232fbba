/- The walk of the statement ValueLists. -/
import Derived.Test.YtgofckmlgkniaaaZ4
set_option linter.all false
section
namespace Go.Proofs.Ytgofckmlgkniaaa
set_option linter.unusedSimpArgs false
open Go.RowKit
set_option maxRecDepth 10000
set_option maxHeartbeats 4000000
namespace V
theorem two_cmp (a b : V) : (V.mk 5 0 ⟨#[]⟩ [a, b]).cmp (V.mk 5 0 ⟨#[]⟩ [b, a]) = a.cmp b := by
  have h0 : ∀ x : Int, ors [0, 0, 0, x] = x := fun x => by simp [ors]; exact fun h => h.symm
  rw [cmp, sgn_self, sgn_self, cmpB_self, h0, cmpL]
  by_cases h : a.cmp b = 0
  · rw [if_pos h, h]
    have := cmp_eq a b h
    subst this
    rw [cmpL_self]
  · rw [if_neg h]
theorem two_right {a b : V} (ha : a.right = true) (hb : b.right = true) : (V.mk 5 0 ⟨#[]⟩ [a, b]).right = (decide (max a.deep b.deep < 4) && decide (1 + (a.nodes + b.nodes) ≤ 100)) := by
  rw [right_iff] at ha hb
  rw [Bool.eq_iff_iff, right_iff, parts, partsL, partsL, partsL, ha.1, hb.1, deep, deepL, deepL, deepL, nodes, nodesL, nodesL, nodesL, if_pos (.inl rfl)]
  rw [show [a, b].length = 2 from rfl, show sgl 5 0 ⟨#[]⟩ 2 = true by decide]
  simp
  omega
theorem parts_sm : ∀ (N : Nat) (v : V), v.nodes ≤ N → v.parts = true → v.Sm
  | 0, v, h, _ => by have := v.nodes_pos; omega
  | N + 1, .mk k n s l, hN, hp => by
    obtain ⟨h1, h2, h3⟩ := parts_facts hp
    obtain ⟨-, -, -, f4, -, f6⟩ := sgl_facts h1
    refine .mk (by omega) ?_ fun x hx => parts_sm N x (by have := nodes_lt (k := k) (n := n) (s := s) hx; omega) (h3 x hx)
    rcases h2 with h | h
    · have := f6 h; omega
    · simp [h]
end V
theorem w_draw_ne {P : Program} {N : Nat} {r : Option Nat} {A : AA} {b b' : Nat} {ty ty' : TypeId} {cs cs' : List D} {s : St} {Q : Exit → AA → St → Prop} {l : List Oper} {id : Nat} (hm : P.follows .mixedOrders = true) (hB : mixBA .any l.toArray = true) (hok : opsOk N l = true)
    (h : (b == b') = false → (b' == b) = false → W P r (some (roOf (.box b ty cs :: .box b' ty' cs' :: s))) l.toArray (Q .normal) l A (.box b ty cs :: .box b' ty' cs' :: s)) : Tr P N r (.region id l.toArray true) A (.box b ty cs :: .box b' ty' cs' :: s) Q := by
  intro a w ha hh
  have hne : b ≠ b' := fun e => by
    have := (List.pairwise_cons.1 hh.1).1 (.box b' ty' cs') (List.Mem.head _) b rfl
    exact this (by rw [e]; rfl)
  exact w_draw _ hm hB hok (keeps_roOf _) (h (beq_eq_false_iff_ne.2 hne) (beq_eq_false_iff_ne.2 hne.symm)) a w ha hh
theorem valueListsLaw (a b : V) (ha : a.Ok) (hb : b.Ok) (st : St) : TrF Try.prog 9 [.agg a.cells, .agg b.cells] st fun d st' => d = .b true ∧ st' = st := by
  have hA := Lib.hid val03AliveF
  have hG := refGreatF a ha
  have hG2 := refGreatF b hb
  by_cases hgr : a.great = true
  · rw [hgr] at hG
    cases a with
    | mk k n1 t l =>
    cases b with
    | mk k' n1' t' l' =>
    rw [V.cells_mk] at *
    rw [V.cells_mk] at *
    replace hG := Lib.hid hG
    clear hG2
    refine trF_enter (ts := [4]) Try.func9 rfl (by rw [Try.ntmps9]; exact Nat.le_of_ble_eq_true rfl) (fun tmps w => by simp [results, Try.results9, go_sem, resVal]) ?_
    simp only [Try.ntmps9]
    repeat' (first | ((with_reducible apply ev_go); (focus (try simp (disch := omega) only [push_cast, Nat.reduceEqDiff, reduceCtorEq, ↓reduceIte, Nat.reduceAdd, Nat.reduceMul, Nat.reduceSub, Nat.reduceLT, Nat.reduceLeDiff, Int.reduceToNat, Int.reduceLT, Int.reduceLE, Int.reduceAdd, Int.reduceSub, Int.reduceMul, Int.reduceBEq, Int.reduceBNe, encB, encI, V.cells_mk, V.cells_take, V.cells_len, Nat.mul_one, Int.sub_zero, List.map_nil, beq_self_eq_true, *]); (try exact rfl); done)) | ((with_reducible refine w_last ?_ ?_ ?_); (focus kernel_rfl); (focus rfl)) | ((with_reducible apply w_stepG); (focus rfl)) | ((with_reducible apply lk_mem); (focus ((repeat (first | exact mm_h | apply mm_t)); done))) | with_reducible (first | refine w_step0 ?_ | refine w_nil ?_ | refine gd_tt ?_ | refine gd_ff ?_ | refine gd_tf ?_ | refine gd_ft ?_ | refine gd_un ?_ | refine s_move ?_ | refine s_assign ?_ | refine s_bin ?_ | refine s_un ?_ | refine s_conv ?_ | refine s_field ?_ | refine s_fieldAddr ?_ | refine s_ext ?_ | refine s_pick ?_ | refine s_nil ?_ | refine s_load ?_ | refine lk_ip ?_ | refine lk_ptr ?_ | refine s_index ?_ | refine s_indexAddr ?_ | refine s_slice ?_ | refine s_build ?_ | refine s_buildSlice ?_ | refine s_mk ?_ | refine s_store ?_ | refine s_alloc ?_ | refine s_call ?_ | refine s_ip ?_ | refine tr_seq ?_ | refine tr_block ?_ | refine tr_skip ?_ | refine tr_ret ?_ | refine tr_exit ?_ | refine tr_label ?_ | refine strip_norm ?_ | refine strip_ret ?_ | refine strip_exit ?_ | refine blk_norm ?_ | refine blk_ret ?_ | refine blk_same ?_ | refine tr_condT ?_ | refine tr_condCt ?_ | refine tr_condCf ?_) | ((with_reducible apply sto_go); (focus (intro cs'; repeat (first | exact ra_h | apply ra_t)))) | ((with_reducible refine al_go ?_); intro b) | ((with_reducible refine And.intro ?_ ?_); (focus ((repeat (first | exact keep_none | exact keep_nil | exact keep_ro | refine keep_cons ?_)); done))) | ((with_reducible apply (ck_le Try.call41)); (focus exact LEL.refl _); (focus exact hA.out _)) | ((with_reducible apply (ck_le Try.call12)); (focus exact LEL.refl _); (focus exact hG.out _)) | ((with_reducible refine s_bi ?_ ?_); (focus rfl)) | with_reducible refine blk_ne rfl ?_ | ((with_reducible refine w_region ?_ ?_); (focus kernel_rfl)) | ((with_reducible refine w_draw [] ?_ ?_ ?_ ?_ ?_); (iterate 3 (focus kernel_rfl)); (focus exact keeps_nil)) | ((with_reducible first | refine gd_d1 ?_ ?_ | refine gd_d0 ?_ ?_); all_goals (intro hb; (first | with_reducible replace hb := nt_t hb | with_reducible replace hb := nt_f hb | skip); (first | replace hb := dc_t hb | replace hb := dc_f hb | have hb1 := eq_b hb | have hb1 := ne_b hb | have hb1 := bne_t hb | have hb1 := bne_f hb | skip); (try (exfalso; first | contradiction | omega)))))
    all_goals (refine ret_eq (by first | exact .inl rfl | exact .inr rfl) (by first | rfl | assumption) (by (repeat (first | exact List.Sublist.refl _ | apply List.Sublist.cons))) ?_; (try simp (disch := omega) only [push_cast, Nat.reduceEqDiff, reduceCtorEq, ↓reduceIte, Nat.reduceAdd, Nat.reduceMul, Nat.reduceSub, Nat.reduceLT, Nat.reduceLeDiff, Int.reduceToNat, Int.reduceLT, Int.reduceLE, Int.reduceAdd, Int.reduceSub, Int.reduceMul, Int.reduceBEq, Int.reduceBNe, encB, encI, V.cells_mk, V.cells_take, V.cells_len, Nat.mul_one, Int.sub_zero, List.map_nil, beq_self_eq_true, *]); try (first | exact LE.refl _ | exact LE.sl _ _ | (refine LE.tup ?_; (repeat' (first | exact LEL.nil | refine LEL.cons ?_ ?_ | exact LE.refl _ | exact LE.sl _ _ | refine LE.agg ?_)); done) | (refine LE.agg ?_; (repeat' (first | exact LEL.nil | refine LEL.cons ?_ ?_ | exact LE.refl _ | exact LE.sl _ _)); done) | refine LE.of_eq ?_))
  have hgr : a.great = false := by simpa using hgr
  rw [hgr] at hG
  by_cases hgr2 : b.great = true
  · rw [hgr2] at hG2
    cases a with
    | mk k n1 t l =>
    cases b with
    | mk k' n1' t' l' =>
    rw [V.cells_mk] at *
    rw [V.cells_mk] at *
    replace hG := Lib.hid hG
    replace hG2 := Lib.hid hG2
    refine trF_enter (ts := [4]) Try.func9 rfl (by rw [Try.ntmps9]; exact Nat.le_of_ble_eq_true rfl) (fun tmps w => by simp [results, Try.results9, go_sem, resVal]) ?_
    simp only [Try.ntmps9]
    repeat' (first | ((with_reducible apply ev_go); (focus (try simp (disch := omega) only [push_cast, Nat.reduceEqDiff, reduceCtorEq, ↓reduceIte, Nat.reduceAdd, Nat.reduceMul, Nat.reduceSub, Nat.reduceLT, Nat.reduceLeDiff, Int.reduceToNat, Int.reduceLT, Int.reduceLE, Int.reduceAdd, Int.reduceSub, Int.reduceMul, Int.reduceBEq, Int.reduceBNe, encB, encI, V.cells_mk, V.cells_take, V.cells_len, Nat.mul_one, Int.sub_zero, List.map_nil, beq_self_eq_true, *]); (try exact rfl); done)) | ((with_reducible refine w_last ?_ ?_ ?_); (focus kernel_rfl); (focus rfl)) | ((with_reducible apply w_stepG); (focus rfl)) | ((with_reducible apply lk_mem); (focus ((repeat (first | exact mm_h | apply mm_t)); done))) | with_reducible (first | refine w_step0 ?_ | refine w_nil ?_ | refine gd_tt ?_ | refine gd_ff ?_ | refine gd_tf ?_ | refine gd_ft ?_ | refine gd_un ?_ | refine s_move ?_ | refine s_assign ?_ | refine s_bin ?_ | refine s_un ?_ | refine s_conv ?_ | refine s_field ?_ | refine s_fieldAddr ?_ | refine s_ext ?_ | refine s_pick ?_ | refine s_nil ?_ | refine s_load ?_ | refine lk_ip ?_ | refine lk_ptr ?_ | refine s_index ?_ | refine s_indexAddr ?_ | refine s_slice ?_ | refine s_build ?_ | refine s_buildSlice ?_ | refine s_mk ?_ | refine s_store ?_ | refine s_alloc ?_ | refine s_call ?_ | refine s_ip ?_ | refine tr_seq ?_ | refine tr_block ?_ | refine tr_skip ?_ | refine tr_ret ?_ | refine tr_exit ?_ | refine tr_label ?_ | refine strip_norm ?_ | refine strip_ret ?_ | refine strip_exit ?_ | refine blk_norm ?_ | refine blk_ret ?_ | refine blk_same ?_ | refine tr_condT ?_ | refine tr_condCt ?_ | refine tr_condCf ?_) | ((with_reducible apply sto_go); (focus (intro cs'; repeat (first | exact ra_h | apply ra_t)))) | ((with_reducible refine al_go ?_); intro b) | ((with_reducible refine And.intro ?_ ?_); (focus ((repeat (first | exact keep_none | exact keep_nil | exact keep_ro | refine keep_cons ?_)); done))) | ((with_reducible apply (ck_le Try.call41)); (focus exact LEL.refl _); (focus exact hA.out _)) | ((with_reducible apply (ck_le Try.call12)); (focus exact LEL.refl _); (focus exact hG.out _)) | ((with_reducible apply (ck_le Try.call12)); (focus exact LEL.refl _); (focus exact hG2.out _)) | ((with_reducible refine s_bi ?_ ?_); (focus rfl)) | with_reducible refine blk_ne rfl ?_ | ((with_reducible refine w_region ?_ ?_); (focus kernel_rfl)) | ((with_reducible refine w_draw [] ?_ ?_ ?_ ?_ ?_); (iterate 3 (focus kernel_rfl)); (focus exact keeps_nil)) | ((with_reducible first | refine gd_d1 ?_ ?_ | refine gd_d0 ?_ ?_); all_goals (intro hb; (first | with_reducible replace hb := nt_t hb | with_reducible replace hb := nt_f hb | skip); (first | replace hb := dc_t hb | replace hb := dc_f hb | have hb1 := eq_b hb | have hb1 := ne_b hb | have hb1 := bne_t hb | have hb1 := bne_f hb | skip); (try (exfalso; first | contradiction | omega)))))
    all_goals (refine ret_eq (by first | exact .inl rfl | exact .inr rfl) (by first | rfl | assumption) (by (repeat (first | exact List.Sublist.refl _ | apply List.Sublist.cons))) ?_; (try simp (disch := omega) only [push_cast, Nat.reduceEqDiff, reduceCtorEq, ↓reduceIte, Nat.reduceAdd, Nat.reduceMul, Nat.reduceSub, Nat.reduceLT, Nat.reduceLeDiff, Int.reduceToNat, Int.reduceLT, Int.reduceLE, Int.reduceAdd, Int.reduceSub, Int.reduceMul, Int.reduceBEq, Int.reduceBNe, encB, encI, V.cells_mk, V.cells_take, V.cells_len, Nat.mul_one, Int.sub_zero, List.map_nil, beq_self_eq_true, *]); try (first | exact LE.refl _ | exact LE.sl _ _ | (refine LE.tup ?_; (repeat' (first | exact LEL.nil | refine LEL.cons ?_ ?_ | exact LE.refl _ | exact LE.sl _ _ | refine LE.agg ?_)); done) | (refine LE.agg ?_; (repeat' (first | exact LEL.nil | refine LEL.cons ?_ ?_ | exact LE.refl _ | exact LE.sl _ _)); done) | refine LE.of_eq ?_))
  have hgr2 : b.great = false := by simpa using hgr2
  rw [hgr2] at hG2
  obtain ⟨hn1, hn2⟩ := V.not_great hgr
  obtain ⟨hn3, hn4⟩ := V.not_great hgr2
  have hR := valRightF a (by omega)
  have hR2 := valRightF b (by omega)
  clear hgr hgr2
  cases hr : a.right with
  | false =>
    rw [hr] at hR
    cases a with
    | mk k n1 t l =>
    cases b with
    | mk k' n1' t' l' =>
    rw [V.cells_mk] at *
    rw [V.cells_mk] at *
    replace hG := Lib.hid hG
    replace hG2 := Lib.hid hG2
    replace hR := Lib.hid hR
    clear hR2
    refine trF_enter (ts := [4]) Try.func9 rfl (by rw [Try.ntmps9]; exact Nat.le_of_ble_eq_true rfl) (fun tmps w => by simp [results, Try.results9, go_sem, resVal]) ?_
    simp only [Try.ntmps9]
    repeat' (first | ((with_reducible apply ev_go); (focus (try simp (disch := omega) only [push_cast, Nat.reduceEqDiff, reduceCtorEq, ↓reduceIte, Nat.reduceAdd, Nat.reduceMul, Nat.reduceSub, Nat.reduceLT, Nat.reduceLeDiff, Int.reduceToNat, Int.reduceLT, Int.reduceLE, Int.reduceAdd, Int.reduceSub, Int.reduceMul, Int.reduceBEq, Int.reduceBNe, encB, encI, V.cells_mk, V.cells_take, V.cells_len, Nat.mul_one, Int.sub_zero, List.map_nil, beq_self_eq_true, *]); (try exact rfl); done)) | ((with_reducible refine w_last ?_ ?_ ?_); (focus kernel_rfl); (focus rfl)) | ((with_reducible apply w_stepG); (focus rfl)) | ((with_reducible apply lk_mem); (focus ((repeat (first | exact mm_h | apply mm_t)); done))) | with_reducible (first | refine w_step0 ?_ | refine w_nil ?_ | refine gd_tt ?_ | refine gd_ff ?_ | refine gd_tf ?_ | refine gd_ft ?_ | refine gd_un ?_ | refine s_move ?_ | refine s_assign ?_ | refine s_bin ?_ | refine s_un ?_ | refine s_conv ?_ | refine s_field ?_ | refine s_fieldAddr ?_ | refine s_ext ?_ | refine s_pick ?_ | refine s_nil ?_ | refine s_load ?_ | refine lk_ip ?_ | refine lk_ptr ?_ | refine s_index ?_ | refine s_indexAddr ?_ | refine s_slice ?_ | refine s_build ?_ | refine s_buildSlice ?_ | refine s_mk ?_ | refine s_store ?_ | refine s_alloc ?_ | refine s_call ?_ | refine s_ip ?_ | refine tr_seq ?_ | refine tr_block ?_ | refine tr_skip ?_ | refine tr_ret ?_ | refine tr_exit ?_ | refine tr_label ?_ | refine strip_norm ?_ | refine strip_ret ?_ | refine strip_exit ?_ | refine blk_norm ?_ | refine blk_ret ?_ | refine blk_same ?_ | refine tr_condT ?_ | refine tr_condCt ?_ | refine tr_condCf ?_) | ((with_reducible apply sto_go); (focus (intro cs'; repeat (first | exact ra_h | apply ra_t)))) | ((with_reducible refine al_go ?_); intro b) | ((with_reducible refine And.intro ?_ ?_); (focus ((repeat (first | exact keep_none | exact keep_nil | exact keep_ro | refine keep_cons ?_)); done))) | ((with_reducible apply (ck_le Try.call41)); (focus exact LEL.refl _); (focus exact hA.out _)) | ((with_reducible apply (ck_le Try.call12)); (focus exact LEL.refl _); (focus exact hG.out _)) | ((with_reducible apply (ck_le Try.call12)); (focus exact LEL.refl _); (focus exact hG2.out _)) | ((with_reducible apply (ck_le Try.call42)); (focus exact LEL.refl _); (focus exact hR.out _)) | ((with_reducible refine s_bi ?_ ?_); (focus rfl)) | with_reducible refine blk_ne rfl ?_ | ((with_reducible refine w_region ?_ ?_); (focus kernel_rfl)) | ((with_reducible refine w_draw [] ?_ ?_ ?_ ?_ ?_); (iterate 3 (focus kernel_rfl)); (focus exact keeps_nil)) | ((with_reducible first | refine gd_d1 ?_ ?_ | refine gd_d0 ?_ ?_); all_goals (intro hb; (first | with_reducible replace hb := nt_t hb | with_reducible replace hb := nt_f hb | skip); (first | replace hb := dc_t hb | replace hb := dc_f hb | have hb1 := eq_b hb | have hb1 := ne_b hb | have hb1 := bne_t hb | have hb1 := bne_f hb | skip); (try (exfalso; first | contradiction | omega)))))
    all_goals (refine ret_eq (by first | exact .inl rfl | exact .inr rfl) (by first | rfl | assumption) (by (repeat (first | exact List.Sublist.refl _ | apply List.Sublist.cons))) ?_; (try simp (disch := omega) only [push_cast, Nat.reduceEqDiff, reduceCtorEq, ↓reduceIte, Nat.reduceAdd, Nat.reduceMul, Nat.reduceSub, Nat.reduceLT, Nat.reduceLeDiff, Int.reduceToNat, Int.reduceLT, Int.reduceLE, Int.reduceAdd, Int.reduceSub, Int.reduceMul, Int.reduceBEq, Int.reduceBNe, encB, encI, V.cells_mk, V.cells_take, V.cells_len, Nat.mul_one, Int.sub_zero, List.map_nil, beq_self_eq_true, *]); try (first | exact LE.refl _ | exact LE.sl _ _ | (refine LE.tup ?_; (repeat' (first | exact LEL.nil | refine LEL.cons ?_ ?_ | exact LE.refl _ | exact LE.sl _ _ | refine LE.agg ?_)); done) | (refine LE.agg ?_; (repeat' (first | exact LEL.nil | refine LEL.cons ?_ ?_ | exact LE.refl _ | exact LE.sl _ _)); done) | refine LE.of_eq ?_))
  | true =>
  rw [hr] at hR
  cases hr2 : b.right with
  | false =>
    rw [hr2] at hR2
    cases a with
    | mk k n1 t l =>
    cases b with
    | mk k' n1' t' l' =>
    rw [V.cells_mk] at *
    rw [V.cells_mk] at *
    replace hG := Lib.hid hG
    replace hG2 := Lib.hid hG2
    replace hR := Lib.hid hR
    replace hR2 := Lib.hid hR2
    refine trF_enter (ts := [4]) Try.func9 rfl (by rw [Try.ntmps9]; exact Nat.le_of_ble_eq_true rfl) (fun tmps w => by simp [results, Try.results9, go_sem, resVal]) ?_
    simp only [Try.ntmps9]
    repeat' (first | ((with_reducible apply ev_go); (focus (try simp (disch := omega) only [push_cast, Nat.reduceEqDiff, reduceCtorEq, ↓reduceIte, Nat.reduceAdd, Nat.reduceMul, Nat.reduceSub, Nat.reduceLT, Nat.reduceLeDiff, Int.reduceToNat, Int.reduceLT, Int.reduceLE, Int.reduceAdd, Int.reduceSub, Int.reduceMul, Int.reduceBEq, Int.reduceBNe, encB, encI, V.cells_mk, V.cells_take, V.cells_len, Nat.mul_one, Int.sub_zero, List.map_nil, beq_self_eq_true, *]); (try exact rfl); done)) | ((with_reducible refine w_last ?_ ?_ ?_); (focus kernel_rfl); (focus rfl)) | ((with_reducible apply w_stepG); (focus rfl)) | ((with_reducible apply lk_mem); (focus ((repeat (first | exact mm_h | apply mm_t)); done))) | with_reducible (first | refine w_step0 ?_ | refine w_nil ?_ | refine gd_tt ?_ | refine gd_ff ?_ | refine gd_tf ?_ | refine gd_ft ?_ | refine gd_un ?_ | refine s_move ?_ | refine s_assign ?_ | refine s_bin ?_ | refine s_un ?_ | refine s_conv ?_ | refine s_field ?_ | refine s_fieldAddr ?_ | refine s_ext ?_ | refine s_pick ?_ | refine s_nil ?_ | refine s_load ?_ | refine lk_ip ?_ | refine lk_ptr ?_ | refine s_index ?_ | refine s_indexAddr ?_ | refine s_slice ?_ | refine s_build ?_ | refine s_buildSlice ?_ | refine s_mk ?_ | refine s_store ?_ | refine s_alloc ?_ | refine s_call ?_ | refine s_ip ?_ | refine tr_seq ?_ | refine tr_block ?_ | refine tr_skip ?_ | refine tr_ret ?_ | refine tr_exit ?_ | refine tr_label ?_ | refine strip_norm ?_ | refine strip_ret ?_ | refine strip_exit ?_ | refine blk_norm ?_ | refine blk_ret ?_ | refine blk_same ?_ | refine tr_condT ?_ | refine tr_condCt ?_ | refine tr_condCf ?_) | ((with_reducible apply sto_go); (focus (intro cs'; repeat (first | exact ra_h | apply ra_t)))) | ((with_reducible refine al_go ?_); intro b) | ((with_reducible refine And.intro ?_ ?_); (focus ((repeat (first | exact keep_none | exact keep_nil | exact keep_ro | refine keep_cons ?_)); done))) | ((with_reducible apply (ck_le Try.call41)); (focus exact LEL.refl _); (focus exact hA.out _)) | ((with_reducible apply (ck_le Try.call12)); (focus exact LEL.refl _); (focus exact hG.out _)) | ((with_reducible apply (ck_le Try.call12)); (focus exact LEL.refl _); (focus exact hG2.out _)) | ((with_reducible apply (ck_le Try.call42)); (focus exact LEL.refl _); (focus exact hR.out _)) | ((with_reducible apply (ck_le Try.call42)); (focus exact LEL.refl _); (focus exact hR2.out _)) | ((with_reducible refine s_bi ?_ ?_); (focus rfl)) | with_reducible refine blk_ne rfl ?_ | ((with_reducible refine w_region ?_ ?_); (focus kernel_rfl)) | ((with_reducible refine w_draw [] ?_ ?_ ?_ ?_ ?_); (iterate 3 (focus kernel_rfl)); (focus exact keeps_nil)) | ((with_reducible first | refine gd_d1 ?_ ?_ | refine gd_d0 ?_ ?_); all_goals (intro hb; (first | with_reducible replace hb := nt_t hb | with_reducible replace hb := nt_f hb | skip); (first | replace hb := dc_t hb | replace hb := dc_f hb | have hb1 := eq_b hb | have hb1 := ne_b hb | have hb1 := bne_t hb | have hb1 := bne_f hb | skip); (try (exfalso; first | contradiction | omega)))))
    all_goals (refine ret_eq (by first | exact .inl rfl | exact .inr rfl) (by first | rfl | assumption) (by (repeat (first | exact List.Sublist.refl _ | apply List.Sublist.cons))) ?_; (try simp (disch := omega) only [push_cast, Nat.reduceEqDiff, reduceCtorEq, ↓reduceIte, Nat.reduceAdd, Nat.reduceMul, Nat.reduceSub, Nat.reduceLT, Nat.reduceLeDiff, Int.reduceToNat, Int.reduceLT, Int.reduceLE, Int.reduceAdd, Int.reduceSub, Int.reduceMul, Int.reduceBEq, Int.reduceBNe, encB, encI, V.cells_mk, V.cells_take, V.cells_len, Nat.mul_one, Int.sub_zero, List.map_nil, beq_self_eq_true, *]); try (first | exact LE.refl _ | exact LE.sl _ _ | (refine LE.tup ?_; (repeat' (first | exact LEL.nil | refine LEL.cons ?_ ?_ | exact LE.refl _ | exact LE.sl _ _ | refine LE.agg ?_)); done) | (refine LE.agg ?_; (repeat' (first | exact LEL.nil | refine LEL.cons ?_ ?_ | exact LE.refl _ | exact LE.sl _ _)); done) | refine LE.of_eq ?_))
  | true =>
  rw [hr2] at hR2
  have hsa := V.parts_sm a.nodes a (Nat.le_refl _) (V.right_iff.1 hr).1
  have hsb := V.parts_sm b.nodes b (Nat.le_refl _) (V.right_iff.1 hr2).1
  have hls : ∀ x y : V, x.Sm → y.Sm → V.Sm (.mk 5 0 ⟨#[]⟩ [x, y]) := fun x y h1 h2 => .mk (Nat.zero_le _) (by simp) fun z hz => by
    simp only [List.mem_cons, List.not_mem_nil, or_false] at hz
    rcases hz with rfl | rfl
    · exact h1
    · exact h2
  have hC := valCompareF a.nodes a b (Nat.le_refl _) hsa hsb
  have hC2 := valCompareF _ (.mk 5 0 ⟨#[]⟩ [a, b]) (.mk 5 0 ⟨#[]⟩ [b, a]) (Nat.le_refl _) (hls a b hsa hsb) (hls b a hsb hsa)
  rw [V.two_cmp] at hC2
  have hnx : (V.mk 5 0 ⟨#[]⟩ [a, b]).nodes = 1 + (a.nodes + b.nodes) := by rw [V.nodes, V.nodesL, V.nodesL, V.nodesL]; omega
  have hdx : (V.mk 5 0 ⟨#[]⟩ [a, b]).deep = max a.deep b.deep + 1 := by rw [V.deep, V.deepL, V.deepL, V.deepL, if_pos (.inl rfl)]; omega
  have hN := valNodesF a.nodes a (Nat.le_refl _) (by omega)
  have hN2 := valNodesF b.nodes b (Nat.le_refl _) (by omega)
  have hNx := valNodesF _ (.mk 5 0 ⟨#[]⟩ [a, b]) (Nat.le_refl _) (by omega)
  have hD := valDeepF a.nodes a (Nat.le_refl _) (by omega)
  have hD2 := valDeepF b.nodes b (Nat.le_refl _) (by omega)
  have hDx := valDeepF _ (.mk 5 0 ⟨#[]⟩ [a, b]) (Nat.le_refl _) (by omega)
  have hRx := valRightF (.mk 5 0 ⟨#[]⟩ [a, b]) (by omega)
  rw [V.two_right hr hr2] at hRx
  rw [hnx] at hNx
  rw [hdx] at hDx
  clear hnx hdx hls hsa hsb hr hr2 ha hb
  generalize a.deep = da at *
  generalize b.deep = db at *
  generalize a.nodes = na at *
  generalize b.nodes = nb at *
  generalize a.cmp b = c at *
  cases a with
  | mk k n1 t l =>
  cases b with
  | mk k' n1' t' l' =>
  simp only [V.cells_mk, List.map_cons, List.map_nil] at hC hC2 hN hN2 hNx hD hD2 hDx hRx hR hR2 hG hG2 ⊢
  have hmax : (max da db < 4) = (da < 4 ∧ db < 4) := by simp; omega
  replace hC := Lib.hid hC
  replace hC2 := Lib.hid hC2
  replace hN := Lib.hid hN
  replace hN2 := Lib.hid hN2
  replace hNx := Lib.hid hNx
  replace hD := Lib.hid hD
  replace hD2 := Lib.hid hD2
  replace hDx := Lib.hid hDx
  replace hRx := Lib.hid hRx
  replace hR := Lib.hid hR
  replace hR2 := Lib.hid hR2
  replace hG := Lib.hid hG
  replace hG2 := Lib.hid hG2
  clear hmax
  refine trF_enter (ts := [4]) Try.func9 rfl (by rw [Try.ntmps9]; exact Nat.le_of_ble_eq_true rfl) (fun tmps w => by simp [results, Try.results9, go_sem, resVal]) ?_
  simp only [Try.ntmps9]
  repeat' (first | ((with_reducible refine w_draw_ne ?_ ?_ ?_ ?_); (iterate 3 (focus kernel_rfl)); intro hne1 hne2) | ((with_reducible apply (w_draw2 [] 9 8)); (iterate 3 (focus kernel_rfl)); (focus (repeat (first | exact keep_nil | refine keep_more (by repeat (first | exact mm_h | apply mm_t)) ?_))); (focus exact rfl); (focus (simp only [List.eraseIdx_cons_succ, List.eraseIdx_cons_zero]; rfl))) | ((with_reducible refine And.intro ?_ ?_); (focus ((repeat (first | exact keep_nil | refine keep_more (by (repeat (first | exact mm_h | apply mm_t)); done) ?_)); done))) | ((with_reducible apply ev_go); (focus (try simp (disch := omega) only [push_cast, Nat.reduceEqDiff, reduceCtorEq, ↓reduceIte, Nat.reduceAdd, Nat.reduceMul, Nat.reduceSub, Nat.reduceLT, Nat.reduceLeDiff, Int.reduceToNat, Int.reduceLT, Int.reduceLE, Int.reduceAdd, Int.reduceSub, Int.reduceMul, Int.reduceBEq, Int.reduceBNe, encB, encI, V.cells_mk, V.cells_take, V.cells_len, Nat.mul_one, Int.sub_zero, List.map_nil, beq_self_eq_true, *]); (try exact rfl); done)) | ((with_reducible refine w_last ?_ ?_ ?_); (focus kernel_rfl); (focus rfl)) | ((with_reducible apply w_stepG); (focus rfl)) | ((with_reducible apply lk_mem); (focus ((repeat (first | exact mm_h | apply mm_t)); done))) | with_reducible (first | refine w_step0 ?_ | refine w_nil ?_ | refine gd_tt ?_ | refine gd_ff ?_ | refine gd_tf ?_ | refine gd_ft ?_ | refine gd_un ?_ | refine s_move ?_ | refine s_assign ?_ | refine s_bin ?_ | refine s_un ?_ | refine s_conv ?_ | refine s_field ?_ | refine s_fieldAddr ?_ | refine s_ext ?_ | refine s_pick ?_ | refine s_nil ?_ | refine s_load ?_ | refine lk_ip ?_ | refine lk_ptr ?_ | refine s_index ?_ | refine s_indexAddr ?_ | refine s_slice ?_ | refine s_build ?_ | refine s_buildSlice ?_ | refine s_mk ?_ | refine s_store ?_ | refine s_alloc ?_ | refine s_call ?_ | refine s_ip ?_ | refine tr_seq ?_ | refine tr_block ?_ | refine tr_skip ?_ | refine tr_ret ?_ | refine tr_exit ?_ | refine tr_label ?_ | refine strip_norm ?_ | refine strip_ret ?_ | refine strip_exit ?_ | refine blk_norm ?_ | refine blk_ret ?_ | refine blk_same ?_ | refine tr_condT ?_ | refine tr_condCt ?_ | refine tr_condCf ?_) | ((with_reducible apply sto_go); (focus (intro cs'; repeat (first | exact ra_h | apply ra_t)))) | ((with_reducible refine al_go ?_); intro b) | ((with_reducible refine And.intro ?_ ?_); (focus ((repeat (first | exact keep_none | exact keep_nil | exact keep_ro | refine keep_cons ?_)); done))) | ((with_reducible apply (ck_le Try.call41)); (focus exact LEL.refl _); (focus exact hA.out _)) | ((with_reducible apply (ck_le Try.call12)); (focus exact LEL.refl _); (focus exact hG.out _)) | ((with_reducible apply (ck_le Try.call12)); (focus exact LEL.refl _); (focus exact hG2.out _)) | ((with_reducible apply (ck_le Try.call42)); (focus exact LEL.refl _); (focus exact hR.out _)) | ((with_reducible apply (ck_le Try.call42)); (focus exact LEL.refl _); (focus exact hR2.out _)) | ((with_reducible apply (ck_le Try.call46)); (focus exact LEL.refl _); (focus exact hD.out _)) | ((with_reducible apply (ck_le Try.call46)); (focus exact LEL.refl _); (focus exact hD2.out _)) | ((with_reducible apply (ck_le Try.call47)); (focus exact LEL.refl _); (focus exact hN.out _)) | ((with_reducible apply (ck_le Try.call47)); (focus exact LEL.refl _); (focus exact hN2.out _)) | ((with_reducible apply (ck_le Try.call48)); (focus exact LEL.refl _); (focus exact hC.out _)) | ((with_reducible apply (ck_le Try.call48)); (focus exact LEL.refl _); (focus exact hC2.out _)) | ((with_reducible apply (ck_le Try.call46)); (focus exact LEL.refl _); (focus exact hDx.out _)) | ((with_reducible apply (ck_le Try.call47)); (focus exact LEL.refl _); (focus exact hNx.out _)) | ((with_reducible apply (ck_le Try.call42)); (focus exact LEL.refl _); (focus exact hRx.out _)) | ((with_reducible refine s_bi ?_ ?_); (focus rfl)) | with_reducible refine blk_ne rfl ?_ | ((with_reducible refine w_region ?_ ?_); (focus kernel_rfl)) | ((with_reducible refine w_draw [] ?_ ?_ ?_ ?_ ?_); (iterate 3 (focus kernel_rfl)); (focus exact keeps_nil)) | ((with_reducible first | refine gd_d1 ?_ ?_ | refine gd_d0 ?_ ?_); all_goals (intro hb; (first | with_reducible replace hb := nt_t hb | with_reducible replace hb := nt_f hb | skip); (first | replace hb := dc_t hb | replace hb := dc_f hb | have hb1 := eq_b hb | have hb1 := ne_b hb | have hb1 := bne_t hb | have hb1 := bne_f hb | skip); (try (exfalso; first | contradiction | omega)))))
  all_goals (refine ret_eq (by first | exact .inl rfl | exact .inr rfl) (by first | rfl | assumption) (by (repeat (first | exact List.Sublist.refl _ | apply List.Sublist.cons))) ?_; (try simp (disch := omega) only [push_cast, Nat.reduceEqDiff, reduceCtorEq, ↓reduceIte, Nat.reduceAdd, Nat.reduceMul, Nat.reduceSub, Nat.reduceLT, Nat.reduceLeDiff, Int.reduceToNat, Int.reduceLT, Int.reduceLE, Int.reduceAdd, Int.reduceSub, Int.reduceMul, Int.reduceBEq, Int.reduceBNe, encB, encI, V.cells_mk, V.cells_take, V.cells_len, Nat.mul_one, Int.sub_zero, List.map_nil, beq_self_eq_true, *]); try (first | exact LE.refl _ | exact LE.sl _ _ | (refine LE.tup ?_; (repeat' (first | exact LEL.nil | refine LEL.cons ?_ ?_ | exact LE.refl _ | exact LE.sl _ _ | refine LE.agg ?_)); done) | (refine LE.agg ?_; (repeat' (first | exact LEL.nil | refine LEL.cons ?_ ?_ | exact LE.refl _ | exact LE.sl _ _)); done) | refine LE.of_eq ?_))
  all_goals (refine congrArg D.b ?_; rw [beq_iff_eq, Bool.eq_iff_iff]; simp only [Bool.and_eq_true, decide_eq_true_eq, Bool.false_eq_true, iff_false]; omega)
end Go.Proofs.Ytgofckmlgkniaaa
end
