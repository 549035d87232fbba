/- Texts put together: Bin06d, Bin06e, Bin06b, Bin06c, Bin06f, Bin06g, Bin06h, Bin06i, Bin06j, RegB, RegC, RegD. No statement is proved here. -/
import Derived.Laws.BitsAllLaws
import Derived.Test.YtgcienlfpnpbgaaGreatZ4
set_option linter.all false
section
namespace Go.Proofs.YtgcienlfpnpbgaaGreat
set_option linter.unusedSimpArgs false
attribute [local push_cast] encB encI Nat.mul_one
open Go.RowKit B
set_option maxRecDepth 10000
set_option maxHeartbeats 4000000
structure RS where
  o : Own
  l : List UInt8
  bad : Bool
namespace RS
def cells (s : RS) : List D := [.sl s.o (s.l.map encB), .b s.bad]
def fail : RS := ⟨.tight, [], true⟩
def cut (s : RS) (n : Nat) : RS := ⟨.shared, s.l.drop n, s.bad⟩
end RS
abbrev rdR (b : Nat) (s : RS) : Res := .box b 92 s.cells
theorem rdFailF (b : Nat) (s : RS) (st : St) : TrF Tryz.prog 169 [.ptr b 0] (rdR b s :: st) fun x st' => x = .tup [] ∧ st' = rdR b .fail :: st := by
  refine trF_enter (ts := []) Tryz.func169 rfl (by rw [Tryz.ntmps169]; exact Nat.le_of_ble_eq_true rfl) (fun tmps w => by simp [results, Tryz.results169, go_sem, resVal]) ?_
  simp only [Tryz.ntmps169]
  repeat' (first | with_reducible refine Go1.go ?_ | ((with_reducible apply ev_go); (focus ((try simp (disch := omega) only [push_cast, simprocAttr, RS.cells, RS.fail, RS.cut, Int.reducePow, *]); (try exact rfl); done))) | ((with_reducible refine w_last ?_ ?_ ?_); kernel_rfl; rfl) | with_reducible refine Go2.go ?_ | ((with_reducible first | apply w_stepG | refine s_bi ?_ ?_ | refine blk_ne ?_ ?_); rfl) | ((with_reducible refine al_go ?_); intro b) | ((with_reducible first | refine w_region ?_ ?_ | refine w_dra ?_ ?_); kernel_rfl) | ((with_reducible refine Go3.go ?_ ?_); all_goals (intro hb; (try with_reducible intro hb1); (try (exfalso; first | contradiction | omega)))) | fail)
  all_goals (refine ret_eq (by simp) (by first | rfl | assumption) (by (repeat (first | exact List.Sublist.refl _ | apply List.Sublist.cons))) ?_; (try simp (disch := omega) only [push_cast, simprocAttr, RS.cells, RS.fail, RS.cut, Int.reducePow, *]); try (first | exact LE.refl _ | exact LE.sl _ _ | ((first | refine LE.tup ?_ | refine LE.agg ?_); (repeat' (first | exact LEL.nil | refine LEL.cons ?_ ?_ | exact LE.refl _ | exact LE.sl _ _ | refine LE.agg ?_)); done) | refine LE.of_eq ?_))
theorem rdBadF (b : Nat) (s : RS) (st : St) : TrF Tryz.prog 80 [.ptr b 0] (rdR b s :: st) fun x st' => x = .b s.bad ∧ st' = rdR b s :: st := by
  refine trF_enter (ts := [2]) Tryz.func80 rfl (by rw [Tryz.ntmps80]; exact Nat.le_of_ble_eq_true rfl) (fun tmps w => by simp [results, Tryz.results80, go_sem, resVal]) ?_
  simp only [Tryz.ntmps80]
  repeat' (first | with_reducible refine Go1.go ?_ | ((with_reducible apply ev_go); (focus ((try simp (disch := omega) only [push_cast, simprocAttr, RS.cells, RS.fail, RS.cut, Int.reducePow, *]); (try exact rfl); done))) | ((with_reducible refine w_last ?_ ?_ ?_); kernel_rfl; rfl) | with_reducible refine Go2.go ?_ | ((with_reducible first | apply w_stepG | refine s_bi ?_ ?_ | refine blk_ne ?_ ?_); rfl) | ((with_reducible refine al_go ?_); intro b) | ((with_reducible first | refine w_region ?_ ?_ | refine w_dra ?_ ?_); kernel_rfl) | ((with_reducible refine Go3.go ?_ ?_); all_goals (intro hb; (try with_reducible intro hb1); (try (exfalso; first | contradiction | omega)))) | fail)
  all_goals (refine ret_eq (by simp) (by first | rfl | assumption) (by (repeat (first | exact List.Sublist.refl _ | apply List.Sublist.cons))) ?_; (try simp (disch := omega) only [push_cast, simprocAttr, RS.cells, RS.fail, RS.cut, Int.reducePow, *]); try (first | exact LE.refl _ | exact LE.sl _ _ | ((first | refine LE.tup ?_ | refine LE.agg ?_); (repeat' (first | exact LEL.nil | refine LEL.cons ?_ ?_ | exact LE.refl _ | exact LE.sl _ _ | refine LE.agg ?_)); done) | refine LE.of_eq ?_))
theorem rdDoneF (b : Nat) (s : RS) (st : St) : TrF Tryz.prog 45 [.ptr b 0] (rdR b s :: st) fun x st' => x = .b (!s.bad && decide (s.l.length = 0)) ∧ st' = rdR b s :: st := by
  have hB := Lib.hid (rdBadF b s)
  cases hb : s.bad
  · rw [hb] at hB
    refine trF_enter (ts := [2]) Tryz.func45 rfl (by rw [Tryz.ntmps45]; exact Nat.le_of_ble_eq_true rfl) (fun tmps w => by simp [results, Tryz.results45, go_sem, resVal]) ?_
    simp only [Tryz.ntmps45]
    repeat' (first | with_reducible refine Go1.go ?_ | ((with_reducible apply ev_go); (focus ((try simp (disch := omega) only [push_cast, simprocAttr, RS.cells, RS.fail, RS.cut, Int.reducePow, *]); (try exact rfl); done))) | ((with_reducible refine w_last ?_ ?_ ?_); kernel_rfl; rfl) | with_reducible refine Go2.go ?_ | ((with_reducible first | apply w_stepG | refine s_bi ?_ ?_ | refine blk_ne ?_ ?_); rfl) | ((with_reducible refine al_go ?_); intro b) | ((with_reducible apply (ck_le Tryz.call80)); exact LEL.refl _; exact hB.out _) | ((with_reducible first | refine w_region ?_ ?_ | refine w_dra ?_ ?_); kernel_rfl) | ((with_reducible refine Go3.go ?_ ?_); all_goals (intro hb; (try with_reducible intro hb1); (try (exfalso; first | contradiction | omega)))) | fail)
    all_goals (refine ret_eq (by simp) (by first | rfl | assumption) (by (repeat (first | exact List.Sublist.refl _ | apply List.Sublist.cons))) ?_; (try simp (disch := omega) only [push_cast, simprocAttr, RS.cells, RS.fail, RS.cut, Int.reducePow, *]); try (first | exact LE.refl _ | exact LE.sl _ _ | ((first | refine LE.tup ?_ | refine LE.agg ?_); (repeat' (first | exact LEL.nil | refine LEL.cons ?_ ?_ | exact LE.refl _ | exact LE.sl _ _ | refine LE.agg ?_)); done) | refine LE.of_eq ?_))
    all_goals (first | rfl | (refine congrArg D.b ?_; rw [Bool.eq_iff_iff]; simp only [Bool.true_and, Bool.false_and, Bool.and_true, Bool.and_false, Bool.or_false, Bool.or_true, Bool.true_or, Bool.false_or, true_and, and_true, Bool.not_eq_true', Bool.not_eq_false', decide_eq_true_eq, decide_eq_false_iff_not, beq_iff_eq, beq_eq_false_iff_ne, bne_iff_ne, ne_eq, reduceCtorEq, iff_true, true_iff, iff_false, false_iff, Bool.and_eq_true, Bool.or_eq_true, Bool.false_eq_true, Bool.true_eq_false]; first | done | omega))
  · rw [hb] at hB
    refine trF_enter (ts := [2]) Tryz.func45 rfl (by rw [Tryz.ntmps45]; exact Nat.le_of_ble_eq_true rfl) (fun tmps w => by simp [results, Tryz.results45, go_sem, resVal]) ?_
    simp only [Tryz.ntmps45]
    repeat' (first | with_reducible refine Go1.go ?_ | ((with_reducible apply ev_go); (focus ((try simp (disch := omega) only [push_cast, simprocAttr, RS.cells, RS.fail, RS.cut, Int.reducePow, *]); (try exact rfl); done))) | ((with_reducible refine w_last ?_ ?_ ?_); kernel_rfl; rfl) | with_reducible refine Go2.go ?_ | ((with_reducible first | apply w_stepG | refine s_bi ?_ ?_ | refine blk_ne ?_ ?_); rfl) | ((with_reducible refine al_go ?_); intro b) | ((with_reducible apply (ck_le Tryz.call80)); exact LEL.refl _; exact hB.out _) | ((with_reducible first | refine w_region ?_ ?_ | refine w_dra ?_ ?_); kernel_rfl) | ((with_reducible refine Go3.go ?_ ?_); all_goals (intro hb; (try with_reducible intro hb1); (try (exfalso; first | contradiction | omega)))) | fail)
    all_goals (refine ret_eq (by simp) (by first | rfl | assumption) (by (repeat (first | exact List.Sublist.refl _ | apply List.Sublist.cons))) ?_; (try simp (disch := omega) only [push_cast, simprocAttr, RS.cells, RS.fail, RS.cut, Int.reducePow, *]); try (first | exact LE.refl _ | exact LE.sl _ _ | ((first | refine LE.tup ?_ | refine LE.agg ?_); (repeat' (first | exact LEL.nil | refine LEL.cons ?_ ?_ | exact LE.refl _ | exact LE.sl _ _ | refine LE.agg ?_)); done) | refine LE.of_eq ?_))
def B.num (l : List UInt8) : Nat := l.foldl (fun n c => n * 256 + c.toNat) 0
theorem B.num_snoc (l : List UInt8) (c : UInt8) : num (l ++ [c]) = num l * 256 + c.toNat := by unfold num; rw [List.foldl_append]; rfl
theorem B.fold_lt : ∀ (l : List UInt8) (a k : Nat), a < 256 ^ k → l.foldl (fun n c => n * 256 + c.toNat) a < 256 ^ (k + l.length)
  | [], a, k, h => h
  | c :: l, a, k, h => by
    rw [List.foldl_cons, List.length_cons, show k + (l.length + 1) = (k + 1) + l.length by omega]
    refine B.fold_lt l _ _ ?_
    have := c.toNat_lt
    rw [Nat.pow_succ]; omega
theorem B.num_lt (l : List UInt8) : num l < 256 ^ l.length := by
  have := B.fold_lt l 0 0 (by decide)
  rwa [Nat.zero_add] at this
theorem or_byte (n c : Nat) (hn : n < 72057594037927936) (hc : c < 256) : bits .or .u64 ((n * 256 : Nat) : Int) (c : Int) = ((n * 256 + c : Nat) : Int) := by
  rw [u64_or_nat _ _ (by omega) (by omega)]
  have := Nat.shiftLeft_add_eq_or_of_lt (i := 8) (b := c) (by omega) n
  rw [Nat.shiftLeft_eq] at this
  rw [← this]
theorem binNumberF (o : Own) (l : List UInt8) (hl : l.length ≤ 8) (st : St) : TrF Tryz.prog 172 [.sl o (l.map encB)] st fun x st' => x = .s (.int .u64 (num l : Nat)) ∧ st' = st := by
  refine trF_enter (ts := [2]) Tryz.func172 rfl (by rw [Tryz.ntmps172]; exact Nat.le_of_ble_eq_true rfl) (fun tmps w => by simp [results, Tryz.results172, go_sem, resVal]) ?_
  simp only [Tryz.ntmps172]
  repeat' (first | with_reducible refine Go1.go ?_ | ((with_reducible apply ev_go); (focus ((try simp (disch := omega) only [push_cast, simprocAttr, RS.cells, RS.fail, RS.cut, Int.reducePow, *]); (try exact rfl); done))) | ((with_reducible refine w_last ?_ ?_ ?_); kernel_rfl; rfl) | with_reducible refine Go2.go ?_ | ((with_reducible first | apply w_stepG | refine s_bi ?_ ?_ | refine blk_ne ?_ ?_); rfl) | ((with_reducible refine al_go ?_); intro b) | ((with_reducible apply a2_go); (focus (first | assumption | (intro h; cases h))); (focus (intro o'; repeat (first | exact ra_h | apply ra_t))); (iterate 2 (focus (first | assumption | exact len_nil | exact len_one rfl | (intro a ha; obtain ⟨x, -, rfl⟩ := List.mem_map.1 ha; first | rfl | simp) | (intro a ha; simp at ha; simp [ha])))); (iterate 2 (focus (first | omega | (simp only [List.length_map, List.length_cons, List.length_nil, List.length_append]; omega)))); intro o' ho') | ((with_reducible apply p2_go); (focus (first | assumption | (intro h; cases h))); (focus (intro o'; repeat (first | exact ra_h | apply ra_t))); (focus (first | assumption | exact len_nil | exact len_one rfl | (intro a ha; obtain ⟨x, -, rfl⟩ := List.mem_map.1 ha; first | rfl | simp) | (intro a ha; simp at ha; simp [ha]))); (iterate 2 (focus (first | omega | (simp only [List.length_map, List.length_cons, List.length_nil, List.length_append]; omega)))); intro o' ho') | ((with_reducible first | refine w_region ?_ ?_ | refine w_dra ?_ ?_); kernel_rfl) | ((with_reducible refine Go3.go ?_ ?_); all_goals (intro hb; (try with_reducible intro hb1); (try (exfalso; first | contradiction | omega)))) | fail)
  refine tr_loop (ι := Nat) (fun i A st' => i ≤ l.length ∧ A.df = [] ∧ A.e 3 = .s (.int .u64 (num (l.take i) : Nat)) ∧ A.e 6 = .sl o (l.map encB) ∧ A.e 7 = .i l.length ∧ A.e 8 = .i i ∧ st = st') (fun i => l.length - i) 0 ⟨Nat.zero_le _, ?_, ?_, ?_, ?_, ?_, rfl⟩ ?_
  iterate 5 (focus (first | rfl | assumption | omega | (simp (disch := omega) only [push_cast, simprocAttr, RS.cells, RS.fail, RS.cut, Int.reducePow, *]; try omega; done)))
  rintro i A st' ⟨hi, hdf, e3, e6, e7, e8, rfl⟩
  by_cases hlt : i < l.length
  · obtain ⟨x, hx⟩ : ∃ x, l[i]? = some x := ⟨_, List.getElem?_eq_getElem hlt⟩
    have hs : num (l.take (i + 1)) = num (l.take i) * 256 + x.toNat := by rw [List.take_succ, hx]; exact num_snoc _ _
    have hn : num (l.take i) < 72057594037927936 := by
      have h1 := num_lt (l.take i)
      rw [List.length_take, Nat.min_eq_left hi] at h1
      exact Nat.lt_of_lt_of_le h1 (Nat.pow_le_pow_right (by omega) (show i ≤ 7 by omega))
    have hx2 := x.toNat_lt
    have hor := or_byte (num (l.take i)) x.toNat hn hx2
    have hw1 : IntKind.u64.wrap (((num (l.take i) : Nat) : Int) * 256) = ((num (l.take i) * 256 : Nat) : Int) := by
      simp [IntKind.wrap, IntKind.bits, IntKind.signed]; omega
    have hw2 : IntKind.u64.wrap (x.toNat : Int) = x.toNat := by
      simp [IntKind.wrap, IntKind.bits, IntKind.signed]; omega
    rw [← hs, Int.natCast_mul] at hor
    rw [Int.natCast_mul] at hw1
    replace hor : bits .or .u64 ((num (l.take i) : Int) * 256) (x.toNat : Int) = (num (l.take (i + 1)) : Nat) := hor
    replace hw1 : IntKind.u64.wrap (((num (l.take i) : Nat) : Int) * 256) = ((num (l.take i) : Nat) : Int) * 256 := hw1
    clear hs
    generalize num (l.take i) = q0 at *
    repeat' (first | with_reducible refine Go1.go ?_ | ((with_reducible apply ev_go); (focus ((try simp (disch := omega) only [push_cast, simprocAttr, RS.cells, RS.fail, RS.cut, Int.reducePow, *]); (try exact rfl); done))) | ((with_reducible refine w_last ?_ ?_ ?_); kernel_rfl; rfl) | with_reducible refine Go2.go ?_ | ((with_reducible first | apply w_stepG | refine s_bi ?_ ?_ | refine blk_ne ?_ ?_); rfl) | ((with_reducible refine al_go ?_); intro b) | ((with_reducible apply a2_go); (focus (first | assumption | (intro h; cases h))); (focus (intro o'; repeat (first | exact ra_h | apply ra_t))); (iterate 2 (focus (first | assumption | exact len_nil | exact len_one rfl | (intro a ha; obtain ⟨x, -, rfl⟩ := List.mem_map.1 ha; first | rfl | simp) | (intro a ha; simp at ha; simp [ha])))); (iterate 2 (focus (first | omega | (simp only [List.length_map, List.length_cons, List.length_nil, List.length_append]; omega)))); intro o' ho') | ((with_reducible apply p2_go); (focus (first | assumption | (intro h; cases h))); (focus (intro o'; repeat (first | exact ra_h | apply ra_t))); (focus (first | assumption | exact len_nil | exact len_one rfl | (intro a ha; obtain ⟨x, -, rfl⟩ := List.mem_map.1 ha; first | rfl | simp) | (intro a ha; simp at ha; simp [ha]))); (iterate 2 (focus (first | omega | (simp only [List.length_map, List.length_cons, List.length_nil, List.length_append]; omega)))); intro o' ho') | ((with_reducible first | refine w_region ?_ ?_ | refine w_dra ?_ ?_); kernel_rfl) | ((with_reducible refine Go3.go ?_ ?_); all_goals (intro hb; (try with_reducible intro hb1); (try (exfalso; first | contradiction | omega)))) | fail)
    refine ⟨i + 1, ⟨hlt, ?_, ?_, ?_, ?_, ?_, rfl⟩, ?_⟩
    all_goals (first | rfl | assumption | omega | (simp (disch := omega) only [push_cast, simprocAttr, RS.cells, RS.fail, RS.cut, Int.reducePow, *]; try omega; done))
  · rw [List.take_of_length_le (by omega)] at e3
    repeat' (first | with_reducible refine Go1.go ?_ | ((with_reducible apply ev_go); (focus ((try simp (disch := omega) only [push_cast, simprocAttr, RS.cells, RS.fail, RS.cut, Int.reducePow, *]); (try exact rfl); done))) | ((with_reducible refine w_last ?_ ?_ ?_); kernel_rfl; rfl) | with_reducible refine Go2.go ?_ | ((with_reducible first | apply w_stepG | refine s_bi ?_ ?_ | refine blk_ne ?_ ?_); rfl) | ((with_reducible refine al_go ?_); intro b) | ((with_reducible apply a2_go); (focus (first | assumption | (intro h; cases h))); (focus (intro o'; repeat (first | exact ra_h | apply ra_t))); (iterate 2 (focus (first | assumption | exact len_nil | exact len_one rfl | (intro a ha; obtain ⟨x, -, rfl⟩ := List.mem_map.1 ha; first | rfl | simp) | (intro a ha; simp at ha; simp [ha])))); (iterate 2 (focus (first | omega | (simp only [List.length_map, List.length_cons, List.length_nil, List.length_append]; omega)))); intro o' ho') | ((with_reducible apply p2_go); (focus (first | assumption | (intro h; cases h))); (focus (intro o'; repeat (first | exact ra_h | apply ra_t))); (focus (first | assumption | exact len_nil | exact len_one rfl | (intro a ha; obtain ⟨x, -, rfl⟩ := List.mem_map.1 ha; first | rfl | simp) | (intro a ha; simp at ha; simp [ha]))); (iterate 2 (focus (first | omega | (simp only [List.length_map, List.length_cons, List.length_nil, List.length_append]; omega)))); intro o' ho') | ((with_reducible first | refine w_region ?_ ?_ | refine w_dra ?_ ?_); kernel_rfl) | ((with_reducible refine Go3.go ?_ ?_); all_goals (intro hb; (try with_reducible intro hb1); (try (exfalso; first | contradiction | omega)))) | fail)
    all_goals (refine ret_eq (by simp) (by first | rfl | assumption) (by (repeat (first | exact List.Sublist.refl _ | apply List.Sublist.cons))) ?_; (try simp (disch := omega) only [push_cast, simprocAttr, RS.cells, RS.fail, RS.cut, Int.reducePow, *]); try (first | exact LE.refl _ | exact LE.sl _ _ | ((first | refine LE.tup ?_ | refine LE.agg ?_); (repeat' (first | exact LEL.nil | refine LEL.cons ?_ ?_ | exact LE.refl _ | exact LE.sl _ _ | refine LE.agg ?_)); done) | refine LE.of_eq ?_))
theorem rdByte1F (o : Own) (c : UInt8) (l : List UInt8) (st : St) : TrF Tryz.prog 166 [.sl o ((c :: l).map encB)] st fun x st' => x = .tup [.i c.toNat, .b true] ∧ st' = st := by
  have hw := c.toNat_lt
  refine trF_enter (ts := [2,3]) Tryz.func166 rfl (by rw [Tryz.ntmps166]; exact Nat.le_of_ble_eq_true rfl) (fun tmps w => by simp [results, Tryz.results166, go_sem, resVal]) ?_
  simp only [Tryz.ntmps166]
  repeat' (first | with_reducible refine Go1.go ?_ | ((with_reducible apply ev_go); (focus ((try simp (disch := omega) only [push_cast, simprocAttr, RS.cells, RS.fail, RS.cut, Int.reducePow, *]); (try exact rfl); done))) | ((with_reducible refine w_last ?_ ?_ ?_); kernel_rfl; rfl) | with_reducible refine Go2.go ?_ | ((with_reducible first | apply w_stepG | refine s_bi ?_ ?_ | refine blk_ne ?_ ?_); rfl) | ((with_reducible refine al_go ?_); intro b) | ((with_reducible apply a2_go); (focus (first | assumption | (intro h; cases h))); (focus (intro o'; repeat (first | exact ra_h | apply ra_t))); (iterate 2 (focus (first | assumption | exact len_nil | exact len_one rfl | (intro a ha; obtain ⟨x, -, rfl⟩ := List.mem_map.1 ha; first | rfl | simp) | (intro a ha; simp at ha; simp [ha])))); (iterate 2 (focus (first | omega | (simp only [List.length_map, List.length_cons, List.length_nil, List.length_append]; omega)))); intro o' ho') | ((with_reducible apply p2_go); (focus (first | assumption | (intro h; cases h))); (focus (intro o'; repeat (first | exact ra_h | apply ra_t))); (focus (first | assumption | exact len_nil | exact len_one rfl | (intro a ha; obtain ⟨x, -, rfl⟩ := List.mem_map.1 ha; first | rfl | simp) | (intro a ha; simp at ha; simp [ha]))); (iterate 2 (focus (first | omega | (simp only [List.length_map, List.length_cons, List.length_nil, List.length_append]; omega)))); intro o' ho') | ((with_reducible first | refine w_region ?_ ?_ | refine w_dra ?_ ?_); kernel_rfl) | ((with_reducible refine Go3.go ?_ ?_); all_goals (intro hb; (try with_reducible intro hb1); (try (exfalso; first | contradiction | omega)))) | fail)
  all_goals (refine ret_eq (by simp) (by first | rfl | assumption) (by (repeat (first | exact List.Sublist.refl _ | apply List.Sublist.cons))) ?_; (try simp (disch := omega) only [push_cast, simprocAttr, RS.cells, RS.fail, RS.cut, Int.reducePow, *]); try (first | exact LE.refl _ | exact LE.sl _ _ | ((first | refine LE.tup ?_ | refine LE.agg ?_); (repeat' (first | exact LEL.nil | refine LEL.cons ?_ ?_ | exact LE.refl _ | exact LE.sl _ _ | refine LE.agg ?_)); done) | refine LE.of_eq ?_))
theorem rdNum1F (o : Own) (l : List UInt8) (hl : l.length = 4) (st : St) : TrF Tryz.prog 179 [.sl o (l.map encB)] st fun x st' => x = .tup [.i (num l), .b (decide ((num l : Int) ≤ 2147483647))] ∧ st' = st := by
  have h1 : num l < 4294967296 := by
    have := num_lt l
    rw [hl] at this; exact this
  have hN := Lib.hid (binNumberF o l (by omega))
  generalize num l = q at *
  clear hl
  refine trF_enter (ts := [2,3]) Tryz.func179 rfl (by rw [Tryz.ntmps179]; exact Nat.le_of_ble_eq_true rfl) (fun tmps w => by simp [results, Tryz.results179, go_sem, resVal]) ?_
  simp only [Tryz.ntmps179]
  repeat' (first | with_reducible refine Go1.go ?_ | ((with_reducible apply ev_go); (focus ((try simp (disch := omega) only [push_cast, simprocAttr, RS.cells, RS.fail, RS.cut, Int.reducePow, *]); (try exact rfl); done))) | ((with_reducible refine w_last ?_ ?_ ?_); kernel_rfl; rfl) | with_reducible refine Go2.go ?_ | ((with_reducible first | apply w_stepG | refine s_bi ?_ ?_ | refine blk_ne ?_ ?_); rfl) | ((with_reducible refine al_go ?_); intro b) | ((with_reducible apply (ck_le Tryz.call172)); exact LEL.refl _; exact hN.out _) | ((with_reducible apply a2_go); (focus (first | assumption | (intro h; cases h))); (focus (intro o'; repeat (first | exact ra_h | apply ra_t))); (iterate 2 (focus (first | assumption | exact len_nil | exact len_one rfl | (intro a ha; obtain ⟨x, -, rfl⟩ := List.mem_map.1 ha; first | rfl | simp) | (intro a ha; simp at ha; simp [ha])))); (iterate 2 (focus (first | omega | (simp only [List.length_map, List.length_cons, List.length_nil, List.length_append]; omega)))); intro o' ho') | ((with_reducible apply p2_go); (focus (first | assumption | (intro h; cases h))); (focus (intro o'; repeat (first | exact ra_h | apply ra_t))); (focus (first | assumption | exact len_nil | exact len_one rfl | (intro a ha; obtain ⟨x, -, rfl⟩ := List.mem_map.1 ha; first | rfl | simp) | (intro a ha; simp at ha; simp [ha]))); (iterate 2 (focus (first | omega | (simp only [List.length_map, List.length_cons, List.length_nil, List.length_append]; omega)))); intro o' ho') | ((with_reducible first | refine w_region ?_ ?_ | refine w_dra ?_ ?_); kernel_rfl) | ((with_reducible refine Go3.go ?_ ?_); all_goals (intro hb; (try with_reducible intro hb1); (try (exfalso; first | contradiction | omega)))) | fail)
  all_goals (refine ret_eq (by simp) (by first | rfl | assumption) (by (repeat (first | exact List.Sublist.refl _ | apply List.Sublist.cons))) ?_; (try simp (disch := omega) only [push_cast, simprocAttr, RS.cells, RS.fail, RS.cut, Int.reducePow, *]); try (first | exact LE.refl _ | exact LE.sl _ _ | ((first | refine LE.tup ?_ | refine LE.agg ?_); (repeat' (first | exact LEL.nil | refine LEL.cons ?_ ?_ | exact LE.refl _ | exact LE.sl _ _ | refine LE.agg ?_)); done) | refine LE.of_eq ?_))
  all_goals (first | rfl | assumption | omega | (simp (disch := omega) only [push_cast, simprocAttr, RS.cells, RS.fail, RS.cut, Int.reducePow, *]; try omega; done))
theorem rdLong1F (o : Own) (l : List UInt8) (hl : l.length = 8) (st : St) : TrF Tryz.prog 171 [.sl o (l.map encB)] st fun x st' => x = .tup [.i (IntKind.i64.wrap (num l)), .b true] ∧ st' = st := by
  have hN := Lib.hid (binNumberF o l (by omega))
  generalize num l = q at *
  clear hl
  refine trF_enter (ts := [2,3]) Tryz.func171 rfl (by rw [Tryz.ntmps171]; exact Nat.le_of_ble_eq_true rfl) (fun tmps w => by simp [results, Tryz.results171, go_sem, resVal]) ?_
  simp only [Tryz.ntmps171]
  repeat' (first | with_reducible refine Go1.go ?_ | ((with_reducible apply ev_go); (focus ((try simp (disch := omega) only [push_cast, simprocAttr, RS.cells, RS.fail, RS.cut, Int.reducePow, *]); (try exact rfl); done))) | ((with_reducible refine w_last ?_ ?_ ?_); kernel_rfl; rfl) | with_reducible refine Go2.go ?_ | ((with_reducible first | apply w_stepG | refine s_bi ?_ ?_ | refine blk_ne ?_ ?_); rfl) | ((with_reducible refine al_go ?_); intro b) | ((with_reducible apply (ck_le Tryz.call172)); exact LEL.refl _; exact hN.out _) | ((with_reducible apply a2_go); (focus (first | assumption | (intro h; cases h))); (focus (intro o'; repeat (first | exact ra_h | apply ra_t))); (iterate 2 (focus (first | assumption | exact len_nil | exact len_one rfl | (intro a ha; obtain ⟨x, -, rfl⟩ := List.mem_map.1 ha; first | rfl | simp) | (intro a ha; simp at ha; simp [ha])))); (iterate 2 (focus (first | omega | (simp only [List.length_map, List.length_cons, List.length_nil, List.length_append]; omega)))); intro o' ho') | ((with_reducible apply p2_go); (focus (first | assumption | (intro h; cases h))); (focus (intro o'; repeat (first | exact ra_h | apply ra_t))); (focus (first | assumption | exact len_nil | exact len_one rfl | (intro a ha; obtain ⟨x, -, rfl⟩ := List.mem_map.1 ha; first | rfl | simp) | (intro a ha; simp at ha; simp [ha]))); (iterate 2 (focus (first | omega | (simp only [List.length_map, List.length_cons, List.length_nil, List.length_append]; omega)))); intro o' ho') | ((with_reducible first | refine w_region ?_ ?_ | refine w_dra ?_ ?_); kernel_rfl) | ((with_reducible refine Go3.go ?_ ?_); all_goals (intro hb; (try with_reducible intro hb1); (try (exfalso; first | contradiction | omega)))) | fail)
  all_goals (refine ret_eq (by simp) (by first | rfl | assumption) (by (repeat (first | exact List.Sublist.refl _ | apply List.Sublist.cons))) ?_; (try simp (disch := omega) only [push_cast, simprocAttr, RS.cells, RS.fail, RS.cut, Int.reducePow, *]); try (first | exact LE.refl _ | exact LE.sl _ _ | ((first | refine LE.tup ?_ | refine LE.agg ?_); (repeat' (first | exact LEL.nil | refine LEL.cons ?_ ?_ | exact LE.refl _ | exact LE.sl _ _ | refine LE.agg ?_)); done) | refine LE.of_eq ?_))
theorem rdText1F (o : Own) (l : List UInt8) (st : St) : TrF Tryz.prog 144 [.sl o (l.map encB)] st fun x st' => x = .tup [.str ⟨l.toArray⟩, .b true] ∧ st' = st := by
  refine trF_enter (ts := [2,3]) Tryz.func144 rfl (by rw [Tryz.ntmps144]; exact Nat.le_of_ble_eq_true rfl) (fun tmps w => by simp [results, Tryz.results144, go_sem, resVal]) ?_
  simp only [Tryz.ntmps144]
  repeat' (first | with_reducible refine Go1.go ?_ | ((with_reducible apply ev_go); (focus ((try simp (disch := omega) only [push_cast, simprocAttr, RS.cells, RS.fail, RS.cut, Int.reducePow, *]); (try exact rfl); done))) | ((with_reducible refine w_last ?_ ?_ ?_); kernel_rfl; rfl) | with_reducible refine Go2.go ?_ | ((with_reducible first | apply w_stepG | refine s_bi ?_ ?_ | refine blk_ne ?_ ?_); rfl) | ((with_reducible refine al_go ?_); intro b) | ((with_reducible apply a2_go); (focus (first | assumption | (intro h; cases h))); (focus (intro o'; repeat (first | exact ra_h | apply ra_t))); (iterate 2 (focus (first | assumption | exact len_nil | exact len_one rfl | (intro a ha; obtain ⟨x, -, rfl⟩ := List.mem_map.1 ha; first | rfl | simp) | (intro a ha; simp at ha; simp [ha])))); (iterate 2 (focus (first | omega | (simp only [List.length_map, List.length_cons, List.length_nil, List.length_append]; omega)))); intro o' ho') | ((with_reducible apply p2_go); (focus (first | assumption | (intro h; cases h))); (focus (intro o'; repeat (first | exact ra_h | apply ra_t))); (focus (first | assumption | exact len_nil | exact len_one rfl | (intro a ha; obtain ⟨x, -, rfl⟩ := List.mem_map.1 ha; first | rfl | simp) | (intro a ha; simp at ha; simp [ha]))); (iterate 2 (focus (first | omega | (simp only [List.length_map, List.length_cons, List.length_nil, List.length_append]; omega)))); intro o' ho') | ((with_reducible first | refine w_region ?_ ?_ | refine w_dra ?_ ?_); kernel_rfl) | ((with_reducible refine Go3.go ?_ ?_); all_goals (intro hb; (try with_reducible intro hb1); (try (exfalso; first | contradiction | omega)))) | fail)
  all_goals (refine ret_eq (by simp) (by first | rfl | assumption) (by (repeat (first | exact List.Sublist.refl _ | apply List.Sublist.cons))) ?_; (try simp (disch := omega) only [push_cast, simprocAttr, RS.cells, RS.fail, RS.cut, Int.reducePow, *]); try (first | exact LE.refl _ | exact LE.sl _ _ | ((first | refine LE.tup ?_ | refine LE.agg ?_); (repeat' (first | exact LEL.nil | refine LEL.cons ?_ ?_ | exact LE.refl _ | exact LE.sl _ _ | refine LE.agg ?_)); done) | refine LE.of_eq ?_))
end Go.Proofs.YtgcienlfpnpbgaaGreat
end

section
namespace Go.Proofs.YtgcienlfpnpbgaaGreat
set_option linter.unusedSimpArgs false
attribute [local push_cast] encB encI RS.cells RS.fail RS.cut Nat.mul_one
open Go.RowKit B
set_option maxRecDepth 10000
set_option maxHeartbeats 4000000
namespace RS
def byte (s : RS) : Int × RS := if s.bad = true then (0, fail) else match s.l with
  | [] => (0, fail)
  | c :: _ => (c.toNat, s.cut 1)
def rnum (s : RS) : Int × RS := if s.bad = true ∨ s.l.length < 4 then (0, fail) else if num (s.l.take 4) ≤ 2147483647 then (num (s.l.take 4), s.cut 4) else (0, fail)
def long (s : RS) : Int × RS := if s.bad = true ∨ s.l.length < 8 then (0, fail) else (IntKind.i64.wrap (num (s.l.take 8)), s.cut 8)
def textN (s : RS) (n : Int) : ByteArray × RS := if s.bad = true ∨ n < 0 ∨ s.l.length < n then (⟨#[]⟩, fail) else (⟨(s.l.take n.toNat).toArray⟩, s.cut n.toNat)
def text (s : RS) : ByteArray × RS := s.rnum.2.textN s.rnum.1
end RS
theorem takeByteF (b : Nat) (s : RS) (st : St) : TrF Tryz.prog 165 [.ptr b 0, .i 1, .fn (.func 166) [] []] (rdR b s :: st) fun x st' => x = .i s.byte.1 ∧ st' = rdR b s.byte.2 :: st := by
  obtain ⟨o, l, bad⟩ := s
  have hB := Lib.hid (rdBadF b ⟨o, l, bad⟩)
  have hF := Lib.hid (rdFailF b ⟨o, l, bad⟩)
  cases bad with
  | true =>
    show TrF _ _ _ _ fun x st' => x = .i 0 ∧ st' = rdR b .fail :: st
    refine trF_enter (ts := [6]) Tryz.func165 rfl (by rw [Tryz.ntmps165]; exact Nat.le_of_ble_eq_true rfl) (fun tmps w => by simp [results, Tryz.results165, go_sem, resVal]) ?_
    simp only [Tryz.ntmps165]
    repeat' (first | with_reducible refine Go1.go ?_ | ((with_reducible apply ev_go); (focus ((try simp (disch := omega) only [push_cast, simprocAttr, *]); (try exact rfl); done))) | ((with_reducible refine w_last ?_ ?_ ?_); kernel_rfl; rfl) | with_reducible refine Go2.go ?_ | ((with_reducible first | apply w_stepG | refine s_bi ?_ ?_ | refine blk_ne ?_ ?_); rfl) | ((with_reducible refine al_go ?_); intro b) | ((with_reducible apply (ck_le Tryz.call80)); exact LEL.refl _; exact hB.out _) | ((with_reducible apply (ck_le Tryz.call169)); exact LEL.refl _; exact hF.out _) | ((with_reducible first | refine w_region ?_ ?_ | refine w_dra ?_ ?_); kernel_rfl) | ((with_reducible refine Go3.go ?_ ?_); all_goals (intro hb; (try with_reducible intro hb1); (try (exfalso; first | contradiction | omega)))) | fail)
    all_goals (refine ret_eq (by simp) (by first | rfl | assumption) (by (repeat (first | exact List.Sublist.refl _ | apply List.Sublist.cons))) ?_; (try simp (disch := omega) only [push_cast, simprocAttr, *]); try (first | exact LE.refl _ | exact LE.sl _ _ | ((first | refine LE.tup ?_ | refine LE.agg ?_); (repeat' (first | exact LEL.nil | refine LEL.cons ?_ ?_ | exact LE.refl _ | exact LE.sl _ _ | refine LE.agg ?_)); done) | refine LE.of_eq ?_))
  | false =>
    cases l with
    | nil =>
      show TrF _ _ _ _ fun x st' => x = .i 0 ∧ st' = rdR b .fail :: st
      refine trF_enter (ts := [6]) Tryz.func165 rfl (by rw [Tryz.ntmps165]; exact Nat.le_of_ble_eq_true rfl) (fun tmps w => by simp [results, Tryz.results165, go_sem, resVal]) ?_
      simp only [Tryz.ntmps165]
      repeat' (first | with_reducible refine Go1.go ?_ | ((with_reducible apply ev_go); (focus ((try simp (disch := omega) only [push_cast, simprocAttr, *]); (try exact rfl); done))) | ((with_reducible refine w_last ?_ ?_ ?_); kernel_rfl; rfl) | with_reducible refine Go2.go ?_ | ((with_reducible first | apply w_stepG | refine s_bi ?_ ?_ | refine blk_ne ?_ ?_); rfl) | ((with_reducible refine al_go ?_); intro b) | ((with_reducible apply (ck_le Tryz.call80)); exact LEL.refl _; exact hB.out _) | ((with_reducible apply (ck_le Tryz.call169)); exact LEL.refl _; exact hF.out _) | ((with_reducible first | refine w_region ?_ ?_ | refine w_dra ?_ ?_); kernel_rfl) | ((with_reducible refine Go3.go ?_ ?_); all_goals (intro hb; (try with_reducible intro hb1); (try (exfalso; first | contradiction | omega)))) | fail)
      all_goals (refine ret_eq (by simp) (by first | rfl | assumption) (by (repeat (first | exact List.Sublist.refl _ | apply List.Sublist.cons))) ?_; (try simp (disch := omega) only [push_cast, simprocAttr, *]); try (first | exact LE.refl _ | exact LE.sl _ _ | ((first | refine LE.tup ?_ | refine LE.agg ?_); (repeat' (first | exact LEL.nil | refine LEL.cons ?_ ?_ | exact LE.refl _ | exact LE.sl _ _ | refine LE.agg ?_)); done) | refine LE.of_eq ?_))
    | cons c t =>
      show TrF _ _ _ _ fun x st' => x = .i c.toNat ∧ st' = rdR b ⟨.shared, t, false⟩ :: st
      have hlt : ¬ ((t.length : Int) + 1 < 1) := by omega
      have htk : List.take t.length (List.map encB t) = List.map encB t := List.take_of_length_le (by simp)
      refine trF_enter (ts := [6]) Tryz.func165 rfl (by rw [Tryz.ntmps165]; exact Nat.le_of_ble_eq_true rfl) (fun tmps w => by simp [results, Tryz.results165, go_sem, resVal]) ?_
      simp only [Tryz.ntmps165]
      repeat' (first | with_reducible refine Go1.go ?_ | ((with_reducible apply ev_go); (focus ((try simp (disch := omega) only [push_cast, simprocAttr, *]); (try exact rfl); done))) | ((with_reducible refine w_last ?_ ?_ ?_); kernel_rfl; rfl) | with_reducible refine Go2.go ?_ | ((with_reducible first | apply w_stepG | refine s_bi ?_ ?_ | refine blk_ne ?_ ?_); rfl) | ((with_reducible refine al_go ?_); intro b) | ((with_reducible apply (ck_le Tryz.call80)); exact LEL.refl _; exact hB.out _) | ((with_reducible apply (ck_le Tryz.call169)); exact LEL.refl _; exact hF.out _) | ((with_reducible apply (ck_le Tryz.call166)); exact LEL.refl _; exact rdByte1F _ c [] _) | ((with_reducible first | refine w_region ?_ ?_ | refine w_dra ?_ ?_); kernel_rfl) | ((with_reducible refine Go3.go ?_ ?_); all_goals (intro hb; (try with_reducible intro hb1); (try (exfalso; first | contradiction | omega)))) | fail)
      all_goals (refine ret_eq (by simp) (by first | rfl | assumption) (by (repeat (first | exact List.Sublist.refl _ | apply List.Sublist.cons))) ?_; (try simp (disch := omega) only [push_cast, simprocAttr, *]); try (first | exact LE.refl _ | exact LE.sl _ _ | ((first | refine LE.tup ?_ | refine LE.agg ?_); (repeat' (first | exact LEL.nil | refine LEL.cons ?_ ?_ | exact LE.refl _ | exact LE.sl _ _ | refine LE.agg ?_)); done) | refine LE.of_eq ?_))

theorem takeNumF (b : Nat) (o : Own) (l p t : List UInt8) (hl : p ++ t = l) (hp : p.length = 4) (hx : num p ≤ 2147483647) (st : St) : TrF Tryz.prog 165 [.ptr b 0, .i 4, .fn (.func 179) [] []] (rdR b ⟨o, l, false⟩ :: st) fun x st' => x = .i (num p) ∧ st' = rdR b ⟨.shared, t, false⟩ :: st := by
  have hB := Lib.hid (rdBadF b ⟨o, l, false⟩)
  have hC := fun o => rdNum1F o p hp
  have hx : ((num p : Nat) : Int) ≤ 2147483647 := by omega
  have hln : l.length = 4 + t.length := by rw [← hl, List.length_append, hp]
  have hT : List.take 4 (List.map encB l) = List.map encB p := by rw [← List.map_take, ← hl, ← hp, List.take_left]
  have hD : List.drop 4 (List.map encB l) = List.map encB t := by rw [← List.map_drop, ← hl, ← hp, List.drop_left]
  have hTT : List.take t.length (List.map encB t) = List.map encB t := List.take_of_length_le (by simp)
  replace hC := Lib.hid hC
  clear hl
  generalize num p = q at *
  refine trF_enter (ts := [6]) Tryz.func165 rfl (by rw [Tryz.ntmps165]; exact Nat.le_of_ble_eq_true rfl) (fun tmps w => by simp [results, Tryz.results165, go_sem, resVal]) ?_
  simp only [Tryz.ntmps165]
  repeat' (first | with_reducible refine Go1.go ?_ | ((with_reducible apply ev_go); (focus ((try simp (disch := omega) only [push_cast, simprocAttr, *]); (try exact rfl); done))) | ((with_reducible refine w_last ?_ ?_ ?_); kernel_rfl; rfl) | with_reducible refine Go2.go ?_ | ((with_reducible first | apply w_stepG | refine s_bi ?_ ?_ | refine blk_ne ?_ ?_); rfl) | ((with_reducible refine al_go ?_); intro b) | ((with_reducible apply (ck_le Tryz.call80)); exact LEL.refl _; exact hB.out _) | ((with_reducible apply (ck_le Tryz.call179)); exact LEL.refl _; exact hC.out _ _) | ((with_reducible apply a2_go); (focus (first | assumption | (intro h; cases h))); (focus (intro o'; repeat (first | exact ra_h | apply ra_t))); (iterate 2 (focus (first | assumption | exact len_nil | exact len_one rfl | (intro a ha; obtain ⟨x, -, rfl⟩ := List.mem_map.1 ha; first | rfl | simp) | (intro a ha; simp at ha; simp [ha])))); (iterate 2 (focus (first | omega | (simp only [List.length_map, List.length_cons, List.length_nil, List.length_append]; omega)))); intro o' ho') | ((with_reducible apply p2_go); (focus (first | assumption | (intro h; cases h))); (focus (intro o'; repeat (first | exact ra_h | apply ra_t))); (focus (first | assumption | exact len_nil | exact len_one rfl | (intro a ha; obtain ⟨x, -, rfl⟩ := List.mem_map.1 ha; first | rfl | simp) | (intro a ha; simp at ha; simp [ha]))); (iterate 2 (focus (first | omega | (simp only [List.length_map, List.length_cons, List.length_nil, List.length_append]; omega)))); intro o' ho') | ((with_reducible first | refine w_region ?_ ?_ | refine w_dra ?_ ?_); kernel_rfl) | ((with_reducible refine Go3.go ?_ ?_); all_goals (intro hb; (try with_reducible intro hb1); (try (exfalso; first | contradiction | omega)))) | fail)
  all_goals (refine ret_eq (by simp) (by first | rfl | assumption) (by (repeat (first | exact List.Sublist.refl _ | apply List.Sublist.cons))) ?_; (try simp (disch := omega) only [push_cast, simprocAttr, *]); try (first | exact LE.refl _ | exact LE.sl _ _ | ((first | refine LE.tup ?_ | refine LE.agg ?_); (repeat' (first | exact LEL.nil | refine LEL.cons ?_ ?_ | exact LE.refl _ | exact LE.sl _ _ | refine LE.agg ?_)); done) | refine LE.of_eq ?_))

theorem takeLongF (b : Nat) (o : Own) (l p t : List UInt8) (hl : p ++ t = l) (hp : p.length = 8) (st : St) : TrF Tryz.prog 170 [.ptr b 0, .i 8, .fn (.func 171) [] []] (rdR b ⟨o, l, false⟩ :: st) fun x st' => x = .i (IntKind.i64.wrap (num p)) ∧ st' = rdR b ⟨.shared, t, false⟩ :: st := by
  have hB := Lib.hid (rdBadF b ⟨o, l, false⟩)
  have hC := fun o => rdLong1F o p hp
  skip
  have hln : l.length = 8 + t.length := by rw [← hl, List.length_append, hp]
  have hT : List.take 8 (List.map encB l) = List.map encB p := by rw [← List.map_take, ← hl, ← hp, List.take_left]
  have hD : List.drop 8 (List.map encB l) = List.map encB t := by rw [← List.map_drop, ← hl, ← hp, List.drop_left]
  have hTT : List.take t.length (List.map encB t) = List.map encB t := List.take_of_length_le (by simp)
  replace hC := Lib.hid hC
  clear hl
  generalize num p = q at *
  refine trF_enter (ts := [6]) Tryz.func170 rfl (by rw [Tryz.ntmps170]; exact Nat.le_of_ble_eq_true rfl) (fun tmps w => by simp [results, Tryz.results170, go_sem, resVal]) ?_
  simp only [Tryz.ntmps170]
  repeat' (first | with_reducible refine Go1.go ?_ | ((with_reducible apply ev_go); (focus ((try simp (disch := omega) only [push_cast, simprocAttr, *]); (try exact rfl); done))) | ((with_reducible refine w_last ?_ ?_ ?_); kernel_rfl; rfl) | with_reducible refine Go2.go ?_ | ((with_reducible first | apply w_stepG | refine s_bi ?_ ?_ | refine blk_ne ?_ ?_); rfl) | ((with_reducible refine al_go ?_); intro b) | ((with_reducible apply (ck_le Tryz.call80)); exact LEL.refl _; exact hB.out _) | ((with_reducible apply (ck_le Tryz.call171)); exact LEL.refl _; exact hC.out _ _) | ((with_reducible apply a2_go); (focus (first | assumption | (intro h; cases h))); (focus (intro o'; repeat (first | exact ra_h | apply ra_t))); (iterate 2 (focus (first | assumption | exact len_nil | exact len_one rfl | (intro a ha; obtain ⟨x, -, rfl⟩ := List.mem_map.1 ha; first | rfl | simp) | (intro a ha; simp at ha; simp [ha])))); (iterate 2 (focus (first | omega | (simp only [List.length_map, List.length_cons, List.length_nil, List.length_append]; omega)))); intro o' ho') | ((with_reducible apply p2_go); (focus (first | assumption | (intro h; cases h))); (focus (intro o'; repeat (first | exact ra_h | apply ra_t))); (focus (first | assumption | exact len_nil | exact len_one rfl | (intro a ha; obtain ⟨x, -, rfl⟩ := List.mem_map.1 ha; first | rfl | simp) | (intro a ha; simp at ha; simp [ha]))); (iterate 2 (focus (first | omega | (simp only [List.length_map, List.length_cons, List.length_nil, List.length_append]; omega)))); intro o' ho') | ((with_reducible first | refine w_region ?_ ?_ | refine w_dra ?_ ?_); kernel_rfl) | ((with_reducible refine Go3.go ?_ ?_); all_goals (intro hb; (try with_reducible intro hb1); (try (exfalso; first | contradiction | omega)))) | fail)
  all_goals (refine ret_eq (by simp) (by first | rfl | assumption) (by (repeat (first | exact List.Sublist.refl _ | apply List.Sublist.cons))) ?_; (try simp (disch := omega) only [push_cast, simprocAttr, *]); try (first | exact LE.refl _ | exact LE.sl _ _ | ((first | refine LE.tup ?_ | refine LE.agg ?_); (repeat' (first | exact LEL.nil | refine LEL.cons ?_ ?_ | exact LE.refl _ | exact LE.sl _ _ | refine LE.agg ?_)); done) | refine LE.of_eq ?_))

theorem takeTextF (b : Nat) (o : Own) (l p t : List UInt8) (n : Nat) (hl : p ++ t = l) (hp : p.length = n) (st : St) : TrF Tryz.prog 143 [.ptr b 0, .i n, .fn (.func 144) [] []] (rdR b ⟨o, l, false⟩ :: st) fun x st' => x = .str ⟨p.toArray⟩ ∧ st' = rdR b ⟨.shared, t, false⟩ :: st := by
  have hB := Lib.hid (rdBadF b ⟨o, l, false⟩)
  have hC := Lib.hid fun o => rdText1F o p
  have hln : l.length = n + t.length := by rw [← hl, List.length_append, hp]
  have hT : List.take n (List.map encB l) = List.map encB p := by rw [← List.map_take, ← hl, ← hp, List.take_left]
  have hD : List.drop n (List.map encB l) = List.map encB t := by rw [← List.map_drop, ← hl, ← hp, List.drop_left]
  have hTT : List.take t.length (List.map encB t) = List.map encB t := List.take_of_length_le (by simp)
  clear hl
  refine trF_enter (ts := [6]) Tryz.func143 rfl (by rw [Tryz.ntmps143]; exact Nat.le_of_ble_eq_true rfl) (fun tmps w => by simp [results, Tryz.results143, go_sem, resVal]) ?_
  simp only [Tryz.ntmps143]
  repeat' (first | with_reducible refine Go1.go ?_ | ((with_reducible apply ev_go); (focus ((try simp (disch := omega) only [push_cast, simprocAttr, *]); (try exact rfl); done))) | ((with_reducible refine w_last ?_ ?_ ?_); kernel_rfl; rfl) | with_reducible refine Go2.go ?_ | ((with_reducible first | apply w_stepG | refine s_bi ?_ ?_ | refine blk_ne ?_ ?_); rfl) | ((with_reducible refine al_go ?_); intro b) | ((with_reducible apply (ck_le Tryz.call80)); exact LEL.refl _; exact hB.out _) | ((with_reducible apply (ck_le Tryz.call144)); exact LEL.refl _; exact hC.out _ _) | ((with_reducible apply a2_go); (focus (first | assumption | (intro h; cases h))); (focus (intro o'; repeat (first | exact ra_h | apply ra_t))); (iterate 2 (focus (first | assumption | exact len_nil | exact len_one rfl | (intro a ha; obtain ⟨x, -, rfl⟩ := List.mem_map.1 ha; first | rfl | simp) | (intro a ha; simp at ha; simp [ha])))); (iterate 2 (focus (first | omega | (simp only [List.length_map, List.length_cons, List.length_nil, List.length_append]; omega)))); intro o' ho') | ((with_reducible apply p2_go); (focus (first | assumption | (intro h; cases h))); (focus (intro o'; repeat (first | exact ra_h | apply ra_t))); (focus (first | assumption | exact len_nil | exact len_one rfl | (intro a ha; obtain ⟨x, -, rfl⟩ := List.mem_map.1 ha; first | rfl | simp) | (intro a ha; simp at ha; simp [ha]))); (iterate 2 (focus (first | omega | (simp only [List.length_map, List.length_cons, List.length_nil, List.length_append]; omega)))); intro o' ho') | ((with_reducible first | refine w_region ?_ ?_ | refine w_dra ?_ ?_); kernel_rfl) | ((with_reducible refine Go3.go ?_ ?_); all_goals (intro hb; (try with_reducible intro hb1); (try (exfalso; first | contradiction | omega)))) | fail)
  all_goals (refine ret_eq (by simp) (by first | rfl | assumption) (by (repeat (first | exact List.Sublist.refl _ | apply List.Sublist.cons))) ?_; (try simp (disch := omega) only [push_cast, simprocAttr, *]); try (first | exact LE.refl _ | exact LE.sl _ _ | ((first | refine LE.tup ?_ | refine LE.agg ?_); (repeat' (first | exact LEL.nil | refine LEL.cons ?_ ?_ | exact LE.refl _ | exact LE.sl _ _ | refine LE.agg ?_)); done) | refine LE.of_eq ?_))

theorem takeNum0F (b : Nat) (s : RS) (h : s.bad = true ∨ (s.l.length : Int) < 4) (st : St) : TrF Tryz.prog 165 [.ptr b 0, .i 4, .fn (.func 179) [] []] (rdR b s :: st) fun x st' => x = .i 0 ∧ st' = rdR b .fail :: st := by
  obtain ⟨o, l, bad⟩ := s
  have hB := Lib.hid (rdBadF b ⟨o, l, bad⟩)
  have hF := Lib.hid (rdFailF b ⟨o, l, bad⟩)
  cases bad with
  | true =>
    clear h
    refine trF_enter (ts := [6]) Tryz.func165 rfl (by rw [Tryz.ntmps165]; exact Nat.le_of_ble_eq_true rfl) (fun tmps w => by simp [results, Tryz.results165, go_sem, resVal]) ?_
    simp only [Tryz.ntmps165]
    repeat' (first | with_reducible refine Go1.go ?_ | ((with_reducible apply ev_go); (focus ((try simp (disch := omega) only [push_cast, simprocAttr, *]); (try exact rfl); done))) | ((with_reducible refine w_last ?_ ?_ ?_); kernel_rfl; rfl) | with_reducible refine Go2.go ?_ | ((with_reducible first | apply w_stepG | refine s_bi ?_ ?_ | refine blk_ne ?_ ?_); rfl) | ((with_reducible refine al_go ?_); intro b) | ((with_reducible apply (ck_le Tryz.call80)); exact LEL.refl _; exact hB.out _) | ((with_reducible apply (ck_le Tryz.call169)); exact LEL.refl _; exact hF.out _) | ((with_reducible first | refine w_region ?_ ?_ | refine w_dra ?_ ?_); kernel_rfl) | ((with_reducible refine Go3.go ?_ ?_); all_goals (intro hb; (try with_reducible intro hb1); (try (exfalso; first | contradiction | omega)))) | fail)
    all_goals (refine ret_eq (by simp) (by first | rfl | assumption) (by (repeat (first | exact List.Sublist.refl _ | apply List.Sublist.cons))) ?_; (try simp (disch := omega) only [push_cast, simprocAttr, *]); try (first | exact LE.refl _ | exact LE.sl _ _ | ((first | refine LE.tup ?_ | refine LE.agg ?_); (repeat' (first | exact LEL.nil | refine LEL.cons ?_ ?_ | exact LE.refl _ | exact LE.sl _ _ | refine LE.agg ?_)); done) | refine LE.of_eq ?_))
  | false =>
    have h := h.resolve_left Bool.false_ne_true
    dsimp only at h
    refine trF_enter (ts := [6]) Tryz.func165 rfl (by rw [Tryz.ntmps165]; exact Nat.le_of_ble_eq_true rfl) (fun tmps w => by simp [results, Tryz.results165, go_sem, resVal]) ?_
    simp only [Tryz.ntmps165]
    repeat' (first | with_reducible refine Go1.go ?_ | ((with_reducible apply ev_go); (focus ((try simp (disch := omega) only [push_cast, simprocAttr, *]); (try exact rfl); done))) | ((with_reducible refine w_last ?_ ?_ ?_); kernel_rfl; rfl) | with_reducible refine Go2.go ?_ | ((with_reducible first | apply w_stepG | refine s_bi ?_ ?_ | refine blk_ne ?_ ?_); rfl) | ((with_reducible refine al_go ?_); intro b) | ((with_reducible apply (ck_le Tryz.call80)); exact LEL.refl _; exact hB.out _) | ((with_reducible apply (ck_le Tryz.call169)); exact LEL.refl _; exact hF.out _) | ((with_reducible first | refine w_region ?_ ?_ | refine w_dra ?_ ?_); kernel_rfl) | ((with_reducible refine Go3.go ?_ ?_); all_goals (intro hb; (try with_reducible intro hb1); (try (exfalso; first | contradiction | omega)))) | fail)
    all_goals (refine ret_eq (by simp) (by first | rfl | assumption) (by (repeat (first | exact List.Sublist.refl _ | apply List.Sublist.cons))) ?_; (try simp (disch := omega) only [push_cast, simprocAttr, *]); try (first | exact LE.refl _ | exact LE.sl _ _ | ((first | refine LE.tup ?_ | refine LE.agg ?_); (repeat' (first | exact LEL.nil | refine LEL.cons ?_ ?_ | exact LE.refl _ | exact LE.sl _ _ | refine LE.agg ?_)); done) | refine LE.of_eq ?_))

theorem takeLong0F (b : Nat) (s : RS) (h : s.bad = true ∨ (s.l.length : Int) < 8) (st : St) : TrF Tryz.prog 170 [.ptr b 0, .i 8, .fn (.func 171) [] []] (rdR b s :: st) fun x st' => x = .i 0 ∧ st' = rdR b .fail :: st := by
  obtain ⟨o, l, bad⟩ := s
  have hB := Lib.hid (rdBadF b ⟨o, l, bad⟩)
  have hF := Lib.hid (rdFailF b ⟨o, l, bad⟩)
  cases bad with
  | true =>
    clear h
    refine trF_enter (ts := [6]) Tryz.func170 rfl (by rw [Tryz.ntmps170]; exact Nat.le_of_ble_eq_true rfl) (fun tmps w => by simp [results, Tryz.results170, go_sem, resVal]) ?_
    simp only [Tryz.ntmps170]
    repeat' (first | with_reducible refine Go1.go ?_ | ((with_reducible apply ev_go); (focus ((try simp (disch := omega) only [push_cast, simprocAttr, *]); (try exact rfl); done))) | ((with_reducible refine w_last ?_ ?_ ?_); kernel_rfl; rfl) | with_reducible refine Go2.go ?_ | ((with_reducible first | apply w_stepG | refine s_bi ?_ ?_ | refine blk_ne ?_ ?_); rfl) | ((with_reducible refine al_go ?_); intro b) | ((with_reducible apply (ck_le Tryz.call80)); exact LEL.refl _; exact hB.out _) | ((with_reducible apply (ck_le Tryz.call169)); exact LEL.refl _; exact hF.out _) | ((with_reducible first | refine w_region ?_ ?_ | refine w_dra ?_ ?_); kernel_rfl) | ((with_reducible refine Go3.go ?_ ?_); all_goals (intro hb; (try with_reducible intro hb1); (try (exfalso; first | contradiction | omega)))) | fail)
    all_goals (refine ret_eq (by simp) (by first | rfl | assumption) (by (repeat (first | exact List.Sublist.refl _ | apply List.Sublist.cons))) ?_; (try simp (disch := omega) only [push_cast, simprocAttr, *]); try (first | exact LE.refl _ | exact LE.sl _ _ | ((first | refine LE.tup ?_ | refine LE.agg ?_); (repeat' (first | exact LEL.nil | refine LEL.cons ?_ ?_ | exact LE.refl _ | exact LE.sl _ _ | refine LE.agg ?_)); done) | refine LE.of_eq ?_))
  | false =>
    have h := h.resolve_left Bool.false_ne_true
    dsimp only at h
    refine trF_enter (ts := [6]) Tryz.func170 rfl (by rw [Tryz.ntmps170]; exact Nat.le_of_ble_eq_true rfl) (fun tmps w => by simp [results, Tryz.results170, go_sem, resVal]) ?_
    simp only [Tryz.ntmps170]
    repeat' (first | with_reducible refine Go1.go ?_ | ((with_reducible apply ev_go); (focus ((try simp (disch := omega) only [push_cast, simprocAttr, *]); (try exact rfl); done))) | ((with_reducible refine w_last ?_ ?_ ?_); kernel_rfl; rfl) | with_reducible refine Go2.go ?_ | ((with_reducible first | apply w_stepG | refine s_bi ?_ ?_ | refine blk_ne ?_ ?_); rfl) | ((with_reducible refine al_go ?_); intro b) | ((with_reducible apply (ck_le Tryz.call80)); exact LEL.refl _; exact hB.out _) | ((with_reducible apply (ck_le Tryz.call169)); exact LEL.refl _; exact hF.out _) | ((with_reducible first | refine w_region ?_ ?_ | refine w_dra ?_ ?_); kernel_rfl) | ((with_reducible refine Go3.go ?_ ?_); all_goals (intro hb; (try with_reducible intro hb1); (try (exfalso; first | contradiction | omega)))) | fail)
    all_goals (refine ret_eq (by simp) (by first | rfl | assumption) (by (repeat (first | exact List.Sublist.refl _ | apply List.Sublist.cons))) ?_; (try simp (disch := omega) only [push_cast, simprocAttr, *]); try (first | exact LE.refl _ | exact LE.sl _ _ | ((first | refine LE.tup ?_ | refine LE.agg ?_); (repeat' (first | exact LEL.nil | refine LEL.cons ?_ ?_ | exact LE.refl _ | exact LE.sl _ _ | refine LE.agg ?_)); done) | refine LE.of_eq ?_))

theorem takeText0F (b : Nat) (s : RS) (n : Int) (h : s.bad = true ∨ n < 0 ∨ (s.l.length : Int) < n) (st : St) : TrF Tryz.prog 143 [.ptr b 0, .i n, .fn (.func 144) [] []] (rdR b s :: st) fun x st' => x = .str ⟨#[]⟩ ∧ st' = rdR b .fail :: st := by
  obtain ⟨o, l, bad⟩ := s
  have hB := Lib.hid (rdBadF b ⟨o, l, bad⟩)
  have hF := Lib.hid (rdFailF b ⟨o, l, bad⟩)
  cases bad with
  | true =>
    clear h
    refine trF_enter (ts := [6]) Tryz.func143 rfl (by rw [Tryz.ntmps143]; exact Nat.le_of_ble_eq_true rfl) (fun tmps w => by simp [results, Tryz.results143, go_sem, resVal]) ?_
    simp only [Tryz.ntmps143]
    repeat' (first | with_reducible refine Go1.go ?_ | ((with_reducible apply ev_go); (focus ((try simp (disch := omega) only [push_cast, simprocAttr, *]); (try exact rfl); done))) | ((with_reducible refine w_last ?_ ?_ ?_); kernel_rfl; rfl) | with_reducible refine Go2.go ?_ | ((with_reducible first | apply w_stepG | refine s_bi ?_ ?_ | refine blk_ne ?_ ?_); rfl) | ((with_reducible refine al_go ?_); intro b) | ((with_reducible apply (ck_le Tryz.call80)); exact LEL.refl _; exact hB.out _) | ((with_reducible apply (ck_le Tryz.call169)); exact LEL.refl _; exact hF.out _) | ((with_reducible first | refine w_region ?_ ?_ | refine w_dra ?_ ?_); kernel_rfl) | ((with_reducible refine Go3.go ?_ ?_); all_goals (intro hb; (try with_reducible intro hb1); (try (exfalso; first | contradiction | omega)))) | fail)
    all_goals (refine ret_eq (by simp) (by first | rfl | assumption) (by (repeat (first | exact List.Sublist.refl _ | apply List.Sublist.cons))) ?_; (try simp (disch := omega) only [push_cast, simprocAttr, *]); try (first | exact LE.refl _ | exact LE.sl _ _ | ((first | refine LE.tup ?_ | refine LE.agg ?_); (repeat' (first | exact LEL.nil | refine LEL.cons ?_ ?_ | exact LE.refl _ | exact LE.sl _ _ | refine LE.agg ?_)); done) | refine LE.of_eq ?_))
  | false =>
    have h := h.resolve_left Bool.false_ne_true
    dsimp only at h
    refine trF_enter (ts := [6]) Tryz.func143 rfl (by rw [Tryz.ntmps143]; exact Nat.le_of_ble_eq_true rfl) (fun tmps w => by simp [results, Tryz.results143, go_sem, resVal]) ?_
    simp only [Tryz.ntmps143]
    repeat' (first | with_reducible refine Go1.go ?_ | ((with_reducible apply ev_go); (focus ((try simp (disch := omega) only [push_cast, simprocAttr, *]); (try exact rfl); done))) | ((with_reducible refine w_last ?_ ?_ ?_); kernel_rfl; rfl) | with_reducible refine Go2.go ?_ | ((with_reducible first | apply w_stepG | refine s_bi ?_ ?_ | refine blk_ne ?_ ?_); rfl) | ((with_reducible refine al_go ?_); intro b) | ((with_reducible apply (ck_le Tryz.call80)); exact LEL.refl _; exact hB.out _) | ((with_reducible apply (ck_le Tryz.call169)); exact LEL.refl _; exact hF.out _) | ((with_reducible first | refine w_region ?_ ?_ | refine w_dra ?_ ?_); kernel_rfl) | ((with_reducible refine Go3.go ?_ ?_); all_goals (intro hb; (try with_reducible intro hb1); (try (exfalso; first | contradiction | omega)))) | fail)
    all_goals (refine ret_eq (by simp) (by first | rfl | assumption) (by (repeat (first | exact List.Sublist.refl _ | apply List.Sublist.cons))) ?_; (try simp (disch := omega) only [push_cast, simprocAttr, *]); try (first | exact LE.refl _ | exact LE.sl _ _ | ((first | refine LE.tup ?_ | refine LE.agg ?_); (repeat' (first | exact LEL.nil | refine LEL.cons ?_ ?_ | exact LE.refl _ | exact LE.sl _ _ | refine LE.agg ?_)); done) | refine LE.of_eq ?_))

theorem takeNum1F (b : Nat) (o : Own) (l p t : List UInt8) (hl : p ++ t = l) (hp : p.length = 4) (hx : ¬ num p ≤ 2147483647) (st : St) : TrF Tryz.prog 165 [.ptr b 0, .i 4, .fn (.func 179) [] []] (rdR b ⟨o, l, false⟩ :: st) fun x st' => x = .i 0 ∧ st' = rdR b .fail :: st := by
  have hB := Lib.hid (rdBadF b ⟨o, l, false⟩)
  have hF := Lib.hid (rdFailF b ⟨o, l, false⟩)
  have hC := Lib.hid fun o => rdNum1F o p hp
  have hx : ¬ ((num p : Nat) : Int) ≤ 2147483647 := by omega
  have hln : l.length = 4 + t.length := by rw [← hl, List.length_append, hp]
  have hT : List.take 4 (List.map encB l) = List.map encB p := by rw [← List.map_take, ← hl, ← hp, List.take_left]
  clear hl
  generalize num p = q at *
  refine trF_enter (ts := [6]) Tryz.func165 rfl (by rw [Tryz.ntmps165]; exact Nat.le_of_ble_eq_true rfl) (fun tmps w => by simp [results, Tryz.results165, go_sem, resVal]) ?_
  simp only [Tryz.ntmps165]
  repeat' (first | with_reducible refine Go1.go ?_ | ((with_reducible apply ev_go); (focus ((try simp (disch := omega) only [push_cast, simprocAttr, *]); (try exact rfl); done))) | ((with_reducible refine w_last ?_ ?_ ?_); kernel_rfl; rfl) | with_reducible refine Go2.go ?_ | ((with_reducible first | apply w_stepG | refine s_bi ?_ ?_ | refine blk_ne ?_ ?_); rfl) | ((with_reducible refine al_go ?_); intro b) | ((with_reducible apply (ck_le Tryz.call80)); exact LEL.refl _; exact hB.out _) | ((with_reducible apply (ck_le Tryz.call169)); exact LEL.refl _; exact hF.out _) | ((with_reducible apply (ck_le Tryz.call179)); exact LEL.refl _; exact hC.out _ _) | ((with_reducible apply a2_go); (focus (first | assumption | (intro h; cases h))); (focus (intro o'; repeat (first | exact ra_h | apply ra_t))); (iterate 2 (focus (first | assumption | exact len_nil | exact len_one rfl | (intro a ha; obtain ⟨x, -, rfl⟩ := List.mem_map.1 ha; first | rfl | simp) | (intro a ha; simp at ha; simp [ha])))); (iterate 2 (focus (first | omega | (simp only [List.length_map, List.length_cons, List.length_nil, List.length_append]; omega)))); intro o' ho') | ((with_reducible apply p2_go); (focus (first | assumption | (intro h; cases h))); (focus (intro o'; repeat (first | exact ra_h | apply ra_t))); (focus (first | assumption | exact len_nil | exact len_one rfl | (intro a ha; obtain ⟨x, -, rfl⟩ := List.mem_map.1 ha; first | rfl | simp) | (intro a ha; simp at ha; simp [ha]))); (iterate 2 (focus (first | omega | (simp only [List.length_map, List.length_cons, List.length_nil, List.length_append]; omega)))); intro o' ho') | ((with_reducible first | refine w_region ?_ ?_ | refine w_dra ?_ ?_); kernel_rfl) | ((with_reducible refine Go3.go ?_ ?_); all_goals (intro hb; (try with_reducible intro hb1); (try (exfalso; first | contradiction | omega)))) | fail)
  all_goals (refine ret_eq (by simp) (by first | rfl | assumption) (by (repeat (first | exact List.Sublist.refl _ | apply List.Sublist.cons))) ?_; (try simp (disch := omega) only [push_cast, simprocAttr, *]); try (first | exact LE.refl _ | exact LE.sl _ _ | ((first | refine LE.tup ?_ | refine LE.agg ?_); (repeat' (first | exact LEL.nil | refine LEL.cons ?_ ?_ | exact LE.refl _ | exact LE.sl _ _ | refine LE.agg ?_)); done) | refine LE.of_eq ?_))
end Go.Proofs.YtgcienlfpnpbgaaGreat
end

section
namespace Go.Proofs.YtgcienlfpnpbgaaGreat
set_option linter.unusedSimpArgs false
attribute [local push_cast] encB encI V.cells_mk V.cells_take V.cells_len Nat.mul_one
open Go.RowKit B
set_option maxRecDepth 10000
set_option maxHeartbeats 4000000
namespace V
mutual
def put : V → List UInt8
  | .mk k n s l => UInt8.ofNat k.toNat :: (if k = 1 then [UInt8.ofNat n.toNat] else if k = 2 then be 8 (IntKind.u64.wrap n).toNat else if k = 3 ∨ k = 4 then tx s.data.toList else if k = 5 then be 4 l.length ++ putL l else [])
def putL : List V → List UInt8
  | [] => []
  | x :: l => x.put ++ putL l
end
theorem sgl_facts {k n : Int} {s : ByteArray} {len : Nat} (h : sgl k n s len = true) : 0 ≤ k ∧ k ≤ 5 ∧ (k ≠ 2 → 0 ≤ n ∧ n ≤ 1) ∧ s.size ≤ 200 ∧ (k ≠ 3 ∧ k ≠ 4 → s.size = 0) ∧ (k = 5 → len ≤ 20) := by
  unfold sgl at h
  by_cases k0 : k = 0
  · subst k0; simp at h; obtain ⟨h1, h2⟩ := h; subst h2; simp; omega
  by_cases k1 : k = 1
  · subst k1; simp at h; obtain ⟨h1, h2⟩ := h; subst h2; simp; omega
  by_cases k2 : k = 2
  · subst k2; simp at h; subst h; simp
  by_cases k3 : k = 3
  · subst k3
    simp at h
    have := h.2
    unfold isName at this
    simp at this
    simp; omega
  by_cases k4 : k = 4
  · subst k4; simp at h; simp; omega
  by_cases k5 : k = 5
  · subst k5; simp at h; obtain ⟨h1, h2, h3⟩ := h; subst h2; simp; omega
  simp [k0, k1, k2, k3, k4, k5] at h
theorem parts_facts {k n : Int} {s : ByteArray} {l : List V} (h : (V.mk k n s l).parts = true) : sgl k n s l.length = true ∧ (k = 5 ∨ l = []) ∧ ∀ x ∈ l, x.parts = true := by
  rw [parts] at h
  simp only [Bool.and_eq_true, Bool.or_eq_true, decide_eq_true_eq] at h
  obtain ⟨⟨h1, h2⟩, h3⟩ := h
  refine ⟨h1, h2.imp id List.eq_nil_of_length_eq_zero, ?_⟩
  rw [partsL_all] at h3
  exact List.all_eq_true.1 h3
mutual
theorem put_le : ∀ v : V, v.parts = true → v.put.length ≤ 205 * v.nodes
  | .mk k n s l, h => by
    obtain ⟨h1, h2, h3⟩ := parts_facts h
    obtain ⟨f1, f2, f3, f4, f5, f6⟩ := sgl_facts h1
    have h4 := putL_le l h3
    have h5 : (tx s.data.toList).length = 4 + s.size := by unfold tx; rw [List.length_append, be_len]; simp
    rw [put, nodes, List.length_cons]
    split
    · simp; omega
    split
    · rw [be_len]; omega
    split
    · rw [h5]; omega
    split
    · rw [List.length_append, be_len]; omega
    · simp; omega
theorem putL_le : ∀ l : List V, (∀ x ∈ l, x.parts = true) → (putL l).length ≤ 205 * nodesL l
  | [], _ => by simp [putL]
  | x :: l, h => by
    have := put_le x (h x (List.mem_cons_self ..))
    have := putL_le l fun y hy => h y (List.mem_cons_of_mem _ hy)
    rw [putL, nodesL, List.length_append]; omega
end
theorem putL_app (a b : List V) : putL (a ++ b) = putL a ++ putL b := by
  induction a with
  | nil => rw [List.nil_append, putL, List.nil_append]
  | cons x a ih => rw [List.cons_append, putL, putL, ih, List.append_assoc]
theorem right_in {k n : Int} {s : ByteArray} {l : List V} (h : (V.mk k n s l).right = true) {x : V} (hx : x ∈ l) : x.right = true := by
  rw [right_iff] at h ⊢
  obtain ⟨h1, h2, h3⟩ := h
  refine ⟨(parts_facts h1).2.2 x hx, ?_, ?_⟩
  · have : x.deep ≤ deepL l := by
      clear h1 h2 h3
      induction l with
      | nil => cases hx
      | cons y l ih =>
        rw [deepL]
        rcases List.mem_cons.1 hx with rfl | hx
        · omega
        · have := ih hx; omega
    rw [deep] at h2
    split at h2
    · omega
    · rename_i hc
      have : l ≠ [] := List.ne_nil_of_mem hx
      exact absurd (.inr this) hc
  · have := nodes_lt (k := k) (n := n) (s := s) hx
    omega
end V
end Go.Proofs.YtgcienlfpnpbgaaGreat
end

section
namespace Go.Proofs.YtgcienlfpnpbgaaGreat
set_option linter.unusedSimpArgs false
attribute [local push_cast] encB encI V.cells_mk V.cells_take V.cells_len Nat.mul_one
open Go.RowKit B
set_option maxRecDepth 10000
set_option maxHeartbeats 4000000
namespace V
def bin (v : V) : List UInt8 := if v.right = true then v.put else []
end V
open V in
theorem binValueF : ∀ (N : Nat) (v : V), v.nodes ≤ N → v.nodes ≤ 4611686018427387904 → v.Ok → ∀ st, TrF Tryz.prog 138 [.agg v.cells] st fun d st' => ∃ o', o' ≠ .shared ∧ d = .sl o' (v.bin.map encB) ∧ st' = .room o' 5 1 (v.bin.map encB).length :: st
  | 0, v, h, _, _ => by have := v.nodes_pos; omega
  | N + 1, .mk k n s l, hN, hB, hok => by
    intro st
    obtain ⟨-, hkn, -, -, hall⟩ := hok
    have hR := Lib.hid (valRightF (.mk k n s l) hB)
    have IH := Lib.hid fun x (hx : x ∈ l) => binValueF N x (by have := nodes_lt (k := k) (n := n) (s := s) hx; omega) (by have := nodes_lt (k := k) (n := n) (s := s) hx; omega) (hall x hx)
    clear hN hB hall
    unfold V.bin
    by_cases hr : (V.mk k n s l).right = true
    case neg =>
      rw [if_neg hr]
      have hr' : (V.mk k n s l).right = false := by simpa using hr
      rw [V.cells_mk, hr'] at hR
      rw [V.cells_mk]
      clear hr IH
      refine trF_enter (ts := [2]) Tryz.func138 rfl (by rw [Tryz.ntmps138]; exact Nat.le_of_ble_eq_true rfl) (fun tmps w => by simp [results, Tryz.results138, go_sem, resVal]) ?_
      simp only [Tryz.ntmps138]
      refine tr_room 5 1 0 ?_
      repeat' (first | with_reducible refine Go1.go ?_ | ((with_reducible apply ev_go); (focus ((try simp (disch := omega) only [push_cast, simprocAttr, *]); (try exact rfl); done))) | ((with_reducible refine w_last ?_ ?_ ?_); kernel_rfl; rfl) | with_reducible refine Go2.go ?_ | ((with_reducible first | apply w_stepG | refine s_bi ?_ ?_ | refine blk_ne ?_ ?_); rfl) | ((with_reducible refine al_go ?_); intro b) | ((with_reducible apply (ck_le Tryz.call168)); exact LEL.refl _; exact hR.out _) | ((with_reducible apply a2_go); (focus (first | assumption | (intro h; cases h))); (focus (intro o'; repeat (first | exact ra_h | apply ra_t))); (iterate 2 (focus (first | assumption | exact len_nil | exact len_one rfl | (intro a ha; obtain ⟨x, -, rfl⟩ := List.mem_map.1 ha; first | rfl | simp) | (intro a ha; simp at ha; simp [ha])))); (iterate 2 (focus (first | omega | (simp only [List.length_map, List.length_cons, List.length_nil, List.length_append]; omega)))); intro o' ho') | ((with_reducible apply p2_go); (focus (first | assumption | (intro h; cases h))); (focus (intro o'; repeat (first | exact ra_h | apply ra_t))); (focus (first | assumption | exact len_nil | exact len_one rfl | (intro a ha; obtain ⟨x, -, rfl⟩ := List.mem_map.1 ha; first | rfl | simp) | (intro a ha; simp at ha; simp [ha]))); (iterate 2 (focus (first | omega | (simp only [List.length_map, List.length_cons, List.length_nil, List.length_append]; omega)))); intro o' ho') | ((with_reducible first | refine w_region ?_ ?_ | refine w_dra ?_ ?_); kernel_rfl) | ((with_reducible refine Go3.go ?_ ?_); all_goals (intro hb; (try with_reducible intro hb1); (try (exfalso; first | contradiction | omega)))) | fail)
      all_goals ((apply ret_own (by simp) (by first | rfl | assumption)); (focus ((try simp (disch := omega) only [push_cast, simprocAttr, *]); (try exact rfl); done)); (focus (first | assumption | (intro h; cases h))); (focus ((repeat (first | exact List.Sublist.refl _ | apply List.Sublist.cons)); done)))
      all_goals rfl
    rw [if_pos hr]
    have hrin := Lib.hid fun x (hx : x ∈ l) => right_in hr hx
    obtain ⟨hpa, -, hnn⟩ := right_iff.1 hr
    obtain ⟨h1, h2, h3⟩ := parts_facts hpa
    obtain ⟨f1, f2, f3, f4, f5, f6⟩ := sgl_facts h1
    have hpl := putL_le l h3
    rw [nodes] at hnn
    rw [V.cells_mk, hr] at hR
    rw [V.cells_mk]
    have hput : (V.mk k n s l).put = UInt8.ofNat k.toNat :: (if k = 1 then [UInt8.ofNat n.toNat] else if k = 2 then be 8 (IntKind.u64.wrap n).toNat else if k = 3 ∨ k = 4 then tx s.data.toList else if k = 5 then be 4 l.length ++ putL l else []) := put.eq_1 ..
    rw [hput]
    have hKb := binByteF k
    rw [if_pos (by omega)] at hKb
    replace hKb := Lib.hid hKb
    have hT := Lib.hid (binTextF s (by omega))
    have hT5 : (tx s.data.toList).length = 4 + s.size := by unfold tx; rw [List.length_append, be_len]; simp
    clear hput hr h1 h3 hpa
    refine trF_enter (ts := [2]) Tryz.func138 rfl (by rw [Tryz.ntmps138]; exact Nat.le_of_ble_eq_true rfl) (fun tmps w => by simp [results, Tryz.results138, go_sem, resVal]) ?_
    simp only [Tryz.ntmps138]
    refine tr_room 5 1 1 ?_
    by_cases k1 : k = 1
    · subst k1
      obtain ⟨m, rfl⟩ : ∃ m : Nat, n = m := ⟨n.toNat, by have := f3 (by omega); omega⟩
      have hW := u8_wrap m
      clear f3 f5 f6 hT IH hrin
      rw [if_pos rfl, Int.toNat_natCast]
      repeat' (first | with_reducible refine Go1.go ?_ | ((with_reducible apply ev_go); (focus ((try simp (disch := omega) only [push_cast, simprocAttr, *]); (try exact rfl); done))) | ((with_reducible refine w_last ?_ ?_ ?_); kernel_rfl; rfl) | with_reducible refine Go2.go ?_ | ((with_reducible first | apply w_stepG | refine s_bi ?_ ?_ | refine blk_ne ?_ ?_); rfl) | ((with_reducible refine al_go ?_); intro b) | ((with_reducible apply (ck_le Tryz.call168)); exact LEL.refl _; exact hR.out _) | ((with_reducible apply (ck_le Tryz.call136)); exact LEL.refl _; exact hKb.out _) | ((with_reducible apply a2_go); (focus (first | assumption | (intro h; cases h))); (focus (intro o'; repeat (first | exact ra_h | apply ra_t))); (iterate 2 (focus (first | assumption | exact len_nil | exact len_one rfl | (intro a ha; obtain ⟨x, -, rfl⟩ := List.mem_map.1 ha; first | rfl | simp) | (intro a ha; simp at ha; simp [ha])))); (iterate 2 (focus (first | omega | (simp only [List.length_map, List.length_cons, List.length_nil, List.length_append]; omega)))); intro o' ho') | ((with_reducible apply p2_go); (focus (first | assumption | (intro h; cases h))); (focus (intro o'; repeat (first | exact ra_h | apply ra_t))); (focus (first | assumption | exact len_nil | exact len_one rfl | (intro a ha; obtain ⟨x, -, rfl⟩ := List.mem_map.1 ha; first | rfl | simp) | (intro a ha; simp at ha; simp [ha]))); (iterate 2 (focus (first | omega | (simp only [List.length_map, List.length_cons, List.length_nil, List.length_append]; omega)))); intro o' ho') | ((with_reducible first | refine w_region ?_ ?_ | refine w_dra ?_ ?_); kernel_rfl) | ((with_reducible refine Go3.go ?_ ?_); all_goals (intro hb; (try with_reducible intro hb1); (try (exfalso; first | contradiction | omega)))) | fail)
      all_goals ((apply ret_own (by simp) (by first | rfl | assumption)); (focus ((try simp (disch := omega) only [push_cast, simprocAttr, *]); (try exact rfl); done)); (focus (first | assumption | (intro h; cases h))); (focus ((repeat (first | exact List.Sublist.refl _ | apply List.Sublist.cons)); done)))
      all_goals rfl
    rw [if_neg k1]
    have b1 : (k == 1) = false := by simpa using k1
    by_cases k2 : k = 2
    · subst k2
      have hL := Lib.hid (binLongF n hkn)
      have h8 := be_len 8 (IntKind.u64.wrap n).toNat
      clear f3 f5 f6 hT IH hrin
      rw [if_pos rfl]
      generalize be 8 (IntKind.u64.wrap n).toNat = bs at *
      repeat' (first | with_reducible refine Go1.go ?_ | ((with_reducible apply ev_go); (focus ((try simp (disch := omega) only [push_cast, simprocAttr, *]); (try exact rfl); done))) | ((with_reducible refine w_last ?_ ?_ ?_); kernel_rfl; rfl) | with_reducible refine Go2.go ?_ | ((with_reducible first | apply w_stepG | refine s_bi ?_ ?_ | refine blk_ne ?_ ?_); rfl) | ((with_reducible refine al_go ?_); intro b) | ((with_reducible apply (ck_le Tryz.call168)); exact LEL.refl _; exact hR.out _) | ((with_reducible apply (ck_le Tryz.call136)); exact LEL.refl _; exact hKb.out _) | ((with_reducible apply (ck_le Tryz.call94)); exact LEL.refl _; exact hL.out _) | ((with_reducible apply a2_go); (focus (first | assumption | (intro h; cases h))); (focus (intro o'; repeat (first | exact ra_h | apply ra_t))); (iterate 2 (focus (first | assumption | exact len_nil | exact len_one rfl | (intro a ha; obtain ⟨x, -, rfl⟩ := List.mem_map.1 ha; first | rfl | simp) | (intro a ha; simp at ha; simp [ha])))); (iterate 2 (focus (first | omega | (simp only [List.length_map, List.length_cons, List.length_nil, List.length_append]; omega)))); intro o' ho') | ((with_reducible apply p2_go); (focus (first | assumption | (intro h; cases h))); (focus (intro o'; repeat (first | exact ra_h | apply ra_t))); (focus (first | assumption | exact len_nil | exact len_one rfl | (intro a ha; obtain ⟨x, -, rfl⟩ := List.mem_map.1 ha; first | rfl | simp) | (intro a ha; simp at ha; simp [ha]))); (iterate 2 (focus (first | omega | (simp only [List.length_map, List.length_cons, List.length_nil, List.length_append]; omega)))); intro o' ho') | ((with_reducible first | refine w_region ?_ ?_ | refine w_dra ?_ ?_); kernel_rfl) | ((with_reducible refine Go3.go ?_ ?_); all_goals (intro hb; (try with_reducible intro hb1); (try (exfalso; first | contradiction | omega)))) | fail)
      all_goals ((apply ret_own (by simp) (by first | rfl | assumption)); (focus ((try simp (disch := omega) only [push_cast, simprocAttr, *]); (try exact rfl); done)); (focus (first | assumption | (intro h; cases h))); (focus ((repeat (first | exact List.Sublist.refl _ | apply List.Sublist.cons)); done)))
      all_goals rfl
    rw [if_neg k2]
    have b2 : (k == 2) = false := by simpa using k2
    by_cases k3 : k = 3 ∨ k = 4
    · rw [if_pos k3]
      have b34 : k = 3 ∨ k = 4 := k3
      clear f3 f5 f6 IH hrin h2
      generalize tx s.data.toList = bs at *
      rcases k3 with rfl | rfl
      · repeat' (first | with_reducible refine Go1.go ?_ | ((with_reducible apply ev_go); (focus ((try simp (disch := omega) only [push_cast, simprocAttr, *]); (try exact rfl); done))) | ((with_reducible refine w_last ?_ ?_ ?_); kernel_rfl; rfl) | with_reducible refine Go2.go ?_ | ((with_reducible first | apply w_stepG | refine s_bi ?_ ?_ | refine blk_ne ?_ ?_); rfl) | ((with_reducible refine al_go ?_); intro b) | ((with_reducible apply (ck_le Tryz.call168)); exact LEL.refl _; exact hR.out _) | ((with_reducible apply (ck_le Tryz.call136)); exact LEL.refl _; exact hKb.out _) | ((with_reducible apply (ck_le Tryz.call55)); exact LEL.refl _; exact hT.out _) | ((with_reducible apply a2_go); (focus (first | assumption | (intro h; cases h))); (focus (intro o'; repeat (first | exact ra_h | apply ra_t))); (iterate 2 (focus (first | assumption | exact len_nil | exact len_one rfl | (intro a ha; obtain ⟨x, -, rfl⟩ := List.mem_map.1 ha; first | rfl | simp) | (intro a ha; simp at ha; simp [ha])))); (iterate 2 (focus (first | omega | (simp only [List.length_map, List.length_cons, List.length_nil, List.length_append]; omega)))); intro o' ho') | ((with_reducible apply p2_go); (focus (first | assumption | (intro h; cases h))); (focus (intro o'; repeat (first | exact ra_h | apply ra_t))); (focus (first | assumption | exact len_nil | exact len_one rfl | (intro a ha; obtain ⟨x, -, rfl⟩ := List.mem_map.1 ha; first | rfl | simp) | (intro a ha; simp at ha; simp [ha]))); (iterate 2 (focus (first | omega | (simp only [List.length_map, List.length_cons, List.length_nil, List.length_append]; omega)))); intro o' ho') | ((with_reducible first | refine w_region ?_ ?_ | refine w_dra ?_ ?_); kernel_rfl) | ((with_reducible refine Go3.go ?_ ?_); all_goals (intro hb; (try with_reducible intro hb1); (try (exfalso; first | contradiction | omega)))) | fail)
        all_goals ((apply ret_own (by simp) (by first | rfl | assumption)); (focus ((try simp (disch := omega) only [push_cast, simprocAttr, *]); (try exact rfl); done)); (focus (first | assumption | (intro h; cases h))); (focus ((repeat (first | exact List.Sublist.refl _ | apply List.Sublist.cons)); done)))
        all_goals rfl
      · repeat' (first | with_reducible refine Go1.go ?_ | ((with_reducible apply ev_go); (focus ((try simp (disch := omega) only [push_cast, simprocAttr, *]); (try exact rfl); done))) | ((with_reducible refine w_last ?_ ?_ ?_); kernel_rfl; rfl) | with_reducible refine Go2.go ?_ | ((with_reducible first | apply w_stepG | refine s_bi ?_ ?_ | refine blk_ne ?_ ?_); rfl) | ((with_reducible refine al_go ?_); intro b) | ((with_reducible apply (ck_le Tryz.call168)); exact LEL.refl _; exact hR.out _) | ((with_reducible apply (ck_le Tryz.call136)); exact LEL.refl _; exact hKb.out _) | ((with_reducible apply (ck_le Tryz.call55)); exact LEL.refl _; exact hT.out _) | ((with_reducible apply a2_go); (focus (first | assumption | (intro h; cases h))); (focus (intro o'; repeat (first | exact ra_h | apply ra_t))); (iterate 2 (focus (first | assumption | exact len_nil | exact len_one rfl | (intro a ha; obtain ⟨x, -, rfl⟩ := List.mem_map.1 ha; first | rfl | simp) | (intro a ha; simp at ha; simp [ha])))); (iterate 2 (focus (first | omega | (simp only [List.length_map, List.length_cons, List.length_nil, List.length_append]; omega)))); intro o' ho') | ((with_reducible apply p2_go); (focus (first | assumption | (intro h; cases h))); (focus (intro o'; repeat (first | exact ra_h | apply ra_t))); (focus (first | assumption | exact len_nil | exact len_one rfl | (intro a ha; obtain ⟨x, -, rfl⟩ := List.mem_map.1 ha; first | rfl | simp) | (intro a ha; simp at ha; simp [ha]))); (iterate 2 (focus (first | omega | (simp only [List.length_map, List.length_cons, List.length_nil, List.length_append]; omega)))); intro o' ho') | ((with_reducible first | refine w_region ?_ ?_ | refine w_dra ?_ ?_); kernel_rfl) | ((with_reducible refine Go3.go ?_ ?_); all_goals (intro hb; (try with_reducible intro hb1); (try (exfalso; first | contradiction | omega)))) | fail)
        all_goals ((apply ret_own (by simp) (by first | rfl | assumption)); (focus ((try simp (disch := omega) only [push_cast, simprocAttr, *]); (try exact rfl); done)); (focus (first | assumption | (intro h; cases h))); (focus ((repeat (first | exact List.Sublist.refl _ | apply List.Sublist.cons)); done)))
        all_goals rfl
    rw [if_neg k3]
    have b3 : (k == 3) = false := by simp; omega
    have b4 : (k == 4) = false := by simp; omega
    by_cases k5 : k = 5
    case neg =>
      rw [if_neg k5]
      have b5 : (k == 5) = false := by simpa using k5
      clear f3 f5 f6 hT IH hrin
      repeat' (first | with_reducible refine Go1.go ?_ | ((with_reducible apply ev_go); (focus ((try simp (disch := omega) only [push_cast, simprocAttr, *]); (try exact rfl); done))) | ((with_reducible refine w_last ?_ ?_ ?_); kernel_rfl; rfl) | with_reducible refine Go2.go ?_ | ((with_reducible first | apply w_stepG | refine s_bi ?_ ?_ | refine blk_ne ?_ ?_); rfl) | ((with_reducible refine al_go ?_); intro b) | ((with_reducible apply (ck_le Tryz.call168)); exact LEL.refl _; exact hR.out _) | ((with_reducible apply (ck_le Tryz.call136)); exact LEL.refl _; exact hKb.out _) | ((with_reducible apply a2_go); (focus (first | assumption | (intro h; cases h))); (focus (intro o'; repeat (first | exact ra_h | apply ra_t))); (iterate 2 (focus (first | assumption | exact len_nil | exact len_one rfl | (intro a ha; obtain ⟨x, -, rfl⟩ := List.mem_map.1 ha; first | rfl | simp) | (intro a ha; simp at ha; simp [ha])))); (iterate 2 (focus (first | omega | (simp only [List.length_map, List.length_cons, List.length_nil, List.length_append]; omega)))); intro o' ho') | ((with_reducible apply p2_go); (focus (first | assumption | (intro h; cases h))); (focus (intro o'; repeat (first | exact ra_h | apply ra_t))); (focus (first | assumption | exact len_nil | exact len_one rfl | (intro a ha; obtain ⟨x, -, rfl⟩ := List.mem_map.1 ha; first | rfl | simp) | (intro a ha; simp at ha; simp [ha]))); (iterate 2 (focus (first | omega | (simp only [List.length_map, List.length_cons, List.length_nil, List.length_append]; omega)))); intro o' ho') | ((with_reducible first | refine w_region ?_ ?_ | refine w_dra ?_ ?_); kernel_rfl) | ((with_reducible refine Go3.go ?_ ?_); all_goals (intro hb; (try with_reducible intro hb1); (try (exfalso; first | contradiction | omega)))) | fail)
      all_goals ((apply ret_own (by simp) (by first | rfl | assumption)); (focus ((try simp (disch := omega) only [push_cast, simprocAttr, *]); (try exact rfl); done)); (focus (first | assumption | (intro h; cases h))); (focus ((repeat (first | exact List.Sublist.refl _ | apply List.Sublist.cons)); done)))
      all_goals rfl
    subst k5
    rw [if_pos rfl]
    have hN := binNumF l.length
    have hl20 := f6 rfl
    rw [if_pos (by omega), Int.toNat_natCast] at hN
    replace hN := Lib.hid hN
    have h4 := be_len 4 l.length
    clear f3 f5 f6 hT h2 k1 k2 k3 b1 b2 b3 b4
    generalize be 4 l.length = hd at *
    repeat' (first | with_reducible refine Go1.go ?_ | ((with_reducible apply ev_go); (focus ((try simp (disch := omega) only [push_cast, simprocAttr, *]); (try exact rfl); done))) | ((with_reducible refine w_last ?_ ?_ ?_); kernel_rfl; rfl) | with_reducible refine Go2.go ?_ | ((with_reducible first | apply w_stepG | refine s_bi ?_ ?_ | refine blk_ne ?_ ?_); rfl) | ((with_reducible refine al_go ?_); intro b) | ((with_reducible apply (ck_le Tryz.call168)); exact LEL.refl _; exact hR.out _) | ((with_reducible apply (ck_le Tryz.call136)); exact LEL.refl _; exact hKb.out _) | ((with_reducible apply (ck_le Tryz.call134)); exact LEL.refl _; exact hN.out _) | ((with_reducible apply a2_go); (focus (first | assumption | (intro h; cases h))); (focus (intro o'; repeat (first | exact ra_h | apply ra_t))); (iterate 2 (focus (first | assumption | exact len_nil | exact len_one rfl | (intro a ha; obtain ⟨x, -, rfl⟩ := List.mem_map.1 ha; first | rfl | simp) | (intro a ha; simp at ha; simp [ha])))); (iterate 2 (focus (first | omega | (simp only [List.length_map, List.length_cons, List.length_nil, List.length_append]; omega)))); intro o' ho') | ((with_reducible apply p2_go); (focus (first | assumption | (intro h; cases h))); (focus (intro o'; repeat (first | exact ra_h | apply ra_t))); (focus (first | assumption | exact len_nil | exact len_one rfl | (intro a ha; obtain ⟨x, -, rfl⟩ := List.mem_map.1 ha; first | rfl | simp) | (intro a ha; simp at ha; simp [ha]))); (iterate 2 (focus (first | omega | (simp only [List.length_map, List.length_cons, List.length_nil, List.length_append]; omega)))); intro o' ho') | ((with_reducible first | refine w_region ?_ ?_ | refine w_dra ?_ ?_); kernel_rfl) | ((with_reducible refine Go3.go ?_ ?_); all_goals (intro hb; (try with_reducible intro hb1); (try (exfalso; first | contradiction | omega)))) | fail)
    clear hN hKb hR hT5
    refine tr_loopd (ι := Nat) (fun i A st' => i ≤ l.length ∧ A.df = [] ∧ A.e 46 = .sl .shared (l.map V.cells) ∧ A.e 47 = .i l.length ∧ A.e 48 = .i i ∧ ∃ o', o' ≠ .shared ∧ ∃ B : List UInt8, Hid (B = UInt8.ofNat (Int.toNat 5) :: (hd ++ putL (l.take i))) ∧ B.length = 5 + (putL (l.take i)).length ∧ A.e 3 = .sl o' (B.map encB) ∧ st' = .room o' 5 1 (B.map encB).length :: st) (fun i => l.length - i) 0 ⟨Nat.zero_le _, ?_, ?_, ?_, ?_, _, by assumption, UInt8.ofNat (Int.toNat 5) :: hd, by show _ = _; simp [putL], by simp [putL]; omega, ?_, rfl⟩ ?_
    iterate 5 (focus (first | rfl | assumption | omega | (simp (disch := omega) only [push_cast, simprocAttr, *]; try omega; done)))
    clear o' ho' h4
    rintro i A st' ⟨hi, hdf, e46, e47, e48, o', ho', B, HB, hBl, e3, rfl⟩
    by_cases hlt : i < l.length
    · obtain ⟨x, hx⟩ : ∃ x, l[i]? = some x := ⟨_, List.getElem?_eq_getElem hlt⟩
      have ih := IH.out x (mem_of hx)
      have hxr := hrin.out x (mem_of hx)
      unfold V.bin at ih
      rw [if_pos hxr] at ih
      have htk : putL (l.take (i + 1)) = putL (l.take i) ++ x.put := by
        rw [List.take_succ, hx, putL_app]; simp [putL]
      have hln : (putL (l.take i)).length + x.put.length ≤ (putL l).length := by
        have := congrArg List.length (congrArg putL (List.take_append_drop (i + 1) l))
        rw [putL_app, htk, List.length_append, List.length_append] at this
        omega
      have HB2 : Hid (B ++ x.put = UInt8.ofNat (Int.toNat 5) :: (hd ++ putL (l.take (i + 1)))) := by
        show _ = _
        rw [htk, HB.out]; simp
      have hBl2 : (B ++ x.put).length = 5 + (putL (l.take (i + 1))).length := by
        rw [htk, List.length_append, List.length_append]; omega
      clear IH hrin HB htk hxr
      cases x with
      | mk k1 n1 s1 l1 =>
        rw [V.cells_mk] at ih
        replace ih := Lib.hid ih
        generalize (V.mk k1 n1 s1 l1).put = bs at *
        obtain ⟨q1, hq1⟩ : ∃ q, (putL (l.take (i + 1))).length = q := ⟨_, rfl⟩
        rw [hq1] at hBl2
        replace hq1 := Lib.hid hq1
        generalize (putL (l.take i)).length = q0 at *
        repeat' (first | with_reducible refine Go1.go ?_ | ((with_reducible apply ev_go); (focus ((try simp (disch := omega) only [push_cast, simprocAttr, *]); (try exact rfl); done))) | ((with_reducible refine w_last ?_ ?_ ?_); kernel_rfl; rfl) | with_reducible refine Go2.go ?_ | ((with_reducible first | apply w_stepG | refine s_bi ?_ ?_ | refine blk_ne ?_ ?_); rfl) | ((with_reducible refine al_go ?_); intro b) | ((with_reducible apply (ck_ex Tryz.call138)); exact LEL.refl _; exact ih.out _; (focus exact ⟨.tight, by intro h; cases h⟩); intro o1 ho1) | ((with_reducible apply a2_go); (focus (first | assumption | (intro h; cases h))); (focus (intro o'; repeat (first | exact ra_h | apply ra_t))); (iterate 2 (focus (first | assumption | exact len_nil | exact len_one rfl | (intro a ha; obtain ⟨x, -, rfl⟩ := List.mem_map.1 ha; first | rfl | simp) | (intro a ha; simp at ha; simp [ha])))); (iterate 2 (focus (first | omega | (simp only [List.length_map, List.length_cons, List.length_nil, List.length_append]; omega)))); intro o' ho') | ((with_reducible apply p2_go); (focus (first | assumption | (intro h; cases h))); (focus (intro o'; repeat (first | exact ra_h | apply ra_t))); (focus (first | assumption | exact len_nil | exact len_one rfl | (intro a ha; obtain ⟨x, -, rfl⟩ := List.mem_map.1 ha; first | rfl | simp) | (intro a ha; simp at ha; simp [ha]))); (iterate 2 (focus (first | omega | (simp only [List.length_map, List.length_cons, List.length_nil, List.length_append]; omega)))); intro o' ho') | ((with_reducible first | refine w_region ?_ ?_ | refine w_dra ?_ ?_); kernel_rfl) | ((with_reducible refine Go3.go ?_ ?_); all_goals (intro hb; (try with_reducible intro hb1); (try (exfalso; first | contradiction | omega)))) | fail)
        refine ⟨i + 1, .room o' 5 1 ((B ++ bs).map encB).length :: st, ?_, ⟨hlt, ?_, ?_, ?_, ?_, o', ho', B ++ bs, HB2, hBl2.trans (by rw [hq1.out]), ?_, rfl⟩, ?_⟩
        · rw [List.map_append]; (repeat (first | exact List.Sublist.refl _ | apply List.Sublist.cons))
        all_goals (first | rfl | assumption | omega | (simp (disch := omega) only [push_cast, simprocAttr, *]; try omega; done))
    · have hBe : B = UInt8.ofNat (Int.toNat 5) :: (hd ++ putL l) := by
        rw [HB.out, List.take_of_length_le (by omega)]
      rw [← hBe]
      clear hBe HB IH hrin
      repeat' (first | with_reducible refine Go1.go ?_ | ((with_reducible apply ev_go); (focus ((try simp (disch := omega) only [push_cast, simprocAttr, *]); (try exact rfl); done))) | ((with_reducible refine w_last ?_ ?_ ?_); kernel_rfl; rfl) | with_reducible refine Go2.go ?_ | ((with_reducible first | apply w_stepG | refine s_bi ?_ ?_ | refine blk_ne ?_ ?_); rfl) | ((with_reducible refine al_go ?_); intro b) | ((with_reducible apply a2_go); (focus (first | assumption | (intro h; cases h))); (focus (intro o'; repeat (first | exact ra_h | apply ra_t))); (iterate 2 (focus (first | assumption | exact len_nil | exact len_one rfl | (intro a ha; obtain ⟨x, -, rfl⟩ := List.mem_map.1 ha; first | rfl | simp) | (intro a ha; simp at ha; simp [ha])))); (iterate 2 (focus (first | omega | (simp only [List.length_map, List.length_cons, List.length_nil, List.length_append]; omega)))); intro o' ho') | ((with_reducible apply p2_go); (focus (first | assumption | (intro h; cases h))); (focus (intro o'; repeat (first | exact ra_h | apply ra_t))); (focus (first | assumption | exact len_nil | exact len_one rfl | (intro a ha; obtain ⟨x, -, rfl⟩ := List.mem_map.1 ha; first | rfl | simp) | (intro a ha; simp at ha; simp [ha]))); (iterate 2 (focus (first | omega | (simp only [List.length_map, List.length_cons, List.length_nil, List.length_append]; omega)))); intro o' ho') | ((with_reducible first | refine w_region ?_ ?_ | refine w_dra ?_ ?_); kernel_rfl) | ((with_reducible refine Go3.go ?_ ?_); all_goals (intro hb; (try with_reducible intro hb1); (try (exfalso; first | contradiction | omega)))) | fail)
      all_goals ((apply ret_own (by simp) (by first | rfl | assumption)); (focus ((try simp (disch := omega) only [push_cast, simprocAttr, *]); (try exact rfl); done)); (focus (first | assumption | (intro h; cases h))); (focus ((repeat (first | exact List.Sublist.refl _ | apply List.Sublist.cons)); done)))
      all_goals rfl
end Go.Proofs.YtgcienlfpnpbgaaGreat
end

section
namespace Go.Proofs.YtgcienlfpnpbgaaGreat
set_option linter.unusedSimpArgs false
attribute [local push_cast] encB encI V.cells_mk V.cells_take V.cells_len Nat.mul_one
open Go.RowKit B
set_option maxRecDepth 10000
set_option maxHeartbeats 4000000
theorem rdByteF (b : Nat) (s : RS) (st : St) : TrF Tryz.prog 116 [.ptr b 0] (rdR b s :: st) fun x st' => x = .i s.byte.1 ∧ st' = rdR b s.byte.2 :: st := by
  have hC := Lib.hid (takeByteF b s)
  generalize s.byte = q at *
  refine trF_enter (ts := [2]) Tryz.func116 rfl (by rw [Tryz.ntmps116]; exact Nat.le_of_ble_eq_true rfl) (fun tmps w => by simp [results, Tryz.results116, go_sem, resVal]) ?_
  simp only [Tryz.ntmps116]
  repeat' (first | with_reducible refine Go1.go ?_ | ((with_reducible apply ev_go); (focus ((try simp (disch := omega) only [push_cast, simprocAttr, *]); (try exact rfl); done))) | ((with_reducible refine w_last ?_ ?_ ?_); kernel_rfl; rfl) | with_reducible refine Go2.go ?_ | ((with_reducible first | apply w_stepG | refine s_bi ?_ ?_ | refine blk_ne ?_ ?_); rfl) | ((with_reducible refine al_go ?_); intro b) | ((with_reducible apply (ck_le Tryz.call165)); exact LEL.refl _; exact hC.out _) | ((with_reducible first | refine w_region ?_ ?_ | refine w_dra ?_ ?_); kernel_rfl) | ((with_reducible refine Go3.go ?_ ?_); all_goals (intro hb; (try with_reducible intro hb1); (try (exfalso; first | contradiction | omega)))) | fail)
  all_goals (refine ret_eq (by simp) (by first | rfl | assumption) (by (repeat (first | exact List.Sublist.refl _ | apply List.Sublist.cons))) ?_; (try simp (disch := omega) only [push_cast, simprocAttr, *]); try (first | exact LE.refl _ | exact LE.sl _ _ | ((first | refine LE.tup ?_ | refine LE.agg ?_); (repeat' (first | exact LEL.nil | refine LEL.cons ?_ ?_ | exact LE.refl _ | exact LE.sl _ _ | refine LE.agg ?_)); done) | refine LE.of_eq ?_))
theorem take_split (l : List UInt8) (n : Nat) (h : n ≤ l.length) : l.take n ++ l.drop n = l ∧ (l.take n).length = n := ⟨List.take_append_drop n l, by rw [List.length_take]; omega⟩
theorem rdNumF (b : Nat) (s : RS) (st : St) : TrF Tryz.prog 142 [.ptr b 0] (rdR b s :: st) fun x st' => x = .i s.rnum.1 ∧ st' = rdR b s.rnum.2 :: st := by
  have hC : ∀ st, TrF Tryz.prog 165 [.ptr b 0, .i 4, .fn (.func 179) [] []] (rdR b s :: st) fun x st' => x = .i s.rnum.1 ∧ st' = rdR b s.rnum.2 :: st := by
    unfold RS.rnum
    by_cases h : s.bad = true ∨ s.l.length < 4
    · rw [if_pos h]
      exact takeNum0F b s (h.imp id fun h => by omega)
    · rw [if_neg h]
      obtain ⟨o, l, bad⟩ := s
      dsimp only at h ⊢
      cases bad with
      | true => exact absurd (.inl rfl) h
      | false =>
        obtain ⟨h1, h2⟩ := take_split l 4 (by omega)
        split
        · rename_i hx; exact takeNumF b o l _ _ h1 h2 hx
        · rename_i hx; exact takeNum1F b o l _ _ h1 h2 hx
  replace hC := Lib.hid hC
  generalize s.rnum = q at *
  refine trF_enter (ts := [2]) Tryz.func142 rfl (by rw [Tryz.ntmps142]; exact Nat.le_of_ble_eq_true rfl) (fun tmps w => by simp [results, Tryz.results142, go_sem, resVal]) ?_
  simp only [Tryz.ntmps142]
  repeat' (first | with_reducible refine Go1.go ?_ | ((with_reducible apply ev_go); (focus ((try simp (disch := omega) only [push_cast, simprocAttr, *]); (try exact rfl); done))) | ((with_reducible refine w_last ?_ ?_ ?_); kernel_rfl; rfl) | with_reducible refine Go2.go ?_ | ((with_reducible first | apply w_stepG | refine s_bi ?_ ?_ | refine blk_ne ?_ ?_); rfl) | ((with_reducible refine al_go ?_); intro b) | ((with_reducible apply (ck_le Tryz.call165)); exact LEL.refl _; exact hC.out _) | ((with_reducible first | refine w_region ?_ ?_ | refine w_dra ?_ ?_); kernel_rfl) | ((with_reducible refine Go3.go ?_ ?_); all_goals (intro hb; (try with_reducible intro hb1); (try (exfalso; first | contradiction | omega)))) | fail)
  all_goals (refine ret_eq (by simp) (by first | rfl | assumption) (by (repeat (first | exact List.Sublist.refl _ | apply List.Sublist.cons))) ?_; (try simp (disch := omega) only [push_cast, simprocAttr, *]); try (first | exact LE.refl _ | exact LE.sl _ _ | ((first | refine LE.tup ?_ | refine LE.agg ?_); (repeat' (first | exact LEL.nil | refine LEL.cons ?_ ?_ | exact LE.refl _ | exact LE.sl _ _ | refine LE.agg ?_)); done) | refine LE.of_eq ?_))
theorem rdLongF (b : Nat) (s : RS) (st : St) : TrF Tryz.prog 126 [.ptr b 0] (rdR b s :: st) fun x st' => x = .i s.long.1 ∧ st' = rdR b s.long.2 :: st := by
  have hC : ∀ st, TrF Tryz.prog 170 [.ptr b 0, .i 8, .fn (.func 171) [] []] (rdR b s :: st) fun x st' => x = .i s.long.1 ∧ st' = rdR b s.long.2 :: st := by
    unfold RS.long
    by_cases h : s.bad = true ∨ s.l.length < 8
    · rw [if_pos h]
      exact takeLong0F b s (h.imp id fun h => by omega)
    · rw [if_neg h]
      obtain ⟨o, l, bad⟩ := s
      dsimp only at h ⊢
      cases bad with
      | true => exact absurd (.inl rfl) h
      | false =>
        obtain ⟨h1, h2⟩ := take_split l 8 (by omega)
        exact takeLongF b o l _ _ h1 h2
  replace hC := Lib.hid hC
  generalize s.long = q at *
  refine trF_enter (ts := [2]) Tryz.func126 rfl (by rw [Tryz.ntmps126]; exact Nat.le_of_ble_eq_true rfl) (fun tmps w => by simp [results, Tryz.results126, go_sem, resVal]) ?_
  simp only [Tryz.ntmps126]
  repeat' (first | with_reducible refine Go1.go ?_ | ((with_reducible apply ev_go); (focus ((try simp (disch := omega) only [push_cast, simprocAttr, *]); (try exact rfl); done))) | ((with_reducible refine w_last ?_ ?_ ?_); kernel_rfl; rfl) | with_reducible refine Go2.go ?_ | ((with_reducible first | apply w_stepG | refine s_bi ?_ ?_ | refine blk_ne ?_ ?_); rfl) | ((with_reducible refine al_go ?_); intro b) | ((with_reducible apply (ck_le Tryz.call170)); exact LEL.refl _; exact hC.out _) | ((with_reducible first | refine w_region ?_ ?_ | refine w_dra ?_ ?_); kernel_rfl) | ((with_reducible refine Go3.go ?_ ?_); all_goals (intro hb; (try with_reducible intro hb1); (try (exfalso; first | contradiction | omega)))) | fail)
  all_goals (refine ret_eq (by simp) (by first | rfl | assumption) (by (repeat (first | exact List.Sublist.refl _ | apply List.Sublist.cons))) ?_; (try simp (disch := omega) only [push_cast, simprocAttr, *]); try (first | exact LE.refl _ | exact LE.sl _ _ | ((first | refine LE.tup ?_ | refine LE.agg ?_); (repeat' (first | exact LEL.nil | refine LEL.cons ?_ ?_ | exact LE.refl _ | exact LE.sl _ _ | refine LE.agg ?_)); done) | refine LE.of_eq ?_))
theorem rdTextF (b : Nat) (s : RS) (st : St) : TrF Tryz.prog 75 [.ptr b 0] (rdR b s :: st) fun x st' => x = .str s.text.1 ∧ st' = rdR b s.text.2 :: st := by
  have hN := Lib.hid (rdNumF b s)
  have hC : ∀ st, TrF Tryz.prog 143 [.ptr b 0, .i s.rnum.1, .fn (.func 144) [] []] (rdR b s.rnum.2 :: st) fun x st' => x = .str s.text.1 ∧ st' = rdR b s.text.2 :: st := by
    unfold RS.text RS.textN
    generalize s.rnum = q
    obtain ⟨n, s1⟩ := q
    dsimp only
    by_cases h : s1.bad = true ∨ n < 0 ∨ s1.l.length < n
    · rw [if_pos h]
      exact takeText0F b s1 n h
    · rw [if_neg h]
      obtain ⟨o, l, bad⟩ := s1
      dsimp only at h ⊢
      cases bad with
      | true => exact absurd (.inl rfl) h
      | false =>
        obtain ⟨m, rfl⟩ : ∃ m : Nat, n = m := ⟨n.toNat, by omega⟩
        obtain ⟨h1, h2⟩ := take_split l m (by omega)
        exact takeTextF b o l _ _ m h1 h2
  replace hC := Lib.hid hC
  generalize s.rnum = q at *
  generalize s.text = q' at *
  refine trF_enter (ts := [2]) Tryz.func75 rfl (by rw [Tryz.ntmps75]; exact Nat.le_of_ble_eq_true rfl) (fun tmps w => by simp [results, Tryz.results75, go_sem, resVal]) ?_
  simp only [Tryz.ntmps75]
  repeat' (first | with_reducible refine Go1.go ?_ | ((with_reducible apply ev_go); (focus ((try simp (disch := omega) only [push_cast, simprocAttr, *]); (try exact rfl); done))) | ((with_reducible refine w_last ?_ ?_ ?_); kernel_rfl; rfl) | with_reducible refine Go2.go ?_ | ((with_reducible first | apply w_stepG | refine s_bi ?_ ?_ | refine blk_ne ?_ ?_); rfl) | ((with_reducible refine al_go ?_); intro b) | ((with_reducible apply (ck_le Tryz.call142)); exact LEL.refl _; exact hN.out _) | ((with_reducible apply (ck_le Tryz.call143)); exact LEL.refl _; exact hC.out _) | ((with_reducible first | refine w_region ?_ ?_ | refine w_dra ?_ ?_); kernel_rfl) | ((with_reducible refine Go3.go ?_ ?_); all_goals (intro hb; (try with_reducible intro hb1); (try (exfalso; first | contradiction | omega)))) | fail)
  all_goals (refine ret_eq (by simp) (by first | rfl | assumption) (by (repeat (first | exact List.Sublist.refl _ | apply List.Sublist.cons))) ?_; (try simp (disch := omega) only [push_cast, simprocAttr, *]); try (first | exact LE.refl _ | exact LE.sl _ _ | ((first | refine LE.tup ?_ | refine LE.agg ?_); (repeat' (first | exact LEL.nil | refine LEL.cons ?_ ?_ | exact LE.refl _ | exact LE.sl _ _ | refine LE.agg ?_)); done) | refine LE.of_eq ?_))
namespace RS
def vals (f : RS → V × RS) : Nat → RS → List V × RS
  | 0, s => ([], s)
  | n + 1, s => if s.bad = true then ([], s) else ((f s).1 :: (vals f n (f s).2).1, (vals f n (f s).2).2)
def list5 (f : Option (RS → V × RS)) (n : Int) (s : RS) : V × RS :=
  match f with
  | none => (.mk 5 0 ⟨#[]⟩ [], fail)
  | some f => if 20 < n then (.mk 5 0 ⟨#[]⟩ [], fail) else (.mk 5 0 ⟨#[]⟩ (vals f n.toNat s).1, (vals f n.toNat s).2)
def body (f : Option (RS → V × RS)) (s : RS) : V × RS :=
  if s.byte.1 = 1 then (.mk 1 s.byte.2.byte.1 ⟨#[]⟩ [], s.byte.2.byte.2)
  else if s.byte.1 = 2 then (.mk 2 s.byte.2.long.1 ⟨#[]⟩ [], s.byte.2.long.2)
  else if s.byte.1 = 3 ∨ s.byte.1 = 4 then (.mk s.byte.1 0 s.byte.2.text.1 [], s.byte.2.text.2)
  else if s.byte.1 = 5 then list5 f s.byte.2.rnum.1 s.byte.2.rnum.2
  else (.mk s.byte.1 0 ⟨#[]⟩ [], s.byte.2)
def value : Nat → RS → V × RS
  | 0 => body none
  | d + 1 => body (some (value d))
theorem rnum_pos (s : RS) : 0 ≤ s.rnum.1 := by
  unfold rnum; split
  · exact Int.le_refl _
  · split
    · exact Int.natCast_nonneg _
    · exact Int.le_refl _
end RS
end Go.Proofs.YtgcienlfpnpbgaaGreat
end

section
namespace Go.Proofs.YtgcienlfpnpbgaaGreat
set_option linter.unusedSimpArgs false
attribute [local push_cast] encB encI V.cells_mk V.cells_take V.cells_len Nat.mul_one
open Go.RowKit B
set_option maxRecDepth 10000
set_option maxHeartbeats 4000000
theorem tr_once {P : Program} {N : Nat} {r : Option Nat} {A : AA} {st : St} {Q : Exit → AA → St → Prop} {c : Code} (h : Tr P N r c A st (thenA (fun _ _ => False) Q)) : Tr P N r (.loop c) A st Q :=
  tr_loop (fun (_ : Unit) A' st' => A' = A ∧ st' = st) (fun _ => 0) () ⟨rfl, rfl⟩ fun _ A' st' ⟨e1, e2⟩ => by
    subst e1 e2
    exact tr_mono h fun ex A s hq => by cases ex <;> first | exact hq.elim | exact hq
theorem keep_one {b : Nat} {ty : TypeId} {cs : List D} {st : St} (h : Res.box b ty cs ∈ st) : Keep (some [(b, cs)]) st := fun b' cs' hl => by
  rw [List.lookup_cons] at hl
  split at hl
  · rename_i he
    cases hl
    have : b' = b := eq_of_beq he
    subst this
    exact ⟨ty, h⟩
  · cases hl
namespace RS
def sub : Nat → Option (RS → V × RS)
  | 0 => none
  | e + 1 => some (value e)
theorem value_eq (d : Nat) (s : RS) : value d s = body (sub d) s := by cases d <;> rfl
end RS
open RS in
theorem rdValueF : ∀ (d : Nat), d ≤ 4 → ∀ (rb : Nat) (s : RS) (st : St), TrF Tryz.prog 167 [.ptr rb 0, .i d] (rdR rb s :: st) fun x st' => x = .agg (RS.value d s).1.cells ∧ st' = rdR rb (RS.value d s).2 :: st := fun d => by
  induction d using Nat.strongRecOn with
  | _ d IHd =>
  intro hd4 rb s st
  have IH : ∀ f, sub d = some f → ∀ b s st, TrF Tryz.prog 167 [.ptr b 0, .i ((d : Int) - 1)] (rdR b s :: st) fun x st' => x = .agg (f s).1.cells ∧ st' = rdR b (f s).2 :: st := by
    intro f hf
    cases d with
    | zero => cases hf
    | succ e =>
      cases hf
      intro b s st
      have := IHd e (by omega) (by omega) b s st
      rwa [show (((e + 1 : Nat) : Int) - 1) = (e : Int) by omega]
  have hd0 : d = 0 ↔ sub d = none := by cases d <;> simp [sub]
  rw [value_eq]
  clear IHd
  generalize sub d = f? at *
  have hB := Lib.hid (rdByteF rb s)
  unfold body
  generalize s.byte = q at *
  obtain ⟨k, s1⟩ := q
  dsimp only at *
  refine trF_enterC (G := cellA 4 73 Tryz.prog) Tryz.func167 rfl (by rw [Tryz.ntmps167]; exact Nat.le_of_ble_eq_true rfl) (fun h1 h2 h3 => res_cell rfl h1 h2 h3) ?_
  simp only [Tryz.ntmps167]
  refine tr_room 73 4 0 ?_
  by_cases k1 : k = 1
  · subst k1
    rw [if_pos rfl]
    have hB2 := Lib.hid (rdByteF rb s1)
    generalize s1.byte = q2 at *
    clear IH hd0
    repeat' (first | with_reducible refine Go1.go ?_ | ((with_reducible apply ev_go); (focus ((try simp (disch := omega) only [push_cast, simprocAttr, *]); (try exact rfl); done))) | ((with_reducible refine w_last ?_ ?_ ?_); kernel_rfl; rfl) | with_reducible refine Go2.go ?_ | ((with_reducible first | apply w_stepG | refine s_bi ?_ ?_ | refine blk_ne ?_ ?_); rfl) | ((with_reducible refine al_go ?_); intro b) | ((with_reducible apply (ck_at Tryz.call116)); exact LEL.refl _; exact hB.out; (focus ((repeat (first | exact ra_h | apply ra_t)); done))) | ((with_reducible apply (ck_at Tryz.call116)); exact LEL.refl _; exact hB2.out; (focus ((repeat (first | exact ra_h | apply ra_t)); done))) | ((with_reducible apply a2_go); (focus (first | assumption | (intro h; cases h))); (focus (intro o'; repeat (first | exact ra_h | apply ra_t))); (iterate 2 (focus (first | assumption | exact len_nil | exact len_one rfl | (intro a ha; obtain ⟨x, -, rfl⟩ := List.mem_map.1 ha; first | rfl | simp) | (intro a ha; simp at ha; simp [ha])))); (iterate 2 (focus (first | omega | (simp only [List.length_map, List.length_cons, List.length_nil, List.length_append]; omega)))); intro o' ho') | ((with_reducible first | refine w_region ?_ ?_ | refine w_dra ?_ ?_); kernel_rfl) | ((with_reducible refine Go3.go ?_ ?_); all_goals (intro hb; (try with_reducible intro hb1); (try (exfalso; first | contradiction | omega)))) | fail)
    all_goals (refine retC_cell (by simp) (by first | rfl | assumption) (by simp (disch := omega) only [push_cast, simprocAttr, *]; exact rfl) (by repeat (first | exact mm_h | apply mm_t)) (by simp (disch := omega) only [push_cast, simprocAttr, *]; exact rfl) (by (try simp (disch := omega) only [push_cast, simprocAttr, *]); (try exact rfl); done) (by (repeat (first | exact List.Sublist.refl _ | apply List.Sublist.cons))) ?_ ⟨rfl, rfl⟩; (try simp (disch := omega) only [push_cast, simprocAttr, *]); try (first | exact LE.refl _ | exact LE.sl _ _ | ((first | refine LE.tup ?_ | refine LE.agg ?_); (repeat' (first | exact LEL.nil | refine LEL.cons ?_ ?_ | exact LE.refl _ | exact LE.sl _ _ | refine LE.agg ?_)); done) | refine LE.of_eq ?_))
  rw [if_neg k1]
  have b1 : (k == 1) = false := by simpa using k1
  by_cases k2 : k = 2
  · subst k2
    rw [if_pos rfl]
    have hB2 := Lib.hid (rdLongF rb s1)
    generalize s1.long = q2 at *
    clear IH hd0
    repeat' (first | with_reducible refine Go1.go ?_ | ((with_reducible apply ev_go); (focus ((try simp (disch := omega) only [push_cast, simprocAttr, *]); (try exact rfl); done))) | ((with_reducible refine w_last ?_ ?_ ?_); kernel_rfl; rfl) | with_reducible refine Go2.go ?_ | ((with_reducible first | apply w_stepG | refine s_bi ?_ ?_ | refine blk_ne ?_ ?_); rfl) | ((with_reducible refine al_go ?_); intro b) | ((with_reducible apply (ck_at Tryz.call116)); exact LEL.refl _; exact hB.out; (focus ((repeat (first | exact ra_h | apply ra_t)); done))) | ((with_reducible apply (ck_at Tryz.call126)); exact LEL.refl _; exact hB2.out; (focus ((repeat (first | exact ra_h | apply ra_t)); done))) | ((with_reducible apply a2_go); (focus (first | assumption | (intro h; cases h))); (focus (intro o'; repeat (first | exact ra_h | apply ra_t))); (iterate 2 (focus (first | assumption | exact len_nil | exact len_one rfl | (intro a ha; obtain ⟨x, -, rfl⟩ := List.mem_map.1 ha; first | rfl | simp) | (intro a ha; simp at ha; simp [ha])))); (iterate 2 (focus (first | omega | (simp only [List.length_map, List.length_cons, List.length_nil, List.length_append]; omega)))); intro o' ho') | ((with_reducible first | refine w_region ?_ ?_ | refine w_dra ?_ ?_); kernel_rfl) | ((with_reducible refine Go3.go ?_ ?_); all_goals (intro hb; (try with_reducible intro hb1); (try (exfalso; first | contradiction | omega)))) | fail)
    all_goals (refine retC_cell (by simp) (by first | rfl | assumption) (by simp (disch := omega) only [push_cast, simprocAttr, *]; exact rfl) (by repeat (first | exact mm_h | apply mm_t)) (by simp (disch := omega) only [push_cast, simprocAttr, *]; exact rfl) (by (try simp (disch := omega) only [push_cast, simprocAttr, *]); (try exact rfl); done) (by (repeat (first | exact List.Sublist.refl _ | apply List.Sublist.cons))) ?_ ⟨rfl, rfl⟩; (try simp (disch := omega) only [push_cast, simprocAttr, *]); try (first | exact LE.refl _ | exact LE.sl _ _ | ((first | refine LE.tup ?_ | refine LE.agg ?_); (repeat' (first | exact LEL.nil | refine LEL.cons ?_ ?_ | exact LE.refl _ | exact LE.sl _ _ | refine LE.agg ?_)); done) | refine LE.of_eq ?_))
  rw [if_neg k2]
  have b2 : (k == 2) = false := by simpa using k2
  by_cases k3 : k = 3 ∨ k = 4
  · rw [if_pos k3]
    have hB2 := Lib.hid (rdTextF rb s1)
    generalize s1.text = q2 at *
    clear IH hd0 b1 b2 k1 k2
    rcases k3 with rfl | rfl
    · repeat' (first | with_reducible refine Go1.go ?_ | ((with_reducible apply ev_go); (focus ((try simp (disch := omega) only [push_cast, simprocAttr, *]); (try exact rfl); done))) | ((with_reducible refine w_last ?_ ?_ ?_); kernel_rfl; rfl) | with_reducible refine Go2.go ?_ | ((with_reducible first | apply w_stepG | refine s_bi ?_ ?_ | refine blk_ne ?_ ?_); rfl) | ((with_reducible refine al_go ?_); intro b) | ((with_reducible apply (ck_at Tryz.call116)); exact LEL.refl _; exact hB.out; (focus ((repeat (first | exact ra_h | apply ra_t)); done))) | ((with_reducible apply (ck_at Tryz.call75)); exact LEL.refl _; exact hB2.out; (focus ((repeat (first | exact ra_h | apply ra_t)); done))) | ((with_reducible apply a2_go); (focus (first | assumption | (intro h; cases h))); (focus (intro o'; repeat (first | exact ra_h | apply ra_t))); (iterate 2 (focus (first | assumption | exact len_nil | exact len_one rfl | (intro a ha; obtain ⟨x, -, rfl⟩ := List.mem_map.1 ha; first | rfl | simp) | (intro a ha; simp at ha; simp [ha])))); (iterate 2 (focus (first | omega | (simp only [List.length_map, List.length_cons, List.length_nil, List.length_append]; omega)))); intro o' ho') | ((with_reducible first | refine w_region ?_ ?_ | refine w_dra ?_ ?_); kernel_rfl) | ((with_reducible refine Go3.go ?_ ?_); all_goals (intro hb; (try with_reducible intro hb1); (try (exfalso; first | contradiction | omega)))) | fail)
      all_goals (refine retC_cell (by simp) (by first | rfl | assumption) (by simp (disch := omega) only [push_cast, simprocAttr, *]; exact rfl) (by repeat (first | exact mm_h | apply mm_t)) (by simp (disch := omega) only [push_cast, simprocAttr, *]; exact rfl) (by (try simp (disch := omega) only [push_cast, simprocAttr, *]); (try exact rfl); done) (by (repeat (first | exact List.Sublist.refl _ | apply List.Sublist.cons))) ?_ ⟨rfl, rfl⟩; (try simp (disch := omega) only [push_cast, simprocAttr, *]); try (first | exact LE.refl _ | exact LE.sl _ _ | ((first | refine LE.tup ?_ | refine LE.agg ?_); (repeat' (first | exact LEL.nil | refine LEL.cons ?_ ?_ | exact LE.refl _ | exact LE.sl _ _ | refine LE.agg ?_)); done) | refine LE.of_eq ?_))
    · repeat' (first | with_reducible refine Go1.go ?_ | ((with_reducible apply ev_go); (focus ((try simp (disch := omega) only [push_cast, simprocAttr, *]); (try exact rfl); done))) | ((with_reducible refine w_last ?_ ?_ ?_); kernel_rfl; rfl) | with_reducible refine Go2.go ?_ | ((with_reducible first | apply w_stepG | refine s_bi ?_ ?_ | refine blk_ne ?_ ?_); rfl) | ((with_reducible refine al_go ?_); intro b) | ((with_reducible apply (ck_at Tryz.call116)); exact LEL.refl _; exact hB.out; (focus ((repeat (first | exact ra_h | apply ra_t)); done))) | ((with_reducible apply (ck_at Tryz.call75)); exact LEL.refl _; exact hB2.out; (focus ((repeat (first | exact ra_h | apply ra_t)); done))) | ((with_reducible apply a2_go); (focus (first | assumption | (intro h; cases h))); (focus (intro o'; repeat (first | exact ra_h | apply ra_t))); (iterate 2 (focus (first | assumption | exact len_nil | exact len_one rfl | (intro a ha; obtain ⟨x, -, rfl⟩ := List.mem_map.1 ha; first | rfl | simp) | (intro a ha; simp at ha; simp [ha])))); (iterate 2 (focus (first | omega | (simp only [List.length_map, List.length_cons, List.length_nil, List.length_append]; omega)))); intro o' ho') | ((with_reducible first | refine w_region ?_ ?_ | refine w_dra ?_ ?_); kernel_rfl) | ((with_reducible refine Go3.go ?_ ?_); all_goals (intro hb; (try with_reducible intro hb1); (try (exfalso; first | contradiction | omega)))) | fail)
      all_goals (refine retC_cell (by simp) (by first | rfl | assumption) (by simp (disch := omega) only [push_cast, simprocAttr, *]; exact rfl) (by repeat (first | exact mm_h | apply mm_t)) (by simp (disch := omega) only [push_cast, simprocAttr, *]; exact rfl) (by (try simp (disch := omega) only [push_cast, simprocAttr, *]); (try exact rfl); done) (by (repeat (first | exact List.Sublist.refl _ | apply List.Sublist.cons))) ?_ ⟨rfl, rfl⟩; (try simp (disch := omega) only [push_cast, simprocAttr, *]); try (first | exact LE.refl _ | exact LE.sl _ _ | ((first | refine LE.tup ?_ | refine LE.agg ?_); (repeat' (first | exact LEL.nil | refine LEL.cons ?_ ?_ | exact LE.refl _ | exact LE.sl _ _ | refine LE.agg ?_)); done) | refine LE.of_eq ?_))
  rw [if_neg k3]
  have b3 : (k == 3) = false := by simp; omega
  have b4 : (k == 4) = false := by simp; omega
  by_cases k5 : k = 5
  case neg =>
    rw [if_neg k5]
    have b5 : (k == 5) = false := by simpa using k5
    clear IH hd0
    repeat' (first | with_reducible refine Go1.go ?_ | ((with_reducible apply ev_go); (focus ((try simp (disch := omega) only [push_cast, simprocAttr, *]); (try exact rfl); done))) | ((with_reducible refine w_last ?_ ?_ ?_); kernel_rfl; rfl) | with_reducible refine Go2.go ?_ | ((with_reducible first | apply w_stepG | refine s_bi ?_ ?_ | refine blk_ne ?_ ?_); rfl) | ((with_reducible refine al_go ?_); intro b) | ((with_reducible apply (ck_at Tryz.call116)); exact LEL.refl _; exact hB.out; (focus ((repeat (first | exact ra_h | apply ra_t)); done))) | ((with_reducible apply a2_go); (focus (first | assumption | (intro h; cases h))); (focus (intro o'; repeat (first | exact ra_h | apply ra_t))); (iterate 2 (focus (first | assumption | exact len_nil | exact len_one rfl | (intro a ha; obtain ⟨x, -, rfl⟩ := List.mem_map.1 ha; first | rfl | simp) | (intro a ha; simp at ha; simp [ha])))); (iterate 2 (focus (first | omega | (simp only [List.length_map, List.length_cons, List.length_nil, List.length_append]; omega)))); intro o' ho') | ((with_reducible first | refine w_region ?_ ?_ | refine w_dra ?_ ?_); kernel_rfl) | ((with_reducible refine Go3.go ?_ ?_); all_goals (intro hb; (try with_reducible intro hb1); (try (exfalso; first | contradiction | omega)))) | fail)
    all_goals (refine retC_cell (by simp) (by first | rfl | assumption) (by simp (disch := omega) only [push_cast, simprocAttr, *]; exact rfl) (by repeat (first | exact mm_h | apply mm_t)) (by simp (disch := omega) only [push_cast, simprocAttr, *]; exact rfl) (by (try simp (disch := omega) only [push_cast, simprocAttr, *]); (try exact rfl); done) (by (repeat (first | exact List.Sublist.refl _ | apply List.Sublist.cons))) ?_ ⟨rfl, rfl⟩; (try simp (disch := omega) only [push_cast, simprocAttr, *]); try (first | exact LE.refl _ | exact LE.sl _ _ | ((first | refine LE.tup ?_ | refine LE.agg ?_); (repeat' (first | exact LEL.nil | refine LEL.cons ?_ ?_ | exact LE.refl _ | exact LE.sl _ _ | refine LE.agg ?_)); done) | refine LE.of_eq ?_))
  subst k5
  rw [if_pos rfl]
  have hN := Lib.hid (rdNumF rb s1)
  have hnp := rnum_pos s1
  clear k1 k2 k3 b1 b2 b3 b4
  generalize s1.rnum = q2 at *
  obtain ⟨n, s2⟩ := q2
  dsimp only at *
  have hF := Lib.hid (rdFailF rb s2)
  have hBad := Lib.hid (rdBadF rb)
  by_cases hbad : d = 0 ∨ 20 < n
  · have hres : list5 f? n s2 = (V.mk 5 0 ⟨#[]⟩ [], fail) := by
      unfold list5
      cases f? with
      | none => rfl
      | some f =>
        have : d ≠ 0 := fun h => by have := hd0.1 h; cases this
        exact if_pos (by omega)
    rw [hres]
    clear hres hd0 IH
    have hbad' : (d : Int) = 0 ∨ 20 < n := by omega
    clear hbad
    repeat' (first | with_reducible refine Go1.go ?_ | ((with_reducible apply ev_go); (focus ((try simp (disch := omega) only [push_cast, simprocAttr, *]); (try exact rfl); done))) | ((with_reducible refine w_last ?_ ?_ ?_); kernel_rfl; rfl) | with_reducible refine Go2.go ?_ | ((with_reducible first | apply w_stepG | refine s_bi ?_ ?_ | refine blk_ne ?_ ?_); rfl) | ((with_reducible refine al_go ?_); intro b) | ((with_reducible apply (ck_at Tryz.call116)); exact LEL.refl _; exact hB.out; (focus ((repeat (first | exact ra_h | apply ra_t)); done))) | ((with_reducible apply (ck_at Tryz.call142)); exact LEL.refl _; exact hN.out; (focus ((repeat (first | exact ra_h | apply ra_t)); done))) | ((with_reducible apply (ck_at Tryz.call169)); exact LEL.refl _; exact hF.out; (focus ((repeat (first | exact ra_h | apply ra_t)); done))) | ((with_reducible apply a2_go); (focus (first | assumption | (intro h; cases h))); (focus (intro o'; repeat (first | exact ra_h | apply ra_t))); (iterate 2 (focus (first | assumption | exact len_nil | exact len_one rfl | (intro a ha; obtain ⟨x, -, rfl⟩ := List.mem_map.1 ha; first | rfl | simp) | (intro a ha; simp at ha; simp [ha])))); (iterate 2 (focus (first | omega | (simp only [List.length_map, List.length_cons, List.length_nil, List.length_append]; omega)))); intro o' ho') | ((with_reducible first | refine w_region ?_ ?_ | refine w_dra ?_ ?_); kernel_rfl) | ((with_reducible refine Go3.go ?_ ?_); all_goals (intro hb; (try with_reducible intro hb1); (try (exfalso; first | contradiction | omega)))) | fail)
    all_goals
      refine tr_once ?_
      by_cases hn0 : 0 < n
      · repeat' (first | with_reducible refine Go1.go ?_ | ((with_reducible apply ev_go); (focus ((try simp (disch := omega) only [push_cast, simprocAttr, *]); (try exact rfl); done))) | ((with_reducible refine w_last ?_ ?_ ?_); kernel_rfl; rfl) | with_reducible refine Go2.go ?_ | ((with_reducible first | apply w_stepG | refine s_bi ?_ ?_ | refine blk_ne ?_ ?_); rfl) | ((with_reducible refine al_go ?_); intro b) | ((with_reducible apply (ck_at Tryz.call80)); exact LEL.refl _; exact hBad.out fail; (focus ((repeat (first | exact ra_h | apply ra_t)); done))) | ((with_reducible apply a2_go); (focus (first | assumption | (intro h; cases h))); (focus (intro o'; repeat (first | exact ra_h | apply ra_t))); (iterate 2 (focus (first | assumption | exact len_nil | exact len_one rfl | (intro a ha; obtain ⟨x, -, rfl⟩ := List.mem_map.1 ha; first | rfl | simp) | (intro a ha; simp at ha; simp [ha])))); (iterate 2 (focus (first | omega | (simp only [List.length_map, List.length_cons, List.length_nil, List.length_append]; omega)))); intro o' ho') | ((with_reducible first | refine w_region ?_ ?_ | refine w_dra ?_ ?_); kernel_rfl) | ((with_reducible refine Go3.go ?_ ?_); all_goals (intro hb; (try with_reducible intro hb1); (try (exfalso; first | contradiction | omega)))) | fail)
        all_goals (refine retC_cell (by simp) (by first | rfl | assumption) (by simp (disch := omega) only [push_cast, simprocAttr, *]; exact rfl) (by repeat (first | exact mm_h | apply mm_t)) (by simp (disch := omega) only [push_cast, simprocAttr, *]; exact rfl) (by (try simp (disch := omega) only [push_cast, simprocAttr, *]); (try exact rfl); done) (by (repeat (first | exact List.Sublist.refl _ | apply List.Sublist.cons))) ?_ ⟨rfl, rfl⟩; (try simp (disch := omega) only [push_cast, simprocAttr, *]); try (first | exact LE.refl _ | exact LE.sl _ _ | ((first | refine LE.tup ?_ | refine LE.agg ?_); (repeat' (first | exact LEL.nil | refine LEL.cons ?_ ?_ | exact LE.refl _ | exact LE.sl _ _ | refine LE.agg ?_)); done) | refine LE.of_eq ?_))
      · repeat' (first | with_reducible refine Go1.go ?_ | ((with_reducible apply ev_go); (focus ((try simp (disch := omega) only [push_cast, simprocAttr, *]); (try exact rfl); done))) | ((with_reducible refine w_last ?_ ?_ ?_); kernel_rfl; rfl) | with_reducible refine Go2.go ?_ | ((with_reducible first | apply w_stepG | refine s_bi ?_ ?_ | refine blk_ne ?_ ?_); rfl) | ((with_reducible refine al_go ?_); intro b) | ((with_reducible apply a2_go); (focus (first | assumption | (intro h; cases h))); (focus (intro o'; repeat (first | exact ra_h | apply ra_t))); (iterate 2 (focus (first | assumption | exact len_nil | exact len_one rfl | (intro a ha; obtain ⟨x, -, rfl⟩ := List.mem_map.1 ha; first | rfl | simp) | (intro a ha; simp at ha; simp [ha])))); (iterate 2 (focus (first | omega | (simp only [List.length_map, List.length_cons, List.length_nil, List.length_append]; omega)))); intro o' ho') | ((with_reducible first | refine w_region ?_ ?_ | refine w_dra ?_ ?_); kernel_rfl) | ((with_reducible refine Go3.go ?_ ?_); all_goals (intro hb; (try with_reducible intro hb1); (try (exfalso; first | contradiction | omega)))) | fail)
        all_goals (refine retC_cell (by simp) (by first | rfl | assumption) (by simp (disch := omega) only [push_cast, simprocAttr, *]; exact rfl) (by repeat (first | exact mm_h | apply mm_t)) (by simp (disch := omega) only [push_cast, simprocAttr, *]; exact rfl) (by (try simp (disch := omega) only [push_cast, simprocAttr, *]); (try exact rfl); done) (by (repeat (first | exact List.Sublist.refl _ | apply List.Sublist.cons))) ?_ ⟨rfl, rfl⟩; (try simp (disch := omega) only [push_cast, simprocAttr, *]); try (first | exact LE.refl _ | exact LE.sl _ _ | ((first | refine LE.tup ?_ | refine LE.agg ?_); (repeat' (first | exact LEL.nil | refine LEL.cons ?_ ?_ | exact LE.refl _ | exact LE.sl _ _ | refine LE.agg ?_)); done) | refine LE.of_eq ?_))
  obtain ⟨f, rfl⟩ : ∃ f, f? = some f := by
    cases f? with
    | none => exact absurd (.inl (hd0.2 rfl)) hbad
    | some f => exact ⟨f, rfl⟩
  have hI := Lib.hid (IH f rfl rb)
  obtain ⟨m, rfl⟩ : ∃ m : Nat, n = m := ⟨n.toNat, by omega⟩
  rw [show list5 (some f) m s2 = (V.mk 5 0 ⟨#[]⟩ (vals f m s2).1, (vals f m s2).2) from if_neg (by omega)]
  have hd1 : ¬ (d : Int) = 0 := by omega
  have hm20 : m ≤ 20 := by omega
  obtain ⟨res, hres⟩ : ∃ r, vals f m s2 = r := ⟨_, rfl⟩
  have hE : Hid ([] ++ (vals f (m - 0) s2).1 = res.1 ∧ (vals f (m - 0) s2).2 = res.2) := by
    show _ ∧ _
    rw [Nat.sub_zero, hres]
    exact ⟨rfl, rfl⟩
  rw [hres]
  clear hres
  clear IH hd0 hbad hF
  repeat' (first | with_reducible refine Go1.go ?_ | ((with_reducible apply ev_go); (focus ((try simp (disch := omega) only [push_cast, simprocAttr, *]); (try exact rfl); done))) | ((with_reducible refine w_last ?_ ?_ ?_); kernel_rfl; rfl) | with_reducible refine Go2.go ?_ | ((with_reducible first | apply w_stepG | refine s_bi ?_ ?_ | refine blk_ne ?_ ?_); rfl) | ((with_reducible refine al_go ?_); intro b) | ((with_reducible apply (ck_at Tryz.call116)); exact LEL.refl _; exact hB.out; (focus ((repeat (first | exact ra_h | apply ra_t)); done))) | ((with_reducible apply (ck_at Tryz.call142)); exact LEL.refl _; exact hN.out; (focus ((repeat (first | exact ra_h | apply ra_t)); done))) | ((with_reducible apply a2_go); (focus (first | assumption | (intro h; cases h))); (focus (intro o'; repeat (first | exact ra_h | apply ra_t))); (iterate 2 (focus (first | assumption | exact len_nil | exact len_one rfl | (intro a ha; obtain ⟨x, -, rfl⟩ := List.mem_map.1 ha; first | rfl | simp) | (intro a ha; simp at ha; simp [ha])))); (iterate 2 (focus (first | omega | (simp only [List.length_map, List.length_cons, List.length_nil, List.length_append]; omega)))); intro o' ho') | ((with_reducible first | refine w_region ?_ ?_ | refine w_dra ?_ ?_); kernel_rfl) | ((with_reducible refine Go3.go ?_ ?_); all_goals (intro hb; (try with_reducible intro hb1); (try (exfalso; first | contradiction | omega)))) | fail)
  rename_i b4 _
  clear hB hN
  refine tr_loopd (ι := Nat) (fun i A st' => i ≤ m ∧ A.df = [] ∧ A.e 0 = .ptr rb 0 ∧ A.e 1 = .i d ∧ A.e 4 = .ptr b4 0 ∧ A.e 5 = .ptr b 0 ∧ A.e 40 = .i m ∧ A.e 41 = .i i ∧ ∃ o' L s' zs, o' ≠ .shared ∧ L.length ≤ i ∧ zs.length = 4 ∧ Hid (L ++ (vals f (m - i) s').1 = res.1 ∧ (vals f (m - i) s').2 = res.2) ∧ st' = .box b 73 [.i 5, .i 0, .str ⟨#[]⟩, .sl o' (L.map V.cells)] :: .box b4 73 zs :: .room o' 73 4 (L.map V.cells).length :: rdR rb s' :: st) (fun i => m - i) 0 ⟨Nat.zero_le _, ?_, ?_, ?_, ?_, ?_, ?_, ?_, .tight, [], s2, _, by simp, Nat.le_refl _, rfl, hE, rfl⟩ ?_
  iterate 7 (focus (first | rfl | assumption | omega | (simp (disch := omega) only [push_cast, simprocAttr, *]; try omega; done)))
  clear hE hnp
  rintro i A st' ⟨hi, hdf, e0, e1, e4, e5, e40, e41, o', L, s', zs, ho', hLi, hzs, hE, rfl⟩
  have hLc : (L.map V.cells).length = L.length := List.length_map _
  by_cases hlt : i < m
  · have hHE := hE.out
    rw [show m - i = (m - (i + 1)) + 1 by omega, vals] at hHE
    cases hsb : s'.bad with
    | true =>
      rw [hsb, if_pos rfl] at hHE
      obtain ⟨r1, r2⟩ := res
      obtain ⟨hr1, hr2⟩ := hHE
      dsimp only at hr1 hr2
      rw [List.append_nil] at hr1
      subst hr1 hr2
      have hBs := hBad.out s'
      rw [hsb] at hBs
      replace hBs := Lib.hid hBs
      clear hE hI hBad
      repeat' (first | with_reducible refine Go1.go ?_ | ((with_reducible apply ev_go); (focus ((try simp (disch := omega) only [push_cast, simprocAttr, *]); (try exact rfl); done))) | ((with_reducible refine w_last ?_ ?_ ?_); kernel_rfl; rfl) | with_reducible refine Go2.go ?_ | ((with_reducible first | apply w_stepG | refine s_bi ?_ ?_ | refine blk_ne ?_ ?_); rfl) | ((with_reducible refine al_go ?_); intro b) | ((with_reducible apply (ck_at Tryz.call80)); exact LEL.refl _; exact hBs.out; (focus ((repeat (first | exact ra_h | apply ra_t)); done))) | ((with_reducible apply a2_go); (focus (first | assumption | (intro h; cases h))); (focus (intro o'; repeat (first | exact ra_h | apply ra_t))); (iterate 2 (focus (first | assumption | exact len_nil | exact len_one rfl | (intro a ha; obtain ⟨x, -, rfl⟩ := List.mem_map.1 ha; first | rfl | simp) | (intro a ha; simp at ha; simp [ha])))); (iterate 2 (focus (first | omega | (simp only [List.length_map, List.length_cons, List.length_nil, List.length_append]; omega)))); intro o' ho') | ((with_reducible first | refine w_region ?_ ?_ | refine w_dra ?_ ?_); kernel_rfl) | ((with_reducible refine Go3.go ?_ ?_); all_goals (intro hb; (try with_reducible intro hb1); (try (exfalso; first | contradiction | omega)))) | fail)
      all_goals (refine retC_cell (by simp) (by first | rfl | assumption) (by simp (disch := omega) only [push_cast, simprocAttr, *]; exact rfl) (by repeat (first | exact mm_h | apply mm_t)) (by simp (disch := omega) only [push_cast, simprocAttr, *]; exact rfl) (by (try simp (disch := omega) only [push_cast, simprocAttr, *]); (try exact rfl); done) (by (repeat (first | exact List.Sublist.refl _ | apply List.Sublist.cons))) ?_ ⟨rfl, rfl⟩; (try simp (disch := omega) only [push_cast, simprocAttr, *]); try (first | exact LE.refl _ | exact LE.sl _ _ | ((first | refine LE.tup ?_ | refine LE.agg ?_); (repeat' (first | exact LEL.nil | refine LEL.cons ?_ ?_ | exact LE.refl _ | exact LE.sl _ _ | refine LE.agg ?_)); done) | refine LE.of_eq ?_))
    | false =>
      rw [hsb, if_neg Bool.false_ne_true] at hHE
      have hIs := hI.out s'
      have hBs := hBad.out s'
      rw [hsb] at hBs
      generalize f s' = x3 at *
      obtain ⟨⟨k1, n1, t1, l1⟩, s3⟩ := x3
      dsimp only at hHE hIs
      rw [V.cells_mk] at hIs
      have hE2 : Hid ((L ++ [V.mk k1 n1 t1 l1]) ++ (vals f (m - (i + 1)) s3).1 = res.1 ∧ (vals f (m - (i + 1)) s3).2 = res.2) := by
        show _ ∧ _
        rw [List.append_assoc]
        exact hHE
      replace hBs := Lib.hid hBs
      replace hIs := Lib.hid hIs
      clear hE hI hBad hHE
      have hL4 : ∀ a ∈ L.map V.cells, a.length = 4 := fun a ha => by
        obtain ⟨x, -, rfl⟩ := List.mem_map.1 ha
        exact V.cells_len x
      repeat' (first | with_reducible refine Go1.go ?_ | ((with_reducible apply ev_go); (focus ((try simp (disch := omega) only [push_cast, simprocAttr, *]); (try exact rfl); done))) | ((with_reducible refine w_draw [(b, [.i 5, .i 0, .str ⟨#[]⟩, .sl o' (L.map V.cells)])] ?_ ?_ ?_ ?_ ?_); (focus kernel_rfl); (focus kernel_rfl); (focus kernel_rfl); (focus exact keep_one (List.Mem.head _))) | ((with_reducible refine And.intro ?_ ?_); (focus exact keep_one (by repeat (first | exact mm_h | apply mm_t)))) | ((with_reducible apply (a2_go ho')); (focus (intro o'; repeat (first | exact ra_h | apply ra_t))); (focus exact hL4); (focus exact len_one rfl); (focus (simp only [List.length_map, List.length_cons, List.length_nil]; omega)); (focus (simp only [List.length_map, List.length_cons, List.length_nil]; omega)); intro o' ho') | ((with_reducible refine w_last ?_ ?_ ?_); kernel_rfl; rfl) | with_reducible refine Go2.go ?_ | ((with_reducible first | apply w_stepG | refine s_bi ?_ ?_ | refine blk_ne ?_ ?_); rfl) | ((with_reducible refine al_go ?_); intro b) | ((with_reducible apply (ck_at Tryz.call80)); exact LEL.refl _; exact hBs.out; (focus ((repeat (first | exact ra_h | apply ra_t)); done))) | ((with_reducible apply (ck_at Tryz.call167)); exact LEL.refl _; exact hIs.out; (focus ((repeat (first | exact ra_h | apply ra_t)); done))) | ((with_reducible apply a2_go); (focus (first | assumption | (intro h; cases h))); (focus (intro o'; repeat (first | exact ra_h | apply ra_t))); (iterate 2 (focus (first | assumption | exact len_nil | exact len_one rfl | (intro a ha; obtain ⟨x, -, rfl⟩ := List.mem_map.1 ha; first | rfl | simp) | (intro a ha; simp at ha; simp [ha])))); (iterate 2 (focus (first | omega | (simp only [List.length_map, List.length_cons, List.length_nil, List.length_append]; omega)))); intro o' ho') | ((with_reducible first | refine w_region ?_ ?_ | refine w_dra ?_ ?_); kernel_rfl) | ((with_reducible refine Go3.go ?_ ?_); all_goals (intro hb; (try with_reducible intro hb1); (try (exfalso; first | contradiction | omega)))) | fail)
      refine ⟨i + 1, .box b 73 [.i 5, .i 0, .str ⟨#[]⟩, .sl o' ((L ++ [V.mk k1 n1 t1 l1]).map V.cells)] :: .box b4 73 zs :: .room o' 73 4 ((L ++ [V.mk k1 n1 t1 l1]).map V.cells).length :: rdR rb s3 :: st, ?_, ⟨hlt, ?_, ?_, ?_, ?_, ?_, ?_, ?_, o', L ++ [V.mk k1 n1 t1 l1], s3, zs, ho', ?_, hzs, hE2, rfl⟩, ?_⟩
      · simp only [List.map_append, List.map_cons, List.map_nil, V.cells_mk]; (repeat (first | exact List.Sublist.refl _ | apply List.Sublist.cons))
      · (first | rfl | assumption | omega | (simp (disch := omega) only [push_cast, simprocAttr, *]; try omega; done))
      · (first | rfl | assumption | omega | (simp (disch := omega) only [push_cast, simprocAttr, *]; try omega; done))
      · (first | rfl | assumption | omega | (simp (disch := omega) only [push_cast, simprocAttr, *]; try omega; done))
      · (first | rfl | assumption | omega | (simp (disch := omega) only [push_cast, simprocAttr, *]; try omega; done))
      · (first | rfl | assumption | omega | (simp (disch := omega) only [push_cast, simprocAttr, *]; try omega; done))
      · (first | rfl | assumption | omega | (simp (disch := omega) only [push_cast, simprocAttr, *]; try omega; done))
      · (first | rfl | assumption | omega | (simp (disch := omega) only [push_cast, simprocAttr, *]; try omega; done))
      · rw [List.length_append, List.length_singleton]; omega
      · omega
  · have hHE := hE.out
    rw [show m - i = 0 by omega, vals] at hHE
    obtain ⟨r1, r2⟩ := res
    obtain ⟨hr1, hr2⟩ := hHE
    dsimp only at hr1 hr2
    rw [List.append_nil] at hr1
    subst hr1 hr2
    clear hE hI hBad
    repeat' (first | with_reducible refine Go1.go ?_ | ((with_reducible apply ev_go); (focus ((try simp (disch := omega) only [push_cast, simprocAttr, *]); (try exact rfl); done))) | ((with_reducible refine w_last ?_ ?_ ?_); kernel_rfl; rfl) | with_reducible refine Go2.go ?_ | ((with_reducible first | apply w_stepG | refine s_bi ?_ ?_ | refine blk_ne ?_ ?_); rfl) | ((with_reducible refine al_go ?_); intro b) | ((with_reducible apply a2_go); (focus (first | assumption | (intro h; cases h))); (focus (intro o'; repeat (first | exact ra_h | apply ra_t))); (iterate 2 (focus (first | assumption | exact len_nil | exact len_one rfl | (intro a ha; obtain ⟨x, -, rfl⟩ := List.mem_map.1 ha; first | rfl | simp) | (intro a ha; simp at ha; simp [ha])))); (iterate 2 (focus (first | omega | (simp only [List.length_map, List.length_cons, List.length_nil, List.length_append]; omega)))); intro o' ho') | ((with_reducible first | refine w_region ?_ ?_ | refine w_dra ?_ ?_); kernel_rfl) | ((with_reducible refine Go3.go ?_ ?_); all_goals (intro hb; (try with_reducible intro hb1); (try (exfalso; first | contradiction | omega)))) | fail)
    all_goals (refine retC_cell (by simp) (by first | rfl | assumption) (by simp (disch := omega) only [push_cast, simprocAttr, *]; exact rfl) (by repeat (first | exact mm_h | apply mm_t)) (by simp (disch := omega) only [push_cast, simprocAttr, *]; exact rfl) (by (try simp (disch := omega) only [push_cast, simprocAttr, *]); (try exact rfl); done) (by (repeat (first | exact List.Sublist.refl _ | apply List.Sublist.cons))) ?_ ⟨rfl, rfl⟩; (try simp (disch := omega) only [push_cast, simprocAttr, *]); try (first | exact LE.refl _ | exact LE.sl _ _ | ((first | refine LE.tup ?_ | refine LE.agg ?_); (repeat' (first | exact LEL.nil | refine LEL.cons ?_ ?_ | exact LE.refl _ | exact LE.sl _ _ | refine LE.agg ?_)); done) | refine LE.of_eq ?_))
end Go.Proofs.YtgcienlfpnpbgaaGreat
end

section
namespace Go.Proofs.YtgcienlfpnpbgaaGreat
set_option linter.unusedSimpArgs false
attribute [local push_cast] encB encI V.cells_mk V.cells_take V.cells_len Nat.mul_one
open Go.RowKit B
set_option maxRecDepth 10000
set_option maxHeartbeats 4000000
def V.zero : V := .mk 0 0 ⟨#[]⟩ []
def RS.val (s : RS) : V × RS := if s.bad = true then (V.zero, s) else if (RS.value 4 s).2.bad = true ∨ (RS.value 4 s).1.right = false then (V.zero, RS.fail) else RS.value 4 s
theorem rdValF (b : Nat) (s : RS) (hn : (RS.value 4 s).1.nodes ≤ 4611686018427387904) (st : St) : TrF Tryz.prog 118 [.ptr b 0] (rdR b s :: st) fun x st' => x = .agg s.val.1.cells ∧ st' = rdR b s.val.2 :: st := by
  have hBad := Lib.hid (rdBadF b s)
  have hV := Lib.hid (rdValueF 4 (Nat.le_refl _) b s)
  have hR := Lib.hid (valRightF (RS.value 4 s).1 hn)
  unfold RS.val
  cases hsb : s.bad with
  | true =>
    rw [if_pos rfl]
    rw [hsb] at hBad
    refine trF_enterC (G := cellA 2 73 Tryz.prog) Tryz.func118 rfl (by rw [Tryz.ntmps118]; exact Nat.le_of_ble_eq_true rfl) (fun h1 h2 h3 => res_cell rfl h1 h2 h3) ?_
    simp only [Tryz.ntmps118]
    repeat' (first | with_reducible refine Go1.go ?_ | ((with_reducible apply ev_go); (focus ((try simp (disch := omega) only [push_cast, simprocAttr, *]); (try exact rfl); done))) | ((with_reducible refine w_last ?_ ?_ ?_); kernel_rfl; rfl) | with_reducible refine Go2.go ?_ | ((with_reducible first | apply w_stepG | refine s_bi ?_ ?_ | refine blk_ne ?_ ?_); rfl) | ((with_reducible refine al_go ?_); intro b) | ((with_reducible apply (ck_at Tryz.call80)); exact LEL.refl _; exact hBad.out; (focus ((repeat (first | exact ra_h | apply ra_t)); done))) | ((with_reducible first | refine w_region ?_ ?_ | refine w_dra ?_ ?_); kernel_rfl) | ((with_reducible refine Go3.go ?_ ?_); all_goals (intro hb; (try with_reducible intro hb1); (try (exfalso; first | contradiction | omega)))) | fail)
    all_goals (refine retC_cell (by simp) (by first | rfl | assumption) (by simp (disch := omega) only [push_cast, simprocAttr, *]; exact rfl) (by repeat (first | exact mm_h | apply mm_t)) (by simp (disch := omega) only [push_cast, simprocAttr, *]; exact rfl) (by (try simp (disch := omega) only [push_cast, simprocAttr, *]); (try exact rfl); done) (by (repeat (first | exact List.Sublist.refl _ | apply List.Sublist.cons))) ?_ ⟨rfl, rfl⟩; (try simp (disch := omega) only [push_cast, simprocAttr, *]); try (first | exact LE.refl _ | exact LE.sl _ _ | ((first | refine LE.tup ?_ | refine LE.agg ?_); (repeat' (first | exact LEL.nil | refine LEL.cons ?_ ?_ | exact LE.refl _ | exact LE.sl _ _ | refine LE.agg ?_)); done) | refine LE.of_eq ?_))
  | false =>
    rw [if_neg Bool.false_ne_true]
    rw [hsb] at hBad
    generalize RS.value 4 s = q at *
    obtain ⟨⟨k, n, t, l⟩, s2⟩ := q
    dsimp only at *
    rw [V.cells_mk] at *
    generalize hr : (V.mk k n t l).right = r at *
    have hBad2 := Lib.hid (rdBadF b s2)
    have hF := Lib.hid (rdFailF b s2)
    cases hsb2 : s2.bad with
    | true =>
      rw [if_pos (.inl rfl)]
      rw [hsb2] at hBad2
      refine trF_enterC (G := cellA 2 73 Tryz.prog) Tryz.func118 rfl (by rw [Tryz.ntmps118]; exact Nat.le_of_ble_eq_true rfl) (fun h1 h2 h3 => res_cell rfl h1 h2 h3) ?_
      simp only [Tryz.ntmps118]
      repeat' (first | with_reducible refine Go1.go ?_ | ((with_reducible apply ev_go); (focus ((try simp (disch := omega) only [push_cast, simprocAttr, *]); (try exact rfl); done))) | ((with_reducible refine w_last ?_ ?_ ?_); kernel_rfl; rfl) | with_reducible refine Go2.go ?_ | ((with_reducible first | apply w_stepG | refine s_bi ?_ ?_ | refine blk_ne ?_ ?_); rfl) | ((with_reducible refine al_go ?_); intro b) | ((with_reducible apply (ck_at Tryz.call80)); exact LEL.refl _; exact hBad.out; (focus ((repeat (first | exact ra_h | apply ra_t)); done))) | ((with_reducible apply (ck_at Tryz.call80)); exact LEL.refl _; exact hBad2.out; (focus ((repeat (first | exact ra_h | apply ra_t)); done))) | ((with_reducible apply (ck_at Tryz.call167)); exact LEL.refl _; exact hV.out; (focus ((repeat (first | exact ra_h | apply ra_t)); done))) | ((with_reducible apply (ck_at Tryz.call169)); exact LEL.refl _; exact hF.out; (focus ((repeat (first | exact ra_h | apply ra_t)); done))) | ((with_reducible first | refine w_region ?_ ?_ | refine w_dra ?_ ?_); kernel_rfl) | ((with_reducible refine Go3.go ?_ ?_); all_goals (intro hb; (try with_reducible intro hb1); (try (exfalso; first | contradiction | omega)))) | fail)
      all_goals (refine retC_cell (by simp) (by first | rfl | assumption) (by simp (disch := omega) only [push_cast, simprocAttr, *]; exact rfl) (by repeat (first | exact mm_h | apply mm_t)) (by simp (disch := omega) only [push_cast, simprocAttr, *]; exact rfl) (by (try simp (disch := omega) only [push_cast, simprocAttr, *]); (try exact rfl); done) (by (repeat (first | exact List.Sublist.refl _ | apply List.Sublist.cons))) ?_ ⟨rfl, rfl⟩; (try simp (disch := omega) only [push_cast, simprocAttr, *]); try (first | exact LE.refl _ | exact LE.sl _ _ | ((first | refine LE.tup ?_ | refine LE.agg ?_); (repeat' (first | exact LEL.nil | refine LEL.cons ?_ ?_ | exact LE.refl _ | exact LE.sl _ _ | refine LE.agg ?_)); done) | refine LE.of_eq ?_))
    | false =>
      rw [hsb2] at hBad2
      cases r with
      | false =>
        rw [if_pos (.inr rfl)]
        refine trF_enterC (G := cellA 2 73 Tryz.prog) Tryz.func118 rfl (by rw [Tryz.ntmps118]; exact Nat.le_of_ble_eq_true rfl) (fun h1 h2 h3 => res_cell rfl h1 h2 h3) ?_
        simp only [Tryz.ntmps118]
        repeat' (first | with_reducible refine Go1.go ?_ | ((with_reducible apply ev_go); (focus ((try simp (disch := omega) only [push_cast, simprocAttr, *]); (try exact rfl); done))) | ((with_reducible refine w_last ?_ ?_ ?_); kernel_rfl; rfl) | with_reducible refine Go2.go ?_ | ((with_reducible first | apply w_stepG | refine s_bi ?_ ?_ | refine blk_ne ?_ ?_); rfl) | ((with_reducible refine al_go ?_); intro b) | ((with_reducible apply (ck_at Tryz.call80)); exact LEL.refl _; exact hBad.out; (focus ((repeat (first | exact ra_h | apply ra_t)); done))) | ((with_reducible apply (ck_at Tryz.call80)); exact LEL.refl _; exact hBad2.out; (focus ((repeat (first | exact ra_h | apply ra_t)); done))) | ((with_reducible apply (ck_at Tryz.call167)); exact LEL.refl _; exact hV.out; (focus ((repeat (first | exact ra_h | apply ra_t)); done))) | ((with_reducible apply (ck_at Tryz.call169)); exact LEL.refl _; exact hF.out; (focus ((repeat (first | exact ra_h | apply ra_t)); done))) | ((with_reducible apply (ck_le Tryz.call168)); exact LEL.refl _; exact hR.out _) | ((with_reducible first | refine w_region ?_ ?_ | refine w_dra ?_ ?_); kernel_rfl) | ((with_reducible refine Go3.go ?_ ?_); all_goals (intro hb; (try with_reducible intro hb1); (try (exfalso; first | contradiction | omega)))) | fail)
        all_goals (refine retC_cell (by simp) (by first | rfl | assumption) (by simp (disch := omega) only [push_cast, simprocAttr, *]; exact rfl) (by repeat (first | exact mm_h | apply mm_t)) (by simp (disch := omega) only [push_cast, simprocAttr, *]; exact rfl) (by (try simp (disch := omega) only [push_cast, simprocAttr, *]); (try exact rfl); done) (by (repeat (first | exact List.Sublist.refl _ | apply List.Sublist.cons))) ?_ ⟨rfl, rfl⟩; (try simp (disch := omega) only [push_cast, simprocAttr, *]); try (first | exact LE.refl _ | exact LE.sl _ _ | ((first | refine LE.tup ?_ | refine LE.agg ?_); (repeat' (first | exact LEL.nil | refine LEL.cons ?_ ?_ | exact LE.refl _ | exact LE.sl _ _ | refine LE.agg ?_)); done) | refine LE.of_eq ?_))
      | true =>
        rw [if_neg (by simp)]
        refine trF_enterC (G := cellA 2 73 Tryz.prog) Tryz.func118 rfl (by rw [Tryz.ntmps118]; exact Nat.le_of_ble_eq_true rfl) (fun h1 h2 h3 => res_cell rfl h1 h2 h3) ?_
        simp only [Tryz.ntmps118]
        repeat' (first | with_reducible refine Go1.go ?_ | ((with_reducible apply ev_go); (focus ((try simp (disch := omega) only [push_cast, simprocAttr, *]); (try exact rfl); done))) | ((with_reducible refine w_last ?_ ?_ ?_); kernel_rfl; rfl) | with_reducible refine Go2.go ?_ | ((with_reducible first | apply w_stepG | refine s_bi ?_ ?_ | refine blk_ne ?_ ?_); rfl) | ((with_reducible refine al_go ?_); intro b) | ((with_reducible apply (ck_at Tryz.call80)); exact LEL.refl _; exact hBad.out; (focus ((repeat (first | exact ra_h | apply ra_t)); done))) | ((with_reducible apply (ck_at Tryz.call80)); exact LEL.refl _; exact hBad2.out; (focus ((repeat (first | exact ra_h | apply ra_t)); done))) | ((with_reducible apply (ck_at Tryz.call167)); exact LEL.refl _; exact hV.out; (focus ((repeat (first | exact ra_h | apply ra_t)); done))) | ((with_reducible apply (ck_at Tryz.call169)); exact LEL.refl _; exact hF.out; (focus ((repeat (first | exact ra_h | apply ra_t)); done))) | ((with_reducible apply (ck_le Tryz.call168)); exact LEL.refl _; exact hR.out _) | ((with_reducible first | refine w_region ?_ ?_ | refine w_dra ?_ ?_); kernel_rfl) | ((with_reducible refine Go3.go ?_ ?_); all_goals (intro hb; (try with_reducible intro hb1); (try (exfalso; first | contradiction | omega)))) | fail)
        all_goals (refine retC_cell (by simp) (by first | rfl | assumption) (by simp (disch := omega) only [push_cast, simprocAttr, *]; exact rfl) (by repeat (first | exact mm_h | apply mm_t)) (by simp (disch := omega) only [push_cast, simprocAttr, *]; exact rfl) (by (try simp (disch := omega) only [push_cast, simprocAttr, *]); (try exact rfl); done) (by (repeat (first | exact List.Sublist.refl _ | apply List.Sublist.cons))) ?_ ⟨rfl, rfl⟩; (try simp (disch := omega) only [push_cast, simprocAttr, *]); try (first | exact LE.refl _ | exact LE.sl _ _ | ((first | refine LE.tup ?_ | refine LE.agg ?_); (repeat' (first | exact LEL.nil | refine LEL.cons ?_ ?_ | exact LE.refl _ | exact LE.sl _ _ | refine LE.agg ?_)); done) | refine LE.of_eq ?_))
end Go.Proofs.YtgcienlfpnpbgaaGreat
end

section
namespace Go.Proofs.YtgcienlfpnpbgaaGreat
set_option linter.unusedSimpArgs false
attribute [local push_cast] encB encI Nat.mul_one Int.sub_zero
open Go.RowKit
set_option maxRecDepth 10000
set_option maxHeartbeats 4000000
def encBs (b : List UInt8) : List D := [.sl .shared (b.map encB)]
theorem growBF (n : Nat) (hn : n ≤ 1000000) (st : St) : TrF Tryz.prog 176 [.sl .tight [], .i n] st fun d st' => ∃ o', o' ≠ .shared ∧ d = .sl o' [] ∧ st' = .room o' 5 1 ([] : List (List D)).length :: st := by
  refine trF_enter (ts := [4]) Tryz.func176 rfl (by rw [Tryz.ntmps176]; exact Nat.le_of_ble_eq_true rfl) (fun tmps w => by simp [results, Tryz.results176, go_sem, resVal]) ?_
  simp only [Tryz.ntmps176]
  by_cases h0 : n = 0
  · subst h0
    refine tr_room 5 1 0 ?_
    repeat' (first | with_reducible refine Go1.go ?_ | ((with_reducible apply ev_go); (focus ((try simp (disch := omega) only [push_cast, simprocAttr, encBs, *]); (try exact rfl); done))) | ((with_reducible refine w_last ?_ ?_ ?_); kernel_rfl; rfl) | with_reducible refine Go2.go ?_ | ((with_reducible first | apply w_stepG | refine s_bi ?_ ?_ | refine blk_ne ?_ ?_); rfl) | ((with_reducible refine al_go ?_); intro b) | ((with_reducible apply a2_go); (focus (first | assumption | (intro h; cases h))); (focus (intro o'; repeat (first | exact ra_h | apply ra_t))); (iterate 2 (focus (first | assumption | exact len_nil | exact len_one rfl | (intro a ha; obtain ⟨x, -, rfl⟩ := List.mem_map.1 ha; first | rfl | simp) | (intro a ha; simp at ha; simp [ha])))); (iterate 2 (focus (first | omega | (simp only [List.length_map, List.length_cons, List.length_nil, List.length_append]; omega)))); intro o' ho') | ((with_reducible apply p2_go); (focus (first | assumption | (intro h; cases h))); (focus (intro o'; repeat (first | exact ra_h | apply ra_t))); (focus (first | assumption | exact len_nil | exact len_one rfl | (intro a ha; obtain ⟨x, -, rfl⟩ := List.mem_map.1 ha; first | rfl | simp) | (intro a ha; simp at ha; simp [ha]))); (iterate 2 (focus (first | omega | (simp only [List.length_map, List.length_cons, List.length_nil, List.length_append]; omega)))); intro o' ho') | ((with_reducible first | refine w_region ?_ ?_ | refine w_dra ?_ ?_); kernel_rfl) | ((with_reducible refine Go3.go ?_ ?_); all_goals (intro hb; (try with_reducible intro hb1); (try (exfalso; first | contradiction | omega)))) | fail)
    all_goals ((apply ret_own (by simp) (by first | rfl | assumption)); (focus ((try simp (disch := omega) only [push_cast, simprocAttr, encBs, *]); (try exact rfl); done)); (focus (first | assumption | (intro h; cases h))); (focus ((repeat (first | exact List.Sublist.refl _ | apply List.Sublist.cons)); done)))
    all_goals rfl
  · have h1 : (0 : Int) < n := by omega
    have h2 : 0 < n := by omega
    repeat' (first | with_reducible refine Go1.go ?_ | ((with_reducible apply ev_go); (focus ((try simp (disch := omega) only [push_cast, simprocAttr, encBs, *]); (try exact rfl); done))) | (refine tr_cutB 6 (fun A' st' => ∃ (g cap : Nat) (cs : List D), A'.df = [] ∧ A'.e 0 = .ar g 0 0 cap ∧ cs.length = cap * 1 ∧ st' = .box g 5 cs :: st) ?_ ?_) | ((with_reducible apply s_sliceT); (focus ((try simp (disch := omega) only [push_cast, simprocAttr, encBs, *]); (try exact rfl); done)); (focus ((try simp (disch := omega) only [push_cast, simprocAttr, encBs, *]); (try exact rfl); done)); (focus ((try simp (disch := omega) only [push_cast, simprocAttr, encBs, *]); (try exact rfl); done))) | with_reducible refine s_zeros ?_ | with_reducible refine zr_go ?_ | ((with_reducible apply zr2_go); (focus omega); (focus omega); (focus omega); (focus exact rfl); intro g cap hgc) | ((with_reducible refine w_last ?_ ?_ ?_); kernel_rfl; rfl) | with_reducible refine Go2.go ?_ | ((with_reducible first | apply w_stepG | refine s_bi ?_ ?_ | refine blk_ne ?_ ?_); rfl) | ((with_reducible refine al_go ?_); intro b) | ((with_reducible apply a2_go); (focus (first | assumption | (intro h; cases h))); (focus (intro o'; repeat (first | exact ra_h | apply ra_t))); (iterate 2 (focus (first | assumption | exact len_nil | exact len_one rfl | (intro a ha; obtain ⟨x, -, rfl⟩ := List.mem_map.1 ha; first | rfl | simp) | (intro a ha; simp at ha; simp [ha])))); (iterate 2 (focus (first | omega | (simp only [List.length_map, List.length_cons, List.length_nil, List.length_append]; omega)))); intro o' ho') | ((with_reducible apply p2_go); (focus (first | assumption | (intro h; cases h))); (focus (intro o'; repeat (first | exact ra_h | apply ra_t))); (focus (first | assumption | exact len_nil | exact len_one rfl | (intro a ha; obtain ⟨x, -, rfl⟩ := List.mem_map.1 ha; first | rfl | simp) | (intro a ha; simp at ha; simp [ha]))); (iterate 2 (focus (first | omega | (simp only [List.length_map, List.length_cons, List.length_nil, List.length_append]; omega)))); intro o' ho') | ((with_reducible first | refine w_region ?_ ?_ | refine w_dra ?_ ?_); kernel_rfl) | ((with_reducible refine Go3.go ?_ ?_); all_goals (intro hb; (try with_reducible intro hb1); (try (exfalso; first | contradiction | omega)))) | fail)
    · refine ⟨g, cap, _, by (first | rfl | assumption | omega | (simp (disch := omega) only [push_cast, simprocAttr, encBs, *]; try omega; done)), by (first | rfl | assumption | omega | (simp (disch := omega) only [push_cast, simprocAttr, encBs, *]; try omega; done)), ?_, rfl⟩
      rw [List.length_replicate, Nat.mul_one]
    · rintro A' st' ⟨g, cap, cs, hdf, e0, hcl, rfl⟩
      refine tr_reroomA [0] 1 (.refl _) (by omega) hcl (fun t ht => by rw [List.mem_singleton.1 ht]; exact e0) fun A2 hdf2 q1 q2 => ?_
      have e0' := q1 0 (List.mem_singleton.2 rfl)
      rw [hdf] at hdf2
      clear q1 q2 e0 hdf
      repeat' (first | with_reducible refine Go1.go ?_ | ((with_reducible apply ev_go); (focus ((try simp (disch := omega) only [push_cast, simprocAttr, encBs, *]); (try exact rfl); done))) | ((with_reducible refine w_last ?_ ?_ ?_); kernel_rfl; rfl) | with_reducible refine Go2.go ?_ | ((with_reducible first | apply w_stepG | refine s_bi ?_ ?_ | refine blk_ne ?_ ?_); rfl) | ((with_reducible refine al_go ?_); intro b) | ((with_reducible apply a2_go); (focus (first | assumption | (intro h; cases h))); (focus (intro o'; repeat (first | exact ra_h | apply ra_t))); (iterate 2 (focus (first | assumption | exact len_nil | exact len_one rfl | (intro a ha; obtain ⟨x, -, rfl⟩ := List.mem_map.1 ha; first | rfl | simp) | (intro a ha; simp at ha; simp [ha])))); (iterate 2 (focus (first | omega | (simp only [List.length_map, List.length_cons, List.length_nil, List.length_append]; omega)))); intro o' ho') | ((with_reducible apply p2_go); (focus (first | assumption | (intro h; cases h))); (focus (intro o'; repeat (first | exact ra_h | apply ra_t))); (focus (first | assumption | exact len_nil | exact len_one rfl | (intro a ha; obtain ⟨x, -, rfl⟩ := List.mem_map.1 ha; first | rfl | simp) | (intro a ha; simp at ha; simp [ha]))); (iterate 2 (focus (first | omega | (simp only [List.length_map, List.length_cons, List.length_nil, List.length_append]; omega)))); intro o' ho') | ((with_reducible first | refine w_region ?_ ?_ | refine w_dra ?_ ?_); kernel_rfl) | ((with_reducible refine Go3.go ?_ ?_); all_goals (intro hb; (try with_reducible intro hb1); (try (exfalso; first | contradiction | omega)))) | fail)
      all_goals ((apply ret_own (by simp) (by first | rfl | assumption)); (focus ((try simp (disch := omega) only [push_cast, simprocAttr, encBs, *]); (try exact rfl); done)); (focus (first | assumption | (intro h; cases h))); (focus ((repeat (first | exact List.Sublist.refl _ | apply List.Sublist.cons)); done)))
      all_goals rfl
theorem concatBF (o : Own) (bs : List (List UInt8)) (hl : bs.flatten.length ≤ 1000000) (hb : bs.length ≤ 1000000) (st : St) : TrF Tryz.prog 135 [.sl o (bs.map encBs)] st fun d st' => ∃ o', o' ≠ .shared ∧ d = .sl o' (bs.flatten.map encB) ∧ st' = .room o' 5 1 (bs.flatten.map encB).length :: st := by
  have hF : ∀ i x, bs[i]? = some x → (bs.take (i + 1)).flatten = (bs.take i).flatten ++ x ∧ (bs.take (i + 1)).flatten.length ≤ 1000000 := fun i x hx => by
    have h1 : (bs.take (i + 1)).flatten = (bs.take i).flatten ++ x := by rw [List.take_succ, hx]; simp
    refine ⟨h1, ?_⟩
    have h2 := congrArg List.length (congrArg List.flatten (List.take_append_drop (i + 1) bs))
    rw [List.flatten_append, List.length_append] at h2
    omega
  refine trF_enter (ts := [2]) Tryz.func135 rfl (by rw [Tryz.ntmps135]; exact Nat.le_of_ble_eq_true rfl) (fun tmps w => by simp [results, Tryz.results135, go_sem, resVal]) ?_
  simp only [Tryz.ntmps135]
  repeat' (first | with_reducible refine Go1.go ?_ | ((with_reducible apply ev_go); (focus ((try simp (disch := omega) only [push_cast, simprocAttr, encBs, *]); (try exact rfl); done))) | ((with_reducible refine w_last ?_ ?_ ?_); kernel_rfl; rfl) | with_reducible refine Go2.go ?_ | ((with_reducible first | apply w_stepG | refine s_bi ?_ ?_ | refine blk_ne ?_ ?_); rfl) | ((with_reducible refine al_go ?_); intro b) | ((with_reducible apply a2_go); (focus (first | assumption | (intro h; cases h))); (focus (intro o'; repeat (first | exact ra_h | apply ra_t))); (iterate 2 (focus (first | assumption | exact len_nil | exact len_one rfl | (intro a ha; obtain ⟨x, -, rfl⟩ := List.mem_map.1 ha; first | rfl | simp) | (intro a ha; simp at ha; simp [ha])))); (iterate 2 (focus (first | omega | (simp only [List.length_map, List.length_cons, List.length_nil, List.length_append]; omega)))); intro o' ho') | ((with_reducible apply p2_go); (focus (first | assumption | (intro h; cases h))); (focus (intro o'; repeat (first | exact ra_h | apply ra_t))); (focus (first | assumption | exact len_nil | exact len_one rfl | (intro a ha; obtain ⟨x, -, rfl⟩ := List.mem_map.1 ha; first | rfl | simp) | (intro a ha; simp at ha; simp [ha]))); (iterate 2 (focus (first | omega | (simp only [List.length_map, List.length_cons, List.length_nil, List.length_append]; omega)))); intro o' ho') | ((with_reducible first | refine w_region ?_ ?_ | refine w_dra ?_ ?_); kernel_rfl) | ((with_reducible refine Go3.go ?_ ?_); all_goals (intro hb; (try with_reducible intro hb1); (try (exfalso; first | contradiction | omega)))) | fail)
  refine tr_loop (ι := Nat) (fun i A st' => i ≤ bs.length ∧ A.df = [] ∧ A.e 0 = .sl o (bs.map encBs) ∧ A.e 9 = .sl o (bs.map encBs) ∧ A.e 10 = .i bs.length ∧ A.e 11 = .i i ∧ A.e 3 = .i (bs.take i).flatten.length ∧ st = st') (fun i => bs.length - i) 0 ⟨Nat.zero_le _, ?_, ?_, ?_, ?_, ?_, ?_, rfl⟩ ?_
  iterate 6 (focus (first | rfl | assumption | omega | (simp (disch := omega) only [push_cast, simprocAttr, encBs, *]; try omega; done)))
  rintro i A st' ⟨hi, hdf, e0, e9, e10, e11, e3, rfl⟩
  by_cases hlt : i < bs.length
  · obtain ⟨x, hx⟩ : ∃ x, bs[i]? = some x := ⟨_, List.getElem?_eq_getElem hlt⟩
    obtain ⟨hf, hfl⟩ := hF i x hx
    have hfl2 : ((bs.take (i + 1)).flatten.length : Int) = (bs.take i).flatten.length + x.length := by rw [hf, List.length_append]; omega
    clear hF hf
    obtain ⟨q1, hq1⟩ : ∃ q, (bs.take (i + 1)).flatten.length = q := ⟨_, rfl⟩
    rw [hq1] at hfl hfl2
    generalize (bs.take i).flatten.length = q0 at *
    repeat' (first | with_reducible refine Go1.go ?_ | ((with_reducible apply ev_go); (focus ((try simp (disch := omega) only [push_cast, simprocAttr, encBs, *]); (try exact rfl); done))) | ((with_reducible refine w_last ?_ ?_ ?_); kernel_rfl; rfl) | with_reducible refine Go2.go ?_ | ((with_reducible first | apply w_stepG | refine s_bi ?_ ?_ | refine blk_ne ?_ ?_); rfl) | ((with_reducible refine al_go ?_); intro b) | ((with_reducible apply a2_go); (focus (first | assumption | (intro h; cases h))); (focus (intro o'; repeat (first | exact ra_h | apply ra_t))); (iterate 2 (focus (first | assumption | exact len_nil | exact len_one rfl | (intro a ha; obtain ⟨x, -, rfl⟩ := List.mem_map.1 ha; first | rfl | simp) | (intro a ha; simp at ha; simp [ha])))); (iterate 2 (focus (first | omega | (simp only [List.length_map, List.length_cons, List.length_nil, List.length_append]; omega)))); intro o' ho') | ((with_reducible apply p2_go); (focus (first | assumption | (intro h; cases h))); (focus (intro o'; repeat (first | exact ra_h | apply ra_t))); (focus (first | assumption | exact len_nil | exact len_one rfl | (intro a ha; obtain ⟨x, -, rfl⟩ := List.mem_map.1 ha; first | rfl | simp) | (intro a ha; simp at ha; simp [ha]))); (iterate 2 (focus (first | omega | (simp only [List.length_map, List.length_cons, List.length_nil, List.length_append]; omega)))); intro o' ho') | ((with_reducible first | refine w_region ?_ ?_ | refine w_dra ?_ ?_); kernel_rfl) | ((with_reducible refine Go3.go ?_ ?_); all_goals (intro hb; (try with_reducible intro hb1); (try (exfalso; first | contradiction | omega)))) | fail)
    refine ⟨i + 1, ⟨hlt, ?_, ?_, ?_, ?_, ?_, ?_, rfl⟩, ?_⟩
    all_goals (first | rfl | assumption | omega | (simp (disch := omega) only [push_cast, simprocAttr, encBs, *]; try omega; done))
  · rw [List.take_of_length_le (by omega)] at e3
    have hG := fun st => growBF bs.flatten.length hl st
    replace hF := Lib.hid hF
    replace hG := Lib.hid hG
    repeat' (first | with_reducible refine Go1.go ?_ | ((with_reducible apply ev_go); (focus ((try simp (disch := omega) only [push_cast, simprocAttr, encBs, *]); (try exact rfl); done))) | ((with_reducible refine w_last ?_ ?_ ?_); kernel_rfl; rfl) | with_reducible refine Go2.go ?_ | ((with_reducible first | apply w_stepG | refine s_bi ?_ ?_ | refine blk_ne ?_ ?_); rfl) | ((with_reducible refine al_go ?_); intro b) | ((with_reducible apply (ck_ex Tryz.call176)); exact LEL.refl _; exact hG.out _; (focus exact ⟨.tight, by intro h; cases h⟩); intro o1 ho1) | ((with_reducible apply a2_go); (focus (first | assumption | (intro h; cases h))); (focus (intro o'; repeat (first | exact ra_h | apply ra_t))); (iterate 2 (focus (first | assumption | exact len_nil | exact len_one rfl | (intro a ha; obtain ⟨x, -, rfl⟩ := List.mem_map.1 ha; first | rfl | simp) | (intro a ha; simp at ha; simp [ha])))); (iterate 2 (focus (first | omega | (simp only [List.length_map, List.length_cons, List.length_nil, List.length_append]; omega)))); intro o' ho') | ((with_reducible apply p2_go); (focus (first | assumption | (intro h; cases h))); (focus (intro o'; repeat (first | exact ra_h | apply ra_t))); (focus (first | assumption | exact len_nil | exact len_one rfl | (intro a ha; obtain ⟨x, -, rfl⟩ := List.mem_map.1 ha; first | rfl | simp) | (intro a ha; simp at ha; simp [ha]))); (iterate 2 (focus (first | omega | (simp only [List.length_map, List.length_cons, List.length_nil, List.length_append]; omega)))); intro o' ho') | ((with_reducible first | refine w_region ?_ ?_ | refine w_dra ?_ ?_); kernel_rfl) | ((with_reducible refine Go3.go ?_ ?_); all_goals (intro hb; (try with_reducible intro hb1); (try (exfalso; first | contradiction | omega)))) | fail)
    refine tr_loopd (ι := Nat) (fun i A st' => i ≤ bs.length ∧ A.df = [] ∧ A.e 25 = .sl o (bs.map encBs) ∧ A.e 26 = .i bs.length ∧ A.e 27 = .i i ∧ ∃ o' B, o' ≠ .shared ∧ Hid (B = (bs.take i).flatten) ∧ B.length = (bs.take i).flatten.length ∧ A.e 6 = .sl o' (B.map encB) ∧ st' = .room o' 5 1 (B.map encB).length :: st) (fun i => bs.length - i) 0 ⟨Nat.zero_le _, ?_, ?_, ?_, ?_, o1, [], ho1, rfl, rfl, ?_, rfl⟩ ?_
    iterate 5 (focus (first | rfl | assumption | omega | (simp (disch := omega) only [push_cast, simprocAttr, encBs, *]; try omega; done)))
    clear hlt hi e0 e3 e9 e10 e11 hdf A i hG o1 ho1
    rintro i A st' ⟨hi, hdf, e25, e26, e27, o', B, ho', HB, hBl, e6, rfl⟩
    by_cases hlt : i < bs.length
    · obtain ⟨x, hx⟩ : ∃ x, bs[i]? = some x := ⟨_, List.getElem?_eq_getElem hlt⟩
      obtain ⟨hf, hfl⟩ := hF.out i x hx
      have HB2 : Hid (B ++ x = (bs.take (i + 1)).flatten) := by show _ = _; rw [hf, HB.out]
      have hBl2 : (B ++ x).length = (bs.take (i + 1)).flatten.length := by rw [hf, List.length_append, List.length_append, hBl]
      have hBx : B.length + x.length ≤ 1000000 := by
        have := hBl2
        rw [List.length_append] at this; omega
      replace hBl2 := Lib.hid hBl2
      clear hF hf HB hfl hBl
      repeat' (first | with_reducible refine Go1.go ?_ | ((with_reducible apply ev_go); (focus ((try simp (disch := omega) only [push_cast, simprocAttr, encBs, *]); (try exact rfl); done))) | ((with_reducible refine w_last ?_ ?_ ?_); kernel_rfl; rfl) | with_reducible refine Go2.go ?_ | ((with_reducible first | apply w_stepG | refine s_bi ?_ ?_ | refine blk_ne ?_ ?_); rfl) | ((with_reducible refine al_go ?_); intro b) | ((with_reducible apply a2_go); (focus (first | assumption | (intro h; cases h))); (focus (intro o'; repeat (first | exact ra_h | apply ra_t))); (iterate 2 (focus (first | assumption | exact len_nil | exact len_one rfl | (intro a ha; obtain ⟨x, -, rfl⟩ := List.mem_map.1 ha; first | rfl | simp) | (intro a ha; simp at ha; simp [ha])))); (iterate 2 (focus (first | omega | (simp only [List.length_map, List.length_cons, List.length_nil, List.length_append]; omega)))); intro o' ho') | ((with_reducible apply p2_go); (focus (first | assumption | (intro h; cases h))); (focus (intro o'; repeat (first | exact ra_h | apply ra_t))); (focus (first | assumption | exact len_nil | exact len_one rfl | (intro a ha; obtain ⟨x, -, rfl⟩ := List.mem_map.1 ha; first | rfl | simp) | (intro a ha; simp at ha; simp [ha]))); (iterate 2 (focus (first | omega | (simp only [List.length_map, List.length_cons, List.length_nil, List.length_append]; omega)))); intro o' ho') | ((with_reducible first | refine w_region ?_ ?_ | refine w_dra ?_ ?_); kernel_rfl) | ((with_reducible refine Go3.go ?_ ?_); all_goals (intro hb; (try with_reducible intro hb1); (try (exfalso; first | contradiction | omega)))) | fail)
      refine ⟨i + 1, .room o' 5 1 ((B ++ x).map encB).length :: st, ?_, ⟨hlt, ?_, ?_, ?_, ?_, o', B ++ x, ho', HB2, hBl2.out, ?_, rfl⟩, ?_⟩
      · rw [List.map_append]; (repeat (first | exact List.Sublist.refl _ | apply List.Sublist.cons))
      all_goals (first | rfl | assumption | omega | (simp (disch := omega) only [push_cast, simprocAttr, encBs, *]; try omega; done))
    · have hBe := HB.out
      rw [List.take_of_length_le (by omega)] at hBe
      rw [← hBe]
      clear hBe HB hBl hF
      repeat' (first | with_reducible refine Go1.go ?_ | ((with_reducible apply ev_go); (focus ((try simp (disch := omega) only [push_cast, simprocAttr, encBs, *]); (try exact rfl); done))) | ((with_reducible refine w_last ?_ ?_ ?_); kernel_rfl; rfl) | with_reducible refine Go2.go ?_ | ((with_reducible first | apply w_stepG | refine s_bi ?_ ?_ | refine blk_ne ?_ ?_); rfl) | ((with_reducible refine al_go ?_); intro b) | ((with_reducible apply a2_go); (focus (first | assumption | (intro h; cases h))); (focus (intro o'; repeat (first | exact ra_h | apply ra_t))); (iterate 2 (focus (first | assumption | exact len_nil | exact len_one rfl | (intro a ha; obtain ⟨x, -, rfl⟩ := List.mem_map.1 ha; first | rfl | simp) | (intro a ha; simp at ha; simp [ha])))); (iterate 2 (focus (first | omega | (simp only [List.length_map, List.length_cons, List.length_nil, List.length_append]; omega)))); intro o' ho') | ((with_reducible apply p2_go); (focus (first | assumption | (intro h; cases h))); (focus (intro o'; repeat (first | exact ra_h | apply ra_t))); (focus (first | assumption | exact len_nil | exact len_one rfl | (intro a ha; obtain ⟨x, -, rfl⟩ := List.mem_map.1 ha; first | rfl | simp) | (intro a ha; simp at ha; simp [ha]))); (iterate 2 (focus (first | omega | (simp only [List.length_map, List.length_cons, List.length_nil, List.length_append]; omega)))); intro o' ho') | ((with_reducible first | refine w_region ?_ ?_ | refine w_dra ?_ ?_); kernel_rfl) | ((with_reducible refine Go3.go ?_ ?_); all_goals (intro hb; (try with_reducible intro hb1); (try (exfalso; first | contradiction | omega)))) | fail)
      all_goals ((apply ret_own (by simp) (by first | rfl | assumption)); (focus ((try simp (disch := omega) only [push_cast, simprocAttr, encBs, *]); (try exact rfl); done)); (focus (first | assumption | (intro h; cases h))); (focus ((repeat (first | exact List.Sublist.refl _ | apply List.Sublist.cons)); done)))
      all_goals rfl
end Go.Proofs.YtgcienlfpnpbgaaGreat
end

section
namespace Go.Proofs.YtgcienlfpnpbgaaGreat
set_option linter.unusedSimpArgs false
attribute [local push_cast] encB encI encBs V.cells_mk V.cells_take V.cells_len Nat.mul_one Int.sub_zero
open Go.RowKit B
set_option maxRecDepth 10000
set_option maxHeartbeats 4000000
theorem bytesF (o o' : Own) (a b : List UInt8) (st : St) : TrF Tryz.prog 18 [.sl o (a.map encB), .sl o' (b.map encB)] st fun d st' => d = .b (decide (a = b)) ∧ st' = st :=
  trF_pure fun vs w hv => by
    obtain ⟨v, v', rfl, h1, h2⟩ := args2 hv
    exact ⟨_, fun _ _ => .s _ rfl, (bytes_any v v' a b w (sees_bytes h1) (sees_bytes h2)).mono fun _ _ ⟨h, n, e⟩ => ⟨h, by subst e; exact ⟨rfl, rfl, rfl, Nat.le_refl _, fun _ _ => rfl⟩⟩⟩
theorem binAllF (o : Own) (bs : List (List UInt8)) (hl : bs.flatten.length ≤ 1000000) (hb : bs.length ≤ 1000000) (st : St) : TrF Tryz.prog 54 [.sl o (bs.map encBs)] st fun d st' => ∃ o', o' ≠ .shared ∧ d = .sl o' (bs.flatten.map encB) ∧ st' = .room o' 5 1 (bs.flatten.map encB).length :: st := by
  have hC := Lib.hid (concatBF o bs hl hb)
  generalize bs.flatten = l at *
  refine trF_enter (ts := [2]) Tryz.func54 rfl (by rw [Tryz.ntmps54]; exact Nat.le_of_ble_eq_true rfl) (fun tmps w => by simp [results, Tryz.results54, go_sem, resVal]) ?_
  simp only [Tryz.ntmps54]
  repeat' (first | with_reducible refine Go1.go ?_ | ((with_reducible apply ev_go); (focus ((try simp (disch := omega) only [push_cast, simprocAttr, *]); (try exact rfl); done))) | ((with_reducible refine w_last ?_ ?_ ?_); kernel_rfl; rfl) | with_reducible refine Go2.go ?_ | ((with_reducible first | apply w_stepG | refine s_bi ?_ ?_ | refine blk_ne ?_ ?_); rfl) | ((with_reducible refine al_go ?_); intro b) | ((with_reducible apply (ck_ex Tryz.call135)); exact LEL.refl _; exact hC.out _; (focus exact ⟨.tight, by intro h; cases h⟩); intro o1 ho1) | ((with_reducible apply a2_go); (focus (first | assumption | (intro h; cases h))); (focus (intro o'; repeat (first | exact ra_h | apply ra_t))); (iterate 2 (focus (first | assumption | exact len_nil | exact len_one rfl | (intro a ha; obtain ⟨x, -, rfl⟩ := List.mem_map.1 ha; first | rfl | simp) | (intro a ha; simp at ha; simp [ha])))); (iterate 2 (focus (first | omega | (simp only [List.length_map, List.length_cons, List.length_nil, List.length_append]; omega)))); intro o' ho') | ((with_reducible apply p2_go); (focus (first | assumption | (intro h; cases h))); (focus (intro o'; repeat (first | exact ra_h | apply ra_t))); (focus (first | assumption | exact len_nil | exact len_one rfl | (intro a ha; obtain ⟨x, -, rfl⟩ := List.mem_map.1 ha; first | rfl | simp) | (intro a ha; simp at ha; simp [ha]))); (iterate 2 (focus (first | omega | (simp only [List.length_map, List.length_cons, List.length_nil, List.length_append]; omega)))); intro o' ho') | ((with_reducible first | refine w_region ?_ ?_ | refine w_dra ?_ ?_); kernel_rfl) | ((with_reducible refine Go3.go ?_ ?_); all_goals (intro hb; (try with_reducible intro hb1); (try (exfalso; first | contradiction | omega)))) | fail)
  all_goals ((apply ret_own (by simp) (by first | rfl | assumption)); (focus ((try simp (disch := omega) only [push_cast, simprocAttr, *]); (try exact rfl); done)); (focus (first | assumption | (intro h; cases h))); (focus ((repeat (first | exact List.Sublist.refl _ | apply List.Sublist.cons)); done)))
  all_goals rfl
end Go.Proofs.YtgcienlfpnpbgaaGreat
end

section
namespace Go.Proofs.YtgcienlfpnpbgaaGreat
set_option linter.unusedSimpArgs false
attribute [local push_cast] encB encI encC encBs V.cells_mk V.cells_len Nat.mul_one Int.sub_zero List.map_nil beq_self_eq_true bne_self_eq_false List.head?_cons
open Go.RowKit B
set_option maxRecDepth 10000
set_option maxHeartbeats 8000000
namespace Reg
def byteB (n : Int) : List UInt8 := if 0 ≤ n ∧ n ≤ 255 then [UInt8.ofNat n.toNat] else []
def slotP (s : Sl) : List (List UInt8) := [tx s.name.data.toList, byteB s.types, byteB (if s.req then 1 else 0), s.dv.bin]
def slotB (s : Sl) : List UInt8 := (slotP s).flatten
theorem byteB_len (n : Int) : (byteB n).length ≤ 1 := by
  unfold byteB
  split <;> simp
theorem bin_len (v : V) : v.bin.length ≤ 20500 := by
  unfold V.bin
  split
  · rename_i h
    obtain ⟨hp, -, hn⟩ := V.right_iff.1 h
    have := V.put_le v hp
    omega
  · exact Nat.zero_le _
theorem slotB_len (s : Sl) (hs : s.name.size ≤ 300) : (slotB s).length ≤ 21000 := by
  unfold slotB slotP tx
  have h1 := byteB_len s.types
  have h2 := byteB_len (if s.req then 1 else 0)
  have h3 := bin_len s.dv
  have h4 : s.name.data.toList.length = s.name.size := by simp
  simp only [List.flatten_cons, List.flatten_nil, List.length_append, List.length_nil, be_len]
  omega
end Reg
theorem regBitF (b : Bool) (st : St) : TrF Tryz.prog 137 [.b b] st fun d st' => d = .i (if b then 1 else 0) ∧ st' = st := by
  cases b
  all_goals (
    refine trF_enter (ts := [2]) Tryz.func137 rfl (by rw [Tryz.ntmps137]; exact Nat.le_of_ble_eq_true rfl) (fun tmps w => by simp [results, Tryz.results137, go_sem, resVal]) ?_
    simp only [Tryz.ntmps137]
    repeat' (first | with_reducible refine Go1.go ?_ | ((with_reducible apply ev_go); (focus ((try simp (disch := omega) only [push_cast, simprocAttr, *]); (try exact rfl); done))) | ((with_reducible refine w_last ?_ ?_ ?_); kernel_rfl; rfl) | with_reducible refine Go2.go ?_ | ((with_reducible first | apply w_stepG | refine s_bi ?_ ?_ | refine blk_ne ?_ ?_); rfl) | ((with_reducible refine al_go ?_); intro b) | ((with_reducible first | refine w_region ?_ ?_ | refine w_dra ?_ ?_); kernel_rfl) | ((with_reducible refine Go3.go ?_ ?_); all_goals (intro hb; (try with_reducible intro hb1); (try (exfalso; first | contradiction | omega)))) | fail)
    all_goals (refine ret_eq (by simp) (by first | rfl | assumption) (by (repeat (first | exact List.Sublist.refl _ | apply List.Sublist.cons))) ?_; (try simp (disch := omega) only [push_cast, simprocAttr, *]); try (first | exact LE.refl _ | exact LE.sl _ _ | ((first | refine LE.tup ?_ | refine LE.agg ?_); (repeat' (first | exact LEL.nil | refine LEL.cons ?_ ?_ | exact LE.refl _ | exact LE.sl _ _ | refine LE.agg ?_)); done) | refine LE.of_eq ?_)))
theorem regPutSlotF (s : Sl) (hs : s.name.size ≤ 300) (hn : s.dv.nodes ≤ 1000) (hok : s.dv.Ok) (st : St) : TrF Tryz.prog 57 [.agg s.cells] st fun d st' => d = .sl .shared ((Reg.slotB s).map encB) ∧ st' = st := by
  have hT := binTextF s.name (by omega)
  have hB := binByteF s.types
  have hR := binByteF (if s.req then 1 else 0)
  have hBi := regBitF s.req
  have hV := binValueF s.dv.nodes s.dv (Nat.le_refl _) (by omega) hok
  have hA := binAllF .tight (Reg.slotP s) (by have := Reg.slotB_len s hs; unfold Reg.slotB at this; omega) (by show 4 ≤ 1000000; omega)
  unfold Reg.slotB
  generalize (Reg.slotP s).flatten = F at *
  unfold Reg.slotP Reg.byteB at hA
  cases s with
  | mk snm ty rq dv =>
  dsimp only at *
  generalize tx snm.data.toList = b1 at *
  generalize (if 0 ≤ ty ∧ ty ≤ 255 then [UInt8.ofNat ty.toNat] else []) = b2 at *
  generalize (if rq = true then (1 : Int) else 0) = ri at *
  generalize (if 0 ≤ ri ∧ ri ≤ 255 then [UInt8.ofNat ri.toNat] else []) = b3 at *
  generalize dv.bin = b4 at *
  clear hs hn hok
  cases dv with
  | mk k n sv lv =>
  rw [Sl.cells_mk]
  rw [V.cells_mk] at hV
  simp only [List.map_cons, List.map_nil, encBs] at hA
  replace hT := Lib.hid hT
  replace hB := Lib.hid hB
  replace hR := Lib.hid hR
  replace hBi := Lib.hid hBi
  replace hV := Lib.hid hV
  replace hA := Lib.hid hA
  refine trF_enter (ts := [2]) Tryz.func57 rfl (by rw [Tryz.ntmps57]; exact Nat.le_of_ble_eq_true rfl) (fun tmps w => by simp [results, Tryz.results57, go_sem, resVal]) ?_
  simp only [Tryz.ntmps57]
  repeat' (first | with_reducible refine Go1.go ?_ | ((with_reducible apply ev_go); (focus ((try simp (disch := omega) only [push_cast, simprocAttr, *]); (try exact rfl); done))) | ((with_reducible refine w_last ?_ ?_ ?_); kernel_rfl; rfl) | with_reducible refine Go2.go ?_ | ((with_reducible first | apply w_stepG | refine s_bi ?_ ?_ | refine blk_ne ?_ ?_); rfl) | ((with_reducible refine al_go ?_); intro b) | ((with_reducible apply (ck_le Tryz.call55)); exact LEL.refl _; exact hT.out _) | ((with_reducible apply (ck_le Tryz.call136)); exact LEL.refl _; exact hB.out _) | ((with_reducible apply (ck_le Tryz.call136)); exact LEL.refl _; exact hR.out _) | ((with_reducible apply (ck_le Tryz.call137)); exact LEL.refl _; exact hBi.out _) | ((with_reducible apply (ck_ex Tryz.call138)); exact LEL.refl _; exact hV.out _; (focus exact ⟨.tight, by intro h; cases h⟩); intro o1 ho1) | ((with_reducible apply (ck_ex Tryz.call54)); exact LEL.refl _; exact hA.out _; (focus exact ⟨.tight, by intro h; cases h⟩); intro o2 ho2) | ((with_reducible apply a2_go); (focus (first | assumption | (intro h; cases h))); (focus (intro o'; repeat (first | exact ra_h | apply ra_t))); (iterate 2 (focus (first | assumption | exact len_nil | exact len_one rfl | (intro a ha; obtain ⟨x, -, rfl⟩ := List.mem_map.1 ha; first | rfl | simp) | (intro a ha; simp at ha; simp [ha])))); (iterate 2 (focus (first | omega | (simp only [List.length_map, List.length_cons, List.length_nil, List.length_append]; omega)))); intro o' ho') | ((with_reducible apply p2_go); (focus (first | assumption | (intro h; cases h))); (focus (intro o'; repeat (first | exact ra_h | apply ra_t))); (focus (first | assumption | exact len_nil | exact len_one rfl | (intro a ha; obtain ⟨x, -, rfl⟩ := List.mem_map.1 ha; first | rfl | simp) | (intro a ha; simp at ha; simp [ha]))); (iterate 2 (focus (first | omega | (simp only [List.length_map, List.length_cons, List.length_nil, List.length_append]; omega)))); intro o' ho') | ((with_reducible first | refine w_region ?_ ?_ | refine w_dra ?_ ?_); kernel_rfl) | ((with_reducible refine Go3.go ?_ ?_); all_goals (intro hb; (try with_reducible intro hb1); (try (exfalso; first | contradiction | omega)))) | fail)
  all_goals (refine ret_eq (by simp) (by first | rfl | assumption) (by (repeat (first | exact List.Sublist.refl _ | apply List.Sublist.cons))) ?_; (try simp (disch := omega) only [push_cast, simprocAttr, *]); try (first | exact LE.refl _ | exact LE.sl _ _ | ((first | refine LE.tup ?_ | refine LE.agg ?_); (repeat' (first | exact LEL.nil | refine LEL.cons ?_ ?_ | exact LE.refl _ | exact LE.sl _ _ | refine LE.agg ?_)); done) | refine LE.of_eq ?_))
end Go.Proofs.YtgcienlfpnpbgaaGreat
end

section
namespace Go.Proofs.YtgcienlfpnpbgaaGreat
set_option linter.unusedSimpArgs false
attribute [local push_cast] encB encI encC encBs V.cells_mk V.cells_len Nat.mul_one Int.sub_zero List.map_nil beq_self_eq_true bne_self_eq_false List.head?_cons
open Go.RowKit B
set_option maxRecDepth 10000
set_option maxHeartbeats 8000000
namespace Reg
def b8 (n : Int) : UInt8 := UInt8.ofNat (n % 256).toNat
def stepA (p : Stp) : List UInt8 :=
  if p.kind = 1 then [byteB p.kind, slotB p.slot].flatten
  else if p.kind = 2 ∨ p.kind = 3 ∨ p.kind = 4 then [byteB p.kind, byteB p.col].flatten
  else if p.kind = 5 then [byteB p.kind, be 4 p.order.length].flatten ++ p.order.map b8
  else byteB p.kind
def stepB (p : Stp) : List UInt8 :=
  if p.kind = 3 then [stepA p, tx p.slot.name.data.toList].flatten
  else if p.kind = 4 then [stepA p, byteB p.slot.types].flatten
  else stepA p
end Reg
theorem u8_wrapI (n : Int) : IntKind.u8.wrap n = ((Reg.b8 n).toNat : Int) := by
  have h1 : 0 ≤ n % 256 := Int.emod_nonneg _ (by decide)
  have h2 : n % 256 < 256 := Int.emod_lt_of_pos _ (by decide)
  have h3 : IntKind.u8.wrap n = IntKind.u8.wrap ((n % 256).toNat : Int) := by
    rw [Int.toNat_of_nonneg h1]
    unfold IntKind.wrap
    have e : (2 : Int) ^ IntKind.u8.bits = 256 := by decide
    rw [e, Int.emod_emod_of_dvd n (Int.dvd_refl 256)]
  rw [h3, u8_wrap]; rfl
theorem regPutStepF (p : Stp) (hs : p.slot.name.size ≤ 300) (hn : p.slot.dv.nodes ≤ 1000) (hok : p.slot.dv.Ok) (ho : p.order.length ≤ 1000) (st : St) : TrF Tryz.prog 59 [.agg p.cells] st fun d st' => d = .sl .shared ((Reg.stepB p).map encB) ∧ st' = st := by
  have hB1 := binByteF p.kind
  have hBc := binByteF p.col
  have hBt := binByteF p.slot.types
  have hT := binTextF p.slot.name (by omega)
  have hPS := regPutSlotF p.slot hs hn hok
  have l1 := Reg.byteB_len p.kind
  have l2 := Reg.byteB_len p.col
  have l3 := Reg.byteB_len p.slot.types
  have l4 := Reg.slotB_len p.slot hs
  have l5 : (tx p.slot.name.data.toList).length ≤ 304 := by
    unfold tx
    have : p.slot.name.data.toList.length = p.slot.name.size := by simp
    rw [List.length_append, be_len]
    omega
  have all2 := fun (a b : List UInt8) (h : a.length + b.length ≤ 100000) => binAllF .tight [a, b] (by simp only [List.flatten_cons, List.flatten_nil, List.length_append, List.length_nil]; omega) (by show 2 ≤ 1000000; omega)
  have fl2 : ∀ a b : List UInt8, [a, b].flatten.length = a.length + b.length := fun a b => by simp
  simp only [List.map_cons, List.map_nil, encBs] at all2
  unfold Reg.stepB Reg.stepA
  unfold Reg.byteB at *
  cases p with
  | mk kind col slot order =>
  cases slot with
  | mk snm ty rq dv =>
  cases dv with
  | mk k n sv lv =>
  unfold Stp.cells
  rw [Sl.cells_mk] at *
  dsimp only [List.cons_append, List.nil_append] at *
  generalize tx snm.data.toList = bt at *
  generalize Reg.slotB _ = bs at *
  generalize (if 0 ≤ ty ∧ ty ≤ 255 then [UInt8.ofNat ty.toNat] else []) = by3 at *
  generalize (if 0 ≤ col ∧ col ≤ 255 then [UInt8.ofNat col.toNat] else []) = by2 at *
  generalize (if 0 ≤ kind ∧ kind ≤ 255 then [UInt8.ofNat kind.toNat] else []) = by1 at *
  clear hs hn hok
  by_cases hk1 : kind = 1
  · subst hk1
    have hA1 := all2 by1 bs (by omega)
    rw [if_neg (by decide), if_neg (by decide), if_pos rfl]
    generalize [by1, bs].flatten = f1 at *
    clear all2 fl2 hBc hBt hT l1 l2 l3 l4 l5
    replace hB1 := Lib.hid hB1
    replace hPS := Lib.hid hPS
    replace hA1 := Lib.hid hA1
    refine trF_enter (ts := [2]) Tryz.func59 rfl (by rw [Tryz.ntmps59]; exact Nat.le_of_ble_eq_true rfl) (fun tmps w => by simp [results, Tryz.results59, go_sem, resVal]) ?_
    simp only [Tryz.ntmps59]
    repeat' (first | with_reducible refine Go1.go ?_ | ((with_reducible apply ev_go); (focus ((try simp (disch := omega) only [push_cast, simprocAttr, *]); (try exact rfl); done))) | ((with_reducible refine w_last ?_ ?_ ?_); kernel_rfl; rfl) | with_reducible refine Go2.go ?_ | ((with_reducible first | apply w_stepG | refine s_bi ?_ ?_ | refine blk_ne ?_ ?_); rfl) | ((with_reducible refine al_go ?_); intro b) | ((with_reducible apply (ck_le Tryz.call136)); exact LEL.refl _; exact hB1.out _) | ((with_reducible apply (ck_le Tryz.call57)); exact LEL.refl _; exact hPS.out _) | ((with_reducible apply (ck_ex Tryz.call54)); exact LEL.refl _; exact hA1.out _; (focus exact ⟨.tight, by intro h; cases h⟩); intro o1 ho1) | ((with_reducible apply a2_go); (focus (first | assumption | (intro h; cases h))); (focus (intro o'; repeat (first | exact ra_h | apply ra_t))); (iterate 2 (focus (first | assumption | exact len_nil | exact len_one rfl | (intro a ha; obtain ⟨x, -, rfl⟩ := List.mem_map.1 ha; first | rfl | simp) | (intro a ha; simp at ha; simp [ha])))); (iterate 2 (focus (first | omega | (simp only [List.length_map, List.length_cons, List.length_nil, List.length_append]; omega)))); intro o' ho') | ((with_reducible apply p2_go); (focus (first | assumption | (intro h; cases h))); (focus (intro o'; repeat (first | exact ra_h | apply ra_t))); (focus (first | assumption | exact len_nil | exact len_one rfl | (intro a ha; obtain ⟨x, -, rfl⟩ := List.mem_map.1 ha; first | rfl | simp) | (intro a ha; simp at ha; simp [ha]))); (iterate 2 (focus (first | omega | (simp only [List.length_map, List.length_cons, List.length_nil, List.length_append]; omega)))); intro o' ho') | ((with_reducible first | refine w_region ?_ ?_ | refine w_dra ?_ ?_); kernel_rfl) | ((with_reducible refine Go3.go ?_ ?_); all_goals (intro hb; (try with_reducible intro hb1); (try (exfalso; first | contradiction | omega)))) | fail)
    all_goals (refine ret_eq (by simp) (by first | rfl | assumption) (by (repeat (first | exact List.Sublist.refl _ | apply List.Sublist.cons))) ?_; (try simp (disch := omega) only [push_cast, simprocAttr, *]); try (first | exact LE.refl _ | exact LE.sl _ _ | ((first | refine LE.tup ?_ | refine LE.agg ?_); (repeat' (first | exact LEL.nil | refine LEL.cons ?_ ?_ | exact LE.refl _ | exact LE.sl _ _ | refine LE.agg ?_)); done) | refine LE.of_eq ?_))
  by_cases hk2 : kind = 2
  · subst hk2
    have hA1 := all2 by1 by2 (by omega)
    rw [if_neg (by decide), if_neg (by decide), if_neg (by decide), if_pos (by decide)]
    generalize [by1, by2].flatten = f1 at *
    clear all2 fl2 hBt hT hPS l1 l2 l3 l4 l5
    replace hB1 := Lib.hid hB1
    replace hBc := Lib.hid hBc
    replace hA1 := Lib.hid hA1
    refine trF_enter (ts := [2]) Tryz.func59 rfl (by rw [Tryz.ntmps59]; exact Nat.le_of_ble_eq_true rfl) (fun tmps w => by simp [results, Tryz.results59, go_sem, resVal]) ?_
    simp only [Tryz.ntmps59]
    repeat' (first | with_reducible refine Go1.go ?_ | ((with_reducible apply ev_go); (focus ((try simp (disch := omega) only [push_cast, simprocAttr, *]); (try exact rfl); done))) | ((with_reducible refine w_last ?_ ?_ ?_); kernel_rfl; rfl) | with_reducible refine Go2.go ?_ | ((with_reducible first | apply w_stepG | refine s_bi ?_ ?_ | refine blk_ne ?_ ?_); rfl) | ((with_reducible refine al_go ?_); intro b) | ((with_reducible apply (ck_le Tryz.call136)); exact LEL.refl _; exact hB1.out _) | ((with_reducible apply (ck_le Tryz.call136)); exact LEL.refl _; exact hBc.out _) | ((with_reducible apply (ck_ex Tryz.call54)); exact LEL.refl _; exact hA1.out _; (focus exact ⟨.tight, by intro h; cases h⟩); intro o1 ho1) | ((with_reducible apply a2_go); (focus (first | assumption | (intro h; cases h))); (focus (intro o'; repeat (first | exact ra_h | apply ra_t))); (iterate 2 (focus (first | assumption | exact len_nil | exact len_one rfl | (intro a ha; obtain ⟨x, -, rfl⟩ := List.mem_map.1 ha; first | rfl | simp) | (intro a ha; simp at ha; simp [ha])))); (iterate 2 (focus (first | omega | (simp only [List.length_map, List.length_cons, List.length_nil, List.length_append]; omega)))); intro o' ho') | ((with_reducible apply p2_go); (focus (first | assumption | (intro h; cases h))); (focus (intro o'; repeat (first | exact ra_h | apply ra_t))); (focus (first | assumption | exact len_nil | exact len_one rfl | (intro a ha; obtain ⟨x, -, rfl⟩ := List.mem_map.1 ha; first | rfl | simp) | (intro a ha; simp at ha; simp [ha]))); (iterate 2 (focus (first | omega | (simp only [List.length_map, List.length_cons, List.length_nil, List.length_append]; omega)))); intro o' ho') | ((with_reducible first | refine w_region ?_ ?_ | refine w_dra ?_ ?_); kernel_rfl) | ((with_reducible refine Go3.go ?_ ?_); all_goals (intro hb; (try with_reducible intro hb1); (try (exfalso; first | contradiction | omega)))) | fail)
    all_goals (refine ret_eq (by simp) (by first | rfl | assumption) (by (repeat (first | exact List.Sublist.refl _ | apply List.Sublist.cons))) ?_; (try simp (disch := omega) only [push_cast, simprocAttr, *]); try (first | exact LE.refl _ | exact LE.sl _ _ | ((first | refine LE.tup ?_ | refine LE.agg ?_); (repeat' (first | exact LEL.nil | refine LEL.cons ?_ ?_ | exact LE.refl _ | exact LE.sl _ _ | refine LE.agg ?_)); done) | refine LE.of_eq ?_))
  by_cases hk3 : kind = 3
  · subst hk3
    have hA1 := all2 by1 by2 (by omega)
    have hA2 := all2 [by1, by2].flatten bt (by rw [fl2]; omega)
    rw [if_pos rfl, if_neg (by decide), if_pos (by decide)]
    generalize [by1, by2].flatten = f1 at *
    generalize [f1, bt].flatten = f2 at *
    clear all2 fl2 hBt hPS l1 l2 l3 l4 l5
    replace hB1 := Lib.hid hB1
    replace hBc := Lib.hid hBc
    replace hT := Lib.hid hT
    replace hA1 := Lib.hid hA1
    replace hA2 := Lib.hid hA2
    refine trF_enter (ts := [2]) Tryz.func59 rfl (by rw [Tryz.ntmps59]; exact Nat.le_of_ble_eq_true rfl) (fun tmps w => by simp [results, Tryz.results59, go_sem, resVal]) ?_
    simp only [Tryz.ntmps59]
    repeat' (first | with_reducible refine Go1.go ?_ | ((with_reducible apply ev_go); (focus ((try simp (disch := omega) only [push_cast, simprocAttr, *]); (try exact rfl); done))) | ((with_reducible refine w_last ?_ ?_ ?_); kernel_rfl; rfl) | with_reducible refine Go2.go ?_ | ((with_reducible first | apply w_stepG | refine s_bi ?_ ?_ | refine blk_ne ?_ ?_); rfl) | ((with_reducible refine al_go ?_); intro b) | ((with_reducible apply (ck_le Tryz.call136)); exact LEL.refl _; exact hB1.out _) | ((with_reducible apply (ck_le Tryz.call136)); exact LEL.refl _; exact hBc.out _) | ((with_reducible apply (ck_le Tryz.call55)); exact LEL.refl _; exact hT.out _) | ((with_reducible apply (ck_ex Tryz.call54)); exact LEL.refl _; exact hA1.out _; (focus exact ⟨.tight, by intro h; cases h⟩); intro o1 ho1) | ((with_reducible apply (ck_ex Tryz.call54)); exact LEL.refl _; exact hA2.out _; (focus exact ⟨.tight, by intro h; cases h⟩); intro o2 ho2) | ((with_reducible apply a2_go); (focus (first | assumption | (intro h; cases h))); (focus (intro o'; repeat (first | exact ra_h | apply ra_t))); (iterate 2 (focus (first | assumption | exact len_nil | exact len_one rfl | (intro a ha; obtain ⟨x, -, rfl⟩ := List.mem_map.1 ha; first | rfl | simp) | (intro a ha; simp at ha; simp [ha])))); (iterate 2 (focus (first | omega | (simp only [List.length_map, List.length_cons, List.length_nil, List.length_append]; omega)))); intro o' ho') | ((with_reducible apply p2_go); (focus (first | assumption | (intro h; cases h))); (focus (intro o'; repeat (first | exact ra_h | apply ra_t))); (focus (first | assumption | exact len_nil | exact len_one rfl | (intro a ha; obtain ⟨x, -, rfl⟩ := List.mem_map.1 ha; first | rfl | simp) | (intro a ha; simp at ha; simp [ha]))); (iterate 2 (focus (first | omega | (simp only [List.length_map, List.length_cons, List.length_nil, List.length_append]; omega)))); intro o' ho') | ((with_reducible first | refine w_region ?_ ?_ | refine w_dra ?_ ?_); kernel_rfl) | ((with_reducible refine Go3.go ?_ ?_); all_goals (intro hb; (try with_reducible intro hb1); (try (exfalso; first | contradiction | omega)))) | fail)
    all_goals (refine ret_eq (by simp) (by first | rfl | assumption) (by (repeat (first | exact List.Sublist.refl _ | apply List.Sublist.cons))) ?_; (try simp (disch := omega) only [push_cast, simprocAttr, *]); try (first | exact LE.refl _ | exact LE.sl _ _ | ((first | refine LE.tup ?_ | refine LE.agg ?_); (repeat' (first | exact LEL.nil | refine LEL.cons ?_ ?_ | exact LE.refl _ | exact LE.sl _ _ | refine LE.agg ?_)); done) | refine LE.of_eq ?_))
  by_cases hk4 : kind = 4
  · subst hk4
    have hA1 := all2 by1 by2 (by omega)
    have hA2 := all2 [by1, by2].flatten by3 (by rw [fl2]; omega)
    rw [if_neg (by decide), if_pos rfl, if_neg (by decide), if_pos (by decide)]
    generalize [by1, by2].flatten = f1 at *
    generalize [f1, by3].flatten = f2 at *
    clear all2 fl2 hT hPS l1 l2 l3 l4 l5
    replace hB1 := Lib.hid hB1
    replace hBc := Lib.hid hBc
    replace hBt := Lib.hid hBt
    replace hA1 := Lib.hid hA1
    replace hA2 := Lib.hid hA2
    refine trF_enter (ts := [2]) Tryz.func59 rfl (by rw [Tryz.ntmps59]; exact Nat.le_of_ble_eq_true rfl) (fun tmps w => by simp [results, Tryz.results59, go_sem, resVal]) ?_
    simp only [Tryz.ntmps59]
    repeat' (first | with_reducible refine Go1.go ?_ | ((with_reducible apply ev_go); (focus ((try simp (disch := omega) only [push_cast, simprocAttr, *]); (try exact rfl); done))) | ((with_reducible refine w_last ?_ ?_ ?_); kernel_rfl; rfl) | with_reducible refine Go2.go ?_ | ((with_reducible first | apply w_stepG | refine s_bi ?_ ?_ | refine blk_ne ?_ ?_); rfl) | ((with_reducible refine al_go ?_); intro b) | ((with_reducible apply (ck_le Tryz.call136)); exact LEL.refl _; exact hB1.out _) | ((with_reducible apply (ck_le Tryz.call136)); exact LEL.refl _; exact hBc.out _) | ((with_reducible apply (ck_le Tryz.call136)); exact LEL.refl _; exact hBt.out _) | ((with_reducible apply (ck_ex Tryz.call54)); exact LEL.refl _; exact hA1.out _; (focus exact ⟨.tight, by intro h; cases h⟩); intro o1 ho1) | ((with_reducible apply (ck_ex Tryz.call54)); exact LEL.refl _; exact hA2.out _; (focus exact ⟨.tight, by intro h; cases h⟩); intro o2 ho2) | ((with_reducible apply a2_go); (focus (first | assumption | (intro h; cases h))); (focus (intro o'; repeat (first | exact ra_h | apply ra_t))); (iterate 2 (focus (first | assumption | exact len_nil | exact len_one rfl | (intro a ha; obtain ⟨x, -, rfl⟩ := List.mem_map.1 ha; first | rfl | simp) | (intro a ha; simp at ha; simp [ha])))); (iterate 2 (focus (first | omega | (simp only [List.length_map, List.length_cons, List.length_nil, List.length_append]; omega)))); intro o' ho') | ((with_reducible apply p2_go); (focus (first | assumption | (intro h; cases h))); (focus (intro o'; repeat (first | exact ra_h | apply ra_t))); (focus (first | assumption | exact len_nil | exact len_one rfl | (intro a ha; obtain ⟨x, -, rfl⟩ := List.mem_map.1 ha; first | rfl | simp) | (intro a ha; simp at ha; simp [ha]))); (iterate 2 (focus (first | omega | (simp only [List.length_map, List.length_cons, List.length_nil, List.length_append]; omega)))); intro o' ho') | ((with_reducible first | refine w_region ?_ ?_ | refine w_dra ?_ ?_); kernel_rfl) | ((with_reducible refine Go3.go ?_ ?_); all_goals (intro hb; (try with_reducible intro hb1); (try (exfalso; first | contradiction | omega)))) | fail)
    all_goals (refine ret_eq (by simp) (by first | rfl | assumption) (by (repeat (first | exact List.Sublist.refl _ | apply List.Sublist.cons))) ?_; (try simp (disch := omega) only [push_cast, simprocAttr, *]); try (first | exact LE.refl _ | exact LE.sl _ _ | ((first | refine LE.tup ?_ | refine LE.agg ?_); (repeat' (first | exact LEL.nil | refine LEL.cons ?_ ?_ | exact LE.refl _ | exact LE.sl _ _ | refine LE.agg ?_)); done) | refine LE.of_eq ?_))
  rw [if_neg hk3, if_neg hk4, if_neg hk1, if_neg (by omega)]
  by_cases hk5 : kind = 5
  · subst hk5
    rw [if_pos rfl]
    have hN := binNumF order.length
    rw [if_pos (by omega), Int.toNat_natCast] at hN
    have hA1 := all2 by1 (be 4 order.length) (by rw [be_len]; omega)
    have hb4 : (be 4 order.length).length = 4 := be_len ..
    generalize be 4 order.length = bn at *
    generalize hf1 : [by1, bn].flatten = f1 at *
    have hm : (order.map encI).length = order.length := List.length_map ..
    have hc : Hid (∀ (i : Nat) (n : Int), order[i]? = some n → (order.map encI)[i]? = some [.i n]) := fun i n h => by rw [List.getElem?_map, h]; rfl
    have hT2 : Hid (∀ (i : Nat) (n : Int), order[i]? = some n → f1 ++ (order.take (i + 1)).map Reg.b8 = (f1 ++ (order.take i).map Reg.b8) ++ [Reg.b8 n]) := fun i n h => by
      rw [List.take_add_one, h, Option.toList_some, List.map_append, ← List.append_assoc]; rfl
    have hfl : f1.length ≤ 100000 := by rw [← hf1, fl2]; omega
    clear all2 fl2 hBc hBt hT hPS l1 l2 l3 l4 l5 hf1 hb4
    generalize order.map encI = OS at *
    replace hB1 := Lib.hid hB1
    replace hN := Lib.hid hN
    replace hA1 := Lib.hid hA1
    refine trF_enter (ts := [2]) Tryz.func59 rfl (by rw [Tryz.ntmps59]; exact Nat.le_of_ble_eq_true rfl) (fun tmps w => by simp [results, Tryz.results59, go_sem, resVal]) ?_
    simp only [Tryz.ntmps59]
    repeat' (first | with_reducible refine Go1.go ?_ | ((with_reducible apply ev_go); (focus ((try simp (disch := omega) only [push_cast, simprocAttr, *]); (try exact rfl); done))) | ((with_reducible refine w_last ?_ ?_ ?_); kernel_rfl; rfl) | with_reducible refine Go2.go ?_ | ((with_reducible first | apply w_stepG | refine s_bi ?_ ?_ | refine blk_ne ?_ ?_); rfl) | ((with_reducible refine al_go ?_); intro b) | ((with_reducible apply (ck_le Tryz.call136)); exact LEL.refl _; exact hB1.out _) | ((with_reducible apply (ck_le Tryz.call134)); exact LEL.refl _; exact hN.out _) | ((with_reducible apply (ck_ex Tryz.call54)); exact LEL.refl _; exact hA1.out _; (focus exact ⟨.tight, by intro h; cases h⟩); intro o1 ho1) | ((with_reducible apply a2_go); (focus (first | assumption | (intro h; cases h))); (focus (intro o'; repeat (first | exact ra_h | apply ra_t))); (iterate 2 (focus (first | assumption | exact len_nil | exact len_one rfl | (intro a ha; obtain ⟨x, -, rfl⟩ := List.mem_map.1 ha; first | rfl | simp) | (intro a ha; simp at ha; simp [ha])))); (iterate 2 (focus (first | omega | (simp only [List.length_map, List.length_cons, List.length_nil, List.length_append]; omega)))); intro o' ho') | ((with_reducible apply p2_go); (focus (first | assumption | (intro h; cases h))); (focus (intro o'; repeat (first | exact ra_h | apply ra_t))); (focus (first | assumption | exact len_nil | exact len_one rfl | (intro a ha; obtain ⟨x, -, rfl⟩ := List.mem_map.1 ha; first | rfl | simp) | (intro a ha; simp at ha; simp [ha]))); (iterate 2 (focus (first | omega | (simp only [List.length_map, List.length_cons, List.length_nil, List.length_append]; omega)))); intro o' ho') | ((with_reducible first | refine w_region ?_ ?_ | refine w_dra ?_ ?_); kernel_rfl) | ((with_reducible refine Go3.go ?_ ?_); all_goals (intro hb; (try with_reducible intro hb1); (try (exfalso; first | contradiction | omega)))) | fail)
    refine tr_loopd (ι := Nat) (fun i A st' => i ≤ order.length ∧ A.df = [] ∧ A.e 39 = .sl .shared OS ∧ A.e 40 = .i order.length ∧ A.e 41 = .i i ∧ A.e 1 = .ip [.i 5, .i col, .str snm, .i ty, .b rq, .i k, .i n, .str sv, .sl .shared (lv.map V.cells), .sl .shared OS] ∧ ∃ o' B, o' ≠ .shared ∧ Hid (B = f1 ++ (order.take i).map Reg.b8) ∧ B.length = f1.length + i ∧ A.e 3 = .sl o' (B.map encB) ∧ st' = .room o' 5 1 (B.map encB).length :: st) (fun i => order.length - i) 0 ⟨Nat.zero_le _, ?_, ?_, ?_, ?_, ?_, o1, f1, ho1, Lib.hid (by rw [List.take_zero, List.map_nil, List.append_nil]), rfl, ?_, rfl⟩ ?_
    iterate 6 (focus (first | rfl | assumption | omega | (simp (disch := omega) only [push_cast, simprocAttr, *]; try omega; done)))
    rintro i A st' ⟨hi, hdf, e39, e40, e41, e1, o', B, ho', HB, hBl, e3, rfl⟩
    by_cases hlt : i < order.length
    · obtain ⟨m, hm2⟩ : ∃ m, order[i]? = some m := ⟨_, List.getElem?_eq_getElem hlt⟩
      have h1 := hc.out i m hm2
      have HB2 : Hid (B ++ [Reg.b8 m] = f1 ++ (order.take (i + 1)).map Reg.b8) := by show _ = _; rw [hT2.out i m hm2, HB.out]
      have hw := u8_wrapI m
      clear hm2 hT2 HB
      generalize Reg.b8 m = w at *
      have hBx : B.length + 1 ≤ 1000000 := by omega
      have hBl2 : Hid ((B ++ [w]).length = f1.length + (i + 1)) := Lib.hid (by rw [List.length_append, hBl]; rfl)
      clear hBl
      repeat' (first | with_reducible refine Go1.go ?_ | ((with_reducible apply ev_go); (focus ((try simp (disch := omega) only [push_cast, simprocAttr, *]); (try exact rfl); done))) | ((with_reducible refine w_last ?_ ?_ ?_); kernel_rfl; rfl) | with_reducible refine Go2.go ?_ | ((with_reducible first | apply w_stepG | refine s_bi ?_ ?_ | refine blk_ne ?_ ?_); rfl) | ((with_reducible refine al_go ?_); intro b) | ((with_reducible apply a2_go); (focus (first | assumption | (intro h; cases h))); (focus (intro o'; repeat (first | exact ra_h | apply ra_t))); (iterate 2 (focus (first | assumption | exact len_nil | exact len_one rfl | (intro a ha; obtain ⟨x, -, rfl⟩ := List.mem_map.1 ha; first | rfl | simp) | (intro a ha; simp at ha; simp [ha])))); (iterate 2 (focus (first | omega | (simp only [List.length_map, List.length_cons, List.length_nil, List.length_append]; omega)))); intro o' ho') | ((with_reducible apply p2_go); (focus (first | assumption | (intro h; cases h))); (focus (intro o'; repeat (first | exact ra_h | apply ra_t))); (focus (first | assumption | exact len_nil | exact len_one rfl | (intro a ha; obtain ⟨x, -, rfl⟩ := List.mem_map.1 ha; first | rfl | simp) | (intro a ha; simp at ha; simp [ha]))); (iterate 2 (focus (first | omega | (simp only [List.length_map, List.length_cons, List.length_nil, List.length_append]; omega)))); intro o' ho') | ((with_reducible first | refine w_region ?_ ?_ | refine w_dra ?_ ?_); kernel_rfl) | ((with_reducible refine Go3.go ?_ ?_); all_goals (intro hb; (try with_reducible intro hb1); (try (exfalso; first | contradiction | omega)))) | fail)
      refine ⟨i + 1, .room o' 5 1 ((B ++ [w]).map encB).length :: st, ?_, ⟨hlt, ?_, ?_, ?_, ?_, ?_, o', B ++ [w], ho', HB2, hBl2.out, ?_, rfl⟩, ?_⟩
      · rw [List.map_append]; (repeat (first | exact List.Sublist.refl _ | apply List.Sublist.cons))
      all_goals (first | rfl | assumption | omega | (simp (disch := omega) only [push_cast, simprocAttr, *]; try omega; done))
    · have hBe := HB.out
      rw [List.take_of_length_le (by omega)] at hBe
      rw [← hBe]
      clear hBe HB hBl hT2
      repeat' (first | with_reducible refine Go1.go ?_ | ((with_reducible apply ev_go); (focus ((try simp (disch := omega) only [push_cast, simprocAttr, *]); (try exact rfl); done))) | ((with_reducible refine w_last ?_ ?_ ?_); kernel_rfl; rfl) | with_reducible refine Go2.go ?_ | ((with_reducible first | apply w_stepG | refine s_bi ?_ ?_ | refine blk_ne ?_ ?_); rfl) | ((with_reducible refine al_go ?_); intro b) | ((with_reducible apply a2_go); (focus (first | assumption | (intro h; cases h))); (focus (intro o'; repeat (first | exact ra_h | apply ra_t))); (iterate 2 (focus (first | assumption | exact len_nil | exact len_one rfl | (intro a ha; obtain ⟨x, -, rfl⟩ := List.mem_map.1 ha; first | rfl | simp) | (intro a ha; simp at ha; simp [ha])))); (iterate 2 (focus (first | omega | (simp only [List.length_map, List.length_cons, List.length_nil, List.length_append]; omega)))); intro o' ho') | ((with_reducible apply p2_go); (focus (first | assumption | (intro h; cases h))); (focus (intro o'; repeat (first | exact ra_h | apply ra_t))); (focus (first | assumption | exact len_nil | exact len_one rfl | (intro a ha; obtain ⟨x, -, rfl⟩ := List.mem_map.1 ha; first | rfl | simp) | (intro a ha; simp at ha; simp [ha]))); (iterate 2 (focus (first | omega | (simp only [List.length_map, List.length_cons, List.length_nil, List.length_append]; omega)))); intro o' ho') | ((with_reducible first | refine w_region ?_ ?_ | refine w_dra ?_ ?_); kernel_rfl) | ((with_reducible refine Go3.go ?_ ?_); all_goals (intro hb; (try with_reducible intro hb1); (try (exfalso; first | contradiction | omega)))) | fail)
      all_goals (refine ret_eq (by simp) (by first | rfl | assumption) (by (repeat (first | exact List.Sublist.refl _ | apply List.Sublist.cons))) ?_; (try simp (disch := omega) only [push_cast, simprocAttr, *]); try (first | exact LE.refl _ | exact LE.sl _ _ | ((first | refine LE.tup ?_ | refine LE.agg ?_); (repeat' (first | exact LEL.nil | refine LEL.cons ?_ ?_ | exact LE.refl _ | exact LE.sl _ _ | refine LE.agg ?_)); done) | refine LE.of_eq ?_))
  · rw [if_neg hk5]
    clear all2 fl2 hBc hBt hT hPS l1 l2 l3 l4 l5
    replace hB1 := Lib.hid hB1
    refine trF_enter (ts := [2]) Tryz.func59 rfl (by rw [Tryz.ntmps59]; exact Nat.le_of_ble_eq_true rfl) (fun tmps w => by simp [results, Tryz.results59, go_sem, resVal]) ?_
    simp only [Tryz.ntmps59]
    repeat' (first | with_reducible refine Go1.go ?_ | ((with_reducible apply ev_go); (focus ((try simp (disch := omega) only [push_cast, simprocAttr, *]); (try exact rfl); done))) | ((with_reducible refine w_last ?_ ?_ ?_); kernel_rfl; rfl) | with_reducible refine Go2.go ?_ | ((with_reducible first | apply w_stepG | refine s_bi ?_ ?_ | refine blk_ne ?_ ?_); rfl) | ((with_reducible refine al_go ?_); intro b) | ((with_reducible apply (ck_le Tryz.call136)); exact LEL.refl _; exact hB1.out _) | ((with_reducible apply a2_go); (focus (first | assumption | (intro h; cases h))); (focus (intro o'; repeat (first | exact ra_h | apply ra_t))); (iterate 2 (focus (first | assumption | exact len_nil | exact len_one rfl | (intro a ha; obtain ⟨x, -, rfl⟩ := List.mem_map.1 ha; first | rfl | simp) | (intro a ha; simp at ha; simp [ha])))); (iterate 2 (focus (first | omega | (simp only [List.length_map, List.length_cons, List.length_nil, List.length_append]; omega)))); intro o' ho') | ((with_reducible apply p2_go); (focus (first | assumption | (intro h; cases h))); (focus (intro o'; repeat (first | exact ra_h | apply ra_t))); (focus (first | assumption | exact len_nil | exact len_one rfl | (intro a ha; obtain ⟨x, -, rfl⟩ := List.mem_map.1 ha; first | rfl | simp) | (intro a ha; simp at ha; simp [ha]))); (iterate 2 (focus (first | omega | (simp only [List.length_map, List.length_cons, List.length_nil, List.length_append]; omega)))); intro o' ho') | ((with_reducible first | refine w_region ?_ ?_ | refine w_dra ?_ ?_); kernel_rfl) | ((with_reducible refine Go3.go ?_ ?_); all_goals (intro hb; (try with_reducible intro hb1); (try (exfalso; first | contradiction | omega)))) | fail)
    all_goals (refine ret_eq (by simp) (by first | rfl | assumption) (by (repeat (first | exact List.Sublist.refl _ | apply List.Sublist.cons))) ?_; (try simp (disch := omega) only [push_cast, simprocAttr, *]); try (first | exact LE.refl _ | exact LE.sl _ _ | ((first | refine LE.tup ?_ | refine LE.agg ?_); (repeat' (first | exact LEL.nil | refine LEL.cons ?_ ?_ | exact LE.refl _ | exact LE.sl _ _ | refine LE.agg ?_)); done) | refine LE.of_eq ?_))
end Go.Proofs.YtgcienlfpnpbgaaGreat
end

section
namespace Go.Proofs.YtgcienlfpnpbgaaGreat
set_option linter.unusedSimpArgs false
attribute [local push_cast] encB encI encC encBs V.cells_mk V.cells_len Nat.mul_one Int.sub_zero List.map_nil beq_self_eq_true bne_self_eq_false List.head?_cons
open Go.RowKit B
set_option maxRecDepth 10000
set_option maxHeartbeats 8000000
namespace Reg
def SlP (s : Sl) : Prop := s.name.size ≤ 300 ∧ s.dv.nodes ≤ 1000 ∧ s.dv.Ok
def StP (p : Stp) : Prop := SlP p.slot ∧ p.order.length ≤ 1000
structure TmP (t : Tm) : Prop where
  nm : t.name.size ≤ 300
  ls : t.slots.length ≤ 8
  lt : t.steps.length ≤ 8
  os : ∀ s ∈ t.slots, SlP s
  ot : ∀ s ∈ t.steps, StP s
theorem stepB_len (p : Stp) (h : StP p) : (stepB p).length ≤ 22000 := by
  obtain ⟨⟨h1, -⟩, h2⟩ := h
  have hs := slotB_len p.slot h1
  have e1 := byteB_len p.kind
  have e2 := byteB_len p.col
  have e3 := byteB_len p.slot.types
  have h4 : p.slot.name.data.toList.length = p.slot.name.size := by simp
  have hA : (stepA p).length ≤ 21100 := by
    unfold stepA
    repeat' split
    all_goals (first | omega | (simp only [List.flatten_cons, List.flatten_nil, List.length_append, List.length_nil, be_len, List.length_map]; omega))
  unfold stepB
  repeat' split
  all_goals (first | (simp only [List.flatten_cons, List.flatten_nil, List.length_append, List.length_nil, tx, be_len]; omega) | omega)
def listB {α : Type} (f : α → List UInt8) (l : List α) : List UInt8 := be 4 l.length ++ (l.map f).flatten
theorem listB_len {α : Type} (f : α → List UInt8) (k : Nat) : ∀ (l : List α), (∀ x ∈ l, (f x).length ≤ k) → (listB f l).length ≤ 4 + l.length * k := fun l h => by
  unfold listB
  rw [List.length_append, be_len]
  have : ∀ l : List α, (∀ x ∈ l, (f x).length ≤ k) → (l.map f).flatten.length ≤ l.length * k := fun l => by
    induction l with
    | nil => intro _; simp
    | cons a l ih =>
      intro h
      have h1 := ih fun x hx => h x (List.mem_cons_of_mem _ hx)
      have h2 := h a (List.mem_cons_self ..)
      rw [List.map_cons, List.flatten_cons, List.length_append, List.length_cons, Nat.add_mul]
      omega
  have := this l h
  omega
def tmP (t : Tm) : List (List UInt8) := [tx t.name.data.toList, listB slotB t.slots, listB stepB t.steps]
def tmB (t : Tm) : List UInt8 := (tmP t).flatten
theorem tmB_len (t : Tm) (h : TmP t) : (tmB t).length ≤ 350000 := by
  unfold tmB tmP
  have h1 := listB_len slotB 21000 t.slots fun s hs => slotB_len s (h.os s hs).1
  have h2 := listB_len stepB 22000 t.steps fun s hs => stepB_len s (h.ot s hs)
  have h3 : t.name.data.toList.length = t.name.size := by simp
  have := h.nm
  have := h.ls
  have := h.lt
  simp only [List.flatten_cons, List.flatten_nil, List.length_append, List.length_nil, tx, be_len]
  omega
def put (L : List Tm) : List UInt8 := if right L = true then listB tmB L else []
end Reg
theorem regListSlotFL (s : Sl) (h : Reg.SlP s) : (Reg.slotB s).length ≤ 21000 := Reg.slotB_len s h.1
theorem regListSlotF (l : List Sl) (h : ∀ s ∈ l, Reg.SlP s) (hl : l.length ≤ 40) (st : St) : TrF Tryz.prog 56 [.sl .shared (l.map Sl.cells), .fn (.func 57) [] []] st fun d st' => d = .sl .shared ((Reg.listB Reg.slotB l).map encB) ∧ st' = st := by
  have hN := binNumF l.length
  rw [if_pos (by omega), Int.toNat_natCast] at hN
  have hm : (l.map Sl.cells).length = l.length := List.length_map ..
  have hc : Hid (∀ (i : Nat) (s : Sl), l[i]? = some s → (l.map Sl.cells)[i]? = some (Sl.cells s)) := fun i s h => by rw [List.getElem?_map, h]; rfl
  obtain ⟨BF, hBF⟩ : ∃ BF : Nat → List UInt8, (fun i : Nat => be 4 l.length ++ ((l.take i).map Reg.slotB).flatten) = BF := ⟨_, rfl⟩
  have hBi : ∀ i, be 4 l.length ++ ((l.take i).map Reg.slotB).flatten = BF i := fun i => by rw [← hBF]
  have hB0 : Hid (BF 0 = be 4 l.length) := Lib.hid (by rw [← hBi]; show _ ++ [] = _; rw [List.append_nil])
  have hBn : Hid (Reg.listB Reg.slotB l = BF l.length) := Lib.hid (by rw [← hBi, List.take_length]; rfl)
  have hBs : Hid (∀ (i : Nat) (s : Sl), l[i]? = some s → BF (i + 1) = BF i ++ Reg.slotB s) := fun i s h => by
    rw [← hBi, ← hBi, List.take_add_one, h, Option.toList_some, List.map_append, List.flatten_append, List.append_assoc]
    congr 2
    show [Reg.slotB s].flatten = _
    rw [List.flatten_cons, List.flatten_nil, List.append_nil]
  have hBl : Hid (∀ (i : Nat), i ≤ l.length → (BF i).length ≤ 4 + i * 21000) := fun i => by
    induction i with
    | zero => intro _; rw [hB0.out, be_len]; omega
    | succ i ih =>
      intro hi
      obtain ⟨s, hs⟩ : ∃ s, l[i]? = some s := ⟨_, List.getElem?_eq_getElem (by omega)⟩
      have h1 := ih (by omega)
      have h2 := regListSlotFL s (h s (List.mem_of_getElem? hs))
      rw [hBs.out i s hs, List.length_append, Nat.add_mul]
      omega
  have hG := Lib.hid fun (s : Sl) (hs : s ∈ l) => (fun s (h : Reg.SlP s) => regPutSlotF s h.1 h.2.1 h.2.2) s (h s hs)
  rw [hBn.out]
  rw [← hB0.out] at hN
  have hN4 : ((BF 0).map encB).length = 4 := by rw [hB0.out, List.length_map, be_len]
  clear hBi hBF h hB0 hBn
  generalize l.map Sl.cells = LS at *
  replace hN := Lib.hid hN
  refine trF_enter (ts := [4]) Tryz.func56 rfl (by rw [Tryz.ntmps56]; exact Nat.le_of_ble_eq_true rfl) (fun tmps w => by simp [results, Tryz.results56, go_sem, resVal]) ?_
  simp only [Tryz.ntmps56]
  refine tr_room 5 1 ((BF 0).map encB).length ?_
  repeat' (first | with_reducible refine Go1.go ?_ | ((with_reducible apply ev_go); (focus ((try simp (disch := omega) only [push_cast, simprocAttr, *]); (try exact rfl); done))) | ((with_reducible refine w_last ?_ ?_ ?_); kernel_rfl; rfl) | with_reducible refine Go2.go ?_ | ((with_reducible first | apply w_stepG | refine s_bi ?_ ?_ | refine blk_ne ?_ ?_); rfl) | ((with_reducible refine al_go ?_); intro b) | ((with_reducible apply (ck_le Tryz.call134)); exact LEL.refl _; exact hN.out _) | ((with_reducible apply a2_go); (focus (first | assumption | (intro h; cases h))); (focus (intro o'; repeat (first | exact ra_h | apply ra_t))); (iterate 2 (focus (first | assumption | exact len_nil | exact len_one rfl | (intro a ha; obtain ⟨x, -, rfl⟩ := List.mem_map.1 ha; first | rfl | simp) | (intro a ha; simp at ha; simp [ha])))); (iterate 2 (focus (first | omega | (simp only [List.length_map, List.length_cons, List.length_nil, List.length_append]; omega)))); intro o' ho') | ((with_reducible apply p2_go); (focus (first | assumption | (intro h; cases h))); (focus (intro o'; repeat (first | exact ra_h | apply ra_t))); (focus (first | assumption | exact len_nil | exact len_one rfl | (intro a ha; obtain ⟨x, -, rfl⟩ := List.mem_map.1 ha; first | rfl | simp) | (intro a ha; simp at ha; simp [ha]))); (iterate 2 (focus (first | omega | (simp only [List.length_map, List.length_cons, List.length_nil, List.length_append]; omega)))); intro o' ho') | ((with_reducible first | refine w_region ?_ ?_ | refine w_dra ?_ ?_); kernel_rfl) | ((with_reducible refine Go3.go ?_ ?_); all_goals (intro hb; (try with_reducible intro hb1); (try (exfalso; first | contradiction | omega)))) | fail)
  refine tr_loopd (ι := Nat) (fun i A st' => i ≤ l.length ∧ A.df = [] ∧ A.e 1 = .fn (.func 57) [] [] ∧ A.e 11 = .sl .shared LS ∧ A.e 12 = .i l.length ∧ A.e 13 = .i i ∧ ∃ o', o' ≠ .shared ∧ A.e 5 = .sl o' ((BF i).map encB) ∧ st' = .room o' 5 1 ((BF i).map encB).length :: st) (fun i => l.length - i) 0 ⟨Nat.zero_le _, ?_, ?_, ?_, ?_, ?_, .tight, by decide, ?_, rfl⟩ ?_
  iterate 6 (focus (first | rfl | assumption | omega | (simp (disch := omega) only [push_cast, simprocAttr, *]; try omega; done)))
  clear hN hN4
  rintro i A st' ⟨hi, hdf, e1, e11, e12, e13, o', ho', e5, rfl⟩
  by_cases hlt : i < l.length
  · obtain ⟨s, hs⟩ : ∃ s, l[i]? = some s := ⟨_, List.getElem?_eq_getElem hlt⟩
    have h1 := hc.out i s hs
    have hP := hG.out s (List.mem_of_getElem? hs)
    have hB := hBs.out i s hs
    have hBx : (BF i).length + (Reg.slotB s).length ≤ 1000000 * 1 := by
      have := hBl.out (i + 1) hlt
      rw [hB, List.length_append] at this
      omega
    clear hs hBs hBl hG hc
    generalize BF i = X1 at *
    generalize Reg.slotB s = X2 at *
    cases s with
    | mk nm ty rq dv =>
    cases dv with
    | mk k n sv lv =>
    rw [Sl.cells_mk] at *
    replace hP := Lib.hid hP
    replace hB := Lib.hid hB
    repeat' (first | with_reducible refine Go1.go ?_ | ((with_reducible apply ev_go); (focus ((try simp (disch := omega) only [push_cast, simprocAttr, *]); (try exact rfl); done))) | ((with_reducible refine w_last ?_ ?_ ?_); kernel_rfl; rfl) | with_reducible refine Go2.go ?_ | ((with_reducible first | apply w_stepG | refine s_bi ?_ ?_ | refine blk_ne ?_ ?_); rfl) | ((with_reducible refine al_go ?_); intro b) | ((with_reducible apply (ck_le Tryz.call57)); exact LEL.refl _; exact hP.out _) | ((with_reducible apply a2_go); (focus (first | assumption | (intro h; cases h))); (focus (intro o'; repeat (first | exact ra_h | apply ra_t))); (iterate 2 (focus (first | assumption | exact len_nil | exact len_one rfl | (intro a ha; obtain ⟨x, -, rfl⟩ := List.mem_map.1 ha; first | rfl | simp) | (intro a ha; simp at ha; simp [ha])))); (iterate 2 (focus (first | omega | (simp only [List.length_map, List.length_cons, List.length_nil, List.length_append]; omega)))); intro o' ho') | ((with_reducible apply p2_go); (focus (first | assumption | (intro h; cases h))); (focus (intro o'; repeat (first | exact ra_h | apply ra_t))); (focus (first | assumption | exact len_nil | exact len_one rfl | (intro a ha; obtain ⟨x, -, rfl⟩ := List.mem_map.1 ha; first | rfl | simp) | (intro a ha; simp at ha; simp [ha]))); (iterate 2 (focus (first | omega | (simp only [List.length_map, List.length_cons, List.length_nil, List.length_append]; omega)))); intro o' ho') | ((with_reducible first | refine w_region ?_ ?_ | refine w_dra ?_ ?_); kernel_rfl) | ((with_reducible refine Go3.go ?_ ?_); all_goals (intro hb; (try with_reducible intro hb1); (try (exfalso; first | contradiction | omega)))) | fail)
    refine ⟨i + 1, .room o' 5 1 ((X1 ++ X2).map encB).length :: st, ?_, ⟨hlt, ?_, ?_, ?_, ?_, ?_, o', ho', ?_, ?_⟩, ?_⟩
    · rw [List.map_append]; (repeat (first | exact List.Sublist.refl _ | apply List.Sublist.cons))
    rotate_right 3
    · rw [hB.out, List.map_append]; (first | rfl | assumption | omega | (simp (disch := omega) only [push_cast, simprocAttr, *]; try omega; done))
    · rw [hB.out]
    all_goals (first | rfl | assumption | omega | (simp (disch := omega) only [push_cast, simprocAttr, *]; try omega; done))
  · obtain rfl : i = l.length := by omega
    repeat' (first | with_reducible refine Go1.go ?_ | ((with_reducible apply ev_go); (focus ((try simp (disch := omega) only [push_cast, simprocAttr, *]); (try exact rfl); done))) | ((with_reducible refine w_last ?_ ?_ ?_); kernel_rfl; rfl) | with_reducible refine Go2.go ?_ | ((with_reducible first | apply w_stepG | refine s_bi ?_ ?_ | refine blk_ne ?_ ?_); rfl) | ((with_reducible refine al_go ?_); intro b) | ((with_reducible apply a2_go); (focus (first | assumption | (intro h; cases h))); (focus (intro o'; repeat (first | exact ra_h | apply ra_t))); (iterate 2 (focus (first | assumption | exact len_nil | exact len_one rfl | (intro a ha; obtain ⟨x, -, rfl⟩ := List.mem_map.1 ha; first | rfl | simp) | (intro a ha; simp at ha; simp [ha])))); (iterate 2 (focus (first | omega | (simp only [List.length_map, List.length_cons, List.length_nil, List.length_append]; omega)))); intro o' ho') | ((with_reducible apply p2_go); (focus (first | assumption | (intro h; cases h))); (focus (intro o'; repeat (first | exact ra_h | apply ra_t))); (focus (first | assumption | exact len_nil | exact len_one rfl | (intro a ha; obtain ⟨x, -, rfl⟩ := List.mem_map.1 ha; first | rfl | simp) | (intro a ha; simp at ha; simp [ha]))); (iterate 2 (focus (first | omega | (simp only [List.length_map, List.length_cons, List.length_nil, List.length_append]; omega)))); intro o' ho') | ((with_reducible first | refine w_region ?_ ?_ | refine w_dra ?_ ?_); kernel_rfl) | ((with_reducible refine Go3.go ?_ ?_); all_goals (intro hb; (try with_reducible intro hb1); (try (exfalso; first | contradiction | omega)))) | fail)
    all_goals (refine ret_eq (by simp) (by first | rfl | assumption) (by (repeat (first | exact List.Sublist.refl _ | apply List.Sublist.cons))) ?_; (try simp (disch := omega) only [push_cast, simprocAttr, *]); try (first | exact LE.refl _ | exact LE.sl _ _ | ((first | refine LE.tup ?_ | refine LE.agg ?_); (repeat' (first | exact LEL.nil | refine LEL.cons ?_ ?_ | exact LE.refl _ | exact LE.sl _ _ | refine LE.agg ?_)); done) | refine LE.of_eq ?_))
theorem regListStepFL (s : Stp) (h : Reg.StP s) : (Reg.stepB s).length ≤ 22000 := Reg.stepB_len s h
theorem regListStepF (l : List Stp) (h : ∀ s ∈ l, Reg.StP s) (hl : l.length ≤ 40) (st : St) : TrF Tryz.prog 58 [.sl .shared (l.map Stp.cells), .fn (.func 59) [] []] st fun d st' => d = .sl .shared ((Reg.listB Reg.stepB l).map encB) ∧ st' = st := by
  have hN := binNumF l.length
  rw [if_pos (by omega), Int.toNat_natCast] at hN
  have hm : (l.map Stp.cells).length = l.length := List.length_map ..
  have hc : Hid (∀ (i : Nat) (s : Stp), l[i]? = some s → (l.map Stp.cells)[i]? = some (Stp.cells s)) := fun i s h => by rw [List.getElem?_map, h]; rfl
  obtain ⟨BF, hBF⟩ : ∃ BF : Nat → List UInt8, (fun i : Nat => be 4 l.length ++ ((l.take i).map Reg.stepB).flatten) = BF := ⟨_, rfl⟩
  have hBi : ∀ i, be 4 l.length ++ ((l.take i).map Reg.stepB).flatten = BF i := fun i => by rw [← hBF]
  have hB0 : Hid (BF 0 = be 4 l.length) := Lib.hid (by rw [← hBi]; show _ ++ [] = _; rw [List.append_nil])
  have hBn : Hid (Reg.listB Reg.stepB l = BF l.length) := Lib.hid (by rw [← hBi, List.take_length]; rfl)
  have hBs : Hid (∀ (i : Nat) (s : Stp), l[i]? = some s → BF (i + 1) = BF i ++ Reg.stepB s) := fun i s h => by
    rw [← hBi, ← hBi, List.take_add_one, h, Option.toList_some, List.map_append, List.flatten_append, List.append_assoc]
    congr 2
    show [Reg.stepB s].flatten = _
    rw [List.flatten_cons, List.flatten_nil, List.append_nil]
  have hBl : Hid (∀ (i : Nat), i ≤ l.length → (BF i).length ≤ 4 + i * 22000) := fun i => by
    induction i with
    | zero => intro _; rw [hB0.out, be_len]; omega
    | succ i ih =>
      intro hi
      obtain ⟨s, hs⟩ : ∃ s, l[i]? = some s := ⟨_, List.getElem?_eq_getElem (by omega)⟩
      have h1 := ih (by omega)
      have h2 := regListStepFL s (h s (List.mem_of_getElem? hs))
      rw [hBs.out i s hs, List.length_append, Nat.add_mul]
      omega
  have hG := Lib.hid fun (s : Stp) (hs : s ∈ l) => (fun s (h : Reg.StP s) => regPutStepF s h.1.1 h.1.2.1 h.1.2.2 h.2) s (h s hs)
  rw [hBn.out]
  rw [← hB0.out] at hN
  have hN4 : ((BF 0).map encB).length = 4 := by rw [hB0.out, List.length_map, be_len]
  clear hBi hBF h hB0 hBn
  generalize l.map Stp.cells = LS at *
  replace hN := Lib.hid hN
  refine trF_enter (ts := [4]) Tryz.func58 rfl (by rw [Tryz.ntmps58]; exact Nat.le_of_ble_eq_true rfl) (fun tmps w => by simp [results, Tryz.results58, go_sem, resVal]) ?_
  simp only [Tryz.ntmps58]
  refine tr_room 5 1 ((BF 0).map encB).length ?_
  repeat' (first | with_reducible refine Go1.go ?_ | ((with_reducible apply ev_go); (focus ((try simp (disch := omega) only [push_cast, simprocAttr, *]); (try exact rfl); done))) | ((with_reducible refine w_last ?_ ?_ ?_); kernel_rfl; rfl) | with_reducible refine Go2.go ?_ | ((with_reducible first | apply w_stepG | refine s_bi ?_ ?_ | refine blk_ne ?_ ?_); rfl) | ((with_reducible refine al_go ?_); intro b) | ((with_reducible apply (ck_le Tryz.call134)); exact LEL.refl _; exact hN.out _) | ((with_reducible apply a2_go); (focus (first | assumption | (intro h; cases h))); (focus (intro o'; repeat (first | exact ra_h | apply ra_t))); (iterate 2 (focus (first | assumption | exact len_nil | exact len_one rfl | (intro a ha; obtain ⟨x, -, rfl⟩ := List.mem_map.1 ha; first | rfl | simp) | (intro a ha; simp at ha; simp [ha])))); (iterate 2 (focus (first | omega | (simp only [List.length_map, List.length_cons, List.length_nil, List.length_append]; omega)))); intro o' ho') | ((with_reducible apply p2_go); (focus (first | assumption | (intro h; cases h))); (focus (intro o'; repeat (first | exact ra_h | apply ra_t))); (focus (first | assumption | exact len_nil | exact len_one rfl | (intro a ha; obtain ⟨x, -, rfl⟩ := List.mem_map.1 ha; first | rfl | simp) | (intro a ha; simp at ha; simp [ha]))); (iterate 2 (focus (first | omega | (simp only [List.length_map, List.length_cons, List.length_nil, List.length_append]; omega)))); intro o' ho') | ((with_reducible first | refine w_region ?_ ?_ | refine w_dra ?_ ?_); kernel_rfl) | ((with_reducible refine Go3.go ?_ ?_); all_goals (intro hb; (try with_reducible intro hb1); (try (exfalso; first | contradiction | omega)))) | fail)
  refine tr_loopd (ι := Nat) (fun i A st' => i ≤ l.length ∧ A.df = [] ∧ A.e 1 = .fn (.func 59) [] [] ∧ A.e 11 = .sl .shared LS ∧ A.e 12 = .i l.length ∧ A.e 13 = .i i ∧ ∃ o', o' ≠ .shared ∧ A.e 5 = .sl o' ((BF i).map encB) ∧ st' = .room o' 5 1 ((BF i).map encB).length :: st) (fun i => l.length - i) 0 ⟨Nat.zero_le _, ?_, ?_, ?_, ?_, ?_, .tight, by decide, ?_, rfl⟩ ?_
  iterate 6 (focus (first | rfl | assumption | omega | (simp (disch := omega) only [push_cast, simprocAttr, *]; try omega; done)))
  clear hN hN4
  rintro i A st' ⟨hi, hdf, e1, e11, e12, e13, o', ho', e5, rfl⟩
  by_cases hlt : i < l.length
  · obtain ⟨s, hs⟩ : ∃ s, l[i]? = some s := ⟨_, List.getElem?_eq_getElem hlt⟩
    have h1 := hc.out i s hs
    have hP := hG.out s (List.mem_of_getElem? hs)
    have hB := hBs.out i s hs
    have hBx : (BF i).length + (Reg.stepB s).length ≤ 1000000 * 1 := by
      have := hBl.out (i + 1) hlt
      rw [hB, List.length_append] at this
      omega
    clear hs hBs hBl hG hc
    generalize BF i = X1 at *
    generalize Reg.stepB s = X2 at *
    cases s with
    | mk kind col slot order =>
    cases slot with
    | mk nm ty rq dv =>
    cases dv with
    | mk k n sv lv =>
    unfold Stp.cells at h1 hP
    rw [Sl.cells_mk] at *
    dsimp only [List.cons_append, List.nil_append] at *
    generalize order.map encI = OS at *
    replace hP := Lib.hid hP
    replace hB := Lib.hid hB
    repeat' (first | with_reducible refine Go1.go ?_ | ((with_reducible apply ev_go); (focus ((try simp (disch := omega) only [push_cast, simprocAttr, *]); (try exact rfl); done))) | ((with_reducible refine w_last ?_ ?_ ?_); kernel_rfl; rfl) | with_reducible refine Go2.go ?_ | ((with_reducible first | apply w_stepG | refine s_bi ?_ ?_ | refine blk_ne ?_ ?_); rfl) | ((with_reducible refine al_go ?_); intro b) | ((with_reducible apply (ck_le Tryz.call59)); exact LEL.refl _; exact hP.out _) | ((with_reducible apply a2_go); (focus (first | assumption | (intro h; cases h))); (focus (intro o'; repeat (first | exact ra_h | apply ra_t))); (iterate 2 (focus (first | assumption | exact len_nil | exact len_one rfl | (intro a ha; obtain ⟨x, -, rfl⟩ := List.mem_map.1 ha; first | rfl | simp) | (intro a ha; simp at ha; simp [ha])))); (iterate 2 (focus (first | omega | (simp only [List.length_map, List.length_cons, List.length_nil, List.length_append]; omega)))); intro o' ho') | ((with_reducible apply p2_go); (focus (first | assumption | (intro h; cases h))); (focus (intro o'; repeat (first | exact ra_h | apply ra_t))); (focus (first | assumption | exact len_nil | exact len_one rfl | (intro a ha; obtain ⟨x, -, rfl⟩ := List.mem_map.1 ha; first | rfl | simp) | (intro a ha; simp at ha; simp [ha]))); (iterate 2 (focus (first | omega | (simp only [List.length_map, List.length_cons, List.length_nil, List.length_append]; omega)))); intro o' ho') | ((with_reducible first | refine w_region ?_ ?_ | refine w_dra ?_ ?_); kernel_rfl) | ((with_reducible refine Go3.go ?_ ?_); all_goals (intro hb; (try with_reducible intro hb1); (try (exfalso; first | contradiction | omega)))) | fail)
    refine ⟨i + 1, .room o' 5 1 ((X1 ++ X2).map encB).length :: st, ?_, ⟨hlt, ?_, ?_, ?_, ?_, ?_, o', ho', ?_, ?_⟩, ?_⟩
    · rw [List.map_append]; (repeat (first | exact List.Sublist.refl _ | apply List.Sublist.cons))
    rotate_right 3
    · rw [hB.out, List.map_append]; (first | rfl | assumption | omega | (simp (disch := omega) only [push_cast, simprocAttr, *]; try omega; done))
    · rw [hB.out]
    all_goals (first | rfl | assumption | omega | (simp (disch := omega) only [push_cast, simprocAttr, *]; try omega; done))
  · obtain rfl : i = l.length := by omega
    repeat' (first | with_reducible refine Go1.go ?_ | ((with_reducible apply ev_go); (focus ((try simp (disch := omega) only [push_cast, simprocAttr, *]); (try exact rfl); done))) | ((with_reducible refine w_last ?_ ?_ ?_); kernel_rfl; rfl) | with_reducible refine Go2.go ?_ | ((with_reducible first | apply w_stepG | refine s_bi ?_ ?_ | refine blk_ne ?_ ?_); rfl) | ((with_reducible refine al_go ?_); intro b) | ((with_reducible apply a2_go); (focus (first | assumption | (intro h; cases h))); (focus (intro o'; repeat (first | exact ra_h | apply ra_t))); (iterate 2 (focus (first | assumption | exact len_nil | exact len_one rfl | (intro a ha; obtain ⟨x, -, rfl⟩ := List.mem_map.1 ha; first | rfl | simp) | (intro a ha; simp at ha; simp [ha])))); (iterate 2 (focus (first | omega | (simp only [List.length_map, List.length_cons, List.length_nil, List.length_append]; omega)))); intro o' ho') | ((with_reducible apply p2_go); (focus (first | assumption | (intro h; cases h))); (focus (intro o'; repeat (first | exact ra_h | apply ra_t))); (focus (first | assumption | exact len_nil | exact len_one rfl | (intro a ha; obtain ⟨x, -, rfl⟩ := List.mem_map.1 ha; first | rfl | simp) | (intro a ha; simp at ha; simp [ha]))); (iterate 2 (focus (first | omega | (simp only [List.length_map, List.length_cons, List.length_nil, List.length_append]; omega)))); intro o' ho') | ((with_reducible first | refine w_region ?_ ?_ | refine w_dra ?_ ?_); kernel_rfl) | ((with_reducible refine Go3.go ?_ ?_); all_goals (intro hb; (try with_reducible intro hb1); (try (exfalso; first | contradiction | omega)))) | fail)
    all_goals (refine ret_eq (by simp) (by first | rfl | assumption) (by (repeat (first | exact List.Sublist.refl _ | apply List.Sublist.cons))) ?_; (try simp (disch := omega) only [push_cast, simprocAttr, *]); try (first | exact LE.refl _ | exact LE.sl _ _ | ((first | refine LE.tup ?_ | refine LE.agg ?_); (repeat' (first | exact LEL.nil | refine LEL.cons ?_ ?_ | exact LE.refl _ | exact LE.sl _ _ | refine LE.agg ?_)); done) | refine LE.of_eq ?_))
theorem regPut1F (t : Tm) (h : Reg.TmP t) (st : St) : TrF Tryz.prog 53 [.agg t.cells] st fun d st' => d = .sl .shared ((Reg.tmB t).map encB) ∧ st' = st := by
  have hT := binTextF t.name (by have := h.nm; omega)
  have hS := regListSlotF t.slots h.os (by have := h.ls; omega)
  have hP := regListStepF t.steps h.ot (by have := h.lt; omega)
  have hA := binAllF .tight (Reg.tmP t) (by have := Reg.tmB_len t h; unfold Reg.tmB at this; omega) (by show 3 ≤ 1000000; omega)
  unfold Reg.tmB
  generalize (Reg.tmP t).flatten = F at *
  unfold Reg.tmP at hA
  simp only [List.map_cons, List.map_nil, encBs] at hA
  clear h
  unfold Tm.cells
  generalize tx t.name.data.toList = b1 at *
  generalize Reg.listB Reg.slotB t.slots = b2 at *
  generalize Reg.listB Reg.stepB t.steps = b3 at *
  generalize t.slots.map Sl.cells = SL at *
  generalize t.steps.map Stp.cells = TL at *
  generalize t.name = nm at *
  replace hT := Lib.hid hT
  replace hS := Lib.hid hS
  replace hP := Lib.hid hP
  replace hA := Lib.hid hA
  refine trF_enter (ts := [2]) Tryz.func53 rfl (by rw [Tryz.ntmps53]; exact Nat.le_of_ble_eq_true rfl) (fun tmps w => by simp [results, Tryz.results53, go_sem, resVal]) ?_
  simp only [Tryz.ntmps53]
  repeat' (first | with_reducible refine Go1.go ?_ | ((with_reducible apply ev_go); (focus ((try simp (disch := omega) only [push_cast, simprocAttr, *]); (try exact rfl); done))) | ((with_reducible refine w_last ?_ ?_ ?_); kernel_rfl; rfl) | with_reducible refine Go2.go ?_ | ((with_reducible first | apply w_stepG | refine s_bi ?_ ?_ | refine blk_ne ?_ ?_); rfl) | ((with_reducible refine al_go ?_); intro b) | ((with_reducible apply (ck_le Tryz.call55)); exact LEL.refl _; exact hT.out _) | ((with_reducible apply (ck_le Tryz.call56)); exact LEL.refl _; exact hS.out _) | ((with_reducible apply (ck_le Tryz.call58)); exact LEL.refl _; exact hP.out _) | ((with_reducible apply (ck_ex Tryz.call54)); exact LEL.refl _; exact hA.out _; (focus exact ⟨.tight, by intro h; cases h⟩); intro o2 ho2) | ((with_reducible apply a2_go); (focus (first | assumption | (intro h; cases h))); (focus (intro o'; repeat (first | exact ra_h | apply ra_t))); (iterate 2 (focus (first | assumption | exact len_nil | exact len_one rfl | (intro a ha; obtain ⟨x, -, rfl⟩ := List.mem_map.1 ha; first | rfl | simp) | (intro a ha; simp at ha; simp [ha])))); (iterate 2 (focus (first | omega | (simp only [List.length_map, List.length_cons, List.length_nil, List.length_append]; omega)))); intro o' ho') | ((with_reducible apply p2_go); (focus (first | assumption | (intro h; cases h))); (focus (intro o'; repeat (first | exact ra_h | apply ra_t))); (focus (first | assumption | exact len_nil | exact len_one rfl | (intro a ha; obtain ⟨x, -, rfl⟩ := List.mem_map.1 ha; first | rfl | simp) | (intro a ha; simp at ha; simp [ha]))); (iterate 2 (focus (first | omega | (simp only [List.length_map, List.length_cons, List.length_nil, List.length_append]; omega)))); intro o' ho') | ((with_reducible first | refine w_region ?_ ?_ | refine w_dra ?_ ?_); kernel_rfl) | ((with_reducible refine Go3.go ?_ ?_); all_goals (intro hb; (try with_reducible intro hb1); (try (exfalso; first | contradiction | omega)))) | fail)
  all_goals (refine ret_eq (by simp) (by first | rfl | assumption) (by (repeat (first | exact List.Sublist.refl _ | apply List.Sublist.cons))) ?_; (try simp (disch := omega) only [push_cast, simprocAttr, *]); try (first | exact LE.refl _ | exact LE.sl _ _ | ((first | refine LE.tup ?_ | refine LE.agg ?_); (repeat' (first | exact LEL.nil | refine LEL.cons ?_ ?_ | exact LE.refl _ | exact LE.sl _ _ | refine LE.agg ?_)); done) | refine LE.of_eq ?_))
theorem regListTmFL (s : Tm) (h : Reg.TmP s) : (Reg.tmB s).length ≤ 350000 := Reg.tmB_len s h
theorem regListTmF (l : List Tm) (h : ∀ s ∈ l, Reg.TmP s) (hl : l.length ≤ 6) (st : St) : TrF Tryz.prog 52 [.sl .shared (l.map Tm.cells), .fn (.func 53) [] []] st fun d st' => ∃ o', o' ≠ .shared ∧ d = .sl o' ((Reg.listB Reg.tmB l).map encB) ∧ st' = .room o' 5 1 ((Reg.listB Reg.tmB l).map encB).length :: st := by
  have hN := binNumF l.length
  rw [if_pos (by omega), Int.toNat_natCast] at hN
  have hm : (l.map Tm.cells).length = l.length := List.length_map ..
  have hc : Hid (∀ (i : Nat) (s : Tm), l[i]? = some s → (l.map Tm.cells)[i]? = some (Tm.cells s)) := fun i s h => by rw [List.getElem?_map, h]; rfl
  obtain ⟨BF, hBF⟩ : ∃ BF : Nat → List UInt8, (fun i : Nat => be 4 l.length ++ ((l.take i).map Reg.tmB).flatten) = BF := ⟨_, rfl⟩
  have hBi : ∀ i, be 4 l.length ++ ((l.take i).map Reg.tmB).flatten = BF i := fun i => by rw [← hBF]
  have hB0 : Hid (BF 0 = be 4 l.length) := Lib.hid (by rw [← hBi]; show _ ++ [] = _; rw [List.append_nil])
  have hBn : Hid (Reg.listB Reg.tmB l = BF l.length) := Lib.hid (by rw [← hBi, List.take_length]; rfl)
  have hBs : Hid (∀ (i : Nat) (s : Tm), l[i]? = some s → BF (i + 1) = BF i ++ Reg.tmB s) := fun i s h => by
    rw [← hBi, ← hBi, List.take_add_one, h, Option.toList_some, List.map_append, List.flatten_append, List.append_assoc]
    congr 2
    show [Reg.tmB s].flatten = _
    rw [List.flatten_cons, List.flatten_nil, List.append_nil]
  have hBl : Hid (∀ (i : Nat), i ≤ l.length → (BF i).length ≤ 4 + i * 350000) := fun i => by
    induction i with
    | zero => intro _; rw [hB0.out, be_len]; omega
    | succ i ih =>
      intro hi
      obtain ⟨s, hs⟩ : ∃ s, l[i]? = some s := ⟨_, List.getElem?_eq_getElem (by omega)⟩
      have h1 := ih (by omega)
      have h2 := regListTmFL s (h s (List.mem_of_getElem? hs))
      rw [hBs.out i s hs, List.length_append, Nat.add_mul]
      omega
  have hG := Lib.hid fun (s : Tm) (hs : s ∈ l) => (fun s (h : Reg.TmP s) => regPut1F s h) s (h s hs)
  rw [hBn.out]
  rw [← hB0.out] at hN
  have hN4 : ((BF 0).map encB).length = 4 := by rw [hB0.out, List.length_map, be_len]
  clear hBi hBF h hB0 hBn
  generalize l.map Tm.cells = LS at *
  replace hN := Lib.hid hN
  refine trF_enter (ts := [4]) Tryz.func52 rfl (by rw [Tryz.ntmps52]; exact Nat.le_of_ble_eq_true rfl) (fun tmps w => by simp [results, Tryz.results52, go_sem, resVal]) ?_
  simp only [Tryz.ntmps52]
  refine tr_room 5 1 ((BF 0).map encB).length ?_
  repeat' (first | with_reducible refine Go1.go ?_ | ((with_reducible apply ev_go); (focus ((try simp (disch := omega) only [push_cast, simprocAttr, *]); (try exact rfl); done))) | ((with_reducible refine w_last ?_ ?_ ?_); kernel_rfl; rfl) | with_reducible refine Go2.go ?_ | ((with_reducible first | apply w_stepG | refine s_bi ?_ ?_ | refine blk_ne ?_ ?_); rfl) | ((with_reducible refine al_go ?_); intro b) | ((with_reducible apply (ck_le Tryz.call134)); exact LEL.refl _; exact hN.out _) | ((with_reducible apply a2_go); (focus (first | assumption | (intro h; cases h))); (focus (intro o'; repeat (first | exact ra_h | apply ra_t))); (iterate 2 (focus (first | assumption | exact len_nil | exact len_one rfl | (intro a ha; obtain ⟨x, -, rfl⟩ := List.mem_map.1 ha; first | rfl | simp) | (intro a ha; simp at ha; simp [ha])))); (iterate 2 (focus (first | omega | (simp only [List.length_map, List.length_cons, List.length_nil, List.length_append]; omega)))); intro o' ho') | ((with_reducible apply p2_go); (focus (first | assumption | (intro h; cases h))); (focus (intro o'; repeat (first | exact ra_h | apply ra_t))); (focus (first | assumption | exact len_nil | exact len_one rfl | (intro a ha; obtain ⟨x, -, rfl⟩ := List.mem_map.1 ha; first | rfl | simp) | (intro a ha; simp at ha; simp [ha]))); (iterate 2 (focus (first | omega | (simp only [List.length_map, List.length_cons, List.length_nil, List.length_append]; omega)))); intro o' ho') | ((with_reducible first | refine w_region ?_ ?_ | refine w_dra ?_ ?_); kernel_rfl) | ((with_reducible refine Go3.go ?_ ?_); all_goals (intro hb; (try with_reducible intro hb1); (try (exfalso; first | contradiction | omega)))) | fail)
  refine tr_loopd (ι := Nat) (fun i A st' => i ≤ l.length ∧ A.df = [] ∧ A.e 1 = .fn (.func 53) [] [] ∧ A.e 11 = .sl .shared LS ∧ A.e 12 = .i l.length ∧ A.e 13 = .i i ∧ ∃ o', o' ≠ .shared ∧ A.e 5 = .sl o' ((BF i).map encB) ∧ st' = .room o' 5 1 ((BF i).map encB).length :: st) (fun i => l.length - i) 0 ⟨Nat.zero_le _, ?_, ?_, ?_, ?_, ?_, .tight, by decide, ?_, rfl⟩ ?_
  iterate 6 (focus (first | rfl | assumption | omega | (simp (disch := omega) only [push_cast, simprocAttr, *]; try omega; done)))
  clear hN hN4
  rintro i A st' ⟨hi, hdf, e1, e11, e12, e13, o', ho', e5, rfl⟩
  by_cases hlt : i < l.length
  · obtain ⟨s, hs⟩ : ∃ s, l[i]? = some s := ⟨_, List.getElem?_eq_getElem hlt⟩
    have h1 := hc.out i s hs
    have hP := hG.out s (List.mem_of_getElem? hs)
    have hB := hBs.out i s hs
    have hBx : (BF i).length + (Reg.tmB s).length ≤ 1000000 * 10 := by
      have := hBl.out (i + 1) hlt
      rw [hB, List.length_append] at this
      omega
    clear hs hBs hBl hG hc
    generalize BF i = X1 at *
    generalize Reg.tmB s = X2 at *
    unfold Tm.cells at h1 hP
    generalize s.slots.map Sl.cells = SL at *
    generalize s.steps.map Stp.cells = TL at *
    generalize s.name = nm at *
    replace hP := Lib.hid hP
    replace hB := Lib.hid hB
    repeat' (first | with_reducible refine Go1.go ?_ | ((with_reducible apply ev_go); (focus ((try simp (disch := omega) only [push_cast, simprocAttr, *]); (try exact rfl); done))) | ((with_reducible refine w_last ?_ ?_ ?_); kernel_rfl; rfl) | with_reducible refine Go2.go ?_ | ((with_reducible first | apply w_stepG | refine s_bi ?_ ?_ | refine blk_ne ?_ ?_); rfl) | ((with_reducible refine al_go ?_); intro b) | ((with_reducible apply (ck_le Tryz.call53)); exact LEL.refl _; exact hP.out _) | ((with_reducible apply a2_go); (focus (first | assumption | (intro h; cases h))); (focus (intro o'; repeat (first | exact ra_h | apply ra_t))); (iterate 2 (focus (first | assumption | exact len_nil | exact len_one rfl | (intro a ha; obtain ⟨x, -, rfl⟩ := List.mem_map.1 ha; first | rfl | simp) | (intro a ha; simp at ha; simp [ha])))); (iterate 2 (focus (first | omega | (simp only [List.length_map, List.length_cons, List.length_nil, List.length_append]; omega)))); intro o' ho') | ((with_reducible apply p2_go); (focus (first | assumption | (intro h; cases h))); (focus (intro o'; repeat (first | exact ra_h | apply ra_t))); (focus (first | assumption | exact len_nil | exact len_one rfl | (intro a ha; obtain ⟨x, -, rfl⟩ := List.mem_map.1 ha; first | rfl | simp) | (intro a ha; simp at ha; simp [ha]))); (iterate 2 (focus (first | omega | (simp only [List.length_map, List.length_cons, List.length_nil, List.length_append]; omega)))); intro o' ho') | ((with_reducible first | refine w_region ?_ ?_ | refine w_dra ?_ ?_); kernel_rfl) | ((with_reducible refine Go3.go ?_ ?_); all_goals (intro hb; (try with_reducible intro hb1); (try (exfalso; first | contradiction | omega)))) | fail)
    refine ⟨i + 1, .room o' 5 1 ((X1 ++ X2).map encB).length :: st, ?_, ⟨hlt, ?_, ?_, ?_, ?_, ?_, o', ho', ?_, ?_⟩, ?_⟩
    · rw [List.map_append]; (repeat (first | exact List.Sublist.refl _ | apply List.Sublist.cons))
    rotate_right 3
    · rw [hB.out, List.map_append]; (first | rfl | assumption | omega | (simp (disch := omega) only [push_cast, simprocAttr, *]; try omega; done))
    · rw [hB.out]
    all_goals (first | rfl | assumption | omega | (simp (disch := omega) only [push_cast, simprocAttr, *]; try omega; done))
  · obtain rfl : i = l.length := by omega
    repeat' (first | with_reducible refine Go1.go ?_ | ((with_reducible apply ev_go); (focus ((try simp (disch := omega) only [push_cast, simprocAttr, *]); (try exact rfl); done))) | ((with_reducible refine w_last ?_ ?_ ?_); kernel_rfl; rfl) | with_reducible refine Go2.go ?_ | ((with_reducible first | apply w_stepG | refine s_bi ?_ ?_ | refine blk_ne ?_ ?_); rfl) | ((with_reducible refine al_go ?_); intro b) | ((with_reducible apply a2_go); (focus (first | assumption | (intro h; cases h))); (focus (intro o'; repeat (first | exact ra_h | apply ra_t))); (iterate 2 (focus (first | assumption | exact len_nil | exact len_one rfl | (intro a ha; obtain ⟨x, -, rfl⟩ := List.mem_map.1 ha; first | rfl | simp) | (intro a ha; simp at ha; simp [ha])))); (iterate 2 (focus (first | omega | (simp only [List.length_map, List.length_cons, List.length_nil, List.length_append]; omega)))); intro o' ho') | ((with_reducible apply p2_go); (focus (first | assumption | (intro h; cases h))); (focus (intro o'; repeat (first | exact ra_h | apply ra_t))); (focus (first | assumption | exact len_nil | exact len_one rfl | (intro a ha; obtain ⟨x, -, rfl⟩ := List.mem_map.1 ha; first | rfl | simp) | (intro a ha; simp at ha; simp [ha]))); (iterate 2 (focus (first | omega | (simp only [List.length_map, List.length_cons, List.length_nil, List.length_append]; omega)))); intro o' ho') | ((with_reducible first | refine w_region ?_ ?_ | refine w_dra ?_ ?_); kernel_rfl) | ((with_reducible refine Go3.go ?_ ?_); all_goals (intro hb; (try with_reducible intro hb1); (try (exfalso; first | contradiction | omega)))) | fail)
    all_goals ((apply ret_own (by simp) (by first | rfl | assumption)); (focus ((try simp (disch := omega) only [push_cast, simprocAttr, *]); (try exact rfl); done)); (focus (first | assumption | (intro h; cases h))); (focus ((repeat (first | exact List.Sublist.refl _ | apply List.Sublist.cons)); done)))
    all_goals rfl
theorem regPutF (L : List Tm) (hL : ∀ t ∈ L, TOk t) (hl : L.length ≤ 1000000) (hP : Reg.right L = true → L.length ≤ 6 ∧ ∀ t ∈ L, Reg.TmP t) (st : St) : TrF Tryz.prog 19 [.sl .shared (L.map Tm.cells)] st fun d st' => d = .sl .shared ((Reg.put L).map encB) ∧ st' = st := by
  have hR := regRightF L hL hl
  have hQ : Reg.right L = true → ∀ st : St, TrF Tryz.prog 52 [.sl .shared (L.map Tm.cells), .fn (.func 53) [] []] st fun d st' => ∃ o', o' ≠ .shared ∧ d = .sl o' ((Reg.put L).map encB) ∧ st' = .room o' 5 1 ((Reg.put L).map encB).length :: st := fun h st => by
    unfold Reg.put
    rw [if_pos h]
    exact regListTmF L (hP h).2 (hP h).1 st
  have h0 : Reg.right L = false → Reg.put L = [] := fun h => by unfold Reg.put; rw [if_neg (by rw [h]; exact Bool.false_ne_true)]
  clear hP hL
  generalize Reg.put L = B at *
  generalize L.map Tm.cells = LS at *
  generalize Reg.right L = q at *
  cases q with
  | false =>
    rw [h0 rfl]
    clear h0 hQ
    replace hR := Lib.hid hR
    refine trF_enter (ts := [2]) Tryz.func19 rfl (by rw [Tryz.ntmps19]; exact Nat.le_of_ble_eq_true rfl) (fun tmps w => by simp [results, Tryz.results19, go_sem, resVal]) ?_
    simp only [Tryz.ntmps19]
    repeat' (first | with_reducible refine Go1.go ?_ | ((with_reducible apply ev_go); (focus ((try simp (disch := omega) only [push_cast, simprocAttr, *]); (try exact rfl); done))) | ((with_reducible refine w_last ?_ ?_ ?_); kernel_rfl; rfl) | with_reducible refine Go2.go ?_ | ((with_reducible first | apply w_stepG | refine s_bi ?_ ?_ | refine blk_ne ?_ ?_); rfl) | ((with_reducible refine al_go ?_); intro b) | ((with_reducible apply (ck_le Tryz.call16)); exact LEL.refl _; exact hR.out _) | ((with_reducible apply a2_go); (focus (first | assumption | (intro h; cases h))); (focus (intro o'; repeat (first | exact ra_h | apply ra_t))); (iterate 2 (focus (first | assumption | exact len_nil | exact len_one rfl | (intro a ha; obtain ⟨x, -, rfl⟩ := List.mem_map.1 ha; first | rfl | simp) | (intro a ha; simp at ha; simp [ha])))); (iterate 2 (focus (first | omega | (simp only [List.length_map, List.length_cons, List.length_nil, List.length_append]; omega)))); intro o' ho') | ((with_reducible apply p2_go); (focus (first | assumption | (intro h; cases h))); (focus (intro o'; repeat (first | exact ra_h | apply ra_t))); (focus (first | assumption | exact len_nil | exact len_one rfl | (intro a ha; obtain ⟨x, -, rfl⟩ := List.mem_map.1 ha; first | rfl | simp) | (intro a ha; simp at ha; simp [ha]))); (iterate 2 (focus (first | omega | (simp only [List.length_map, List.length_cons, List.length_nil, List.length_append]; omega)))); intro o' ho') | ((with_reducible first | refine w_region ?_ ?_ | refine w_dra ?_ ?_); kernel_rfl) | ((with_reducible refine Go3.go ?_ ?_); all_goals (intro hb; (try with_reducible intro hb1); (try (exfalso; first | contradiction | omega)))) | fail)
    all_goals (refine ret_eq (by simp) (by first | rfl | assumption) (by (repeat (first | exact List.Sublist.refl _ | apply List.Sublist.cons))) ?_; (try simp (disch := omega) only [push_cast, simprocAttr, *]); try (first | exact LE.refl _ | exact LE.sl _ _ | ((first | refine LE.tup ?_ | refine LE.agg ?_); (repeat' (first | exact LEL.nil | refine LEL.cons ?_ ?_ | exact LE.refl _ | exact LE.sl _ _ | refine LE.agg ?_)); done) | refine LE.of_eq ?_))
  | true =>
    have hQ2 := hQ rfl
    clear h0 hQ
    replace hR := Lib.hid hR
    replace hQ2 := Lib.hid hQ2
    refine trF_enter (ts := [2]) Tryz.func19 rfl (by rw [Tryz.ntmps19]; exact Nat.le_of_ble_eq_true rfl) (fun tmps w => by simp [results, Tryz.results19, go_sem, resVal]) ?_
    simp only [Tryz.ntmps19]
    repeat' (first | with_reducible refine Go1.go ?_ | ((with_reducible apply ev_go); (focus ((try simp (disch := omega) only [push_cast, simprocAttr, *]); (try exact rfl); done))) | ((with_reducible refine w_last ?_ ?_ ?_); kernel_rfl; rfl) | with_reducible refine Go2.go ?_ | ((with_reducible first | apply w_stepG | refine s_bi ?_ ?_ | refine blk_ne ?_ ?_); rfl) | ((with_reducible refine al_go ?_); intro b) | ((with_reducible apply (ck_le Tryz.call16)); exact LEL.refl _; exact hR.out _) | ((with_reducible apply (ck_ex Tryz.call52)); exact LEL.refl _; exact hQ2.out _; (focus exact ⟨.tight, by intro h; cases h⟩); intro o1 ho1) | ((with_reducible apply a2_go); (focus (first | assumption | (intro h; cases h))); (focus (intro o'; repeat (first | exact ra_h | apply ra_t))); (iterate 2 (focus (first | assumption | exact len_nil | exact len_one rfl | (intro a ha; obtain ⟨x, -, rfl⟩ := List.mem_map.1 ha; first | rfl | simp) | (intro a ha; simp at ha; simp [ha])))); (iterate 2 (focus (first | omega | (simp only [List.length_map, List.length_cons, List.length_nil, List.length_append]; omega)))); intro o' ho') | ((with_reducible apply p2_go); (focus (first | assumption | (intro h; cases h))); (focus (intro o'; repeat (first | exact ra_h | apply ra_t))); (focus (first | assumption | exact len_nil | exact len_one rfl | (intro a ha; obtain ⟨x, -, rfl⟩ := List.mem_map.1 ha; first | rfl | simp) | (intro a ha; simp at ha; simp [ha]))); (iterate 2 (focus (first | omega | (simp only [List.length_map, List.length_cons, List.length_nil, List.length_append]; omega)))); intro o' ho') | ((with_reducible first | refine w_region ?_ ?_ | refine w_dra ?_ ?_); kernel_rfl) | ((with_reducible refine Go3.go ?_ ?_); all_goals (intro hb; (try with_reducible intro hb1); (try (exfalso; first | contradiction | omega)))) | fail)
    all_goals (refine ret_eq (by simp) (by first | rfl | assumption) (by (repeat (first | exact List.Sublist.refl _ | apply List.Sublist.cons))) ?_; (try simp (disch := omega) only [push_cast, simprocAttr, *]); try (first | exact LE.refl _ | exact LE.sl _ _ | ((first | refine LE.tup ?_ | refine LE.agg ?_); (repeat' (first | exact LEL.nil | refine LEL.cons ?_ ?_ | exact LE.refl _ | exact LE.sl _ _ | refine LE.agg ?_)); done) | refine LE.of_eq ?_))
theorem regPutOF (L : List Tm) (hL : ∀ t ∈ L, TOk t) (hl : L.length ≤ 6) (hr : Reg.right L = true) (hP : ∀ t ∈ L, Reg.TmP t) (st : St) : TrF Tryz.prog 19 [.sl .shared (L.map Tm.cells)] st fun d st' => ∃ o', o' ≠ .shared ∧ d = .sl o' ((Reg.put L).map encB) ∧ st' = .room o' 5 1 ((Reg.put L).map encB).length :: st := by
  have hR := regRightF L hL (by omega)
  have hQ := regListTmF L hP hl
  unfold Reg.put
  rw [if_pos hr]
  rw [hr] at hR
  clear hP hL hr
  generalize Reg.listB Reg.tmB L = B at *
  generalize L.map Tm.cells = LS at *
  replace hR := Lib.hid hR
  replace hQ := Lib.hid hQ
  refine trF_enter (ts := [2]) Tryz.func19 rfl (by rw [Tryz.ntmps19]; exact Nat.le_of_ble_eq_true rfl) (fun tmps w => by simp [results, Tryz.results19, go_sem, resVal]) ?_
  simp only [Tryz.ntmps19]
  repeat' (first | with_reducible refine Go1.go ?_ | ((with_reducible apply ev_go); (focus ((try simp (disch := omega) only [push_cast, simprocAttr, *]); (try exact rfl); done))) | ((with_reducible refine w_last ?_ ?_ ?_); kernel_rfl; rfl) | with_reducible refine Go2.go ?_ | ((with_reducible first | apply w_stepG | refine s_bi ?_ ?_ | refine blk_ne ?_ ?_); rfl) | ((with_reducible refine al_go ?_); intro b) | ((with_reducible apply (ck_le Tryz.call16)); exact LEL.refl _; exact hR.out _) | ((with_reducible apply (ck_ex Tryz.call52)); exact LEL.refl _; exact hQ.out _; (focus exact ⟨.tight, by intro h; cases h⟩); intro o1 ho1) | ((with_reducible apply a2_go); (focus (first | assumption | (intro h; cases h))); (focus (intro o'; repeat (first | exact ra_h | apply ra_t))); (iterate 2 (focus (first | assumption | exact len_nil | exact len_one rfl | (intro a ha; obtain ⟨x, -, rfl⟩ := List.mem_map.1 ha; first | rfl | simp) | (intro a ha; simp at ha; simp [ha])))); (iterate 2 (focus (first | omega | (simp only [List.length_map, List.length_cons, List.length_nil, List.length_append]; omega)))); intro o' ho') | ((with_reducible apply p2_go); (focus (first | assumption | (intro h; cases h))); (focus (intro o'; repeat (first | exact ra_h | apply ra_t))); (focus (first | assumption | exact len_nil | exact len_one rfl | (intro a ha; obtain ⟨x, -, rfl⟩ := List.mem_map.1 ha; first | rfl | simp) | (intro a ha; simp at ha; simp [ha]))); (iterate 2 (focus (first | omega | (simp only [List.length_map, List.length_cons, List.length_nil, List.length_append]; omega)))); intro o' ho') | ((with_reducible first | refine w_region ?_ ?_ | refine w_dra ?_ ?_); kernel_rfl) | ((with_reducible refine Go3.go ?_ ?_); all_goals (intro hb; (try with_reducible intro hb1); (try (exfalso; first | contradiction | omega)))) | fail)
  all_goals ((apply ret_own (by simp) (by first | rfl | assumption)); (focus ((try simp (disch := omega) only [push_cast, simprocAttr, *]); (try exact rfl); done)); (focus (first | assumption | (intro h; cases h))); (focus ((repeat (first | exact List.Sublist.refl _ | apply List.Sublist.cons)); done)))
  all_goals rfl
end Go.Proofs.YtgcienlfpnpbgaaGreat
end
