/- The walk of the statement RegistryFewer. -/
import Derived.Test.YtgcienlfpnpbgaaGreatZ6
set_option linter.all false
section
namespace Go.Proofs.YtgcienlfpnpbgaaGreat
set_option linter.unusedSimpArgs false
attribute [local push_cast] encB encI encC V.cells_mk V.cells_len Nat.mul_one Int.sub_zero List.map_nil beq_self_eq_true bne_self_eq_false List.head?_cons
open Go.RowKit B
set_option maxRecDepth 10000
set_option maxHeartbeats 8000000
theorem registryFewerLaw (L : List Tm) (hw : ∀ t ∈ L, t.Wf) (hl : L.length ≤ maxLen) (n : UInt8) (st : St) : TrF Tryz.prog 6 [.sl .shared (L.map Tm.cells), .y n] st fun d st' => d = .b true ∧ st' = st := by
  have hA := Lib.hid reg13AliveF
  have hG := refGreat13F L hw hl
  have hm : (L.map Tm.cells).length = L.length := List.length_map ..
  cases hg : Reg.great L with
  | true =>
    rw [hg] at hG
    unfold maxLen at hl
    clear hw
    generalize L.map Tm.cells = LS at *
    replace hG := Lib.hid hG
    refine trF_enter (ts := [4]) Tryz.func6 rfl (by rw [Tryz.ntmps6]; exact Nat.le_of_ble_eq_true rfl) (fun tmps w => by simp [results, Tryz.results6, go_sem, resVal]) ?_
    simp only [Tryz.ntmps6]
    repeat' (first | with_reducible refine Go1.go ?_ | ((with_reducible apply ev_go); (focus ((try simp (disch := omega) only [push_cast, simprocAttr, *]); (try exact rfl); done))) | ((with_reducible refine w_last ?_ ?_ ?_); kernel_rfl; rfl) | with_reducible refine Go2.go ?_ | ((with_reducible first | apply w_stepG | refine s_bi ?_ ?_ | refine blk_ne ?_ ?_); rfl) | ((with_reducible refine al_go ?_); intro b) | ((with_reducible apply (ck_le Tryz.call14)); exact LEL.refl _; exact hA.out _) | ((with_reducible apply (ck_le Tryz.call15)); exact LEL.refl _; exact hG.out _) | ((with_reducible apply a2_go); (focus (first | assumption | (intro h; cases h))); (focus (intro o'; repeat (first | exact ra_h | apply ra_t))); (iterate 2 (focus (first | assumption | exact len_nil | exact len_one rfl | (intro a ha; obtain ⟨x, -, rfl⟩ := List.mem_map.1 ha; first | rfl | simp) | (intro a ha; simp at ha; simp [ha])))); (iterate 2 (focus (first | omega | (simp only [List.length_map, List.length_cons, List.length_nil, List.length_append]; omega)))); intro o' ho') | ((with_reducible apply p2_go); (focus (first | assumption | (intro h; cases h))); (focus (intro o'; repeat (first | exact ra_h | apply ra_t))); (focus (first | assumption | exact len_nil | exact len_one rfl | (intro a ha; obtain ⟨x, -, rfl⟩ := List.mem_map.1 ha; first | rfl | simp) | (intro a ha; simp at ha; simp [ha]))); (iterate 2 (focus (first | omega | (simp only [List.length_map, List.length_cons, List.length_nil, List.length_append]; omega)))); intro o' ho') | ((with_reducible first | refine w_region ?_ ?_ | refine w_dra ?_ ?_); kernel_rfl) | ((with_reducible refine Go3.go ?_ ?_); all_goals (intro hb; (try with_reducible intro hb1); (try (exfalso; first | contradiction | omega)))) | fail)
    all_goals (refine ret_eq (by simp) (by first | rfl | assumption) (by (repeat (first | exact List.Sublist.refl _ | apply List.Sublist.cons))) ?_; (try simp (disch := omega) only [push_cast, simprocAttr, *]); try (first | exact LE.refl _ | exact LE.sl _ _ | ((first | refine LE.tup ?_ | refine LE.agg ?_); (repeat' (first | exact LEL.nil | refine LEL.cons ?_ ?_ | exact LE.refl _ | exact LE.sl _ _ | refine LE.agg ?_)); done) | refine LE.of_eq ?_))
  | false =>
    obtain ⟨h12, hk⟩ := Reg.not_great hw hg
    rw [hg] at hG
    clear hg hw hl
    have hR := regRightF L (fun t h => (hk t h).ok) (by omega)
    cases hr : Reg.right L with
    | false =>
      rw [hr] at hR
      clear hk
      generalize L.map Tm.cells = LS at *
      replace hG := Lib.hid hG
      replace hR := Lib.hid hR
      refine trF_enter (ts := [4]) Tryz.func6 rfl (by rw [Tryz.ntmps6]; exact Nat.le_of_ble_eq_true rfl) (fun tmps w => by simp [results, Tryz.results6, go_sem, resVal]) ?_
      simp only [Tryz.ntmps6]
      repeat' (first | with_reducible refine Go1.go ?_ | ((with_reducible apply ev_go); (focus ((try simp (disch := omega) only [push_cast, simprocAttr, *]); (try exact rfl); done))) | ((with_reducible refine w_last ?_ ?_ ?_); kernel_rfl; rfl) | with_reducible refine Go2.go ?_ | ((with_reducible first | apply w_stepG | refine s_bi ?_ ?_ | refine blk_ne ?_ ?_); rfl) | ((with_reducible refine al_go ?_); intro b) | ((with_reducible apply (ck_le Tryz.call14)); exact LEL.refl _; exact hA.out _) | ((with_reducible apply (ck_le Tryz.call15)); exact LEL.refl _; exact hG.out _) | ((with_reducible apply (ck_le Tryz.call16)); exact LEL.refl _; exact hR.out _) | ((with_reducible apply a2_go); (focus (first | assumption | (intro h; cases h))); (focus (intro o'; repeat (first | exact ra_h | apply ra_t))); (iterate 2 (focus (first | assumption | exact len_nil | exact len_one rfl | (intro a ha; obtain ⟨x, -, rfl⟩ := List.mem_map.1 ha; first | rfl | simp) | (intro a ha; simp at ha; simp [ha])))); (iterate 2 (focus (first | omega | (simp only [List.length_map, List.length_cons, List.length_nil, List.length_append]; omega)))); intro o' ho') | ((with_reducible apply p2_go); (focus (first | assumption | (intro h; cases h))); (focus (intro o'; repeat (first | exact ra_h | apply ra_t))); (focus (first | assumption | exact len_nil | exact len_one rfl | (intro a ha; obtain ⟨x, -, rfl⟩ := List.mem_map.1 ha; first | rfl | simp) | (intro a ha; simp at ha; simp [ha]))); (iterate 2 (focus (first | omega | (simp only [List.length_map, List.length_cons, List.length_nil, List.length_append]; omega)))); intro o' ho') | ((with_reducible first | refine w_region ?_ ?_ | refine w_dra ?_ ?_); kernel_rfl) | ((with_reducible refine Go3.go ?_ ?_); all_goals (intro hb; (try with_reducible intro hb1); (try (exfalso; first | contradiction | omega)))) | fail)
      all_goals (refine ret_eq (by simp) (by first | rfl | assumption) (by (repeat (first | exact List.Sublist.refl _ | apply List.Sublist.cons))) ?_; (try simp (disch := omega) only [push_cast, simprocAttr, *]); try (first | exact LE.refl _ | exact LE.sl _ _ | ((first | refine LE.tup ?_ | refine LE.agg ?_); (repeat' (first | exact LEL.nil | refine LEL.cons ?_ ?_ | exact LE.refl _ | exact LE.sl _ _ | refine LE.agg ?_)); done) | refine LE.of_eq ?_))
    | true =>
      rw [hr] at hR
      by_cases h0 : L.length = 0
      · clear hk
        generalize L.map Tm.cells = LS at *
        replace hG := Lib.hid hG
        replace hR := Lib.hid hR
        refine trF_enter (ts := [4]) Tryz.func6 rfl (by rw [Tryz.ntmps6]; exact Nat.le_of_ble_eq_true rfl) (fun tmps w => by simp [results, Tryz.results6, go_sem, resVal]) ?_
        simp only [Tryz.ntmps6]
        repeat' (first | with_reducible refine Go1.go ?_ | ((with_reducible apply ev_go); (focus ((try simp (disch := omega) only [push_cast, simprocAttr, *]); (try exact rfl); done))) | ((with_reducible refine w_last ?_ ?_ ?_); kernel_rfl; rfl) | with_reducible refine Go2.go ?_ | ((with_reducible first | apply w_stepG | refine s_bi ?_ ?_ | refine blk_ne ?_ ?_); rfl) | ((with_reducible refine al_go ?_); intro b) | ((with_reducible apply (ck_le Tryz.call14)); exact LEL.refl _; exact hA.out _) | ((with_reducible apply (ck_le Tryz.call15)); exact LEL.refl _; exact hG.out _) | ((with_reducible apply (ck_le Tryz.call16)); exact LEL.refl _; exact hR.out _) | ((with_reducible apply a2_go); (focus (first | assumption | (intro h; cases h))); (focus (intro o'; repeat (first | exact ra_h | apply ra_t))); (iterate 2 (focus (first | assumption | exact len_nil | exact len_one rfl | (intro a ha; obtain ⟨x, -, rfl⟩ := List.mem_map.1 ha; first | rfl | simp) | (intro a ha; simp at ha; simp [ha])))); (iterate 2 (focus (first | omega | (simp only [List.length_map, List.length_cons, List.length_nil, List.length_append]; omega)))); intro o' ho') | ((with_reducible apply p2_go); (focus (first | assumption | (intro h; cases h))); (focus (intro o'; repeat (first | exact ra_h | apply ra_t))); (focus (first | assumption | exact len_nil | exact len_one rfl | (intro a ha; obtain ⟨x, -, rfl⟩ := List.mem_map.1 ha; first | rfl | simp) | (intro a ha; simp at ha; simp [ha]))); (iterate 2 (focus (first | omega | (simp only [List.length_map, List.length_cons, List.length_nil, List.length_append]; omega)))); intro o' ho') | ((with_reducible first | refine w_region ?_ ?_ | refine w_dra ?_ ?_); kernel_rfl) | ((with_reducible refine Go3.go ?_ ?_); all_goals (intro hb; (try with_reducible intro hb1); (try (exfalso; first | contradiction | omega)))) | fail)
        all_goals (refine ret_eq (by simp) (by first | rfl | assumption) (by (repeat (first | exact List.Sublist.refl _ | apply List.Sublist.cons))) ?_; (try simp (disch := omega) only [push_cast, simprocAttr, *]); try (first | exact LE.refl _ | exact LE.sl _ _ | ((first | refine LE.tup ?_ | refine LE.agg ?_); (repeat' (first | exact LEL.nil | refine LEL.cons ?_ ?_ | exact LE.refl _ | exact LE.sl _ _ | refine LE.agg ?_)); done) | refine LE.of_eq ?_))
      · have hc : Hid (∀ (i : Nat) (t : Tm), L[i]? = some t → (L.map Tm.cells)[i]? = some t.cells) := fun i t h => by rw [List.getElem?_map, h]; rfl
        obtain ⟨k, hk2⟩ : ∃ k, n.toNat % L.length = k := ⟨_, rfl⟩
        have hkl : k < L.length := by
          have := Nat.mod_lt n.toNat (show 0 < L.length by omega)
          omega
        obtain ⟨t, ht⟩ : ∃ t, L[k]? = some t := ⟨_, List.getElem?_eq_getElem hkl⟩
        have hn8 : n.toNat < 256 := UInt8.toNat_lt n
        have hrem : ∀ ty, aBin Tryz.prog .rem ty (.i (n.toNat : Int)) (.i (L.length : Int)) = some (.i (k : Int)) := fun ty => by
          have h0 : ((L.length : Int) == 0) = false := by rw [beq_eq_false_iff_ne]; omega
          rw [bin_rem h0, ← hk2]; rfl
        obtain ⟨f1, f2, f3, f4⟩ := Reg.fewer_right ht hr
        have hkT : ∀ u ∈ L.take k ++ L.drop (k + 1), Reg.Kn u := fun u hu => by
          rcases List.mem_append.1 hu with h | h
          · exact hk u (List.mem_of_mem_take h)
          · exact hk u (List.mem_of_mem_drop h)
        have hll : (L.take k ++ L.drop (k + 1)).length ≤ 1000000 := by rw [List.length_append, List.length_take, List.length_drop]; omega
        have hR2 := regRightF (L.take k ++ L.drop (k + 1)) (fun u h => (hkT u h).ok) hll
        have hP2 := regPutF (L.take k ++ L.drop (k + 1)) (fun u h => (hkT u h).ok) hll (fun h => ⟨(Reg.good_all hkT h).1, (Reg.good_all hkT h).2.2⟩)
        have hP1 := regPutF L (fun u h => (hk u h).ok) (by omega) (fun h => ⟨(Reg.good_all hk h).1, (Reg.good_all hk h).2.2⟩)
        have hS := regSameF (L.take k ++ L.drop (k + 1)) L (fun u h => (hkT u h).q) (fun u h => (hk u h).q) hll (by omega)
        have hFi := regFindF (L.take k ++ L.drop (k + 1)) t.name hll
        rw [f1] at hR2
        rw [f2] at hFi
        rw [f4] at hS
        have hm1 : ((Reg.put (L.take k ++ L.drop (k + 1))).map encB).length = (Reg.put (L.take k ++ L.drop (k + 1))).length := List.length_map ..
        have hm2 : ((Reg.put L).map encB).length = (Reg.put L).length := List.length_map ..
        have hct := hc.out k t ht
        have hL3 : ∀ e ∈ L.map Tm.cells, e.length = 3 := fun e he => by
          obtain ⟨w, -, rfl⟩ := List.mem_map.1 he
          rfl
        have hall : (L.map Tm.cells).all (fun e => e.length == 3) = true := by
          rw [List.all_eq_true]
          intro e he
          rw [hL3 e he]; rfl
        rw [List.map_append, List.map_take, List.map_drop] at hR2 hP2 hS hFi
        generalize Reg.put (L.take k ++ L.drop (k + 1)) = B2 at *
        generalize Reg.put L = B1 at *
        generalize B2.map encB = C2 at *
        generalize B1.map encB = C1 at *
        clear hk hkT hk2 ht hr hll hc
        unfold Tm.cells at hct
        generalize t.slots.map Sl.cells = SL at *
        generalize t.steps.map Stp.cells = TL at *
        generalize t.name = nm at *
        obtain ⟨LS, hLS⟩ : ∃ LS, L.map Tm.cells = LS := ⟨_, rfl⟩
        rw [show (L.map fun t => [D.str t.name, .sl .shared (t.slots.map Sl.cells), .sl .shared (t.steps.map Stp.cells)]) = LS from hLS] at hct
        rw [hLS] at hm hG hR hR2 hP2 hP1 hS hFi hL3 hall ⊢
        clear hLS
        have hLT : ∀ e ∈ LS.take k, e.length = 3 := fun e he => hL3 e (List.mem_of_mem_take he)
        have hLD : ∀ e ∈ LS.drop (k + 1), e.length = 3 := fun e he => hL3 e (List.mem_of_mem_drop he)
        have hmT : (LS.take k).length = k := by rw [List.length_take]; omega
        have hmD : (LS.drop (k + 1)).length = L.length - (k + 1) := by rw [List.length_drop, hm]
        have hN1 : ((k : Int) + 1).toNat = k + 1 := by omega
        have hTD : (LS.drop (k + 1)).take (L.length - (k + 1)) = LS.drop (k + 1) := List.take_of_length_le (by omega)
        replace hG := Lib.hid hG
        replace hR := Lib.hid hR
        replace hR2 := Lib.hid hR2
        replace hP2 := Lib.hid hP2
        replace hP1 := Lib.hid hP1
        replace hS := Lib.hid hS
        replace hFi := Lib.hid hFi
        refine trF_enter (ts := [4]) Tryz.func6 rfl (by rw [Tryz.ntmps6]; exact Nat.le_of_ble_eq_true rfl) (fun tmps w => by simp [results, Tryz.results6, go_sem, resVal]) ?_
        simp only [Tryz.ntmps6]
        refine tr_room 36 3 ([] : List (List D)).length ?_
        repeat' (first | with_reducible refine Go1.go ?_ | ((with_reducible apply ev_go); (focus ((try simp (disch := omega) only [push_cast, simprocAttr, *]); (try exact rfl); done))) | ((with_reducible refine w_last ?_ ?_ ?_); kernel_rfl; rfl) | with_reducible refine Go2.go ?_ | ((with_reducible first | apply w_stepG | refine s_bi ?_ ?_ | refine blk_ne ?_ ?_); rfl) | ((with_reducible refine al_go ?_); intro b) | ((with_reducible apply (ck_le Tryz.call14)); exact LEL.refl _; exact hA.out _) | ((with_reducible apply (ck_le Tryz.call15)); exact LEL.refl _; exact hG.out _) | ((with_reducible apply (ck_le Tryz.call16)); exact LEL.refl _; exact hR.out _) | ((with_reducible apply (ck_el Tryz.call16)); exact hR2.out _; (focus ((repeat' (first | exact LEL.nil | refine LEL.cons ?_ ?_ | exact LE.refl _ | exact LE.sl _ _ | refine LE.agg ?_)); done))) | ((with_reducible apply (ck_le Tryz.call19)); exact LEL.refl _; exact hP1.out _) | ((with_reducible apply (ck_el Tryz.call19)); exact hP2.out _; (focus ((repeat' (first | exact LEL.nil | refine LEL.cons ?_ ?_ | exact LE.refl _ | exact LE.sl _ _ | refine LE.agg ?_)); done))) | ((with_reducible apply (ck_el Tryz.call23)); exact hS.out _; (focus ((repeat' (first | exact LEL.nil | refine LEL.cons ?_ ?_ | exact LE.refl _ | exact LE.sl _ _ | refine LE.agg ?_)); done))) | ((with_reducible apply (ck_el Tryz.call21)); exact hFi.out _; (focus ((repeat' (first | exact LEL.nil | refine LEL.cons ?_ ?_ | exact LE.refl _ | exact LE.sl _ _ | refine LE.agg ?_)); done))) | ((with_reducible apply a2_go); (focus (first | assumption | (intro h; cases h))); (focus (intro o'; repeat (first | exact ra_h | apply ra_t))); (iterate 2 (focus (first | assumption | exact len_nil | exact len_one rfl | (intro a ha; obtain ⟨x, -, rfl⟩ := List.mem_map.1 ha; first | rfl | simp) | (intro a ha; simp at ha; simp [ha])))); (iterate 2 (focus (first | omega | (simp only [List.length_map, List.length_cons, List.length_nil, List.length_append]; omega)))); intro o' ho') | ((with_reducible apply p2_go); (focus (first | assumption | (intro h; cases h))); (focus (intro o'; repeat (first | exact ra_h | apply ra_t))); (focus (first | assumption | exact len_nil | exact len_one rfl | (intro a ha; obtain ⟨x, -, rfl⟩ := List.mem_map.1 ha; first | rfl | simp) | (intro a ha; simp at ha; simp [ha]))); (iterate 2 (focus (first | omega | (simp only [List.length_map, List.length_cons, List.length_nil, List.length_append]; omega)))); intro o' ho') | ((with_reducible first | refine w_region ?_ ?_ | refine w_dra ?_ ?_); kernel_rfl) | ((with_reducible refine Go3.go ?_ ?_); all_goals (intro hb; (try with_reducible intro hb1); (try (exfalso; first | contradiction | omega)))) | fail)
        all_goals (refine ret_eq (by simp) (by first | rfl | assumption) (by (repeat (first | exact List.Sublist.refl _ | apply List.Sublist.cons))) ?_; (try simp (disch := omega) only [push_cast, simprocAttr, *]); try (first | exact LE.refl _ | exact LE.sl _ _ | ((first | refine LE.tup ?_ | refine LE.agg ?_); (repeat' (first | exact LEL.nil | refine LEL.cons ?_ ?_ | exact LE.refl _ | exact LE.sl _ _ | refine LE.agg ?_)); done) | refine LE.of_eq ?_))
end Go.Proofs.YtgcienlfpnpbgaaGreat
end
