/- The walk of the statement RegistryNames. -/
import Derived.Test.YtgcienlfpnpbgaaGreatZ6
set_option linter.all false
section
namespace Go.Proofs.YtgcienlfpnpbgaaGreat
set_option linter.unusedSimpArgs false
attribute [local push_cast] encB encI encC V.cells_mk V.cells_len Nat.mul_one Int.sub_zero List.map_nil beq_self_eq_true bne_self_eq_false List.head?_cons
open Go.RowKit B
set_option maxRecDepth 10000
set_option maxHeartbeats 8000000
theorem registryNamesLaw (L : List Tm) (hw : ∀ t ∈ L, t.Wf) (hl : L.length ≤ maxLen) (n : UInt8) (st : St) : TrF Tryz.prog 5 [.sl .shared (L.map Tm.cells), .y n] st fun d st' => d = .b true ∧ st' = st := by
  have hA := Lib.hid reg13AliveF
  have hG := refGreat13F L hw hl
  have hm : (L.map Tm.cells).length = L.length := List.length_map ..
  cases hg : Reg.great L with
  | true =>
    rw [hg] at hG
    unfold maxLen at hl
    clear hw
    generalize L.map Tm.cells = LS at *
    replace hG := Lib.hid hG
    refine trF_enter (ts := [4]) Tryz.func5 rfl (by rw [Tryz.ntmps5]; exact Nat.le_of_ble_eq_true rfl) (fun tmps w => by simp [results, Tryz.results5, go_sem, resVal]) ?_
    simp only [Tryz.ntmps5]
    repeat' (first | with_reducible refine Go1.go ?_ | ((with_reducible apply ev_go); (focus ((try simp (disch := omega) only [push_cast, simprocAttr, *]); (try exact rfl); done))) | ((with_reducible refine w_last ?_ ?_ ?_); kernel_rfl; rfl) | with_reducible refine Go2.go ?_ | ((with_reducible first | apply w_stepG | refine s_bi ?_ ?_ | refine blk_ne ?_ ?_); rfl) | ((with_reducible refine al_go ?_); intro b) | ((with_reducible apply (ck_le Tryz.call14)); exact LEL.refl _; exact hA.out _) | ((with_reducible apply (ck_le Tryz.call15)); exact LEL.refl _; exact hG.out _) | ((with_reducible apply a2_go); (focus (first | assumption | (intro h; cases h))); (focus (intro o'; repeat (first | exact ra_h | apply ra_t))); (iterate 2 (focus (first | assumption | exact len_nil | exact len_one rfl | (intro a ha; obtain ⟨x, -, rfl⟩ := List.mem_map.1 ha; first | rfl | simp) | (intro a ha; simp at ha; simp [ha])))); (iterate 2 (focus (first | omega | (simp only [List.length_map, List.length_cons, List.length_nil, List.length_append]; omega)))); intro o' ho') | ((with_reducible first | refine w_region ?_ ?_ | refine w_dra ?_ ?_); kernel_rfl) | ((with_reducible refine Go3.go ?_ ?_); all_goals (intro hb; (try with_reducible intro hb1); (try (exfalso; first | contradiction | omega)))) | fail)
    all_goals (refine ret_eq (by simp) (by first | rfl | assumption) (by (repeat (first | exact List.Sublist.refl _ | apply List.Sublist.cons))) ?_; (try simp (disch := omega) only [push_cast, simprocAttr, *]); try (first | exact LE.refl _ | exact LE.sl _ _ | ((first | refine LE.tup ?_ | refine LE.agg ?_); (repeat' (first | exact LEL.nil | refine LEL.cons ?_ ?_ | exact LE.refl _ | exact LE.sl _ _ | refine LE.agg ?_)); done) | refine LE.of_eq ?_))
  | false =>
    obtain ⟨h12, hk⟩ := Reg.not_great hw hg
    rw [hg] at hG
    clear hg hw hl
    have hR := regRightF L (fun t h => (hk t h).ok) (by omega)
    cases hr : Reg.right L with
    | false =>
      rw [hr] at hR
      clear hk
      generalize L.map Tm.cells = LS at *
      replace hG := Lib.hid hG
      replace hR := Lib.hid hR
      refine trF_enter (ts := [4]) Tryz.func5 rfl (by rw [Tryz.ntmps5]; exact Nat.le_of_ble_eq_true rfl) (fun tmps w => by simp [results, Tryz.results5, go_sem, resVal]) ?_
      simp only [Tryz.ntmps5]
      repeat' (first | with_reducible refine Go1.go ?_ | ((with_reducible apply ev_go); (focus ((try simp (disch := omega) only [push_cast, simprocAttr, *]); (try exact rfl); done))) | ((with_reducible refine w_last ?_ ?_ ?_); kernel_rfl; rfl) | with_reducible refine Go2.go ?_ | ((with_reducible first | apply w_stepG | refine s_bi ?_ ?_ | refine blk_ne ?_ ?_); rfl) | ((with_reducible refine al_go ?_); intro b) | ((with_reducible apply (ck_le Tryz.call14)); exact LEL.refl _; exact hA.out _) | ((with_reducible apply (ck_le Tryz.call15)); exact LEL.refl _; exact hG.out _) | ((with_reducible apply (ck_le Tryz.call16)); exact LEL.refl _; exact hR.out _) | ((with_reducible apply a2_go); (focus (first | assumption | (intro h; cases h))); (focus (intro o'; repeat (first | exact ra_h | apply ra_t))); (iterate 2 (focus (first | assumption | exact len_nil | exact len_one rfl | (intro a ha; obtain ⟨x, -, rfl⟩ := List.mem_map.1 ha; first | rfl | simp) | (intro a ha; simp at ha; simp [ha])))); (iterate 2 (focus (first | omega | (simp only [List.length_map, List.length_cons, List.length_nil, List.length_append]; omega)))); intro o' ho') | ((with_reducible first | refine w_region ?_ ?_ | refine w_dra ?_ ?_); kernel_rfl) | ((with_reducible refine Go3.go ?_ ?_); all_goals (intro hb; (try with_reducible intro hb1); (try (exfalso; first | contradiction | omega)))) | fail)
      all_goals (refine ret_eq (by simp) (by first | rfl | assumption) (by (repeat (first | exact List.Sublist.refl _ | apply List.Sublist.cons))) ?_; (try simp (disch := omega) only [push_cast, simprocAttr, *]); try (first | exact LE.refl _ | exact LE.sl _ _ | ((first | refine LE.tup ?_ | refine LE.agg ?_); (repeat' (first | exact LEL.nil | refine LEL.cons ?_ ?_ | exact LE.refl _ | exact LE.sl _ _ | refine LE.agg ?_)); done) | refine LE.of_eq ?_))
    | true =>
      rw [hr] at hR
      by_cases h0 : L.length = 0
      · clear hk
        generalize L.map Tm.cells = LS at *
        replace hG := Lib.hid hG
        replace hR := Lib.hid hR
        refine trF_enter (ts := [4]) Tryz.func5 rfl (by rw [Tryz.ntmps5]; exact Nat.le_of_ble_eq_true rfl) (fun tmps w => by simp [results, Tryz.results5, go_sem, resVal]) ?_
        simp only [Tryz.ntmps5]
        repeat' (first | with_reducible refine Go1.go ?_ | ((with_reducible apply ev_go); (focus ((try simp (disch := omega) only [push_cast, simprocAttr, *]); (try exact rfl); done))) | ((with_reducible refine w_last ?_ ?_ ?_); kernel_rfl; rfl) | with_reducible refine Go2.go ?_ | ((with_reducible first | apply w_stepG | refine s_bi ?_ ?_ | refine blk_ne ?_ ?_); rfl) | ((with_reducible refine al_go ?_); intro b) | ((with_reducible apply (ck_le Tryz.call14)); exact LEL.refl _; exact hA.out _) | ((with_reducible apply (ck_le Tryz.call15)); exact LEL.refl _; exact hG.out _) | ((with_reducible apply (ck_le Tryz.call16)); exact LEL.refl _; exact hR.out _) | ((with_reducible apply a2_go); (focus (first | assumption | (intro h; cases h))); (focus (intro o'; repeat (first | exact ra_h | apply ra_t))); (iterate 2 (focus (first | assumption | exact len_nil | exact len_one rfl | (intro a ha; obtain ⟨x, -, rfl⟩ := List.mem_map.1 ha; first | rfl | simp) | (intro a ha; simp at ha; simp [ha])))); (iterate 2 (focus (first | omega | (simp only [List.length_map, List.length_cons, List.length_nil, List.length_append]; omega)))); intro o' ho') | ((with_reducible first | refine w_region ?_ ?_ | refine w_dra ?_ ?_); kernel_rfl) | ((with_reducible refine Go3.go ?_ ?_); all_goals (intro hb; (try with_reducible intro hb1); (try (exfalso; first | contradiction | omega)))) | fail)
        all_goals (refine ret_eq (by simp) (by first | rfl | assumption) (by (repeat (first | exact List.Sublist.refl _ | apply List.Sublist.cons))) ?_; (try simp (disch := omega) only [push_cast, simprocAttr, *]); try (first | exact LE.refl _ | exact LE.sl _ _ | ((first | refine LE.tup ?_ | refine LE.agg ?_); (repeat' (first | exact LEL.nil | refine LEL.cons ?_ ?_ | exact LE.refl _ | exact LE.sl _ _ | refine LE.agg ?_)); done) | refine LE.of_eq ?_))
      · have hc : Hid (∀ (i : Nat) (t : Tm), L[i]? = some t → (L.map Tm.cells)[i]? = some t.cells) := fun i t h => by rw [List.getElem?_map, h]; rfl
        have hF : Hid (∀ (i : Nat) (t : Tm), L[i]? = some t → ∀ st, TrF Tryz.prog 21 [.sl .shared (L.map Tm.cells), .str t.name] st fun d st' => d = .i (i : Int) ∧ st' = st) := fun i t h st => by
          rw [← Reg.apart_find.1 (Reg.right_iff.1 hr).2.2 i t h]
          exact regFindF L t.name (by omega) st
        obtain ⟨k, hk2⟩ : ∃ k, n.toNat % L.length = k := ⟨_, rfl⟩
        have hkl : k < L.length := by
          have := Nat.mod_lt n.toNat (show 0 < L.length by omega)
          omega
        obtain ⟨t, ht⟩ : ∃ t, L[k]? = some t := ⟨_, List.getElem?_eq_getElem hkl⟩
        have hn8 : n.toNat < 256 := UInt8.toNat_lt n
        have hrem : ∀ ty, aBin Tryz.prog .rem ty (.i (n.toNat : Int)) (.i (L.length : Int)) = some (.i (k : Int)) := fun ty => by
          have h0 : ((L.length : Int) == 0) = false := by rw [beq_eq_false_iff_ne]; omega
          rw [bin_rem h0, ← hk2]; rfl
        have hkT : ∀ u ∈ L ++ [t], Reg.Kn u := fun u hu => by
          rcases List.mem_append.1 hu with h | h
          · exact hk u h
          · rw [List.mem_singleton.1 h]; exact hk t (List.mem_of_getElem? ht)
        have hno := Reg.twice_not (List.mem_of_getElem? ht)
        have hll : (L ++ [t]).length ≤ 1000000 := by rw [List.length_append, List.length_singleton]; omega
        have hR2 := regRightF (L ++ [t]) (fun u h => (hkT u h).ok) hll
        have hP2 := regPutF (L ++ [t]) (fun u h => (hkT u h).ok) hll (fun h => by rw [hno] at h; cases h)
        rw [hno] at hR2
        rw [show Reg.put (L ++ [t]) = [] by unfold Reg.put; rw [if_neg (by rw [hno]; exact Bool.false_ne_true)]] at hP2
        have hct := hc.out k t ht
        have hL3 : ∀ e ∈ L.map Tm.cells, e.length = 3 := fun e he => by
          obtain ⟨w, -, rfl⟩ := List.mem_map.1 he
          rfl
        rw [List.map_append, List.map_cons, List.map_nil] at hR2 hP2
        clear hk hkT hno hk2 ht hr hll
        unfold Tm.cells at hct
        rw [show t.cells = [.str t.name, .sl .shared (t.slots.map Sl.cells), .sl .shared (t.steps.map Stp.cells)] from rfl] at hR2 hP2
        generalize t.slots.map Sl.cells = SL at *
        generalize t.steps.map Stp.cells = TL at *
        generalize t.name = nm at *
        obtain ⟨LS, hLS⟩ : ∃ LS, L.map Tm.cells = LS := ⟨_, rfl⟩
        rw [show (L.map fun t => [D.str t.name, .sl .shared (t.slots.map Sl.cells), .sl .shared (t.steps.map Stp.cells)]) = LS from hLS] at hct
        rw [hLS] at hm hG hR hc hF hR2 hP2 hL3 ⊢
        clear hLS
        replace hG := Lib.hid hG
        replace hR := Lib.hid hR
        replace hR2 := Lib.hid hR2
        replace hP2 := Lib.hid hP2
        refine trF_enter (ts := [4]) Tryz.func5 rfl (by rw [Tryz.ntmps5]; exact Nat.le_of_ble_eq_true rfl) (fun tmps w => by simp [results, Tryz.results5, go_sem, resVal]) ?_
        simp only [Tryz.ntmps5]
        refine tr_room 36 3 ([] : List (List D)).length ?_
        repeat' (first | with_reducible refine Go1.go ?_ | ((with_reducible apply ev_go); (focus ((try simp (disch := omega) only [push_cast, simprocAttr, *]); (try exact rfl); done))) | ((with_reducible refine w_last ?_ ?_ ?_); kernel_rfl; rfl) | with_reducible refine Go2.go ?_ | ((with_reducible first | apply w_stepG | refine s_bi ?_ ?_ | refine blk_ne ?_ ?_); rfl) | ((with_reducible refine al_go ?_); intro b) | ((with_reducible apply (ck_le Tryz.call14)); exact LEL.refl _; exact hA.out _) | ((with_reducible apply (ck_le Tryz.call15)); exact LEL.refl _; exact hG.out _) | ((with_reducible apply (ck_le Tryz.call16)); exact LEL.refl _; exact hR.out _) | ((with_reducible apply a2_go); (focus (first | assumption | (intro h; cases h))); (focus (intro o'; repeat (first | exact ra_h | apply ra_t))); (iterate 2 (focus (first | assumption | exact len_nil | exact len_one rfl | (intro a ha; obtain ⟨x, -, rfl⟩ := List.mem_map.1 ha; first | rfl | simp) | (intro a ha; simp at ha; simp [ha])))); (iterate 2 (focus (first | omega | (simp only [List.length_map, List.length_cons, List.length_nil, List.length_append]; omega)))); intro o' ho') | ((with_reducible first | refine w_region ?_ ?_ | refine w_dra ?_ ?_); kernel_rfl) | ((with_reducible refine Go3.go ?_ ?_); all_goals (intro hb; (try with_reducible intro hb1); (try (exfalso; first | contradiction | omega)))) | fail)
        refine tr_loopd (ι := Nat) (fun i A st' => i ≤ L.length ∧ A.df = [] ∧ A.e 0 = .sl .shared LS ∧ A.e 1 = .y n ∧ A.e 5 = .i i ∧ st' = .room .tight 36 3 ([] : List (List D)).length :: st) (fun i => L.length - i) 0 ⟨Nat.zero_le _, ?_, ?_, ?_, ?_, rfl⟩ ?_
        iterate 4 (focus (first | rfl | assumption | omega | (simp (disch := omega) only [push_cast, simprocAttr, *]; try omega; done)))
        rintro i A st' ⟨hi, hdf, e0, e1, e5, rfl⟩
        by_cases hlt : i < L.length
        · obtain ⟨u, hu⟩ : ∃ u, L[i]? = some u := ⟨_, List.getElem?_eq_getElem hlt⟩
          have h1 := hc.out i u hu
          have hFi := hF.out i u hu
          clear hu hct hR2 hP2 hR hG hA
          unfold Tm.cells at h1
          generalize u.slots.map Sl.cells = SL2 at *
          generalize u.steps.map Stp.cells = TL2 at *
          generalize u.name = nm2 at *
          replace hFi := Lib.hid hFi
          repeat' (first | with_reducible refine Go1.go ?_ | ((with_reducible apply ev_go); (focus ((try simp (disch := omega) only [push_cast, simprocAttr, *]); (try exact rfl); done))) | ((with_reducible refine w_last ?_ ?_ ?_); kernel_rfl; rfl) | with_reducible refine Go2.go ?_ | ((with_reducible first | apply w_stepG | refine s_bi ?_ ?_ | refine blk_ne ?_ ?_); rfl) | ((with_reducible refine al_go ?_); intro b) | ((with_reducible apply (ck_le Tryz.call21)); exact LEL.refl _; exact hFi.out _) | ((with_reducible apply a2_go); (focus (first | assumption | (intro h; cases h))); (focus (intro o'; repeat (first | exact ra_h | apply ra_t))); (iterate 2 (focus (first | assumption | exact len_nil | exact len_one rfl | (intro a ha; obtain ⟨x, -, rfl⟩ := List.mem_map.1 ha; first | rfl | simp) | (intro a ha; simp at ha; simp [ha])))); (iterate 2 (focus (first | omega | (simp only [List.length_map, List.length_cons, List.length_nil, List.length_append]; omega)))); intro o' ho') | ((with_reducible first | refine w_region ?_ ?_ | refine w_dra ?_ ?_); kernel_rfl) | ((with_reducible refine Go3.go ?_ ?_); all_goals (intro hb; (try with_reducible intro hb1); (try (exfalso; first | contradiction | omega)))) | fail)
          refine ⟨i + 1, _, List.Sublist.refl _, ⟨hlt, ?_, ?_, ?_, ?_, rfl⟩, by omega⟩
          all_goals (first | rfl | assumption | omega | (simp (disch := omega) only [push_cast, simprocAttr, *]; try omega; done))
        · repeat' (first | with_reducible refine Go1.go ?_ | ((with_reducible apply ev_go); (focus ((try simp (disch := omega) only [push_cast, simprocAttr, *]); (try exact rfl); done))) | ((with_reducible refine w_last ?_ ?_ ?_); kernel_rfl; rfl) | with_reducible refine Go2.go ?_ | ((with_reducible first | apply w_stepG | refine s_bi ?_ ?_ | refine blk_ne ?_ ?_); rfl) | ((with_reducible refine al_go ?_); intro b) | ((with_reducible apply (ck_el Tryz.call16)); exact hR2.out _; (focus ((repeat' (first | exact LEL.nil | refine LEL.cons ?_ ?_ | exact LE.refl _ | exact LE.sl _ _ | refine LE.agg ?_)); done))) | ((with_reducible apply (ck_el Tryz.call19)); exact hP2.out _; (focus ((repeat' (first | exact LEL.nil | refine LEL.cons ?_ ?_ | exact LE.refl _ | exact LE.sl _ _ | refine LE.agg ?_)); done))) | ((with_reducible apply a2_go); (focus (first | assumption | (intro h; cases h))); (focus (intro o'; repeat (first | exact ra_h | apply ra_t))); (iterate 2 (focus (first | assumption | exact len_nil | exact len_one rfl | (intro a ha; obtain ⟨x, -, rfl⟩ := List.mem_map.1 ha; first | rfl | simp) | (intro a ha; simp at ha; simp [ha])))); (iterate 2 (focus (first | omega | (simp only [List.length_map, List.length_cons, List.length_nil, List.length_append]; omega)))); intro o' ho') | ((with_reducible first | refine w_region ?_ ?_ | refine w_dra ?_ ?_); kernel_rfl) | ((with_reducible refine Go3.go ?_ ?_); all_goals (intro hb; (try with_reducible intro hb1); (try (exfalso; first | contradiction | omega)))) | fail)
          all_goals (refine ret_eq (by simp) (by first | rfl | assumption) (by (repeat (first | exact List.Sublist.refl _ | apply List.Sublist.cons))) ?_; (try simp (disch := omega) only [push_cast, simprocAttr, *]); try (first | exact LE.refl _ | exact LE.sl _ _ | ((first | refine LE.tup ?_ | refine LE.agg ?_); (repeat' (first | exact LEL.nil | refine LEL.cons ?_ ?_ | exact LE.refl _ | exact LE.sl _ _ | refine LE.agg ?_)); done) | refine LE.of_eq ?_))
end Go.Proofs.YtgcienlfpnpbgaaGreat
end
