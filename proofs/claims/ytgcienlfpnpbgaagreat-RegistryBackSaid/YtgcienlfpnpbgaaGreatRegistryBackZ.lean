/- The walk of the statement RegistryBack. -/
import Derived.Test.YtgcienlfpnpbgaaGreatZ6
set_option linter.all false
section
namespace Go.Proofs.YtgcienlfpnpbgaaGreat
set_option linter.unusedSimpArgs false
attribute [local push_cast] encB encI encC V.cells_mk V.cells_len Nat.mul_one Int.sub_zero List.map_nil beq_self_eq_true bne_self_eq_false List.head?_cons
open Go.RowKit B
set_option maxRecDepth 10000
set_option maxHeartbeats 8000000
namespace Reg
theorem put_len {L : List Tm} (hk : ∀ t ∈ L, Kn t) : (put L).length ≤ 10000000 ∧ (right L = true → 4 ≤ (put L).length) ∧ (right L = false → put L = []) := by
  unfold put
  refine ⟨?_, ?_, ?_⟩
  · split
    · rename_i hr
      obtain ⟨h1, -, h3⟩ := good_all hk hr
      have := listB_len tmB 350000 L fun t ht => tmB_len t (h3 t ht)
      omega
    · exact Nat.zero_le _
  · intro hr
    rw [if_pos hr]
    unfold listB
    rw [List.length_append, be_len]; omega
  · intro hr
    rw [if_neg (by rw [hr]; exact Bool.false_ne_true)]
end Reg
theorem registryBackLaw (L M : List Tm) (hw : ∀ t ∈ L, t.Wf) (hwm : ∀ t ∈ M, t.Wf) (hl : L.length ≤ maxLen) (hlm : M.length ≤ maxLen) (st : St) : TrF Tryz.prog 4 [.sl .shared (L.map Tm.cells), .sl .shared (M.map Tm.cells)] st fun d st' => d = .b true ∧ st' = st := by
  have hA := Lib.hid reg13AliveF
  have hG := refGreat13F L hw hl
  have hGm := refGreat13F M hwm hlm
  cases hg : Reg.great L with
  | true =>
    rw [hg] at hG
    clear hw hwm hl hlm hGm
    generalize L.map Tm.cells = LS at *
    generalize M.map Tm.cells = MS at *
    replace hG := Lib.hid hG
    refine trF_enter (ts := [4]) Tryz.func4 rfl (by rw [Tryz.ntmps4]; exact Nat.le_of_ble_eq_true rfl) (fun tmps w => by simp [results, Tryz.results4, go_sem, resVal]) ?_
    simp only [Tryz.ntmps4]
    repeat' (first | with_reducible refine Go1.go ?_ | ((with_reducible apply ev_go); (focus ((try simp (disch := omega) only [push_cast, simprocAttr, *]); (try exact rfl); done))) | ((with_reducible refine w_last ?_ ?_ ?_); kernel_rfl; rfl) | with_reducible refine Go2.go ?_ | ((with_reducible first | apply w_stepG | refine s_bi ?_ ?_ | refine blk_ne ?_ ?_); rfl) | ((with_reducible refine al_go ?_); intro b) | ((with_reducible apply (ck_le Tryz.call14)); exact LEL.refl _; exact hA.out _) | ((with_reducible apply (ck_le Tryz.call15)); exact LEL.refl _; exact hG.out _) | ((with_reducible first | refine w_region ?_ ?_ | refine w_dra ?_ ?_); kernel_rfl) | ((with_reducible refine Go3.go ?_ ?_); all_goals (intro hb; (try with_reducible intro hb1); (try (exfalso; first | contradiction | omega)))) | fail)
    all_goals (refine ret_eq (by simp) (by first | rfl | assumption) (by (repeat (first | exact List.Sublist.refl _ | apply List.Sublist.cons))) ?_; (try simp (disch := omega) only [push_cast, simprocAttr, *]); try (first | exact LE.refl _ | exact LE.sl _ _ | ((first | refine LE.tup ?_ | refine LE.agg ?_); (repeat' (first | exact LEL.nil | refine LEL.cons ?_ ?_ | exact LE.refl _ | exact LE.sl _ _ | refine LE.agg ?_)); done) | refine LE.of_eq ?_))
  | false =>
  cases hgm : Reg.great M with
  | true =>
    rw [hg] at hG
    rw [hgm] at hGm
    clear hw hwm hl hlm
    generalize L.map Tm.cells = LS at *
    generalize M.map Tm.cells = MS at *
    replace hG := Lib.hid hG
    replace hGm := Lib.hid hGm
    refine trF_enter (ts := [4]) Tryz.func4 rfl (by rw [Tryz.ntmps4]; exact Nat.le_of_ble_eq_true rfl) (fun tmps w => by simp [results, Tryz.results4, go_sem, resVal]) ?_
    simp only [Tryz.ntmps4]
    repeat' (first | with_reducible refine Go1.go ?_ | ((with_reducible apply ev_go); (focus ((try simp (disch := omega) only [push_cast, simprocAttr, *]); (try exact rfl); done))) | ((with_reducible refine w_last ?_ ?_ ?_); kernel_rfl; rfl) | with_reducible refine Go2.go ?_ | ((with_reducible first | apply w_stepG | refine s_bi ?_ ?_ | refine blk_ne ?_ ?_); rfl) | ((with_reducible refine al_go ?_); intro b) | ((with_reducible apply (ck_le Tryz.call14)); exact LEL.refl _; exact hA.out _) | ((with_reducible apply (ck_le Tryz.call15)); exact LEL.refl _; exact hG.out _) | ((with_reducible apply (ck_le Tryz.call15)); exact LEL.refl _; exact hGm.out _) | ((with_reducible first | refine w_region ?_ ?_ | refine w_dra ?_ ?_); kernel_rfl) | ((with_reducible refine Go3.go ?_ ?_); all_goals (intro hb; (try with_reducible intro hb1); (try (exfalso; first | contradiction | omega)))) | fail)
    all_goals (refine ret_eq (by simp) (by first | rfl | assumption) (by (repeat (first | exact List.Sublist.refl _ | apply List.Sublist.cons))) ?_; (try simp (disch := omega) only [push_cast, simprocAttr, *]); try (first | exact LE.refl _ | exact LE.sl _ _ | ((first | refine LE.tup ?_ | refine LE.agg ?_); (repeat' (first | exact LEL.nil | refine LEL.cons ?_ ?_ | exact LE.refl _ | exact LE.sl _ _ | refine LE.agg ?_)); done) | refine LE.of_eq ?_))
  | false =>
    obtain ⟨h12, hk⟩ := Reg.not_great hw hg
    obtain ⟨h12m, hkm⟩ := Reg.not_great hwm hgm
    rw [hg] at hG
    rw [hgm] at hGm
    clear hg hgm hw hwm hl hlm
    have hP := regPutF L (fun u h => (hk u h).ok) (by omega) (fun h => ⟨(Reg.good_all hk h).1, (Reg.good_all hk h).2.2⟩)
    have hPm := regPutF M (fun u h => (hkm u h).ok) (by omega) (fun h => ⟨(Reg.good_all hkm h).1, (Reg.good_all hkm h).2.2⟩)
    obtain ⟨p1, p2, p3⟩ := Reg.put_len hk
    obtain ⟨q1, q2, q3⟩ := Reg.put_len hkm
    have hm1 : ((Reg.put L).map encB).length = (Reg.put L).length := List.length_map ..
    have hm2 : ((Reg.put M).map encB).length = (Reg.put M).length := List.length_map ..
    by_cases h2 : Reg.right L = true ∧ Reg.right M = true
    · obtain ⟨hr, hrm⟩ := h2
      have p4 := p2 hr
      have q4 := q2 hrm
      have hGe := regGetF .shared (Reg.put L) p1 (by
        have := Reg.rlist_tms L (Reg.good_all hk hr).1 (Reg.good_all hk hr).2.1 .shared []
        rw [List.append_nil] at this
        unfold Reg.put
        rw [if_pos hr, this]
        exact fun t ht => (hk t ht).ok)
      rw [Reg.get_put L hr (Reg.good_all hk hr).1 (Reg.good_all hk hr).2.1] at hGe
      have hS := regSameF L L (fun u h => (hk u h).q) (fun u h => (hk u h).q) (by omega) (by omega)
      have hSm := regSameF L M (fun u h => (hk u h).q) (fun u h => (hkm u h).q) (by omega) (by omega)
      rw [(Reg.same_iff L L).2 rfl] at hS
      have hB := bytesF .shared .shared (Reg.put L) (Reg.put M)
      rw [Reg.put_inj hr hrm (Reg.good_all hk hr).2.1 (Reg.good_all hkm hrm).2.1] at hB
      dsimp only [Option.getD, Option.isSome] at hGe
      clear hk hkm hr hrm p2 p3 q2 q3
      generalize Reg.same L M = q at *
      generalize Reg.put L = B1 at *
      generalize Reg.put M = B2 at *
      generalize L.map Tm.cells = LS at *
      generalize M.map Tm.cells = MS at *
      generalize B1.map encB = C1 at *
      generalize B2.map encB = C2 at *
      replace hG := Lib.hid hG
      replace hGm := Lib.hid hGm
      replace hP := Lib.hid hP
      replace hPm := Lib.hid hPm
      replace hGe := Lib.hid hGe
      replace hS := Lib.hid hS
      replace hSm := Lib.hid hSm
      replace hB := Lib.hid hB
      cases q
      all_goals (
        refine trF_enter (ts := [4]) Tryz.func4 rfl (by rw [Tryz.ntmps4]; exact Nat.le_of_ble_eq_true rfl) (fun tmps w => by simp [results, Tryz.results4, go_sem, resVal]) ?_
        simp only [Tryz.ntmps4]
        repeat' (first | with_reducible refine Go1.go ?_ | ((with_reducible apply ev_go); (focus ((try simp (disch := omega) only [push_cast, simprocAttr, *]); (try exact rfl); done))) | ((with_reducible refine w_last ?_ ?_ ?_); kernel_rfl; rfl) | with_reducible refine Go2.go ?_ | ((with_reducible first | apply w_stepG | refine s_bi ?_ ?_ | refine blk_ne ?_ ?_); rfl) | ((with_reducible refine al_go ?_); intro b) | ((with_reducible apply (ck_le Tryz.call14)); exact LEL.refl _; exact hA.out _) | ((with_reducible apply (ck_le Tryz.call15)); exact LEL.refl _; exact hG.out _) | ((with_reducible apply (ck_le Tryz.call15)); exact LEL.refl _; exact hGm.out _) | ((with_reducible apply (ck_le Tryz.call19)); exact LEL.refl _; exact hP.out _) | ((with_reducible apply (ck_le Tryz.call19)); exact LEL.refl _; exact hPm.out _) | ((with_reducible apply (ck_le Tryz.call25)); exact LEL.refl _; exact hGe.out _) | ((with_reducible apply (ck_le Tryz.call23)); exact LEL.refl _; exact hS.out _) | ((with_reducible apply (ck_le Tryz.call23)); exact LEL.refl _; exact hSm.out _) | ((with_reducible apply (ck_le Tryz.call18)); exact LEL.refl _; exact hB.out _) | ((with_reducible first | refine w_region ?_ ?_ | refine w_dra ?_ ?_); kernel_rfl) | ((with_reducible refine Go3.go ?_ ?_); all_goals (intro hb; (try with_reducible intro hb1); (try (exfalso; first | contradiction | omega)))) | fail)
        all_goals (refine ret_eq (by simp) (by first | rfl | assumption) (by (repeat (first | exact List.Sublist.refl _ | apply List.Sublist.cons))) ?_; (try simp (disch := omega) only [push_cast, simprocAttr, *]); try (first | exact LE.refl _ | exact LE.sl _ _ | ((first | refine LE.tup ?_ | refine LE.agg ?_); (repeat' (first | exact LEL.nil | refine LEL.cons ?_ ?_ | exact LE.refl _ | exact LE.sl _ _ | refine LE.agg ?_)); done) | refine LE.of_eq ?_)))
    · have hz : (Reg.put L).length = 0 ∨ (Reg.put M).length = 0 := by
        cases hr : Reg.right L with
        | false => rw [p3 hr]; exact .inl rfl
        | true =>
          cases hrm : Reg.right M with
          | false => rw [q3 hrm]; exact .inr rfl
          | true => exact absurd ⟨hr, hrm⟩ h2
      clear hk hkm p1 p2 p3 q1 q2 q3 h2
      generalize Reg.put L = B1 at *
      generalize Reg.put M = B2 at *
      generalize L.map Tm.cells = LS at *
      generalize M.map Tm.cells = MS at *
      generalize B1.map encB = C1 at *
      generalize B2.map encB = C2 at *
      rw [← hm1, ← hm2] at hz
      clear hm1 hm2
      replace hG := Lib.hid hG
      replace hGm := Lib.hid hGm
      replace hP := Lib.hid hP
      replace hPm := Lib.hid hPm
      refine trF_enter (ts := [4]) Tryz.func4 rfl (by rw [Tryz.ntmps4]; exact Nat.le_of_ble_eq_true rfl) (fun tmps w => by simp [results, Tryz.results4, go_sem, resVal]) ?_
      simp only [Tryz.ntmps4]
      repeat' (first | with_reducible refine Go1.go ?_ | ((with_reducible apply ev_go); (focus ((try simp (disch := omega) only [push_cast, simprocAttr, *]); (try exact rfl); done))) | ((with_reducible refine w_last ?_ ?_ ?_); kernel_rfl; rfl) | with_reducible refine Go2.go ?_ | ((with_reducible first | apply w_stepG | refine s_bi ?_ ?_ | refine blk_ne ?_ ?_); rfl) | ((with_reducible refine al_go ?_); intro b) | ((with_reducible apply (ck_le Tryz.call14)); exact LEL.refl _; exact hA.out _) | ((with_reducible apply (ck_le Tryz.call15)); exact LEL.refl _; exact hG.out _) | ((with_reducible apply (ck_le Tryz.call15)); exact LEL.refl _; exact hGm.out _) | ((with_reducible apply (ck_le Tryz.call19)); exact LEL.refl _; exact hP.out _) | ((with_reducible apply (ck_le Tryz.call19)); exact LEL.refl _; exact hPm.out _) | ((with_reducible first | refine w_region ?_ ?_ | refine w_dra ?_ ?_); kernel_rfl) | ((with_reducible refine Go3.go ?_ ?_); all_goals (intro hb; (try with_reducible intro hb1); (try (exfalso; first | contradiction | omega)))) | fail)
      all_goals (refine ret_eq (by simp) (by first | rfl | assumption) (by (repeat (first | exact List.Sublist.refl _ | apply List.Sublist.cons))) ?_; (try simp (disch := omega) only [push_cast, simprocAttr, *]); try (first | exact LE.refl _ | exact LE.sl _ _ | ((first | refine LE.tup ?_ | refine LE.agg ?_); (repeat' (first | exact LEL.nil | refine LEL.cons ?_ ?_ | exact LE.refl _ | exact LE.sl _ _ | refine LE.agg ?_)); done) | refine LE.of_eq ?_))
end Go.Proofs.YtgcienlfpnpbgaaGreat
end
