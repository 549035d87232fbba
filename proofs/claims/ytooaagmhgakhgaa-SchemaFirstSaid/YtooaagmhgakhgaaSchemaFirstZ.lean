/- The walk of the statement SchemaFirst. -/
import Derived.Test.YtooaagmhgakhgaaZ6
set_option linter.all false
section
namespace Go.Proofs.Ytooaagmhgakhgaa
set_option linter.unusedSimpArgs false
open Go.RowKit
set_option maxRecDepth 10000
set_option maxHeartbeats 4000000
theorem not_great10 {t : Tm} (hw : t.Wf) (h : Sch.great t = false) : TOk t ∧ (∀ s ∈ t.slots, s.dv.nodes ≤ 1000 ∧ s.dv.deep ≤ 10 ∧ s.name.size ≤ 300 ∧ s.Ok) ∧ (∀ s ∈ t.steps, s.slot.dv.nodes ≤ 1000 ∧ s.slot.dv.deep ≤ 10 ∧ s.slot.name.size ≤ 300 ∧ s.slot.Ok ∧ s.order.length ≤ 30) ∧ t.name.size ≤ 300 ∧ t.slots.length ≤ 30 ∧ t.steps.length ≤ 30 := by
  unfold Sch.great at h
  simp only [Bool.or_eq_false_iff, decide_eq_false_iff_not, List.any_eq_false, Bool.not_eq_true] at h
  obtain ⟨h1, h2, h3, h4, h5⟩ := h
  have hs : ∀ s ∈ t.slots, s.dv.nodes ≤ 1000 ∧ s.dv.deep ≤ 10 ∧ s.name.size ≤ 300 ∧ s.Ok := fun s hs => by
    have := h4 s hs
    unfold Sch.greatS at this
    rw [Bool.or_eq_false_iff, decide_eq_false_iff_not] at this
    obtain ⟨k1, k2⟩ := V.not_great this.1
    exact ⟨k1, k2, by omega, hw.ss s hs⟩
  have hp : ∀ s ∈ t.steps, s.slot.dv.nodes ≤ 1000 ∧ s.slot.dv.deep ≤ 10 ∧ s.slot.name.size ≤ 300 ∧ s.slot.Ok ∧ s.order.length ≤ 30 := fun s hs => by
    have := h5 s hs
    unfold Sch.greatP at this
    simp only [Bool.or_eq_false_iff, decide_eq_false_iff_not] at this
    obtain ⟨k1, k2⟩ := V.not_great this.1
    exact ⟨k1, k2, by omega, (hw.ps s hs).2.2.1, by omega⟩
  refine ⟨⟨by omega, by omega, fun s h => (hs s h).1, fun s h => ?_⟩, hs, hp, by omega, by omega, by omega⟩
  obtain ⟨k1, -, -, k4, k5⟩ := hp s h
  exact ⟨k1, V.Ok.bg k4.2.2, by omega⟩
theorem TOk.cut {t : Tm} (h : TOk t) (k : Nat) : TOk (Sch.cut t k) := by
  refine ⟨h.ls, ?_, h.os, fun s hs => h.ot s (List.mem_of_mem_take hs)⟩
  show (t.steps.take k).length ≤ 1000
  have := h.lt
  rw [List.length_take]; omega
theorem schemaFirstLaw (t : Tm) (n : UInt8) (hw : t.Wf) (st : St) : TrF Try.prog 4 [.agg t.cells, .y n] st fun d st' => d = .b true ∧ st' = st := by
  have hA := Lib.hid sch10AliveF
  have hG := refGreat10F t hw
  cases hg : Sch.great t with
  | true =>
    rw [hg] at hG
    unfold Tm.cells at *
    generalize t.slots.map Sl.cells = SL at *
    generalize t.steps.map Stp.cells = TL at *
    generalize t.name = nm at *
    replace hG := Lib.hid hG
    refine trF_enter (ts := [4]) Try.func4 rfl (by rw [Try.ntmps4]; exact Nat.le_of_ble_eq_true rfl) (fun tmps w => by simp [results, Try.results4, go_sem, resVal]) ?_
    simp only [Try.ntmps4]
    repeat' (first | with_reducible refine Go1.go ?_ | ((with_reducible apply ev_go); (focus (try simp (disch := omega) only [push_cast, Nat.reduceEqDiff, reduceCtorEq, ↓reduceIte, Nat.reduceAdd, Nat.reduceMul, Nat.reduceSub, Nat.reduceLT, Nat.reduceLeDiff, Int.reduceToNat, Int.reduceLT, Int.reduceLE, Int.reduceAdd, Int.reduceSub, Int.reduceMul, Int.reduceBEq, Int.reduceBNe, encB, encI, encC, V.cells_mk, V.cells_len, Nat.mul_one, Int.sub_zero, List.map_nil, beq_self_eq_true, List.head?_cons, *]); (try exact rfl); done)) | ((with_reducible refine w_last ?_ ?_ ?_); (focus kernel_rfl); (focus rfl)) | ((with_reducible apply w_stepG); (focus rfl)) | ((with_reducible apply lk_mem); (focus ((repeat (first | exact mm_h | apply mm_t)); done))) | with_reducible refine Go2.go ?_ | ((with_reducible apply sto_go); (focus (intro cs'; repeat (first | exact ra_h | apply ra_t)))) | ((with_reducible refine al_go ?_); intro b) | ((with_reducible refine And.intro ?_ ?_); (focus ((repeat (first | exact keep_none | exact keep_nil | exact keep_ro | refine keep_cons ?_)); done))) | ((with_reducible apply (ck_le Try.call11)); (focus exact LEL.refl _); (focus exact hA.out _)) | ((with_reducible apply (ck_le Try.call15)); (focus exact LEL.refl _); (focus exact hG.out _)) | ((with_reducible refine s_bi ?_ ?_); (focus rfl)) | with_reducible refine blk_ne rfl ?_ | ((with_reducible refine w_region ?_ ?_); (focus kernel_rfl)) | ((with_reducible refine w_draw [] ?_ ?_ ?_ ?_ ?_); (iterate 3 (focus kernel_rfl)); (focus exact keeps_nil)) | ((with_reducible first | refine gd_d1 ?_ ?_ | refine gd_d0 ?_ ?_); all_goals (intro hb; (first | with_reducible replace hb := nt_t hb | with_reducible replace hb := nt_f hb | skip); (first | replace hb := dc_t hb | replace hb := dc_f hb | have hb1 := eq_b hb | have hb1 := ne_b hb | have hb1 := bne_t hb | have hb1 := bne_f hb | skip); (try (exfalso; first | contradiction | omega)))))
    all_goals (refine ret_eq (by first | exact .inl rfl | exact .inr rfl) (by first | rfl | assumption) (by (repeat (first | exact List.Sublist.refl _ | apply List.Sublist.cons))) ?_; (try simp (disch := omega) only [push_cast, Nat.reduceEqDiff, reduceCtorEq, ↓reduceIte, Nat.reduceAdd, Nat.reduceMul, Nat.reduceSub, Nat.reduceLT, Nat.reduceLeDiff, Int.reduceToNat, Int.reduceLT, Int.reduceLE, Int.reduceAdd, Int.reduceSub, Int.reduceMul, Int.reduceBEq, Int.reduceBNe, encB, encI, encC, V.cells_mk, V.cells_len, Nat.mul_one, Int.sub_zero, List.map_nil, beq_self_eq_true, List.head?_cons, *]); try (first | exact LE.refl _ | exact LE.sl _ _ | (refine LE.tup ?_; (repeat' (first | exact LEL.nil | refine LEL.cons ?_ ?_ | exact LE.refl _ | exact LE.sl _ _ | refine LE.agg ?_)); done) | (refine LE.agg ?_; (repeat' (first | exact LEL.nil | refine LEL.cons ?_ ?_ | exact LE.refl _ | exact LE.sl _ _)); done) | refine LE.of_eq ?_))
  | false =>
    obtain ⟨hT, hs, hp, -, -, hml⟩ := not_great10 hw hg
    have hR := schRightF t hT
    rw [hg] at hG
    clear hg
    by_cases hr : 0 < Sch.last t
    · rw [decide_eq_true hr] at hR
      have hms : (t.steps.map Stp.cells).length = t.steps.length := List.length_map ..
      obtain ⟨k, hk⟩ : ∃ k, n.toNat % (t.steps.length + 1) = k := ⟨_, rfl⟩
      have hkl : k ≤ t.steps.length := by
        have := Nat.mod_lt n.toNat (show 0 < t.steps.length + 1 by omega)
        omega
      have hrem : ∀ ty, aBin Try.prog .rem ty (.i (n.toNat : Int)) (.i ((t.steps.length : Int) + 1)) = some (.i (k : Int)) := fun ty => by
        have h0 : (((t.steps.length : Int) + 1) == 0) = false := by rw [beq_eq_false_iff_ne]; omega
        rw [bin_rem h0, ← hk]; rfl
      have hLc := schLastF (Sch.cut t k) (hT.cut k)
      rw [Sch.last_cut hr hkl] at hLc
      have hAt := Lib.hid fun v : Nat => schAtF t hT (v : Int)
      have hAc := Lib.hid fun v : Nat => schAtF (Sch.cut t k) (hT.cut k) (v : Int)
      have hvv : Hid (∀ v : Nat, 1 ≤ v → v ≤ k + 1 → ∃ x : Vr, Sch.verX t v = x ∧ Sch.verX (Sch.cut t k) v = x ∧ Sch.verB t v = true ∧ Sch.verB (Sch.cut t k) v = true ∧
          (∀ st, TrF Try.prog 19 [.sl .shared (x.slots.map Sl.cells), .sl .shared (x.slots.map Sl.cells)] st fun d st' => d = .b true ∧ st' = st) ∧
          (∀ st, TrF Try.prog 20 [.sl .shared (x.cols.map encC), .sl .shared (x.cols.map encC)] st fun d st' => d = .b true ∧ st' = st)) := fun v h1 h2 => by
        obtain ⟨x, q1, q2, q3⟩ := Sch.ver_cut hr hkl (v := (v : Int)) (by omega) (by omega)
        refine ⟨x, by unfold Sch.verX; rw [q1]; rfl, by unfold Sch.verX; rw [q2]; rfl, by unfold Sch.verB; rw [q1]; rfl, by unfold Sch.verB; rw [q2]; rfl, fun st => sameSlotsSelf x.slots ?_ ?_ st, fun st => ?_⟩
        · exact Sch.vers_dv (Q := V.Ok) (fun s h => (hs s h).2.2.2.2.2) (fun s h => (hp s h).2.2.2.1.2.2) x q3
        · have := (Sch.vers_vi q3).ls
          omega
        · have := refIntsF .shared .shared x.cols x.cols st
          rw [decide_eq_true rfl] at this
          exact this
      have hcc : (Sch.cut t k).cells = [.str t.name, .sl .shared (t.slots.map Sl.cells), .sl .shared ((t.steps.map Stp.cells).take k)] := by
        unfold Sch.cut Tm.cells
        rw [List.map_take]
      rw [hcc] at hLc hAc
      have hall : (t.steps.map Stp.cells).all (fun e => e.length == 10) = true := by
        rw [List.all_eq_true]
        intro e he
        obtain ⟨s, -, rfl⟩ := List.mem_map.1 he
        rw [Stp.cells_len]; rfl
      unfold Tm.cells at *
      clear hs hp hT hcc hk hr
      generalize t.slots.map Sl.cells = SL at *
      generalize t.steps.map Stp.cells = TL at *
      generalize t.steps.length = ms at *
      generalize hnm : t.name = nm at *
      generalize hTC : TL.take k = TK at *
      replace hG := Lib.hid hG
      replace hR := Lib.hid hR
      replace hLc := Lib.hid hLc
      have hnl := n.toNat_lt
      refine trF_enter (ts := [4]) Try.func4 rfl (by rw [Try.ntmps4]; exact Nat.le_of_ble_eq_true rfl) (fun tmps w => by simp [results, Try.results4, go_sem, resVal]) ?_
      simp only [Try.ntmps4]
      repeat' (first | with_reducible refine Go1.go ?_ | ((with_reducible apply ev_go); (focus (try simp (disch := omega) only [push_cast, Nat.reduceEqDiff, reduceCtorEq, ↓reduceIte, Nat.reduceAdd, Nat.reduceMul, Nat.reduceSub, Nat.reduceLT, Nat.reduceLeDiff, Int.reduceToNat, Int.reduceLT, Int.reduceLE, Int.reduceAdd, Int.reduceSub, Int.reduceMul, Int.reduceBEq, Int.reduceBNe, encB, encI, encC, V.cells_mk, V.cells_len, Nat.mul_one, Int.sub_zero, List.map_nil, beq_self_eq_true, List.head?_cons, *]); (try exact rfl); done)) | ((with_reducible refine w_last ?_ ?_ ?_); (focus kernel_rfl); (focus rfl)) | ((with_reducible apply w_stepG); (focus rfl)) | ((with_reducible apply lk_mem); (focus ((repeat (first | exact mm_h | apply mm_t)); done))) | with_reducible refine Go2.go ?_ | ((with_reducible apply sto_go); (focus (intro cs'; repeat (first | exact ra_h | apply ra_t)))) | ((with_reducible refine al_go ?_); intro b) | ((with_reducible refine And.intro ?_ ?_); (focus ((repeat (first | exact keep_none | exact keep_nil | exact keep_ro | refine keep_cons ?_)); done))) | ((with_reducible apply (ck_le Try.call11)); (focus exact LEL.refl _); (focus exact hA.out _)) | ((with_reducible apply (ck_le Try.call15)); (focus exact LEL.refl _); (focus exact hG.out _)) | ((with_reducible apply (ck_le Try.call16)); (focus exact LEL.refl _); (focus exact hR.out _)) | ((with_reducible apply (ck_le Try.call17)); (focus exact LEL.refl _); (focus exact hLc.out _)) | ((with_reducible refine s_bi ?_ ?_); (focus rfl)) | with_reducible refine blk_ne rfl ?_ | ((with_reducible refine w_region ?_ ?_); (focus kernel_rfl)) | ((with_reducible refine w_draw [] ?_ ?_ ?_ ?_ ?_); (iterate 3 (focus kernel_rfl)); (focus exact keeps_nil)) | ((with_reducible first | refine gd_d1 ?_ ?_ | refine gd_d0 ?_ ?_); all_goals (intro hb; (first | with_reducible replace hb := nt_t hb | with_reducible replace hb := nt_f hb | skip); (first | replace hb := dc_t hb | replace hb := dc_f hb | have hb1 := eq_b hb | have hb1 := ne_b hb | have hb1 := bne_t hb | have hb1 := bne_f hb | skip); (try (exfalso; first | contradiction | omega)))))
      obtain ⟨b6, rfl⟩ : ∃ q, q = b := ⟨_, rfl⟩
      refine tr_loopd (ι := Nat) (fun v A st' => 1 ≤ v ∧ v ≤ k + 2 ∧ A.df = [] ∧ A.e 2 = .ip [.str nm, .sl .shared SL, .sl .shared TL] ∧ A.e 5 = .i k ∧ A.e 6 = .ptr b6 0 ∧ A.e 7 = .i v ∧ st' = .box b6 33 [.str nm, .sl .shared SL, .sl .shared TK] :: st) (fun v => k + 2 - v) 1 ⟨Nat.le_refl _, by omega, ?_, ?_, ?_, ?_, ?_, rfl⟩ ?_
      iterate 5 (focus (first | rfl | assumption | omega | (simp (disch := omega) only [push_cast, Nat.reduceEqDiff, reduceCtorEq, ↓reduceIte, Nat.reduceAdd, Nat.reduceMul, Nat.reduceSub, Nat.reduceLT, Nat.reduceLeDiff, Int.reduceToNat, Int.reduceLT, Int.reduceLE, Int.reduceAdd, Int.reduceSub, Int.reduceMul, Int.reduceBEq, Int.reduceBNe, encB, encI, encC, V.cells_mk, V.cells_len, Nat.mul_one, Int.sub_zero, List.map_nil, beq_self_eq_true, List.head?_cons, *]; try omega; done)))
      rintro v A st' ⟨hv1, hv2, hdf, e2, e5, e6, e7, rfl⟩
      by_cases hlt : v ≤ k + 1
      · obtain ⟨x, q1, q2, q3, q4, q5, q6⟩ := hvv.out v hv1 hlt
        have h1 := hAt.out v
        have h2 := hAc.out v
        rw [q1, q3] at h1
        rw [q2, q4] at h2
        unfold Vr.cells at h1 h2
        clear q1 q2 q3 q4
        generalize x.slots.map Sl.cells = X1 at *
        generalize x.cols.map encC = X2 at *
        replace h1 := Lib.hid h1
        replace h2 := Lib.hid h2
        replace q5 := Lib.hid q5
        replace q6 := Lib.hid q6
        repeat' (first | with_reducible refine Go1.go ?_ | ((with_reducible apply ev_go); (focus (try simp (disch := omega) only [push_cast, Nat.reduceEqDiff, reduceCtorEq, ↓reduceIte, Nat.reduceAdd, Nat.reduceMul, Nat.reduceSub, Nat.reduceLT, Nat.reduceLeDiff, Int.reduceToNat, Int.reduceLT, Int.reduceLE, Int.reduceAdd, Int.reduceSub, Int.reduceMul, Int.reduceBEq, Int.reduceBNe, encB, encI, encC, V.cells_mk, V.cells_len, Nat.mul_one, Int.sub_zero, List.map_nil, beq_self_eq_true, List.head?_cons, *]); (try exact rfl); done)) | ((with_reducible refine w_drawRN ?_ ?_ ?_ ?_); (iterate 3 (focus kernel_rfl)); intro hne; simp only [nes, ne1, and_assoc] at hne; repeat (have hq := hne.1; replace hne := hne.2)) | ((with_reducible refine w_last ?_ ?_ ?_); (focus kernel_rfl); (focus rfl)) | ((with_reducible apply w_stepG); (focus rfl)) | ((with_reducible apply lk_mem); (focus ((repeat (first | exact mm_h | apply mm_t)); done))) | with_reducible refine Go2.go ?_ | ((with_reducible apply sto_go); (focus (intro cs'; repeat (first | exact ra_h | apply ra_t)))) | ((with_reducible refine al_go ?_); intro b) | ((with_reducible refine And.intro ?_ ?_); (focus ((repeat (first | exact keep_none | exact keep_nil | exact keep_ro | refine keep_cons ?_)); done))) | ((with_reducible apply (ck_le Try.call18)); (focus exact LEL.refl _); (focus exact h1.out _)) | ((with_reducible apply (ck_le Try.call18)); (focus exact LEL.refl _); (focus exact h2.out _)) | ((with_reducible apply (ck_le Try.call19)); (focus exact LEL.refl _); (focus exact q5.out _)) | ((with_reducible apply (ck_le Try.call20)); (focus exact LEL.refl _); (focus exact q6.out _)) | ((with_reducible refine s_bi ?_ ?_); (focus rfl)) | with_reducible refine blk_ne rfl ?_ | ((with_reducible refine w_region ?_ ?_); (focus kernel_rfl)) | ((with_reducible refine w_draw [] ?_ ?_ ?_ ?_ ?_); (iterate 3 (focus kernel_rfl)); (focus exact keeps_nil)) | ((with_reducible first | refine gd_d1 ?_ ?_ | refine gd_d0 ?_ ?_); all_goals (intro hb; (first | with_reducible replace hb := nt_t hb | with_reducible replace hb := nt_f hb | skip); (first | replace hb := dc_t hb | replace hb := dc_f hb | have hb1 := eq_b hb | have hb1 := ne_b hb | have hb1 := bne_t hb | have hb1 := bne_f hb | skip); (try (exfalso; first | contradiction | omega)))))
        refine ⟨v + 1, .box b6 33 [.str nm, .sl .shared SL, .sl .shared TK] :: st, (by (repeat (first | exact List.Sublist.refl _ | apply List.Sublist.cons))), ⟨by omega, by omega, ?_, ?_, ?_, ?_, ?_, rfl⟩, by omega⟩
        all_goals (first | rfl | assumption | omega | (simp (disch := omega) only [push_cast, Nat.reduceEqDiff, reduceCtorEq, ↓reduceIte, Nat.reduceAdd, Nat.reduceMul, Nat.reduceSub, Nat.reduceLT, Nat.reduceLeDiff, Int.reduceToNat, Int.reduceLT, Int.reduceLE, Int.reduceAdd, Int.reduceSub, Int.reduceMul, Int.reduceBEq, Int.reduceBNe, encB, encI, encC, V.cells_mk, V.cells_len, Nat.mul_one, Int.sub_zero, List.map_nil, beq_self_eq_true, List.head?_cons, *]; try omega; done))
      · repeat' (first | with_reducible refine Go1.go ?_ | ((with_reducible apply ev_go); (focus (try simp (disch := omega) only [push_cast, Nat.reduceEqDiff, reduceCtorEq, ↓reduceIte, Nat.reduceAdd, Nat.reduceMul, Nat.reduceSub, Nat.reduceLT, Nat.reduceLeDiff, Int.reduceToNat, Int.reduceLT, Int.reduceLE, Int.reduceAdd, Int.reduceSub, Int.reduceMul, Int.reduceBEq, Int.reduceBNe, encB, encI, encC, V.cells_mk, V.cells_len, Nat.mul_one, Int.sub_zero, List.map_nil, beq_self_eq_true, List.head?_cons, *]); (try exact rfl); done)) | ((with_reducible refine w_last ?_ ?_ ?_); (focus kernel_rfl); (focus rfl)) | ((with_reducible apply w_stepG); (focus rfl)) | ((with_reducible apply lk_mem); (focus ((repeat (first | exact mm_h | apply mm_t)); done))) | with_reducible refine Go2.go ?_ | ((with_reducible apply sto_go); (focus (intro cs'; repeat (first | exact ra_h | apply ra_t)))) | ((with_reducible refine al_go ?_); intro b) | ((with_reducible refine And.intro ?_ ?_); (focus ((repeat (first | exact keep_none | exact keep_nil | exact keep_ro | refine keep_cons ?_)); done))) | ((with_reducible refine s_bi ?_ ?_); (focus rfl)) | with_reducible refine blk_ne rfl ?_ | ((with_reducible refine w_region ?_ ?_); (focus kernel_rfl)) | ((with_reducible refine w_draw [] ?_ ?_ ?_ ?_ ?_); (iterate 3 (focus kernel_rfl)); (focus exact keeps_nil)) | ((with_reducible first | refine gd_d1 ?_ ?_ | refine gd_d0 ?_ ?_); all_goals (intro hb; (first | with_reducible replace hb := nt_t hb | with_reducible replace hb := nt_f hb | skip); (first | replace hb := dc_t hb | replace hb := dc_f hb | have hb1 := eq_b hb | have hb1 := ne_b hb | have hb1 := bne_t hb | have hb1 := bne_f hb | skip); (try (exfalso; first | contradiction | omega)))))
        all_goals (refine ret_eq (by first | exact .inl rfl | exact .inr rfl) (by first | rfl | assumption) (by (repeat (first | exact List.Sublist.refl _ | apply List.Sublist.cons))) ?_; (try simp (disch := omega) only [push_cast, Nat.reduceEqDiff, reduceCtorEq, ↓reduceIte, Nat.reduceAdd, Nat.reduceMul, Nat.reduceSub, Nat.reduceLT, Nat.reduceLeDiff, Int.reduceToNat, Int.reduceLT, Int.reduceLE, Int.reduceAdd, Int.reduceSub, Int.reduceMul, Int.reduceBEq, Int.reduceBNe, encB, encI, encC, V.cells_mk, V.cells_len, Nat.mul_one, Int.sub_zero, List.map_nil, beq_self_eq_true, List.head?_cons, *]); try (first | exact LE.refl _ | exact LE.sl _ _ | (refine LE.tup ?_; (repeat' (first | exact LEL.nil | refine LEL.cons ?_ ?_ | exact LE.refl _ | exact LE.sl _ _ | refine LE.agg ?_)); done) | (refine LE.agg ?_; (repeat' (first | exact LEL.nil | refine LEL.cons ?_ ?_ | exact LE.refl _ | exact LE.sl _ _)); done) | refine LE.of_eq ?_))
    · rw [decide_eq_false hr] at hR
      unfold Tm.cells at *
      clear hs hp hT
      generalize t.slots.map Sl.cells = SL at *
      generalize t.steps.map Stp.cells = TL at *
      generalize t.name = nm at *
      replace hG := Lib.hid hG
      replace hR := Lib.hid hR
      refine trF_enter (ts := [4]) Try.func4 rfl (by rw [Try.ntmps4]; exact Nat.le_of_ble_eq_true rfl) (fun tmps w => by simp [results, Try.results4, go_sem, resVal]) ?_
      simp only [Try.ntmps4]
      repeat' (first | with_reducible refine Go1.go ?_ | ((with_reducible apply ev_go); (focus (try simp (disch := omega) only [push_cast, Nat.reduceEqDiff, reduceCtorEq, ↓reduceIte, Nat.reduceAdd, Nat.reduceMul, Nat.reduceSub, Nat.reduceLT, Nat.reduceLeDiff, Int.reduceToNat, Int.reduceLT, Int.reduceLE, Int.reduceAdd, Int.reduceSub, Int.reduceMul, Int.reduceBEq, Int.reduceBNe, encB, encI, encC, V.cells_mk, V.cells_len, Nat.mul_one, Int.sub_zero, List.map_nil, beq_self_eq_true, List.head?_cons, *]); (try exact rfl); done)) | ((with_reducible refine w_last ?_ ?_ ?_); (focus kernel_rfl); (focus rfl)) | ((with_reducible apply w_stepG); (focus rfl)) | ((with_reducible apply lk_mem); (focus ((repeat (first | exact mm_h | apply mm_t)); done))) | with_reducible refine Go2.go ?_ | ((with_reducible apply sto_go); (focus (intro cs'; repeat (first | exact ra_h | apply ra_t)))) | ((with_reducible refine al_go ?_); intro b) | ((with_reducible refine And.intro ?_ ?_); (focus ((repeat (first | exact keep_none | exact keep_nil | exact keep_ro | refine keep_cons ?_)); done))) | ((with_reducible apply (ck_le Try.call11)); (focus exact LEL.refl _); (focus exact hA.out _)) | ((with_reducible apply (ck_le Try.call15)); (focus exact LEL.refl _); (focus exact hG.out _)) | ((with_reducible apply (ck_le Try.call16)); (focus exact LEL.refl _); (focus exact hR.out _)) | ((with_reducible refine s_bi ?_ ?_); (focus rfl)) | with_reducible refine blk_ne rfl ?_ | ((with_reducible refine w_region ?_ ?_); (focus kernel_rfl)) | ((with_reducible refine w_draw [] ?_ ?_ ?_ ?_ ?_); (iterate 3 (focus kernel_rfl)); (focus exact keeps_nil)) | ((with_reducible first | refine gd_d1 ?_ ?_ | refine gd_d0 ?_ ?_); all_goals (intro hb; (first | with_reducible replace hb := nt_t hb | with_reducible replace hb := nt_f hb | skip); (first | replace hb := dc_t hb | replace hb := dc_f hb | have hb1 := eq_b hb | have hb1 := ne_b hb | have hb1 := bne_t hb | have hb1 := bne_f hb | skip); (try (exfalso; first | contradiction | omega)))))
      all_goals (refine ret_eq (by first | exact .inl rfl | exact .inr rfl) (by first | rfl | assumption) (by (repeat (first | exact List.Sublist.refl _ | apply List.Sublist.cons))) ?_; (try simp (disch := omega) only [push_cast, Nat.reduceEqDiff, reduceCtorEq, ↓reduceIte, Nat.reduceAdd, Nat.reduceMul, Nat.reduceSub, Nat.reduceLT, Nat.reduceLeDiff, Int.reduceToNat, Int.reduceLT, Int.reduceLE, Int.reduceAdd, Int.reduceSub, Int.reduceMul, Int.reduceBEq, Int.reduceBNe, encB, encI, encC, V.cells_mk, V.cells_len, Nat.mul_one, Int.sub_zero, List.map_nil, beq_self_eq_true, List.head?_cons, *]); try (first | exact LE.refl _ | exact LE.sl _ _ | (refine LE.tup ?_; (repeat' (first | exact LEL.nil | refine LEL.cons ?_ ?_ | exact LE.refl _ | exact LE.sl _ _ | refine LE.agg ?_)); done) | (refine LE.agg ?_; (repeat' (first | exact LEL.nil | refine LEL.cons ?_ ?_ | exact LE.refl _ | exact LE.sl _ _)); done) | refine LE.of_eq ?_))
end Go.Proofs.Ytooaagmhgakhgaa
end
