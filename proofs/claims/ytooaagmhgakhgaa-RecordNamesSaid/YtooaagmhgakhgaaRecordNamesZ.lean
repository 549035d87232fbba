/- The walk of the statement RecordNames. -/
import Derived.Test.YtooaagmhgakhgaaZ7
set_option linter.all false
section
namespace Go.Proofs.Ytooaagmhgakhgaa
set_option linter.unusedSimpArgs false
attribute [local push_cast] encB encI encC encS V.cells_mk V.cells_len Nat.mul_one Int.sub_zero List.map_nil beq_self_eq_true bne_self_eq_false List.head?_cons
open Go.RowKit
set_option maxRecDepth 10000
set_option maxHeartbeats 8000000
theorem recordNamesLaw (t : Tm) (v : Int) (row : List V) (n : UInt8) (hw : t.Wf) (hrow : (∀ x ∈ row, x.Ok) ∧ row.length ≤ maxLen) (st : St) : TrF Try.prog 9 [.agg t.cells, .i v, .sl .shared (row.map V.cells), .y n] st fun d st' => d = .b true ∧ st' = st := by
  have hA := Lib.hid rec11AliveF
  have hG := refGreat10F t hw
  have hH := refGreat11F .shared row hrow.1 (by have := hrow.2; unfold maxLen at this; omega)
  cases hg1 : Sch.great t with
  | true =>
    rw [hg1] at hG
    clear hH hrow hg1
    unfold Tm.cells at *
    generalize t.slots.map Sl.cells = SL at *
    generalize t.steps.map Stp.cells = TL at *
    generalize t.name = nm at *
    generalize row.map V.cells = RS at *
    replace hG := Lib.hid hG
    refine trF_enter (ts := [8]) Try.func9 rfl (by rw [Try.ntmps9]; exact Nat.le_of_ble_eq_true rfl) (fun tmps w => by simp [results, Try.results9, go_sem, resVal]) ?_
    simp only [Try.ntmps9]
    repeat' (first | with_reducible refine Go1.go ?_ | ((with_reducible apply ev_go); (focus ((try simp (disch := omega) only [push_cast, simprocAttr, *]); (try exact rfl); done))) | ((with_reducible refine w_last ?_ ?_ ?_); kernel_rfl; rfl) | with_reducible refine Go2.go ?_ | ((with_reducible first | apply w_stepG | refine s_bi ?_ ?_ | refine blk_ne ?_ ?_); rfl) | ((with_reducible refine al_go ?_); intro b) | ((with_reducible apply (ck_le Try.call31)); exact LEL.refl _; exact hA.out _) | ((with_reducible apply (ck_le Try.call15)); exact LEL.refl _; exact hG.out _) | ((with_reducible apply a2_go); (focus (first | assumption | (intro h; cases h))); (focus (intro o'; repeat (first | exact ra_h | apply ra_t))); (iterate 2 (focus (first | assumption | exact len_nil | exact len_one rfl | (intro a ha; obtain ⟨x, -, rfl⟩ := List.mem_map.1 ha; first | rfl | simp) | (intro a ha; simp at ha; simp [ha])))); (iterate 2 (focus (first | omega | (simp only [List.length_map, List.length_cons, List.length_nil, List.length_append]; omega)))); intro o' ho') | ((with_reducible first | refine w_region ?_ ?_ | refine w_dra ?_ ?_); kernel_rfl) | ((with_reducible refine Go3.go ?_ ?_); all_goals (intro hb; (try with_reducible intro hb1); (try (exfalso; first | contradiction | omega)))) | fail)
    all_goals (refine ret_eq (by simp) (by first | rfl | assumption) (by (repeat (first | exact List.Sublist.refl _ | apply List.Sublist.cons))) ?_; (try simp (disch := omega) only [push_cast, simprocAttr, *]); try (first | exact LE.refl _ | exact LE.sl _ _ | ((first | refine LE.tup ?_ | refine LE.agg ?_); (repeat' (first | exact LEL.nil | refine LEL.cons ?_ ?_ | exact LE.refl _ | exact LE.sl _ _ | refine LE.agg ?_)); done) | refine LE.of_eq ?_))
  | false =>
    rw [hg1] at hG
    cases hg2 : (decide (40 < row.length) || row.any V.great) with
    | true =>
      rw [hg2] at hH
      clear hrow hg1 hg2
      unfold Tm.cells at *
      generalize t.slots.map Sl.cells = SL at *
      generalize t.steps.map Stp.cells = TL at *
      generalize t.name = nm at *
      generalize row.map V.cells = RS at *
      replace hG := Lib.hid hG
      replace hH := Lib.hid hH
      refine trF_enter (ts := [8]) Try.func9 rfl (by rw [Try.ntmps9]; exact Nat.le_of_ble_eq_true rfl) (fun tmps w => by simp [results, Try.results9, go_sem, resVal]) ?_
      simp only [Try.ntmps9]
      repeat' (first | with_reducible refine Go1.go ?_ | ((with_reducible apply ev_go); (focus ((try simp (disch := omega) only [push_cast, simprocAttr, *]); (try exact rfl); done))) | ((with_reducible refine w_last ?_ ?_ ?_); kernel_rfl; rfl) | with_reducible refine Go2.go ?_ | ((with_reducible first | apply w_stepG | refine s_bi ?_ ?_ | refine blk_ne ?_ ?_); rfl) | ((with_reducible refine al_go ?_); intro b) | ((with_reducible apply (ck_le Try.call31)); exact LEL.refl _; exact hA.out _) | ((with_reducible apply (ck_le Try.call15)); exact LEL.refl _; exact hG.out _) | ((with_reducible apply (ck_le Try.call32)); exact LEL.refl _; exact hH.out _) | ((with_reducible apply a2_go); (focus (first | assumption | (intro h; cases h))); (focus (intro o'; repeat (first | exact ra_h | apply ra_t))); (iterate 2 (focus (first | assumption | exact len_nil | exact len_one rfl | (intro a ha; obtain ⟨x, -, rfl⟩ := List.mem_map.1 ha; first | rfl | simp) | (intro a ha; simp at ha; simp [ha])))); (iterate 2 (focus (first | omega | (simp only [List.length_map, List.length_cons, List.length_nil, List.length_append]; omega)))); intro o' ho') | ((with_reducible first | refine w_region ?_ ?_ | refine w_dra ?_ ?_); kernel_rfl) | ((with_reducible refine Go3.go ?_ ?_); all_goals (intro hb; (try with_reducible intro hb1); (try (exfalso; first | contradiction | omega)))) | fail)
      all_goals (refine ret_eq (by simp) (by first | rfl | assumption) (by (repeat (first | exact List.Sublist.refl _ | apply List.Sublist.cons))) ?_; (try simp (disch := omega) only [push_cast, simprocAttr, *]); try (first | exact LE.refl _ | exact LE.sl _ _ | ((first | refine LE.tup ?_ | refine LE.agg ?_); (repeat' (first | exact LEL.nil | refine LEL.cons ?_ ?_ | exact LE.refl _ | exact LE.sl _ _ | refine LE.agg ?_)); done) | refine LE.of_eq ?_))
    | false =>
      rw [hg2] at hH
      have hL : Look t ⟨0, row⟩ := not_great12 hw ⟨⟨by show -9223372036854775808 ≤ (0 : Int); decide, by show (0 : Int) ≤ 9223372036854775807; decide⟩, hrow.1, hrow.2⟩ (by unfold Sch.great12; rw [hg1]; exact hg2)
      have hrn : ∀ u ∈ row, u.nodes ≤ 1000 := fun u h => (hL.rq u h).nodes
      have hrl : row.length ≤ 40 := by
        rw [Bool.or_eq_false_iff, decide_eq_false_iff_not] at hg2
        omega
      have hM := recMakeF t hL.tc.ok hL.tc.dv v row hrn (by omega)
      clear hg1 hg2
      obtain ⟨M, hMe⟩ : ∃ M, Sch.makeS t v row = M := ⟨_, rfl⟩
      rw [hMe] at hM
      by_cases he : M.2 = 0
      · have hve : Sch.verE t v = 0 := by
          unfold Sch.makeS at hMe
          by_cases h : Sch.verE t v = 0
          · exact h
          · rw [if_neg h] at hMe
            subst hMe
            exact absurd he h
        obtain ⟨x, hx⟩ := Sch.verB_some' (Sch.verE_ok hve)
        have hxv := Sch.ver_some_X hx
        obtain ⟨hap, hnd, hcs, hcp, hcl⟩ := Sch.vers_apart x (ver_mem hx)
        have hxl : x.slots.length ≤ 16 := (Sch.vers_vi (ver_mem hx)).ls
        have hxd := hL.tc.dv x (ver_mem hx)
        unfold Sch.makeS at hMe
        rw [if_pos hve, hxv] at hMe
        have hlen : row.length = x.cols.length := by
          by_cases h : row.length = x.cols.length
          · exact h
          · rw [if_neg h] at hMe
            subst hMe
            cases he
        rw [if_pos hlen] at hMe
        have hfit : ∀ (k c : Nat) (u : V) (y : Sl), x.cols[k]? = some c → row[k]? = some u → x.slots[c]? = some y → Sch.fits y u = true := by
          cases hF : Sch.fillC x.slots x.cols row (x.slots.map fun s => s.dv) with
          | none => rw [hF] at hMe; subst hMe; cases he
          | some o => exact Sch.fillC_fits _ _ _ _ hF
        have hP := refAtF t hL.tq v
        rw [hxv, (Sch.ver_verB hx).1] at hP
        have hFl := recFillF t hL.tc.ok v (Sch.namesT x x.cols.length n.toNat) (Sch.valsT row x.cols.length n.toNat) x hxv.symm hve hcs hxl hcl hxd (by rw [Sch.namesT_len, Sch.valsT_len]) (Sch.valsT_mem hlen hrn) (by rw [Sch.namesT_len]; omega) (Sch.names_check hap hnd hcs hlen hfit) _ rfl
        rw [(Sch.names_all hap hnd hcs hlen).1, (Sch.names_all hap hnd hcs hlen).2, if_neg Bool.false_ne_true] at hFl
        have hS := refAllF .shared .shared row row hrow.1 (by omega)
        rw [V.cmpL_self] at hS
        have hstep : Hid (∀ j : Nat, j < row.length → ∃ (k c : Nat) (y : Sl) (u : V), (∀ ty, aBin Try.prog .rem ty (.i ((j : Int) + (n.toNat : Int))) (.i (row.length : Int)) = some (.i (k : Int))) ∧ k < row.length ∧ (x.cols.map encC)[k]? = some [.i c] ∧ c < x.slots.length ∧ (x.slots.map Sl.cells)[c]? = some y.cells ∧ (row.map V.cells)[k]? = some u.cells ∧ ((Sch.namesT x x.cols.length n.toNat).take (j + 1)).map encS = ((Sch.namesT x x.cols.length n.toNat).take j).map encS ++ [[.str y.name]] ∧ ((Sch.valsT row x.cols.length n.toNat).take (j + 1)).map V.cells = ((Sch.valsT row x.cols.length n.toNat).take j).map V.cells ++ [u.cells]) := fun j hj => by
          rw [hlen] at hj
          obtain ⟨c, y, h1, h2, h3⟩ := Sch.namesT_get (tn := n.toNat) hcs hj
          obtain ⟨u, k1, k2⟩ := Sch.valsT_get (tn := n.toNat) hlen hj
          refine ⟨Sch.turnK x.cols.length n.toNat j, c, y, u, fun ty => ?_, by rw [hlen]; exact Sch.turnK_lt (by omega), by rw [List.getElem?_map, h1]; rfl, (List.getElem?_eq_some_iff.1 h2).1, by rw [List.getElem?_map, h2]; rfl, by rw [List.getElem?_map, k1]; rfl, by rw [take_snoc' h3, List.map_append]; rfl, by rw [take_snoc' k2, List.map_append]; rfl⟩
          have h0 : ((row.length : Int) == 0) = false := by rw [beq_eq_false_iff_ne]; omega
          rw [bin_rem h0, hlen]; rfl
        have hnl := n.toNat_lt
        have hn0 : ((Sch.namesT x x.cols.length n.toNat).take 0).map encS = [] := rfl
        have hv0 : ((Sch.valsT row x.cols.length n.toNat).take 0).map V.cells = [] := rfl
        have hnn : Hid (((Sch.namesT x x.cols.length n.toNat).take row.length).map encS = (Sch.namesT x x.cols.length n.toNat).map encS) := Lib.hid (by rw [List.take_of_length_le (by rw [Sch.namesT_len]; omega)])
        have hvn : Hid (((Sch.valsT row x.cols.length n.toNat).take row.length).map V.cells = (Sch.valsT row x.cols.length n.toNat).map V.cells) := Lib.hid (by rw [List.take_of_length_le (by rw [Sch.valsT_len]; omega)])
        have hne1 : Hid (∀ j : Nat, ∀ e ∈ ((Sch.namesT x x.cols.length n.toNat).take j).map encS, e.length = 1) := fun j e he => by
          obtain ⟨w, -, rfl⟩ := List.mem_map.1 he
          rfl
        have hne2 : Hid (∀ j : Nat, ∀ e ∈ ((Sch.valsT row x.cols.length n.toNat).take j).map V.cells, e.length = 4) := fun j e he => by
          obtain ⟨w, -, rfl⟩ := List.mem_map.1 he
          exact V.cells_len w
        have hnl1 : Hid (∀ j : Nat, j ≤ row.length → (((Sch.namesT x x.cols.length n.toNat).take j).map encS).length = j) := fun j hj => by
          rw [List.length_map, List.length_take, Sch.namesT_len, Nat.min_eq_left (by omega)]
        have hvl1 : Hid (∀ j : Nat, j ≤ row.length → (((Sch.valsT row x.cols.length n.toNat).take j).map V.cells).length = j) := fun j hj => by
          rw [List.length_map, List.length_take, Sch.valsT_len, Nat.min_eq_left (by omega)]
        have hmr : (row.map V.cells).length = row.length := List.length_map ..
        have hmx : (x.slots.map Sl.cells).length = x.slots.length := List.length_map ..
        have hmc : (x.cols.map encC).length = row.length := by rw [List.length_map, hlen]
        clear hfit hap hnd hcs hcp hcl hxd hve hxv hx hL hMe hrow hlen
        generalize Sch.namesT x x.cols.length n.toNat = NT at *
        generalize Sch.valsT row x.cols.length n.toNat = VT at *
        obtain ⟨NF, hNF⟩ : ∃ NF : Nat → List (List D), (fun j => (NT.take j).map encS) = NF := ⟨_, rfl⟩
        obtain ⟨VF, hVF⟩ : ∃ VF : Nat → List (List D), (fun j => (VT.take j).map V.cells) = VF := ⟨_, rfl⟩
        have hNi : ∀ j, (NT.take j).map encS = NF j := fun j => by rw [← hNF]
        have hVi : ∀ j, (VT.take j).map V.cells = VF j := fun j => by rw [← hVF]
        have hstep' : Hid (∀ j : Nat, j < row.length → ∃ (k c : Nat) (y : Sl) (u : V), (∀ ty, aBin Try.prog .rem ty (.i ((j : Int) + (n.toNat : Int))) (.i (row.length : Int)) = some (.i (k : Int))) ∧ k < row.length ∧ (x.cols.map encC)[k]? = some [.i c] ∧ c < x.slots.length ∧ (x.slots.map Sl.cells)[c]? = some y.cells ∧ (row.map V.cells)[k]? = some u.cells ∧ NF (j + 1) = NF j ++ [[.str y.name]] ∧ VF (j + 1) = VF j ++ [u.cells]) := fun j hj => by
          have h := hstep.out j hj
          simp only [hNi, hVi] at h
          exact h
        have hn0' : Hid (NF 0 = []) := Lib.hid (by rw [← hNi]; rfl)
        have hv0' : Hid (VF 0 = []) := Lib.hid (by rw [← hVi]; rfl)
        have hnn' : Hid (NT.map encS = NF row.length) := Lib.hid (by rw [← hNi]; exact hnn.out.symm)
        have hvn' : Hid (VT.map V.cells = VF row.length) := Lib.hid (by rw [← hVi]; exact hvn.out.symm)
        have hne1' : Hid (∀ j : Nat, ∀ e ∈ NF j, e.length = 1) := fun j => by rw [← hNi]; exact hne1.out j
        have hne2' : Hid (∀ j : Nat, ∀ e ∈ VF j, e.length = 4) := fun j => by rw [← hVi]; exact hne2.out j
        have hnl1' : Hid (∀ j : Nat, j ≤ row.length → (NF j).length = j) := fun j hj => by rw [← hNi]; exact hnl1.out j hj
        have hvl1' : Hid (∀ j : Nat, j ≤ row.length → (VF j).length = j) := fun j hj => by rw [← hVi]; exact hvl1.out j hj
        rw [hnn'.out, hvn'.out] at hFl
        clear hstep hn0 hv0 hnn hvn hne1 hne2 hnl1 hvl1 hnn' hvn' hNF hVF hNi hVi
        rw [he] at hM
        clear he
        cases x with
        | mk xs xc =>
        unfold Tm.cells Rc.cells at *
        unfold Vr.cells at *
        dsimp only at *
        generalize t.slots.map Sl.cells = SL at *
        generalize t.steps.map Stp.cells = TL at *
        generalize t.name = nm at *
        generalize M.1.s.map V.cells = MS at *
        generalize M.1.v = mv at *
        generalize row.map V.cells = RS at *
        generalize xs.map Sl.cells = XS at *
        generalize xc.map encC = XC at *
        generalize row.length = rl at *
        generalize xs.length = xl at *
        replace hG := Lib.hid hG
        replace hH := Lib.hid hH
        replace hM := Lib.hid hM
        replace hP := Lib.hid hP
        replace hFl := Lib.hid hFl
        replace hS := Lib.hid hS
        clear hrn
        refine trF_enter (ts := [8]) Try.func9 rfl (by rw [Try.ntmps9]; exact Nat.le_of_ble_eq_true rfl) (fun tmps w => by simp [results, Try.results9, go_sem, resVal]) ?_
        simp only [Try.ntmps9]
        refine tr_room 9 1 ([] : List (List D)).length ?_
        refine tr_room 24 4 ([] : List (List D)).length ?_
        repeat' (first | with_reducible refine Go1.go ?_ | ((with_reducible apply ev_go); (focus ((try simp (disch := omega) only [push_cast, simprocAttr, *]); (try exact rfl); done))) | ((with_reducible refine w_last ?_ ?_ ?_); kernel_rfl; rfl) | with_reducible refine Go2.go ?_ | ((with_reducible first | apply w_stepG | refine s_bi ?_ ?_ | refine blk_ne ?_ ?_); rfl) | ((with_reducible refine al_go ?_); intro b) | ((with_reducible apply (ck_le Try.call31)); exact LEL.refl _; exact hA.out _) | ((with_reducible apply (ck_le Try.call15)); exact LEL.refl _; exact hG.out _) | ((with_reducible apply (ck_le Try.call32)); exact LEL.refl _; exact hH.out _) | ((with_reducible apply (ck_le Try.call33)); exact LEL.refl _; exact hM.out _) | ((with_reducible apply (ck_le Try.call27)); exact LEL.refl _; exact hP.out _) | ((with_reducible apply a2_go); (focus (first | assumption | (intro h; cases h))); (focus (intro o'; repeat (first | exact ra_h | apply ra_t))); (iterate 2 (focus (first | assumption | exact len_nil | exact len_one rfl | (intro a ha; obtain ⟨x, -, rfl⟩ := List.mem_map.1 ha; first | rfl | simp) | (intro a ha; simp at ha; simp [ha])))); (iterate 2 (focus (first | omega | (simp only [List.length_map, List.length_cons, List.length_nil, List.length_append]; omega)))); intro o' ho') | ((with_reducible first | refine w_region ?_ ?_ | refine w_dra ?_ ?_); kernel_rfl) | ((with_reducible refine Go3.go ?_ ?_); all_goals (intro hb; (try with_reducible intro hb1); (try (exfalso; first | contradiction | omega)))) | fail)
        rename_i b9
        obtain ⟨b11, rfl⟩ : ∃ q, q = b := ⟨_, rfl⟩
        refine tr_loopd (ι := Nat) (fun i A st' => i ≤ rl ∧ A.df = [] ∧ A.e 1 = .i v ∧ A.e 2 = .sl .shared RS ∧ A.e 3 = .y n ∧ A.e 4 = .ip [.str nm, .sl .shared SL, .sl .shared TL] ∧ A.e 11 = .ptr b11 0 ∧ A.e 15 = .i i ∧ ∃ o1 o2 : Own, o1 ≠ .shared ∧ o2 ≠ .shared ∧ A.e 13 = .sl o1 (NF i) ∧ A.e 14 = .sl o2 (VF i) ∧ st' = .box b11 52 [.sl .shared XS, .sl .shared XC] :: .box b9 45 [.i mv, .sl .shared MS] :: .room o2 24 4 (VF i).length :: .room o1 9 1 (NF i).length :: st) (fun i => rl - i) 0 ⟨Nat.zero_le _, ?_, ?_, ?_, ?_, ?_, ?_, ?_, .tight, .tight, (by intro h; cases h), (by intro h; cases h), (by rw [hn0'.out]; (first | rfl | assumption | omega | (simp (disch := omega) only [push_cast, simprocAttr, *]; try omega; done))), (by rw [hv0'.out]; (first | rfl | assumption | omega | (simp (disch := omega) only [push_cast, simprocAttr, *]; try omega; done))), (by rw [hn0'.out, hv0'.out])⟩ ?_
        iterate 7 (focus (first | rfl | assumption | omega | (simp (disch := omega) only [push_cast, simprocAttr, *]; try omega; done)))
        rintro i A st' ⟨hi, hdf, e1, e2, e3, e4, e11, e15, o1, o2, ho1, ho2, e13, e14, rfl⟩
        by_cases hlt : i < rl
        · obtain ⟨k, c, y, u, hrem, hkl, q1, q2, q3, q4, q5, q6⟩ := hstep'.out i hlt
          have m1 := hne1'.out i
          have m2 := hne2'.out i
          have m3 := hnl1'.out i hi
          have m4 := hvl1'.out i hi
          cases y with
          | mk snm ty rq dv =>
          cases dv with
          | mk kk nn sv lv =>
          cases u with
          | mk k' n' sv' lv' =>
          rw [Sl.cells_mk] at q3
          rw [V.cells_mk] at q4 q6
          dsimp only at q5
          generalize hN1 : NF i = N1 at *
          generalize hV1 : VF i = V1 at *
          replace q5 := Lib.hid q5
          replace q6 := Lib.hid q6
          replace hN1 := Lib.hid hN1
          replace hV1 := Lib.hid hV1
          repeat' (first | with_reducible refine Go1.go ?_ | ((with_reducible apply ev_go); (focus ((try simp (disch := omega) only [push_cast, simprocAttr, *]); (try exact rfl); done))) | ((with_reducible refine w_drawRN ?_ ?_ ?_ ?_); (iterate 3 (focus kernel_rfl)); intro hne; simp only [nes, ne1, and_assoc] at hne; repeat (have hq := hne.1; replace hne := hne.2)) | ((with_reducible refine And.intro ?_ ?_); (focus exact keep_roE rfl)) | ((with_reducible refine w_last ?_ ?_ ?_); kernel_rfl; rfl) | with_reducible refine Go2.go ?_ | ((with_reducible first | apply w_stepG | refine s_bi ?_ ?_ | refine blk_ne ?_ ?_); rfl) | ((with_reducible refine al_go ?_); intro b) | ((with_reducible apply a2_go); (focus (first | assumption | (intro h; cases h))); (focus (intro o'; repeat (first | exact ra_h | apply ra_t))); (iterate 2 (focus (first | assumption | exact len_nil | exact len_one rfl | (intro a ha; obtain ⟨x, -, rfl⟩ := List.mem_map.1 ha; first | rfl | simp) | (intro a ha; simp at ha; simp [ha])))); (iterate 2 (focus (first | omega | (simp only [List.length_map, List.length_cons, List.length_nil, List.length_append]; omega)))); intro o' ho') | ((with_reducible first | refine w_region ?_ ?_ | refine w_dra ?_ ?_); kernel_rfl) | ((with_reducible refine Go3.go ?_ ?_); all_goals (intro hb; (try with_reducible intro hb1); (try (exfalso; first | contradiction | omega)))) | fail)
          rename_i p1 hp1
          refine ⟨i + 1, .box b11 52 [.sl .shared XS, .sl .shared XC] :: .box b9 45 [.i mv, .sl .shared MS] :: .room o' 24 4 (VF (i + 1)).length :: .room p1 9 1 (NF (i + 1)).length :: st, (by rw [q5.out, q6.out]; exact List.Sublist.refl _), ⟨hlt, ?_, ?_, ?_, ?_, ?_, ?_, ?_, p1, o', hp1, ho', ?_, ?_, rfl⟩, by omega⟩
          · (first | rfl | assumption | omega | (simp (disch := omega) only [push_cast, simprocAttr, *]; try omega; done))
          · (first | rfl | assumption | omega | (simp (disch := omega) only [push_cast, simprocAttr, *]; try omega; done))
          · (first | rfl | assumption | omega | (simp (disch := omega) only [push_cast, simprocAttr, *]; try omega; done))
          · (first | rfl | assumption | omega | (simp (disch := omega) only [push_cast, simprocAttr, *]; try omega; done))
          · (first | rfl | assumption | omega | (simp (disch := omega) only [push_cast, simprocAttr, *]; try omega; done))
          · (first | rfl | assumption | omega | (simp (disch := omega) only [push_cast, simprocAttr, *]; try omega; done))
          · (first | rfl | assumption | omega | (simp (disch := omega) only [push_cast, simprocAttr, *]; try omega; done))
          · rw [q5.out]; (first | rfl | assumption | omega | (simp (disch := omega) only [push_cast, simprocAttr, *]; try omega; done))
          · rw [q6.out]; (first | rfl | assumption | omega | (simp (disch := omega) only [push_cast, simprocAttr, *]; try omega; done))
        · skip
          have hil : i = rl := by omega
          rw [hil] at e13 e14 e15 ⊢
          repeat' (first | with_reducible refine Go1.go ?_ | ((with_reducible apply ev_go); (focus ((try simp (disch := omega) only [push_cast, simprocAttr, *]); (try exact rfl); done))) | ((with_reducible refine w_last ?_ ?_ ?_); kernel_rfl; rfl) | with_reducible refine Go2.go ?_ | ((with_reducible first | apply w_stepG | refine s_bi ?_ ?_ | refine blk_ne ?_ ?_); rfl) | ((with_reducible refine al_go ?_); intro b) | ((with_reducible apply (ck_el Try.call34)); exact hFl.out _; (focus ((repeat' (first | exact LEL.nil | refine LEL.cons ?_ ?_ | exact LE.refl _ | exact LE.sl _ _ | refine LE.agg ?_)); done))) | ((with_reducible apply (ck_le Try.call35)); exact LEL.refl _; exact hS.out _) | ((with_reducible apply a2_go); (focus (first | assumption | (intro h; cases h))); (focus (intro o'; repeat (first | exact ra_h | apply ra_t))); (iterate 2 (focus (first | assumption | exact len_nil | exact len_one rfl | (intro a ha; obtain ⟨x, -, rfl⟩ := List.mem_map.1 ha; first | rfl | simp) | (intro a ha; simp at ha; simp [ha])))); (iterate 2 (focus (first | omega | (simp only [List.length_map, List.length_cons, List.length_nil, List.length_append]; omega)))); intro o' ho') | ((with_reducible first | refine w_region ?_ ?_ | refine w_dra ?_ ?_); kernel_rfl) | ((with_reducible refine Go3.go ?_ ?_); all_goals (intro hb; (try with_reducible intro hb1); (try (exfalso; first | contradiction | omega)))) | fail)
          all_goals (refine ret_eq (by simp) (by first | rfl | assumption) (by (repeat (first | exact List.Sublist.refl _ | apply List.Sublist.cons))) ?_; (try simp (disch := omega) only [push_cast, simprocAttr, *]); try (first | exact LE.refl _ | exact LE.sl _ _ | ((first | refine LE.tup ?_ | refine LE.agg ?_); (repeat' (first | exact LEL.nil | refine LEL.cons ?_ ?_ | exact LE.refl _ | exact LE.sl _ _ | refine LE.agg ?_)); done) | refine LE.of_eq ?_))
      · clear hL hMe hrow
        unfold Tm.cells Rc.cells at *
        generalize t.slots.map Sl.cells = SL at *
        generalize t.steps.map Stp.cells = TL at *
        generalize t.name = nm at *
        generalize row.map V.cells = RS at *
        generalize M.1.s.map V.cells = MS at *
        generalize M.1.v = mv at *
        generalize M.2 = me at *
        replace hG := Lib.hid hG
        replace hH := Lib.hid hH
        replace hM := Lib.hid hM
        refine trF_enter (ts := [8]) Try.func9 rfl (by rw [Try.ntmps9]; exact Nat.le_of_ble_eq_true rfl) (fun tmps w => by simp [results, Try.results9, go_sem, resVal]) ?_
        simp only [Try.ntmps9]
        repeat' (first | with_reducible refine Go1.go ?_ | ((with_reducible apply ev_go); (focus ((try simp (disch := omega) only [push_cast, simprocAttr, *]); (try exact rfl); done))) | ((with_reducible refine w_last ?_ ?_ ?_); kernel_rfl; rfl) | with_reducible refine Go2.go ?_ | ((with_reducible first | apply w_stepG | refine s_bi ?_ ?_ | refine blk_ne ?_ ?_); rfl) | ((with_reducible refine al_go ?_); intro b) | ((with_reducible apply (ck_le Try.call31)); exact LEL.refl _; exact hA.out _) | ((with_reducible apply (ck_le Try.call15)); exact LEL.refl _; exact hG.out _) | ((with_reducible apply (ck_le Try.call32)); exact LEL.refl _; exact hH.out _) | ((with_reducible apply (ck_le Try.call33)); exact LEL.refl _; exact hM.out _) | ((with_reducible apply a2_go); (focus (first | assumption | (intro h; cases h))); (focus (intro o'; repeat (first | exact ra_h | apply ra_t))); (iterate 2 (focus (first | assumption | exact len_nil | exact len_one rfl | (intro a ha; obtain ⟨x, -, rfl⟩ := List.mem_map.1 ha; first | rfl | simp) | (intro a ha; simp at ha; simp [ha])))); (iterate 2 (focus (first | omega | (simp only [List.length_map, List.length_cons, List.length_nil, List.length_append]; omega)))); intro o' ho') | ((with_reducible first | refine w_region ?_ ?_ | refine w_dra ?_ ?_); kernel_rfl) | ((with_reducible refine Go3.go ?_ ?_); all_goals (intro hb; (try with_reducible intro hb1); (try (exfalso; first | contradiction | omega)))) | fail)
        all_goals (refine ret_eq (by simp) (by first | rfl | assumption) (by (repeat (first | exact List.Sublist.refl _ | apply List.Sublist.cons))) ?_; (try simp (disch := omega) only [push_cast, simprocAttr, *]); try (first | exact LE.refl _ | exact LE.sl _ _ | ((first | refine LE.tup ?_ | refine LE.agg ?_); (repeat' (first | exact LEL.nil | refine LEL.cons ?_ ?_ | exact LE.refl _ | exact LE.sl _ _ | refine LE.agg ?_)); done) | refine LE.of_eq ?_))
end Go.Proofs.Ytooaagmhgakhgaa
end
