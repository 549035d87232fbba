/- The walk of the statement RuleBack. -/
import Derived.Test.YtgcienlfpnpbgaaGreatZ6
set_option linter.all false
section
namespace Go.Proofs.YtgcienlfpnpbgaaGreat
set_option linter.unusedSimpArgs false
attribute [local push_cast] encB encI encC V.cells_mk V.cells_len Nat.mul_one Int.sub_zero List.map_nil beq_self_eq_true bne_self_eq_false List.head?_cons
open Go.RowKit B
set_option maxRecDepth 10000
set_option maxHeartbeats 16000000
theorem cloneB3F (o : Own) (l : List UInt8) (hl : l.length ≤ 10000000000000) (st : St) : TrF Tryz.prog 72 [.sl o (l.map encB)] st fun d st' => d = .sl .shared (l.map encB) ∧ st' = st := by
  refine Qin [2] Tryz.func72 Tryz.results72 Tryz.ntmps72 ?_
  refine tr_room 5 1 0 ?_
  repeat' (first | (with_reducible first | refine Q1 ?_ | refine Qe ?_ | fail) | ((with_reducible apply s_isNil); (focus ((try simp (disch := omega) only [push_cast, simprocAttr, *]); (try exact rfl); done)); (focus ((try simp (disch := omega) only [push_cast, simprocAttr, *]); (try exact rfl); done)); intro bn hbn) | (with_reducible first | refine Ql ?_ | refine Q2 ?_ | refine Qs ?_ | refine Q4 ?_ | (refine al_go ?_; intro b) | (refine Qa ?_; intro o' ho') | (refine Qp ?_; intro o' ho') | refine Q5 ?_ | (refine Q3a ?_; intro hb; try intro hb1) | (refine Q3b ?_; intro hb; try intro hb1) | (refine Q3 ?_ ?_ <;> intro hb <;> try intro hb1) | fail) | fail)
  · have h := hbn hb
    rw [h]
    clear hbn hb h
    exact Qret
  · exact Qret
theorem binRead3F (o : Own) (l : List UInt8) (hl : l.length ≤ 10000000000000) (st : St) : TrF Tryz.prog 27 [.sl o (l.map encB)] st fun d st' => ∃ b, d = .ptr b 0 ∧ st' = rdR b ⟨.shared, l, false⟩ :: st := by
  have hC := Lib.hid (cloneB3F o l hl)
  refine Qin [2] Tryz.func27 Tryz.results27 Tryz.ntmps27 ?_
  repeat' (first | (with_reducible first | refine Q1 ?_ | refine Qe ?_ | refine s_boxP ?_ | refine Ql ?_ | refine Q2 ?_ | refine Qs ?_ | refine Q4 ?_ | (refine al_go ?_; intro b) | fail) | refine Qc Tryz.call72 (hC.out _) ?_ | (with_reducible first | (refine Qa ?_; intro o' ho') | (refine Qp ?_; intro o' ho') | refine Q5 ?_ | (refine Q3a ?_; intro hb; try intro hb1) | (refine Q3b ?_; intro hb; try intro hb1) | (refine Q3 ?_ ?_ <;> intro hb <;> try intro hb1) | fail) | fail)
  refine ret_new (b := b) (B := fun b => rdR b ⟨.shared, l, false⟩) (by first | exact .inl rfl | exact .inr rfl) (Qf) (Qf) (.refl _)
theorem ruleBackLaw (L : List Tm) (R : List Rl) (hwL : ∀ t ∈ L, t.Wf) (hlL : L.length ≤ maxLen) (hw : ∀ x ∈ R, x.Wf) (hl : R.length ≤ maxLen) (st : St) : TrF Tryz.prog 12 [.sl .shared (L.map Tm.cells), .sl .shared (R.map Rl.cells)] st fun d st' => d = .b true ∧ st' = st := by
  have hA := Lib.hid rul17AliveF
  have hG := rul17GreatF L R hwL hlL hw hl
  cases hg : Reg.great L || Rul.great R with
  | true =>
    rw [hg] at hG
    clear hwL hw hlL hl
    generalize L.map Tm.cells = LS at *
    generalize R.map Rl.cells = RS at *
    replace hG := Lib.hid hG
    refine Qin [4] Tryz.func12 Tryz.results12 Tryz.ntmps12 ?_
    repeat' (first | (with_reducible first | refine Q1 ?_ | refine Qe ?_ | refine Ql ?_ | refine Q2 ?_ | refine Qs ?_ | refine Q4 ?_ | (refine al_go ?_; intro b) | fail) | refine Qc Tryz.call32 (hA.out _) ?_ | refine Qc Tryz.call33 (hG.out _) ?_ | (with_reducible first | refine Q5 ?_ | (refine Q3a ?_; intro hb; try intro hb1) | (refine Q3b ?_; intro hb; try intro hb1) | (refine Q3 ?_ ?_ <;> intro hb <;> try intro hb1) | fail) | fail)
    all_goals exact Qret
  | false =>
  rw [hg] at hG
  rw [Bool.or_eq_false_iff] at hg
  obtain ⟨h12, hk⟩ := Reg.not_great hwL hg.1
  obtain ⟨h12r, hkr⟩ := Rul.not_great hw hg.2
  clear hg hwL hw hlL hl
  have hok : ∀ t ∈ L, TOk t := fun t h => (hk t h).ok
  have hR := ruleRightF L hok (by omega) R hkr (by omega)
  cases hr : Rul.right L R with
  | false =>
    rw [hr] at hR
    clear hk hkr hok
    generalize L.map Tm.cells = LS at *
    generalize R.map Rl.cells = RS at *
    replace hG := Lib.hid hG
    replace hR := Lib.hid hR
    refine Qin [4] Tryz.func12 Tryz.results12 Tryz.ntmps12 ?_
    repeat' (first | (with_reducible first | refine Q1 ?_ | refine Qe ?_ | refine Ql ?_ | refine Q2 ?_ | refine Qs ?_ | refine Q4 ?_ | (refine al_go ?_; intro b) | fail) | refine Qc Tryz.call32 (hA.out _) ?_ | refine Qc Tryz.call33 (hG.out _) ?_ | refine Qc Tryz.call34 (hR.out _) ?_ | (with_reducible first | refine Q5 ?_ | (refine Q3a ?_; intro hb; try intro hb1) | (refine Q3b ?_; intro hb; try intro hb1) | (refine Q3 ?_ ?_ <;> intro hb <;> try intro hb1) | fail) | fail)
    all_goals exact Qret
  | true =>
  rw [hr] at hR
  obtain ⟨h8, hgd⟩ := Rul.right_good hkr hr
  have hm : (R.map Rl.cells).length = R.length := List.length_map ..
  have hPl : (Rul.put R).length ≤ 10000000000000 := by
    rw [Rul.put_eq hgd]
    have := Rul.listW_len Rul.rlW 411103000 R fun x hx => Rul.rlW_len x (hkr x hx)
    omega
  have hP := rulePutF R (fun x hx => ⟨hkr x hx, (hgd x hx).sal⟩) (by omega)
  have hRd := binRead3F .shared (Rul.put R) hPl
  have hgl := Rul.glist_rules R h8 hgd .shared []
  have hrp := Rul.read_put L R hr h8 hgd .shared []
  rw [Rul.put_eq hgd] at hrp
  have hRR := fun rb => ruleReadF L hok (by omega) rb ⟨.shared, (Rul.listW Rul.rlW R).1 ++ [], false⟩ (by rw [hgl]; exact hkr) (by rw [hgl]; show R.length ≤ _; omega)
  rw [hrp, List.append_nil, ← Rul.put_eq hgd] at hRR
  clear hgl hrp
  have hD := fun rb => rdDoneF rb (⟨.shared, [], false⟩ : RS)
  have hB := bytesF .shared .shared (Rul.put R) (Rul.put R)
  rw [decide_eq_true rfl] at hB
  have hTk := ruleRightF L hok (by omega) (R.take (R.length - 1)) (fun x hx => hkr x (List.mem_of_mem_take hx)) (by rw [List.length_take]; omega)
  have hDr := ruleRightF L hok (by omega) (R.drop 1) (fun x hx => hkr x (List.mem_of_mem_drop hx)) (by rw [List.length_drop]; omega)
  rw [Rul.right_take hr, List.map_take] at hTk
  rw [Rul.right_drop hr, List.map_drop] at hDr
  have hall : (R.map Rl.cells).all (fun e => e.length == 4) = true := by
    rw [List.all_eq_true]
    intro e he
    obtain ⟨s, -, rfl⟩ := List.mem_map.1 he
    rfl
  have hpm : ((Rul.put R).map encB).length = (Rul.put R).length := List.length_map ..
  simp only [Option.getD, Option.isSome, List.length_nil, Bool.not_false, Bool.true_and, decide_true] at hRR hD
  clear hr hk hkr hok hgd
  generalize Rul.put R = PB at *
  generalize hLS : L.map Tm.cells = LS at *
  generalize R.map Rl.cells = RS' at *
  generalize hnR : R.length = n at *
  clear hLS hnR
  replace hG := Lib.hid hG
  replace hR := Lib.hid hR
  replace hP := Lib.hid hP
  replace hRd := Lib.hid hRd
  replace hRR := Lib.hid hRR
  replace hD := Lib.hid hD
  replace hB := Lib.hid hB
  by_cases hn : n = 0
  · subst hn
    clear hTk hDr
    refine Qin [4] Tryz.func12 Tryz.results12 Tryz.ntmps12 ?_
    repeat' (first | (with_reducible first | refine Q1 ?_ | refine Qe ?_ | refine Ql ?_ | refine Q2 ?_ | refine Qs ?_ | refine Q4 ?_ | (refine al_go ?_; intro b) | fail) | refine Qc Tryz.call32 (hA.out _) ?_ | refine Qc Tryz.call33 (hG.out _) ?_ | refine Qc Tryz.call34 (hR.out _) ?_ | refine Qc Tryz.call39 (hP.out _) ?_ | (refine QN Tryz.call27 (hRd.out _) ?_; intro rb) | refine QR Tryz.call44 ((hRR.out _)) ?_ | refine QR Tryz.call45 ((hD.out _)) ?_ | refine Qc Tryz.call18 (hB.out _) ?_ | (with_reducible first | refine Q5 ?_ | (refine Q3a ?_; intro hb; try intro hb1) | (refine Q3b ?_; intro hb; try intro hb1) | (refine Q3 ?_ ?_ <;> intro hb <;> try intro hb1) | fail) | fail)
    all_goals exact Qret
  · have hw1 : ((n : Int) - 1).toNat = n - 1 := by omega
    have hd : List.take (n - 1) (List.drop 1 RS') = List.drop 1 RS' := List.take_of_length_le (by rw [List.length_drop]; omega)
    generalize hTC : RS'.take (n - 1) = TK at *
    rw [← hd] at hDr
    generalize hTD : List.take (n - 1) (List.drop 1 RS') = TD at *
    clear hd
    replace hTk := Lib.hid hTk
    replace hDr := Lib.hid hDr
    refine Qin [4] Tryz.func12 Tryz.results12 Tryz.ntmps12 ?_
    repeat' (first | (with_reducible first | refine Q1 ?_ | refine Qe ?_ | refine Ql ?_ | refine Q2 ?_ | refine Qs ?_ | refine Q4 ?_ | (refine al_go ?_; intro b) | fail) | refine Qc Tryz.call32 (hA.out _) ?_ | refine Qc Tryz.call33 (hG.out _) ?_ | refine Qc Tryz.call34 (hR.out _) ?_ | refine Qc Tryz.call34 (hTk.out _) ?_ | refine Qc Tryz.call34 (hDr.out _) ?_ | refine Qc Tryz.call39 (hP.out _) ?_ | (refine QN Tryz.call27 (hRd.out _) ?_; intro rb) | refine QR Tryz.call44 ((hRR.out _)) ?_ | refine QR Tryz.call45 ((hD.out _)) ?_ | refine Qc Tryz.call18 (hB.out _) ?_ | (with_reducible first | refine Q5 ?_ | (refine Q3a ?_; intro hb; try intro hb1) | (refine Q3b ?_; intro hb; try intro hb1) | (refine Q3 ?_ ?_ <;> intro hb <;> try intro hb1) | fail) | fail)
    all_goals exact Qret
end Go.Proofs.YtgcienlfpnpbgaaGreat
end
