/- The walk of the statement RuleBare. -/
import Derived.Test.YtgcienlfpnpbgaaGreatZ6
set_option linter.all false
section
namespace Go.Proofs.YtgcienlfpnpbgaaGreat
set_option linter.unusedSimpArgs false
attribute [local push_cast] encB encI encC V.cells_mk V.cells_len Nat.mul_one Int.sub_zero List.map_nil beq_self_eq_true bne_self_eq_false List.head?_cons
open Go.RowKit B
set_option maxRecDepth 10000
set_option maxHeartbeats 16000000
theorem refIntsQ (o o' : Own) (a b : List Int) (st : St) : TrF Tryz.prog 36 [.sl o (a.map encI), .sl o' (b.map encI)] st fun d st' => d = .b (decide (a = b)) ∧ st' = st :=
  trF_pure fun vs w hv => by
    obtain ⟨v, v', rfl, h1, h2⟩ := args2 hv
    exact ⟨_, fun _ _ => .s _ rfl, (ints_any v v' a b w (sees_of_rep (f := iv) h1) (sees_of_rep (f := iv) h2)).mono fun _ _ ⟨h, n, e⟩ => ⟨h, by subst e; exact ⟨rfl, rfl, rfl, Nat.le_refl _, fun _ _ => rfl⟩⟩⟩
theorem ruleBareLaw (L : List Tm) (R : List Rl) (hwL : ∀ t ∈ L, t.Wf) (hlL : L.length ≤ maxLen) (hw : ∀ x ∈ R, x.Wf) (hl : R.length ≤ maxLen) (st : St) : TrF Tryz.prog 11 [.sl .shared (L.map Tm.cells), .sl .shared (R.map Rl.cells)] st fun d st' => d = .b true ∧ st' = st := by
  have hA := Lib.hid rul17AliveF
  have hG := rul17GreatF L R hwL hlL hw hl
  cases hg : Reg.great L || Rul.great R with
  | true =>
    rw [hg] at hG
    clear hwL hw hlL hl
    generalize L.map Tm.cells = LS at *
    generalize R.map Rl.cells = RS at *
    replace hG := Lib.hid hG
    refine Qin [4] Tryz.func11 Tryz.results11 Tryz.ntmps11 ?_
    repeat' (first | (with_reducible first | refine Q1 ?_ | refine Qe ?_ | refine Ql ?_ | refine Q2 ?_ | refine Qs ?_ | refine Q4 ?_ | (refine al_go ?_; intro b) | fail) | refine Qc Tryz.call32 (hA.out _) ?_ | refine Qc Tryz.call33 (hG.out _) ?_ | (with_reducible first | (refine Qa ?_; intro o' ho') | (refine Qp ?_; intro o' ho') | refine Q5 ?_ | (refine Q3a ?_; intro hb; try intro hb1) | (refine Q3b ?_; intro hb; try intro hb1) | (refine Q3 ?_ ?_ <;> intro hb <;> try intro hb1) | fail) | fail)
    all_goals exact Qret
  | false =>
  rw [hg] at hG
  rw [Bool.or_eq_false_iff] at hg
  obtain ⟨h12, hk⟩ := Reg.not_great hwL hg.1
  obtain ⟨h12r, hkr⟩ := Rul.not_great hw hg.2
  clear hg hwL hw hlL hl
  have hok : ∀ t ∈ L, TOk t := fun t h => (hk t h).ok
  have hR := ruleRightF L hok (by omega) R hkr (by omega)
  cases hr : Rul.right L R with
  | false =>
    rw [hr] at hR
    clear hk hkr hok
    generalize L.map Tm.cells = LS at *
    generalize R.map Rl.cells = RS at *
    replace hG := Lib.hid hG
    replace hR := Lib.hid hR
    refine Qin [4] Tryz.func11 Tryz.results11 Tryz.ntmps11 ?_
    repeat' (first | (with_reducible first | refine Q1 ?_ | refine Qe ?_ | refine Ql ?_ | refine Q2 ?_ | refine Qs ?_ | refine Q4 ?_ | (refine al_go ?_; intro b) | fail) | refine Qc Tryz.call32 (hA.out _) ?_ | refine Qc Tryz.call33 (hG.out _) ?_ | refine Qc Tryz.call34 (hR.out _) ?_ | (with_reducible first | (refine Qa ?_; intro o' ho') | (refine Qp ?_; intro o' ho') | refine Q5 ?_ | (refine Q3a ?_; intro hb; try intro hb1) | (refine Q3b ?_; intro hb; try intro hb1) | (refine Q3 ?_ ?_ <;> intro hb <;> try intro hb1) | fail) | fail)
    all_goals exact Qret
  | true =>
  rw [hr] at hR
  obtain ⟨h8, hgd⟩ := Rul.right_good hkr hr
  have hm : (R.map Rl.cells).length = R.length := List.length_map ..
  have hc : Hid (∀ (i : Nat) (t : Rl), R[i]? = some t → (R.map Rl.cells)[i]? = some t.cells) := fun i t h => by rw [List.getElem?_map, h]; rfl
  have hbk : ∀ x ∈ R.map Rul.bare, Rul.RK x := fun x hx => by
    obtain ⟨u, hu, rfl⟩ := List.mem_map.1 hx
    exact Rul.bare_rk (hkr u hu)
  have hbr := Rul.bare_right hr
  have hbg := (Rul.right_good hbk hbr).2
  have hlb : (R.map Rul.bare).length = R.length := List.length_map ..
  have hP := rulePutF R (fun x hx => ⟨hkr x hx, (hgd x hx).sal⟩) (by omega)
  have hPb := rulePutF (R.map Rul.bare) (fun x hx => ⟨hbk x hx, (hbg x hx).sal⟩) (by omega)
  have hRb := ruleRightF L hok (by omega) (R.map Rul.bare) hbk (by omega)
  rw [hbr] at hRb
  have hpl := Rul.bare_put hkr hr
  have hm1 : ((Rul.put R).map encB).length = (Rul.put R).length := List.length_map ..
  have hm2 : ((Rul.put (R.map Rul.bare)).map encB).length = (Rul.put (R.map Rul.bare)).length := List.length_map ..
  have hB := Lib.hid fun (x : Rl) (hx : x ∈ R) => ruleBoundF x (by have := (hkr x hx).np; omega) (fun p hp => by have := (hkr x hx).nt p hp; omega)
  have hBb := Lib.hid fun (x : Rl) (hx : x ∈ R) => ruleBoundF (Rul.bare x) (by have := (hkr x hx).np; exact Nat.le_trans this (by omega)) (fun p hp => by have := (hkr x hx).nt p hp; omega)
  have hsl := Lib.hid fun (x : Rl) (hx : x ∈ R) => Rul.sal_le ((Rul.right_iff.1 hr).2.2.1 x hx)
  have hIn := Lib.hid fun (x : Rl) => refIntsQ .shared .shared (Rul.bound x) (Rul.bound x)
  clear hr hk hkr hok hgd hbk hbr hbg
  obtain ⟨BF, hBF⟩ : ∃ BF : Nat → List (List D), (fun i => ((R.take i).map Rul.bare).map Rl.cells) = BF := ⟨_, rfl⟩
  have hBi : ∀ i, ((R.take i).map Rul.bare).map Rl.cells = BF i := fun i => by rw [← hBF]
  have hB0 : BF 0 = [] := (hBi 0).symm
  have hBn : (R.map Rul.bare).map Rl.cells = BF R.length := by rw [← hBi, List.take_length]
  have hBs : Hid (∀ (i : Nat) (x : Rl), R[i]? = some x → BF (i + 1) = BF i ++ [(Rul.bare x).cells]) := fun i x h => by
    rw [← hBi, ← hBi, List.take_add_one, h, Option.toList_some, List.map_append, List.map_append]; rfl
  have hBl : Hid (∀ i, i ≤ R.length → (BF i).length = i) := fun i hi => by rw [← hBi, List.length_map, List.length_map, List.length_take]; omega
  have hBw : Hid (∀ i, ∀ a ∈ BF i, a.length = 4) := fun i a ha => by
    rw [← hBi] at ha
    obtain ⟨x, -, rfl⟩ := List.mem_map.1 ha
    rfl
  clear hBi hBF
  rw [hBn] at hPb hRb
  generalize Rul.put R = PB at *
  generalize Rul.put (R.map Rul.bare) = PB2 at *
  clear hBn hlb
  generalize hLS : L.map Tm.cells = LS at *
  generalize R.map Rl.cells = RS' at *
  clear hLS
  replace hG := Lib.hid hG
  replace hR := Lib.hid hR
  replace hP := Lib.hid hP
  replace hPb := Lib.hid hPb
  replace hRb := Lib.hid hRb
  refine Qin [4] Tryz.func11 Tryz.results11 Tryz.ntmps11 ?_
  refine tr_room 55 4 (BF 0).length ?_
  repeat' (first | (with_reducible first | refine Q1 ?_ | refine Qe ?_ | refine Ql ?_ | refine Q2 ?_ | refine Qs ?_ | refine Q4 ?_ | (refine al_go ?_; intro b) | fail) | refine Qc Tryz.call32 (hA.out _) ?_ | refine Qc Tryz.call33 (hG.out _) ?_ | refine Qc Tryz.call34 (hR.out _) ?_ | (with_reducible first | (refine Qa ?_; intro o' ho') | (refine Qp ?_; intro o' ho') | refine Q5 ?_ | (refine Q3a ?_; intro hb; try intro hb1) | (refine Q3b ?_; intro hb; try intro hb1) | (refine Q3 ?_ ?_ <;> intro hb <;> try intro hb1) | fail) | fail)
  refine tr_loopd (ι := Nat) (fun i A st' => i ≤ R.length ∧ A.df = [] ∧ A.e 0 = .sl .shared LS ∧ A.e 1 = .sl .shared RS' ∧ A.e 6 = .i i ∧ ∃ o', o' ≠ .shared ∧ A.e 5 = .sl o' (BF i) ∧ st' = .room o' 55 4 (BF i).length :: st) (fun i => R.length - i) 0 ⟨Nat.zero_le _, Qf, Qf, Qf, Qf, .tight, by decide, by rw [hB0]; exact Qf, rfl⟩ ?_
  clear hG hR hA hB0
  rintro i A st' ⟨hi, hdf, e0, e1, e6, o', ho', e5, rfl⟩
  by_cases hlt : ¬ i < R.length
  · obtain rfl : i = R.length := by omega
    clear hBs hBl hBw hB hBb hsl hIn hc
    repeat' (first | (with_reducible first | refine Q1 ?_ | refine Qe ?_ | refine Ql ?_ | refine Q2 ?_ | refine Qs ?_ | refine Q4 ?_ | (refine al_go ?_; intro b) | fail) | refine QL Tryz.call34 (hRb.out _) ?_ | refine QL Tryz.call39 (hPb.out _) ?_ | refine Qc Tryz.call39 (hP.out _) ?_ | (with_reducible first | (refine Qa ?_; intro o' ho') | (refine Qp ?_; intro o' ho') | refine Q5 ?_ | (refine Q3a ?_; intro hb; try intro hb1) | (refine Q3b ?_; intro hb; try intro hb1) | (refine Q3 ?_ ?_ <;> intro hb <;> try intro hb1) | fail) | fail)
    all_goals exact Qret
  rw [Classical.not_not] at hlt
  obtain ⟨x, hx⟩ : ∃ x, R[i]? = some x := ⟨_, List.getElem?_eq_getElem hlt⟩
  have h1 := hc.out i x hx
  have hxm := List.mem_of_getElem? hx
  have k1 := hB.out x hxm
  have k2 := hBb.out x hxm
  have k3 := hIn.out x
  have k4 := hsl.out x hxm
  have k5 := hBs.out i x hx
  have k6 : (BF i).length ≤ 8 := by rw [hBl.out i hi]; omega
  rw [decide_eq_true rfl] at k3
  rw [show Rul.bound (Rul.bare x) = Rul.bound x from rfl] at k2
  have k7 := hBw.out i
  clear hB hBb hIn hsl hBs hBl hBw hc hx hxm
  have e2 : (Rul.bare x).cells = [.str x.name, .i (0 - x.sal), .sl .shared (x.pats.map Pt.cells), .sl .shared []] := by rw [Int.zero_sub]; rfl
  rw [e2] at k2 k5
  clear e2
  generalize (Rul.bound x).map encI = BS at *
  unfold Rl.cells at *
  generalize x.pats.map Pt.cells = PS at *
  generalize x.acts.map Ac.cells = AS at *
  generalize x.name = nm at *
  generalize x.sal = sal at *
  generalize BF i = B0 at *
  replace k1 := Lib.hid k1
  replace k2 := Lib.hid k2
  replace k3 := Lib.hid k3
  replace k5 := Lib.hid k5
  repeat' (first | (with_reducible first | refine Q1 ?_ | refine Qe ?_ | fail) | ((with_reducible refine w_drawRN ?_ ?_ ?_ ?_); (iterate 3 (focus kernel_rfl)); intro hne; simp only [nes, ne1, and_assoc] at hne; repeat (have hq := hne.1; replace hne := hne.2)) | (with_reducible first | refine Ql ?_ | refine Q2 ?_ | refine Qs ?_ | refine Q4 ?_ | (refine al_go ?_; intro b) | fail) | refine Qc Tryz.call37 (k1.out _) ?_ | refine QL Tryz.call37 (k2.out _) ?_ | refine Qc Tryz.call36 (k3.out _) ?_ | (with_reducible first | (refine Qa ?_; intro o' ho') | (refine Qp ?_; intro o' ho') | refine Q5 ?_ | (refine Q3a ?_; intro hb; try intro hb1) | (refine Q3b ?_; intro hb; try intro hb1) | (refine Q3 ?_ ?_ <;> intro hb <;> try intro hb1) | fail) | fail)
  refine ⟨i + 1, .room o' 55 4 (B0 ++ [[D.str nm, D.i (0 - sal), D.sl .shared PS, D.sl .shared []]]).length :: st, (by (repeat (first | exact List.Sublist.refl _ | apply List.Sublist.cons))), ⟨hlt, ?_, ?_, ?_, ?_, o', ho', ?_, ?_⟩, by omega⟩
  · exact Qf
  · exact Qf
  · exact Qf
  · exact Qf
  · rw [k5.out]; exact Qf
  · rw [k5.out]
end Go.Proofs.YtgcienlfpnpbgaaGreat
end
