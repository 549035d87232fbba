/- The walk of the statement RuleBound. -/
import Derived.Test.YtgcienlfpnpbgaaGreatZ6
set_option linter.all false
section
namespace Go.Proofs.YtgcienlfpnpbgaaGreat
set_option linter.unusedSimpArgs false
attribute [local push_cast] encB encI encC V.cells_mk V.cells_len Nat.mul_one Int.sub_zero List.map_nil beq_self_eq_true bne_self_eq_false List.head?_cons
open Go.RowKit B
set_option maxRecDepth 10000
set_option maxHeartbeats 16000000
theorem ruleBoundLaw (L : List Tm) (R : List Rl) (hwL : ∀ t ∈ L, t.Wf) (hlL : L.length ≤ maxLen) (hw : ∀ x ∈ R, x.Wf) (hl : R.length ≤ maxLen) (st : St) : TrF Tryz.prog 10 [.sl .shared (L.map Tm.cells), .sl .shared (R.map Rl.cells)] st fun d st' => d = .b true ∧ st' = st := by
  have hA := Lib.hid rul17AliveF
  have hG := rul17GreatF L R hwL hlL hw hl
  cases hg : Reg.great L || Rul.great R with
  | true =>
    rw [hg] at hG
    clear hwL hw hlL hl
    generalize L.map Tm.cells = LS at *
    generalize R.map Rl.cells = RS at *
    replace hG := Lib.hid hG
    refine Qin [4] Tryz.func10 Tryz.results10 Tryz.ntmps10 ?_
    repeat' (first | (with_reducible first | refine Q1 ?_ | refine Qe ?_ | refine Ql ?_ | refine Q2 ?_ | refine Qs ?_ | refine Q4 ?_ | (refine al_go ?_; intro b) | fail) | refine Qc Tryz.call32 (hA.out _) ?_ | refine Qc Tryz.call33 (hG.out _) ?_ | (with_reducible first | refine Q5 ?_ | (refine Q3a ?_; intro hb; try intro hb1) | (refine Q3b ?_; intro hb; try intro hb1) | (refine Q3 ?_ ?_ <;> intro hb <;> try intro hb1) | fail) | fail)
    all_goals exact Qret
  | false =>
  rw [hg] at hG
  rw [Bool.or_eq_false_iff] at hg
  obtain ⟨h12, hk⟩ := Reg.not_great hwL hg.1
  obtain ⟨h12r, hkr⟩ := Rul.not_great hw hg.2
  clear hg hwL hw hlL hl
  have hok : ∀ t ∈ L, TOk t := fun t h => (hk t h).ok
  have hR := ruleRightF L hok (by omega) R hkr (by omega)
  cases hr : Rul.right L R with
  | false =>
    rw [hr] at hR
    clear hk hkr hok
    generalize L.map Tm.cells = LS at *
    generalize R.map Rl.cells = RS at *
    replace hG := Lib.hid hG
    replace hR := Lib.hid hR
    refine Qin [4] Tryz.func10 Tryz.results10 Tryz.ntmps10 ?_
    repeat' (first | (with_reducible first | refine Q1 ?_ | refine Qe ?_ | refine Ql ?_ | refine Q2 ?_ | refine Qs ?_ | refine Q4 ?_ | (refine al_go ?_; intro b) | fail) | refine Qc Tryz.call32 (hA.out _) ?_ | refine Qc Tryz.call33 (hG.out _) ?_ | refine Qc Tryz.call34 (hR.out _) ?_ | (with_reducible first | refine Q5 ?_ | (refine Q3a ?_; intro hb; try intro hb1) | (refine Q3b ?_; intro hb; try intro hb1) | (refine Q3 ?_ ?_ <;> intro hb <;> try intro hb1) | fail) | fail)
    all_goals exact Qret
  | true =>
  rw [hr] at hR
  have hm : (R.map Rl.cells).length = R.length := List.length_map ..
  have hc : Hid (∀ (i : Nat) (t : Rl), R[i]? = some t → (R.map Rl.cells)[i]? = some t.cells) := fun i t h => by rw [List.getElem?_map, h]; rfl
  have hB := Lib.hid fun (x : Rl) (hx : x ∈ R) => ruleBoundF x (by have := (hkr x hx).np; omega) (fun p hp => by have := (hkr x hx).nt p hp; omega)
  have hN := Lib.hid fun (x : Rl) (hx : x ∈ R) => Rul.bound_nodup ((Rul.right_iff.1 hr).2.2.1 x hx)
  have hR2 := Lib.hid fun (x : Rl) (hx : x ∈ R) => ruleRightF L hok (by omega) [x, x] (fun y hy => by
    simp only [List.mem_cons, List.not_mem_nil, or_false, or_self] at hy
    rw [hy]; exact hkr x hx) (by show 2 ≤ _; omega)
  have hR1 := Lib.hid fun (i : Nat) (x : Rl) (hx : R[i]? = some x) => ruleRightF L hok (by omega) ((R.drop i).take 1) (fun y hy => hkr y (List.mem_of_mem_drop (List.mem_of_mem_take hy))) (by rw [List.length_take]; omega)
  have hT1 := Lib.hid fun (i : Nat) => Rul.right_take (Rul.right_drop hr i) 1
  have hBl := Lib.hid fun (x : Rl) (hx : x ∈ R) => Rul.bindP_len 100 x.pats (hkr x hx).nt
  have hPl := Lib.hid fun (x : Rl) (hx : x ∈ R) => (hkr x hx).np
  clear hr hk hkr hok
  have hall : (R.map Rl.cells).all (fun e => e.length == 4) = true := by
    rw [List.all_eq_true]
    intro e he
    obtain ⟨s, -, rfl⟩ := List.mem_map.1 he
    rfl
  have hsl : Hid (∀ i, ((R.drop i).take 1).map Rl.cells = ((R.map Rl.cells).drop i).take 1) := fun i => by rw [List.map_take, List.map_drop]
  generalize hLS : L.map Tm.cells = LS at *
  generalize R.map Rl.cells = RS at *
  replace hG := Lib.hid hG
  replace hR := Lib.hid hR
  refine Qin [4] Tryz.func10 Tryz.results10 Tryz.ntmps10 ?_
  repeat' (first | (with_reducible first | refine Q1 ?_ | refine Qe ?_ | refine Ql ?_ | refine Q2 ?_ | refine Qs ?_ | refine Q4 ?_ | (refine al_go ?_; intro b) | fail) | refine Qc Tryz.call32 (hA.out _) ?_ | refine Qc Tryz.call33 (hG.out _) ?_ | refine Qc Tryz.call34 (hR.out _) ?_ | (with_reducible first | refine Q5 ?_ | (refine Q3a ?_; intro hb; try intro hb1) | (refine Q3b ?_; intro hb; try intro hb1) | (refine Q3 ?_ ?_ <;> intro hb <;> try intro hb1) | fail) | fail)
  refine tr_loopd (ι := Nat) (fun i A st' => i ≤ R.length ∧ A.df = [] ∧ A.e 0 = .sl .shared LS ∧ A.e 1 = .sl .shared RS ∧ A.e 5 = .i i ∧ st = st') (fun i => R.length - i) 0 ⟨Nat.zero_le _, Qf, Qf, Qf, Qf, rfl⟩ ?_
  clear hG hR hA
  rintro i A st' ⟨hi, hdf, e0, e1, e5, rfl⟩
  by_cases hlt : ¬ i < R.length
  · repeat' (with_reducible first | refine Q1 ?_ | refine Qe ?_ | refine Ql ?_ | refine Q2 ?_ | refine Qs ?_ | refine Q4 ?_ | (refine al_go ?_; intro b) | refine Q5 ?_ | (refine Q3a ?_; intro hb; try intro hb1) | (refine Q3b ?_; intro hb; try intro hb1) | (refine Q3 ?_ ?_ <;> intro hb <;> try intro hb1) | fail)
    all_goals exact Qret
  rw [Classical.not_not] at hlt
  obtain ⟨x, hx⟩ : ∃ x, R[i]? = some x := ⟨_, List.getElem?_eq_getElem hlt⟩
  have h1 := hc.out i x hx
  have hxm := List.mem_of_getElem? hx
  have k1 := hB.out x hxm
  have k2 := hN.out x hxm
  have k3 := hR2.out x hxm
  have k4 := hR1.out i x hx
  rw [Rul.right_twice] at k3
  rw [hT1.out i, hsl.out i] at k4
  simp only [List.map_cons, List.map_nil] at k3
  have hB10 : (Rul.bound x).length ≤ 10000 := by
    have a := hBl.out x hxm
    have b := hPl.out x hxm
    unfold Rul.bound
    omega
  generalize hTC : (RS.drop i).take 1 = TK at k4
  have hw1 : ((i : Int) + 1).toNat = i + 1 := by omega
  have hw2 : i + 1 - i = 1 := by omega
  clear hBl hPl hB hN hR2 hR1 hT1 hsl hc hx hxm
  have hbl : ((Rul.bound x).map encI).length = (Rul.bound x).length := List.length_map ..
  have hbc : Hid (∀ (i : Nat) (t : Int), (Rul.bound x)[i]? = some t → ((Rul.bound x).map encI)[i]? = some [.i t]) := fun i t h => by rw [List.getElem?_map, h]; rfl
  generalize Rul.bound x = B at *
  unfold Rl.cells at *
  generalize x.pats.map Pt.cells = PS at *
  generalize x.acts.map Ac.cells = AS at *
  generalize x.name = nm at *
  generalize x.sal = sal at *
  generalize B.map encI = BS at *
  replace k1 := Lib.hid k1
  replace k3 := Lib.hid k3
  replace k4 := Lib.hid k4
  replace k2 := Lib.hid k2
  repeat' (first | (with_reducible first | refine Q1 ?_ | refine Qe ?_ | refine Ql ?_ | refine Q2 ?_ | refine Qs ?_ | refine Q4 ?_ | (refine al_go ?_; intro b) | fail) | refine Qc Tryz.call37 (k1.out _) ?_ | (with_reducible first | refine Q5 ?_ | (refine Q3a ?_; intro hb; try intro hb1) | (refine Q3b ?_; intro hb; try intro hb1) | (refine Q3 ?_ ?_ <;> intro hb <;> try intro hb1) | fail) | fail)
  refine tr_loopd (ι := Nat) (fun k A st' => k ≤ B.length ∧ A.df = [] ∧ A.e 0 = .sl .shared LS ∧ A.e 1 = .sl .shared RS ∧ A.e 5 = .i i ∧ A.e 6 = .sl .shared BS ∧ A.e 7 = .i k ∧ st = st') (fun k => B.length - k) 0 ⟨Nat.zero_le _, Qf, Qf, Qf, Qf, Qf, Qf, rfl⟩ ?_
  clear hdf e0 e1 e5 k1
  rintro k A st' ⟨hk, hdf, e0, e1, e5, e6, e7, rfl⟩
  by_cases hlk : k < B.length
  · repeat' (with_reducible first | refine Q1 ?_ | refine Qe ?_ | refine Ql ?_ | refine Q2 ?_ | refine Qs ?_ | refine Q4 ?_ | (refine al_go ?_; intro b) | refine Q5 ?_ | (refine Q3a ?_; intro hb; try intro hb1) | (refine Q3b ?_; intro hb; try intro hb1) | (refine Q3 ?_ ?_ <;> intro hb <;> try intro hb1) | fail)
    refine tr_loopd (ι := Nat) (fun m A st' => m ≤ k ∧ A.df = [] ∧ A.e 0 = .sl .shared LS ∧ A.e 1 = .sl .shared RS ∧ A.e 5 = .i i ∧ A.e 6 = .sl .shared BS ∧ A.e 7 = .i k ∧ A.e 8 = .i m ∧ st = st') (fun m => k - m) 0 ⟨Nat.zero_le _, Qf, Qf, Qf, Qf, Qf, Qf, Qf, rfl⟩ ?_
    clear hdf e0 e1 e5 e6 e7
    rintro m A st' ⟨hm', hdf, e0, e1, e5, e6, e7, e8, rfl⟩
    by_cases hlm : m < k
    · obtain ⟨a, ha⟩ : ∃ a, B[k]? = some a := ⟨_, List.getElem?_eq_getElem hlk⟩
      obtain ⟨b, hb⟩ : ∃ b, B[m]? = some b := ⟨_, List.getElem?_eq_getElem (by omega)⟩
      have c1 := hbc.out k a ha
      have c2 := hbc.out m b hb
      have hne : a ≠ b := by
        obtain ⟨p1, q1⟩ := List.getElem?_eq_some_iff.1 ha
        obtain ⟨p2, q2⟩ := List.getElem?_eq_some_iff.1 hb
        intro e
        have := List.pairwise_iff_getElem.1 k2.out m k p2 p1 hlm
        rw [q1, q2] at this
        exact this e.symm
      have hne2 : (a == b) = false := by rw [beq_eq_false_iff_ne]; exact hne
      clear ha hb hne
      repeat' (with_reducible first | refine Q1 ?_ | refine Qe ?_ | refine Ql ?_ | refine Q2 ?_ | refine Qs ?_ | refine Q4 ?_ | (refine al_go ?_; intro b) | refine Q5 ?_ | (refine Q3a ?_; intro hb; try intro hb1) | (refine Q3b ?_; intro hb; try intro hb1) | (refine Q3 ?_ ?_ <;> intro hb <;> try intro hb1) | fail)
      refine ⟨m + 1, st, (by (repeat (first | exact List.Sublist.refl _ | apply List.Sublist.cons))), ⟨hlm, ?_, ?_, ?_, ?_, ?_, ?_, ?_, rfl⟩, by omega⟩
      all_goals exact Qf
    · repeat' (with_reducible first | refine Q1 ?_ | refine Qe ?_ | refine Ql ?_ | refine Q2 ?_ | refine Qs ?_ | refine Q4 ?_ | (refine al_go ?_; intro b) | refine Q5 ?_ | (refine Q3a ?_; intro hb; try intro hb1) | (refine Q3b ?_; intro hb; try intro hb1) | (refine Q3 ?_ ?_ <;> intro hb <;> try intro hb1) | fail)
      refine ⟨k + 1, st, (by (repeat (first | exact List.Sublist.refl _ | apply List.Sublist.cons))), ⟨hlk, ?_, ?_, ?_, ?_, ?_, ?_, rfl⟩, by omega⟩
      all_goals exact Qf
  · repeat' (first | (with_reducible first | refine Q1 ?_ | refine Qe ?_ | refine Ql ?_ | refine Q2 ?_ | refine Qs ?_ | refine Q4 ?_ | (refine al_go ?_; intro b) | fail) | refine QL Tryz.call34 (k3.out _) ?_ | refine QL Tryz.call34 (k4.out _) ?_ | (with_reducible first | refine Q5 ?_ | (refine Q3a ?_; intro hb; try intro hb1) | (refine Q3b ?_; intro hb; try intro hb1) | (refine Q3 ?_ ?_ <;> intro hb <;> try intro hb1) | fail) | fail)
    refine ⟨i + 1, st, (by (repeat (first | exact List.Sublist.refl _ | apply List.Sublist.cons))), ⟨hlt, ?_, ?_, ?_, ?_, rfl⟩, by omega⟩
    all_goals exact Qf
end Go.Proofs.YtgcienlfpnpbgaaGreat
end
