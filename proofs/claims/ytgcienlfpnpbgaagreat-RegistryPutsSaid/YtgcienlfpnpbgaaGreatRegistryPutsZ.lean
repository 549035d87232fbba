/- The walk of the statement RegistryPuts. -/
import Derived.Test.YtgcienlfpnpbgaaGreatZ7
set_option linter.all false
section
namespace Go.Proofs.YtgcienlfpnpbgaaGreat
set_option linter.unusedSimpArgs false
attribute [local push_cast] encB encI encC V.cells_mk V.cells_len Nat.mul_one Int.sub_zero List.map_nil beq_self_eq_true bne_self_eq_false List.head?_cons
open Go.RowKit B
set_option maxRecDepth 10000
set_option maxHeartbeats 8000000
namespace Reg
structure KnR (t : Tm) : Prop where
  q : TQ t
  r : TmR t
theorem not_greatR {L : List Tm} (hw : ∀ t ∈ L, t.Wf) (h : great L = false) : ∀ t ∈ L, KnR t := by
  unfold great at h
  rw [Bool.or_eq_false_iff, decide_eq_false_iff_not, List.any_eq_false] at h
  intro t ht
  have hg : Sch.great t = false := by
    have := h.2 t ht
    cases hq : Sch.great t with
    | false => rfl
    | true => exact absurd hq this
  obtain ⟨hT, hs, hp, -, hl1, hl2⟩ := not_great10 (hw t ht) hg
  exact ⟨⟨by omega, by omega, fun s h => ⟨⟨(hs s h).2.2.2.2.2, (hs s h).1, by have := (hs s h).2.1; omega⟩, (hs s h).2.2.2.2.1⟩, fun s h => ⟨⟨(hp s h).2.2.2.1.2.2, (hp s h).1, by have := (hp s h).2.1; omega⟩, (hp s h).2.2.2.1.2.1, by have := (hp s h).2.2.2.2; omega⟩⟩, ⟨by omega, by omega, fun s h => (hs s h).2.2.2.2.2, fun s h => (hp s h).2.2.2.1.2.2⟩⟩
end Reg
theorem ref13PutF (L : List Tm) (hk : ∀ t ∈ L, Reg.Kn t) (hr : ∀ t ∈ L, Reg.KnR t) (hl : L.length ≤ 1000000) (st : St) : TrF Tryz.prog 20 [.sl .shared (L.map Tm.cells)] st fun d st' => d = .sl .shared ((Reg.put L).map encB) ∧ st' = st := by
  have hR := ref13RightF L (fun t ht => (hr t ht).q) hl
  unfold Reg.put
  cases hq : Reg.right L with
  | true =>
    rw [if_pos rfl]
    rw [hq] at hR
    obtain ⟨h1, h2, h3⟩ := Reg.good_all hk hq
    exact ref13PutT L (fun t ht => ⟨h2 t ht, h3 t ht⟩) h1 hR st
  | false =>
    rw [if_neg Bool.false_ne_true]
    rw [hq] at hR
    clear hk hr hl
    generalize L.map Tm.cells = LS at *
    replace hR := Lib.hid hR
    refine Qin [2] Tryz.func20 Tryz.results20 Tryz.ntmps20 ?_
    repeat' (first | (with_reducible first | refine Q1 ?_ | refine Qe ?_ | refine Ql ?_ | refine Q2 ?_ | refine Qs ?_ | refine Q4 ?_ | (refine al_go ?_; intro b) | fail) | refine Qc Tryz.call17 (hR.out _) ?_ | (with_reducible first | refine Q5 ?_ | (refine Q3a ?_; intro hb; try intro hb1) | (refine Q3b ?_; intro hb; try intro hb1) | (refine Q3 ?_ ?_ <;> intro hb <;> try intro hb1) | fail) | fail)
    all_goals exact Qret
end Go.Proofs.YtgcienlfpnpbgaaGreat
end

section
namespace Go.Proofs.YtgcienlfpnpbgaaGreat
set_option linter.unusedSimpArgs false
attribute [local push_cast] encB encI encC V.cells_mk V.cells_len Nat.mul_one Int.sub_zero List.map_nil beq_self_eq_true bne_self_eq_false List.head?_cons
open Go.RowKit B
set_option maxRecDepth 10000
set_option maxHeartbeats 8000000
theorem registryPutsLaw (L M : List Tm) (nm : ByteArray) (hw : ∀ t ∈ L, t.Wf) (hwm : ∀ t ∈ M, t.Wf) (hl : L.length ≤ maxLen) (hlm : M.length ≤ maxLen) (st : St) : TrF Tryz.prog 3 [.sl .shared (L.map Tm.cells), .sl .shared (M.map Tm.cells), .str nm] st fun d st' => d = .b true ∧ st' = st := by
  have hA := Lib.hid reg13AliveF
  have hG := refGreat13F L hw hl
  have hGm := refGreat13F M hwm hlm
  cases hg : Reg.great L with
  | true =>
    rw [hg] at hG
    clear hw hwm hl hlm hGm
    generalize L.map Tm.cells = LS at *
    generalize M.map Tm.cells = MS at *
    replace hG := Lib.hid hG
    refine Qin [6] Tryz.func3 Tryz.results3 Tryz.ntmps3 ?_
    repeat' (first | (with_reducible first | refine Q1 ?_ | refine Qe ?_ | refine Ql ?_ | refine Q2 ?_ | refine Qs ?_ | refine Q4 ?_ | (refine al_go ?_; intro b) | fail) | refine Qc Tryz.call14 (hA.out _) ?_ | refine Qc Tryz.call15 (hG.out _) ?_ | (with_reducible first | refine Q5 ?_ | (refine Q3a ?_; intro hb; try intro hb1) | (refine Q3b ?_; intro hb; try intro hb1) | (refine Q3 ?_ ?_ <;> intro hb <;> try intro hb1) | fail) | fail)
    all_goals exact Qret
  | false =>
  cases hgm : Reg.great M with
  | true =>
    rw [hg] at hG
    rw [hgm] at hGm
    clear hw hwm hl hlm
    generalize L.map Tm.cells = LS at *
    generalize M.map Tm.cells = MS at *
    replace hG := Lib.hid hG
    replace hGm := Lib.hid hGm
    refine Qin [6] Tryz.func3 Tryz.results3 Tryz.ntmps3 ?_
    repeat' (first | (with_reducible first | refine Q1 ?_ | refine Qe ?_ | refine Ql ?_ | refine Q2 ?_ | refine Qs ?_ | refine Q4 ?_ | (refine al_go ?_; intro b) | fail) | refine Qc Tryz.call14 (hA.out _) ?_ | refine Qc Tryz.call15 (hG.out _) ?_ | refine Qc Tryz.call15 (hGm.out _) ?_ | (with_reducible first | refine Q5 ?_ | (refine Q3a ?_; intro hb; try intro hb1) | (refine Q3b ?_; intro hb; try intro hb1) | (refine Q3 ?_ ?_ <;> intro hb <;> try intro hb1) | fail) | fail)
    all_goals exact Qret
  | false =>
    obtain ⟨h12, hk⟩ := Reg.not_great hw hg
    obtain ⟨h12m, hkm⟩ := Reg.not_great hwm hgm
    have hr := Reg.not_greatR hw hg
    have hrm := Reg.not_greatR hwm hgm
    rw [hg] at hG
    rw [hgm] at hGm
    clear hg hgm hw hwm hl hlm
    have hR := regRightF L (fun u h => (hk u h).ok) (by omega)
    have hR2 := ref13RightF L (fun u h => (hr u h).q) (by omega)
    have hP := regPutF L (fun u h => (hk u h).ok) (by omega) (fun h => ⟨(Reg.good_all hk h).1, (Reg.good_all hk h).2.2⟩)
    have hP2 := ref13PutF L hk hr (by omega)
    have hF := regFindF L nm (by omega)
    have hF2 := ref13FindF L nm (by omega)
    have hS := regSameF L M (fun u h => (hk u h).q) (fun u h => (hkm u h).q) (by omega) (by omega)
    have hS2 := ref13SameF L M (fun u h => (hr u h).r) (fun u h => (hrm u h).r) (by omega) (by omega)
    have hB := bytesF .shared .shared (Reg.put L) (Reg.put L)
    rw [decide_eq_true rfl] at hB
    clear hk hkm hr hrm
    generalize Reg.right L = q1 at *
    generalize Reg.find L nm = q2 at *
    generalize Reg.same L M = q3 at *
    generalize (Reg.put L).map encB = C1 at *
    generalize L.map Tm.cells = LS at *
    generalize M.map Tm.cells = MS at *
    replace hG := Lib.hid hG
    replace hGm := Lib.hid hGm
    replace hR := Lib.hid hR
    replace hR2 := Lib.hid hR2
    replace hP := Lib.hid hP
    replace hP2 := Lib.hid hP2
    replace hF := Lib.hid hF
    replace hF2 := Lib.hid hF2
    replace hS := Lib.hid hS
    replace hS2 := Lib.hid hS2
    replace hB := Lib.hid hB
    cases q1
    all_goals (
      cases q3
      all_goals (
        refine Qin [6] Tryz.func3 Tryz.results3 Tryz.ntmps3 ?_
        repeat' (first | (with_reducible first | refine Q1 ?_ | refine Qe ?_ | refine Ql ?_ | refine Q2 ?_ | refine Qs ?_ | refine Q4 ?_ | (refine al_go ?_; intro b) | fail) | refine Qc Tryz.call14 (hA.out _) ?_ | refine Qc Tryz.call15 (hG.out _) ?_ | refine Qc Tryz.call15 (hGm.out _) ?_ | refine Qc Tryz.call16 (hR.out _) ?_ | refine Qc Tryz.call17 (hR2.out _) ?_ | refine Qc Tryz.call19 (hP.out _) ?_ | refine Qc Tryz.call20 (hP2.out _) ?_ | refine Qc Tryz.call18 (hB.out _) ?_ | refine Qc Tryz.call21 (hF.out _) ?_ | refine Qc Tryz.call22 (hF2.out _) ?_ | refine Qc Tryz.call23 (hS.out _) ?_ | refine Qc Tryz.call24 (hS2.out _) ?_ | (with_reducible first | refine Q5 ?_ | (refine Q3a ?_; intro hb; try intro hb1) | (refine Q3b ?_; intro hb; try intro hb1) | (refine Q3 ?_ ?_ <;> intro hb <;> try intro hb1) | fail) | fail)
        all_goals exact Qret))
end Go.Proofs.YtgcienlfpnpbgaaGreat
end
