/- The walk of the statement RuleRight. -/
import Derived.Test.YtgcienlfpnpbgaaGreatZ7
set_option linter.all false
section
namespace Go.Proofs.YtgcienlfpnpbgaaGreat
attribute [local push_cast] encB encI encC V.cells_mk V.cells_len Nat.mul_one Int.sub_zero List.map_nil beq_self_eq_true bne_self_eq_false List.head?_cons
open Go.RowKit B
set_option maxHeartbeats 16000000
set_option maxRecDepth 10000
theorem ruleRightLaw (L : List Tm) (R : List Rl) (hwL : ∀ t ∈ L, t.Wf) (hlL : L.length ≤ maxLen) (hw : ∀ x ∈ R, x.Wf) (hl : R.length ≤ maxLen) (st : St) : TrF Tryz.prog 8 [.sl .shared (L.map Tm.cells), .sl .shared (R.map Rl.cells)] st fun d st' => d = .b true ∧ st' = st := by
 have hA := Lib.hid rul17AliveF
 have hG := rul17GreatF L R hwL hlL hw hl
 cases hg : Reg.great L || Rul.great R with
 | true =>
  rw [hg] at hG
  clear hwL hw hlL hl
  generalize L.map Tm.cells = LS at *
  generalize R.map Rl.cells = RS at *
  replace hG := Lib.hid hG
  refine Qin [4] Tryz.func8 Tryz.results8 Tryz.ntmps8 ?_
  exact WR
 | false =>
 rw [hg] at hG
 rw [Bool.or_eq_false_iff] at hg
 obtain ⟨h12, hk⟩ := Reg.not_great hwL hg.1
 have hkr0 := Reg.not_greatR hwL hg.1
 obtain ⟨h12r, hkr⟩ := Rul.not_great hw hg.2
 clear hg hwL hw hlL hl
 have hR := ruleRightF L (fun t h => (hk t h).ok) (by omega) R hkr (by omega)
 have hR2 := ref17RightF L (fun t h => (hkr0 t h).q) (by omega) R hkr (by omega)
 generalize Rul.right L R = q at *
 clear hk hkr hkr0
 generalize L.map Tm.cells = LS at *
 generalize R.map Rl.cells = RS at *
 replace hG := Lib.hid hG
 replace hR := Lib.hid hR
 replace hR2 := Lib.hid hR2
 cases q
 all_goals (
  refine Qin [4] Tryz.func8 Tryz.results8 Tryz.ntmps8 ?_
  exact WR)
end Go.Proofs.YtgcienlfpnpbgaaGreat
end
