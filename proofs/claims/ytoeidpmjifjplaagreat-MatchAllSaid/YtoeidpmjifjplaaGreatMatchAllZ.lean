/- The walk of the statement MatchAll. -/
import Derived.Test.YtoeidpmjifjplaaGreatZ10
set_option linter.all false
set_option maxRecDepth 10000
set_option maxHeartbeats 8000000
namespace Go.Proofs.YtoeidpmjifjplaaGreat
open Go.RowKit
section
attribute [local push_cast] encB encI encC V.cells_mk V.cells_len Nat.mul_one Int.sub_zero List.map_nil beq_self_eq_true bne_self_eq_false List.head?_cons Bool.not_true Bool.not_false Nat.zero_add
set_option maxHeartbeats 16000000
theorem refAll18M {L : List Tm} {R : List Rl} {F : List Fc} (h : Mat.May L R F) (st : St) : TrF Tryz.prog 24 [.sl .shared (R.map Rl.cells), .sl .shared (F.map Fc.cells)] st fun d st' => d = .sl .shared ((Mat.sortM (Mat.raws R F)).map Mt.cells) ∧ st' = st := by
 have he := Mat.raws_eq h.nd R
 have hl := Mat.raws_len h
 rw [he] at hl ⊢
 exact AllRaw.rest (refAll18RawF R F h.xk (by have := h.rl; omega) (fun x hx => (h.rn x hx).2) h.fk h.fl hl st)
theorem matchAllLaw (L : List Tm) (R : List Rl) (F : List Fc) (hwL : ∀ t ∈ L, t.Wf) (hlL : L.length ≤ maxLen) (hwR : ∀ x ∈ R, x.Wf) (hlR : R.length ≤ maxLen) (hwF : ∀ f ∈ F, f.Wf) (hlF : F.length ≤ maxLen) (st : St) : TrF Tryz.prog 4 [.sl .shared (L.map Tm.cells), .sl .shared (R.map Rl.cells), .sl .shared (F.map Fc.cells)] st fun d st' => d = .b true ∧ st' = st := by
 have hA := Lib.hid alive18F
 have hY := may18F L R F hwL hlL hwR hlR hwF hlF
 cases hm : Mat.may L R F with
 | false =>
  rw [hm] at hY
  clear hwL hlL hwR hlR hwF hlF
  generalize L.map Tm.cells = LS at *
  generalize R.map Rl.cells = RS at *
  generalize F.map Fc.cells = FS at *
  replace hY := Lib.hid hY
  refine Qin [6] Tryz.func4 Tryz.results4 Tryz.ntmps4 ?_
  repeat' (first | refine QX ?_ | (refine QB ?_; intro b) | (with_reducible refine QZ ?_ <;> (try constructor) <;> intro hb <;> try intro hb1) | refine Qc Tryz.call14 ((hA.out _)) ?_ | refine Qc Tryz.call15 ((hY.out _)) ?_ | fail)
  all_goals exact Qret
 | true =>
 rw [hm] at hY
 have hM := Mat.may_iff hwR hwF hm
 clear hwL hlL hwR hlR hwF hlF hm
 have hAll := matAllM hM
 have hRef := refAll18M hM
 have hi : ∀ m ∈ Mat.sortM (Mat.raws R F), m.ids.length ≤ 1000000 := fun m h => by
  obtain ⟨k, x, e, h1, -, -, -, h2⟩ := Mat.once h
  have := (hM.rn x (List.mem_of_getElem? h1)).2
  omega
 have hSm := refSame18F (Mat.sortM (Mat.raws R F)) (Mat.sortM (Mat.raws R F)) hi hi (by rw [(Mat.sortM_srt _).2.length_eq]; exact Mat.raws_len hM)
 rw [Mat.same_self] at hSm
 clear hM hi
 generalize (Mat.sortM (Mat.raws R F)).map Mt.cells = ML at *
 generalize L.map Tm.cells = LS at *
 generalize R.map Rl.cells = RS at *
 generalize F.map Fc.cells = FS at *
 replace hY := Lib.hid hY
 replace hAll := Lib.hid hAll
 replace hRef := Lib.hid hRef
 replace hSm := Lib.hid hSm
 refine Qin [6] Tryz.func4 Tryz.results4 Tryz.ntmps4 ?_
 repeat' (first | refine QV ?_ | ((with_reducible refine QW ?_); intro hne; simp only [nes, ne1, and_assoc] at hne; repeat (have hq := hne.1; replace hne := hne.2)) | refine QY ?_ | (refine QB ?_; intro b) | (with_reducible refine QZ ?_ <;> (try constructor) <;> intro hb <;> try intro hb1) | refine Qc Tryz.call14 ((hA.out _)) ?_ | refine Qc Tryz.call15 ((hY.out _)) ?_ | refine Qc Tryz.call23 ((hAll.out _)) ?_ | refine Qc Tryz.call24 ((hRef.out _)) ?_ | refine Qc Tryz.call22 ((hSm.out _)) ?_ | fail)
 all_goals exact Qret
end
end Go.Proofs.YtoeidpmjifjplaaGreat
