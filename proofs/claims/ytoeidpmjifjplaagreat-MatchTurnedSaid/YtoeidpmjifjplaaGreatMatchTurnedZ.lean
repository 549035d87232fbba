/- The walk of the statement MatchTurned. -/
import Derived.Test.YtoeidpmjifjplaaGreatZ10
set_option linter.all false
set_option maxRecDepth 10000
set_option maxHeartbeats 8000000
namespace Go.Proofs.YtoeidpmjifjplaaGreat
open Go.RowKit
section
attribute [local push_cast] encB encI encC V.cells_mk V.cells_len Nat.mul_one Int.sub_zero List.map_nil beq_self_eq_true bne_self_eq_false List.head?_cons Bool.not_true Bool.not_false Nat.zero_add
set_option maxHeartbeats 16000000
theorem matchTurnedLaw (L : List Tm) (R : List Rl) (F : List Fc) (hwL : ∀ t ∈ L, t.Wf) (hlL : L.length ≤ maxLen) (hwR : ∀ x ∈ R, x.Wf) (hlR : R.length ≤ maxLen) (hwF : ∀ f ∈ F, f.Wf) (hlF : F.length ≤ maxLen) (st : St) : TrF Tryz.prog 8 [.sl .shared (L.map Tm.cells), .sl .shared (R.map Rl.cells), .sl .shared (F.map Fc.cells)] st fun d st' => d = .b true ∧ st' = st := by
 have hA := Lib.hid alive18F
 have hY := may18F L R F hwL hlL hwR hlR hwF hlF
 cases hm : Mat.may L R F with
 | false =>
  rw [hm] at hY
  clear hwL hlL hwR hlR hwF hlF
  generalize L.map Tm.cells = LS at *
  generalize R.map Rl.cells = RS at *
  generalize F.map Fc.cells = FS at *
  replace hY := Lib.hid hY
  refine Qin [6] Tryz.func8 Tryz.results8 Tryz.ntmps8 ?_
  repeat' (first | refine QX ?_ | (refine QB ?_; intro b) | (refine QP ?_; intro o' ho') | (with_reducible refine QZ ?_ <;> (try constructor) <;> intro hb <;> try intro hb1) | refine Qc Tryz.call14 ((hA.out _)) ?_ | refine Qc Tryz.call15 ((hY.out _)) ?_ | fail)
  all_goals exact Qret
 | true =>
 rw [hm] at hY
 have hM := Mat.may_iff hwR hwF hm
 clear hwL hlL hwR hlR hwF hlF hm
 have hAll := matAllM hM
 have hpr : F.Perm F.reverse := F.reverse_perm.symm
 have htu := Mat.turned hpr R
 have hRl := hM.rl
 have hFl := hM.fl
 have hAll2 := matAllF R F.reverse hM.xk q_o ⟨fun f hf => hM.fk.f f (List.mem_reverse.1 hf), by rw [List.length_reverse]; omega⟩ (by
  have e : (Mat.raws R F).length = (Mat.raws R F.reverse).length := by rw [← (Mat.sortM_srt (Mat.raws R F)).2.length_eq, htu, (Mat.sortM_srt (Mat.raws R F.reverse)).2.length_eq]
  rw [← e]; exact Mat.raws_len hM)
 rw [← htu] at hAll2
 obtain ⟨g, hg⟩ : ∃ g : Rl → List (List Int), g = fun x => (Mat.mats x F).map Prod.fst := ⟨_, rfl⟩
 have hby : Mat.sortM (Mat.raws R F) = Mat.flatR (Mat.alone g) R 0 := by rw [hg]; exact Mat.by_rule _ R
 obtain ⟨l, hl⟩ : ∃ l, l = Mat.sortM (Mat.raws R F) := ⟨_, rfl⟩
 have hll : l.length ≤ 1000000 := by rw [hl, (Mat.sortM_srt _).2.length_eq]; exact Mat.raws_len hM
 have hids : ∀ m ∈ l, m.ids.length ≤ 1000000 := fun m h => by
  obtain ⟨k, x, e, h1, -, -, -, h2⟩ := Mat.once (hl ▸ h)
  have := (hM.rn x (List.mem_of_getElem? h1)).2
  omega
 have hSame := refSame18F l l hids hids hll
 rw [Mat.same_self] at hSame
 rw [← hl] at hAll hAll2
 obtain ⟨W, hW⟩ : ∃ W : Rl → List Mt, W = fun x => Mat.sortM (Mat.raws [x] F) := ⟨_, rfl⟩
 have hWa : ∀ x, (W x).map Mt.ids = Mat.alone g x := fun x => by rw [hW, hg]; exact Mat.all_alone x F
 obtain ⟨P, hP⟩ : ∃ P : Nat → Nat, P = Mat.ahead (Mat.alone g) R := ⟨_, rfl⟩
 have hP0 : P 0 = 0 := by rw [hP]; rfl
 have hPe : P R.length = l.length := by rw [hP, Mat.ahead_all, ← hby, hl]
 have hPs : Hid (∀ (i : Nat) (x : Rl), R[i]? = some x → P (i + 1) = P i + (W x).length) := fun i x h => by
  rw [hP, Mat.ahead_step _ h, ← hWa, List.length_map]
 have hPl : Hid (∀ (i : Nat) (x : Rl), R[i]? = some x → ∀ (k : Nat) (m : Mt), (W x)[k]? = some m → l[P i + k]? = some ⟨i, m.ids⟩) := fun i x h k m hk => by
  rw [hl, hby, hP]
  exact Mat.ahead_at _ h (by rw [← hWa, List.getElem?_map, hk]; rfl)
 have hPm : Hid (∀ (i : Nat) (x : Rl), R[i]? = some x → P i + (W x).length ≤ l.length) := fun i x h => by
  have h1 : ∀ (n : Nat), n ≤ R.length → P n ≤ P R.length := by
   intro n hn
   obtain ⟨d, hd⟩ : ∃ d, R.length = n + d := ⟨R.length - n, by omega⟩
   rw [hd]
   clear hn
   have key : ∀ d, n + d ≤ R.length → P n ≤ P (n + d) := by
    intro d
    induction d with
    | zero => exact fun _ => Nat.le_refl _
    | succ d ih =>
     intro hd2
     obtain ⟨y, hy⟩ : ∃ y, R[n + d]? = some y := ⟨_, List.getElem?_eq_getElem q_o⟩
     have := hPs.out (n + d) y hy
     have := ih q_o
     rw [show n + (d + 1) = n + d + 1 from rfl]
     omega
   exact key d q_o
  have h2 := hPs.out i x h
  have h3 := h1 (i + 1) (List.getElem?_eq_some_iff.1 h).1
  omega
 have hOne : Hid (∀ (i : Nat) (x : Rl), R[i]? = some x → ∀ st, TrF Tryz.prog 23 [.sl .shared (((R.map Rl.cells).drop i).take 1), .sl .shared (F.map Fc.cells)] st fun d st' => d = .sl .shared ((W x).map Mt.cells) ∧ st' = st) := fun i x h st => by
  have e : ((R.map Rl.cells).drop i).take 1 = [x].map Rl.cells := by rw [← List.map_drop, V.drop_cons h]; rfl
  rw [e, hW]
  refine matAllF [x] F (fun y hy => by rw [List.mem_singleton.1 hy]; exact hM.xk x (List.mem_of_getElem? h)) (by show 1 ≤ 1000; decide) hM.fk ?_ st
  have h1 := hPm.out i x h
  rw [hW] at h1
  dsimp only at h1
  rw [(Mat.sortM_srt _).2.length_eq] at h1
  omega
 have hIn := Lib.hid fun (ids : List Int) => refIntsL .shared .shared ids ids
 have hRm : (R.map Rl.cells).length = R.length := List.length_map ..
 have hlm : (l.map Mt.cells).length = l.length := List.length_map ..
 have hlc := hMp Mt.cells l
 have hFm : (F.map Fc.cells).length = F.length := List.length_map ..
 have hall : (R.map Rl.cells).all (fun e => e.length == 4) = true := by
  rw [List.all_eq_true]
  intro e he
  obtain ⟨s, -, rfl⟩ := List.mem_map.1 he
  rfl
 obtain ⟨og, hog⟩ : ∃ og : Nat → List (List D), og = fun i => (F.reverse.take i).map Fc.cells := ⟨_, rfl⟩
 have h0 : og 0 = [] := by rw [hog]; rfl
 have hst : Hid (∀ i, i < F.length → ∃ f, og (i + 1) = og i ++ [Fc.cells f] ∧ (F.map Fc.cells)[F.length - 1 - i]? = some f.cells) := fun i h => by
  obtain ⟨f, hf⟩ : ∃ f, F.reverse[i]? = some f := ⟨_, List.getElem?_eq_getElem (by rw [List.length_reverse]; exact h)⟩
  refine ⟨f, ?_, ?_⟩
  · rw [hog]
    dsimp only
    rw [List.take_add_one, hf, Option.toList_some, List.map_append]
    rfl
  · rw [List.getElem?_reverse h] at hf
    rw [List.getElem?_map, hf]
    rfl
 have hol : Hid (∀ i, (og i).length ≤ 7) := fun i => by
  rw [hog]
  dsimp only
  rw [List.length_map, List.length_take, List.length_reverse]
  omega
 have ho1 : Hid (∀ i, ∀ a ∈ og i, a.length = 5) := fun i a ha => by
  rw [hog] at ha
  obtain ⟨x, -, rfl⟩ := List.mem_map.1 ha
  rfl
 have hend : F.reverse.map Fc.cells = og F.length := by
  rw [hog]
  dsimp only
  rw [List.take_of_length_le (by rw [List.length_reverse]; exact Nat.le_refl _)]
 rw [hend] at hAll2
 clear hog hend hM hl hby hg hP hW hWa hpr htu hids
 generalize l.map Mt.cells = ML at *
 generalize L.map Tm.cells = LS at *
 generalize R.map Rl.cells = RS at *
 generalize hFS : F.map Fc.cells = FS at *
 replace hY := Lib.hid hY
 replace hAll := Lib.hid hAll
 replace hAll2 := Lib.hid hAll2
 replace hSame := Lib.hid hSame
 replace hPe := Lib.hid hPe
 refine Qin [6] Tryz.func8 Tryz.results8 Tryz.ntmps8 ?_
 refine tr_room 43 5 (og 0).length ?_
 rw [h0]
 repeat' (first | refine QX ?_ | (refine QB ?_; intro b) | (refine QP ?_; intro o' ho') | (with_reducible refine QZ ?_ <;> (try constructor) <;> intro hb <;> try intro hb1) | refine Qc Tryz.call14 ((hA.out _)) ?_ | refine Qc Tryz.call15 ((hY.out _)) ?_ | fail)
 refine tr_loopd (ι := Nat) (fun i A st' => i ≤ F.length ∧ A.df = [] ∧ A.e 1 = .sl .shared RS ∧ A.e 2 = .sl .shared FS ∧ A.e 8 = .i ((F.length : Int) - 1 - i) ∧ ∃ o2, o2 ≠ .shared ∧ A.e 7 = .sl o2 (og i) ∧ st' = .room o2 43 5 (og i).length :: st) (fun i => F.length - i) 0 ⟨Nat.zero_le _, Qf, Qf, Qf, Qf, .tight, tight_ne, by rw [h0]; exact Qf, by rw [h0]⟩ ?_
 clear h0 hA hY
 rintro i A st' ⟨hi, hdf, e1, e2, e8, o2, ho2, e7, rfl⟩
 by_cases hlt : i < F.length
 · obtain ⟨f, hs, hfc⟩ := hst.out i hlt
   replace hs := Lib.hid hs
   have hl1 := hol.out i
   have hl3 := ho1.out i
   clear hst hol ho1 hAll hAll2 hSame hPe hPs hPl hPm hOne hIn hlc hall
   rw [show f.cells = [.i f.id, .i f.time, .i f.tmpl, .i f.ver, .sl .shared (f.s.map V.cells)] from rfl] at *
   generalize f.s.map V.cells = VS at *
   generalize f.id = f0 at *
   generalize f.time = f1 at *
   generalize f.tmpl = f2 at *
   generalize f.ver = f3 at *
   obtain ⟨OG, hOG⟩ : ∃ OG, OG = og i := ⟨_, rfl⟩
   rw [← hOG] at hl1 hl3 e7 hs ⊢
   clear hOG
   obtain ⟨j, hj⟩ : ∃ j, j = F.length - 1 - i := ⟨_, rfl⟩
   rw [← hj] at hfc
   rw [show (F.length : Int) - 1 - i = (j : Nat) by omega] at e8
   have hjl : j < F.length := by omega
   replace hj : Hid (j + i + 1 = F.length) := Lib.hid q_o
   repeat' (first | refine QV ?_ | ((with_reducible refine w_draw [] ?_ ?_ ?_ ?_ ?_); (iterate 3 (focus kernel_rfl)); (focus ((repeat (first | exact keep_nil | refine keep_more q_m ?_)); done))) | ((with_reducible refine And.intro ?_ ?_); (focus exact q_k)) | refine QY ?_ | (refine QB ?_; intro b) | (refine QP ?_; intro o' ho') | (with_reducible refine QZ ?_ <;> (try constructor) <;> intro hb <;> try intro hb1) | fail)
   refine ⟨i + 1, .room o' 43 5 (OG ++ [[D.i f0, D.i f1, D.i f2, D.i f3, D.sl .shared VS]]).length :: st, q_t, ⟨hlt, ?_, ?_, ?_, ?_, o', ho', ?_, by rw [hs.out]⟩, by omega⟩
   all_goals first | (rw [hs.out]; exact Qf) | (rw [show (F.length : Int) - 1 - (i + 1 : Nat) = (j : Int) - 1 by have := hj.out; omega]; exact Qf) | exact Qf
 have hil : i = F.length := by omega
 subst hil
 rw [show (F.length : Int) - 1 - (F.length : Nat) = -1 by omega] at e8
 clear hst hol ho1
 generalize og F.length = OG at *
 repeat' (first | refine QX ?_ | (refine QB ?_; intro b) | (refine QP ?_; intro o' ho') | (with_reducible refine QZ ?_ <;> (try constructor) <;> intro hb <;> try intro hb1) | refine QL Tryz.call23 ((hAll.out _)) ?_ | refine QL Tryz.call23 ((hAll2.out _)) ?_ | refine Qc Tryz.call22 ((hSame.out _)) ?_ | fail)
 refine tr_loopd (ι := Nat) (fun i A st' => i ≤ R.length ∧ A.df = [] ∧ A.e 1 = .sl .shared RS ∧ A.e 2 = .sl .shared FS ∧ A.e 9 = .sl .shared ML ∧ A.e 10 = .i (P i) ∧ A.e 11 = .i i ∧ st' = .room o2 43 5 OG.length :: st) (fun i => R.length - i) 0 ⟨Nat.zero_le _, Qf, Qf, Qf, Qf, by rw [hP0]; exact Qf, Qf, rfl⟩ ?_
 clear hAll hAll2 hSame hP0 hdf e1 e2 e7 e8
 rintro i A st' ⟨hi, hdf, e1, e2, e9, e10, e11, rfl⟩
 by_cases hlt : i < R.length
 · obtain ⟨x, hx⟩ := gEx hlt
   have hC := Lib.hid (hOne.out i x hx)
   have hs := Lib.hid (hPs.out i x hx)
   have hat := Lib.hid (hPl.out i x hx)
   have hle := hPm.out i x hx
   have hWm : ((W x).map Mt.cells).length = (W x).length := List.length_map ..
   have hWc : Hid (∀ (i : Nat) (m : Mt), (W x)[i]? = some m → ((W x).map Mt.cells)[i]? = some m.cells) := fun i t h => by rw [List.getElem?_map, h]; rfl
   clear hOne hPs hPl hPm hPe hx
   generalize W x = w at *
   generalize w.map Mt.cells = WC at *
   generalize hTC : (RS.drop i).take 1 = TK at hC
   have hw1 : ((i : Int) + 1).toNat = i + 1 := by omega
   have hw2 : i + 1 - i = 1 := by omega
   generalize P i = p at *
   repeat' (first | refine QX ?_ | (refine QB ?_; intro b) | (refine QP ?_; intro o' ho') | (with_reducible refine QZ ?_ <;> (try constructor) <;> intro hb <;> try intro hb1) | refine Qc Tryz.call23 ((hC.out _)) ?_ | fail)
   refine tr_loopd (ι := Nat) (fun k A st' => k ≤ w.length ∧ A.df = [] ∧ A.e 1 = .sl .shared RS ∧ A.e 2 = .sl .shared FS ∧ A.e 9 = .sl .shared ML ∧ A.e 10 = .i (p + k : Nat) ∧ A.e 11 = .i i ∧ A.e 12 = .sl .shared WC ∧ A.e 13 = .i k ∧ st' = .room o2 43 5 OG.length :: st) (fun k => w.length - k) 0 ⟨Nat.zero_le _, Qf, Qf, Qf, Qf, Qf, Qf, Qf, Qf, rfl⟩ ?_
   clear hC hTC hw1 hw2 hall hdf e1 e2 e9 e10 e11
   rintro k A st' ⟨hk, hdf, e1, e2, e9, e10, e11, e12, e13, rfl⟩
   by_cases hkl : k < w.length
   · obtain ⟨m, hm⟩ := gEx hkl
     have hmc := hWc.out k m hm
     have hlk := hlc.out (p + k) _ (hat.out k m hm)
     have hI := hIn.out m.ids
     rw [decide_eq_true rfl] at hI
     rw [show Mt.cells ⟨(i : Int), m.ids⟩ = [.i i, .sl .shared (m.ids.map encI)] from rfl] at hlk
     rw [show m.cells = [.i m.rule, .sl .shared (m.ids.map encI)] from rfl] at hmc
     clear hWc hlc hat hs hIn hm
     generalize m.rule = mr at *
     generalize m.ids.map encI = IC at *
     replace hI := Lib.hid hI
     obtain ⟨n, hn⟩ : ∃ n, n = p + k := ⟨_, rfl⟩
     rw [← hn] at e10 hlk
     have hnl : n < l.length := by omega
     replace hn := Lib.hid hn
     repeat' (first | refine QV ?_ | ((with_reducible refine QW ?_); intro hne; simp only [nes, ne1, and_assoc] at hne; repeat (have hq := hne.1; replace hne := hne.2)) | refine QY ?_ | (refine QB ?_; intro b) | (refine QP ?_; intro o' ho') | (with_reducible refine QZ ?_ <;> (try constructor) <;> intro hb <;> try intro hb1) | refine Qc Tryz.call29 ((hI.out _)) ?_ | fail)
     refine ⟨k + 1, .room o2 43 5 OG.length :: st, q_u, ⟨hkl, ?_, ?_, ?_, ?_, ?_, ?_, ?_, ?_, rfl⟩, by omega⟩
     all_goals first | (rw [show p + (k + 1) = n + 1 by have := hn.out; omega]; exact Qf) | exact Qf
   · have hkw : k = w.length := by omega
     have hs2 := hs.out
     rw [← hkw] at hs2
     clear hWc hlc hat hs hIn
     repeat' (first | refine QX ?_ | (refine QB ?_; intro b) | (refine QP ?_; intro o' ho') | (with_reducible refine QZ ?_ <;> (try constructor) <;> intro hb <;> try intro hb1) | fail)
     refine ⟨i + 1, .room o2 43 5 OG.length :: st, q_u, ⟨hlt, ?_, ?_, ?_, ?_, ?_, ?_, rfl⟩, by omega⟩
     all_goals first | (rw [hs2]; exact Qf) | exact Qf
 · have hil : i = R.length := by omega
   rw [hil, hPe.out] at e10
   clear hPe hPs hPl hPm hOne hIn hlc hall
   exact WRa
end
end Go.Proofs.YtoeidpmjifjplaaGreat
