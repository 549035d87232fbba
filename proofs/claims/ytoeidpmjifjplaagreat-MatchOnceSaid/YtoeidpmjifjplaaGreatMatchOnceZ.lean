/- The walk of the statement MatchOnce. -/
import Derived.Test.YtoeidpmjifjplaaGreatZ10
set_option linter.all false
set_option maxRecDepth 10000
set_option maxHeartbeats 8000000
namespace Go.Proofs.YtoeidpmjifjplaaGreat
open Go.RowKit
section
attribute [local push_cast] encB encI encC V.cells_mk V.cells_len Nat.mul_one Int.sub_zero List.map_nil beq_self_eq_true bne_self_eq_false List.head?_cons Bool.not_true Bool.not_false Nat.zero_add
set_option maxHeartbeats 16000000
theorem matchOnceLaw (L : List Tm) (R : List Rl) (F : List Fc) (hwL : ∀ t ∈ L, t.Wf) (hlL : L.length ≤ maxLen) (hwR : ∀ x ∈ R, x.Wf) (hlR : R.length ≤ maxLen) (hwF : ∀ f ∈ F, f.Wf) (hlF : F.length ≤ maxLen) (st : St) : TrF Tryz.prog 6 [.sl .shared (L.map Tm.cells), .sl .shared (R.map Rl.cells), .sl .shared (F.map Fc.cells)] st fun d st' => d = .b true ∧ st' = st := by
 have hA := Lib.hid alive18F
 have hY := may18F L R F hwL hlL hwR hlR hwF hlF
 cases hm : Mat.may L R F with
 | false =>
  rw [hm] at hY
  clear hwL hlL hwR hlR hwF hlF
  generalize L.map Tm.cells = LS at *
  generalize R.map Rl.cells = RS at *
  generalize F.map Fc.cells = FS at *
  replace hY := Lib.hid hY
  refine Qin [6] Tryz.func6 Tryz.results6 Tryz.ntmps6 ?_
  repeat' (first | refine QX ?_ | (refine QB ?_; intro b) | (with_reducible refine QZ ?_ <;> (try constructor) <;> intro hb <;> try intro hb1) | refine Qc Tryz.call14 ((hA.out _)) ?_ | refine Qc Tryz.call15 ((hY.out _)) ?_ | fail)
  all_goals exact Qret
 | true =>
 rw [hm] at hY
 have hM := Mat.may_iff hwR hwF hm
 clear hwL hlL hwR hlR hwF hlF hm
 have hAll := matAllM hM
 obtain ⟨l, hl⟩ : ∃ l, l = Mat.sortM (Mat.raws R F) := ⟨_, rfl⟩
 have hll : l.length ≤ 1000000 := by rw [hl, (Mat.sortM_srt _).2.length_eq]; exact Mat.raws_len hM
 have hs : Hid (∀ (i : Nat) (a b : Mt), l[i]? = some a → l[i + 1]? = some b → Mat.less a b = true) := fun i a b ha hb => by
  rw [hl] at ha hb
  exact Mat.sortM_strict (Mat.raws_nodup hM.nd R) ha hb (Nat.lt_succ_self i)
 have ho : Hid (∀ m ∈ l, ∃ (k : Nat) (x : Rl) (e : List V), R[k]? = some x ∧ m.rule = k ∧ Mat.envP x F m.ids = some e ∧ e.length = 8 ∧ m.ids.length ≤ x.pats.length) := fun m h => Mat.once (hl ▸ h)
 have hE : Hid (∀ x ∈ R, ∀ (ids : List Int), ids.length ≤ x.pats.length → ∀ st, TrF Tryz.prog 27 [.agg x.cells, .sl .shared (F.map Fc.cells), .sl .shared (ids.map encI)] st fun d st' => d = envD (Mat.envP x F ids) ∧ st' = st) := fun x hx ids hi st => matEnvF x F (hM.xk x hx) hM.fk ids (by have := (hM.rn x hx).2; omega) st
 have hLs : Hid (∀ a ∈ l, ∀ b ∈ l, ∀ st, TrF Tryz.prog 25 [.agg a.cells, .agg b.cells] st fun d st' => d = .b (Mat.less a b) ∧ st' = st) := fun a ha b hb st => by
  have h1 : ∀ m ∈ l, m.ids.length ≤ 1000000 := fun m hm => by
   obtain ⟨k, x, e, h1, -, -, -, h2⟩ := ho.out m hm
   have := (hM.rn x (List.mem_of_getElem? h1)).2
   omega
  exact matLessF a b (h1 a ha) (h1 b hb) st
 have hRl := hM.rl
 have hRm : (R.map Rl.cells).length = R.length := List.length_map ..
 have hRc := hMp Rl.cells R
 have hlm : (l.map Mt.cells).length = l.length := List.length_map ..
 have hlc := hMp Mt.cells l
 rw [← hl] at hAll
 clear hl hM
 generalize l.map Mt.cells = ML at *
 generalize L.map Tm.cells = LS at *
 generalize R.map Rl.cells = RS at *
 generalize hFS : F.map Fc.cells = FS at *
 replace hY := Lib.hid hY
 replace hAll := Lib.hid hAll
 refine Qin [6] Tryz.func6 Tryz.results6 Tryz.ntmps6 ?_
 repeat' (first | refine QX ?_ | (refine QB ?_; intro b) | (with_reducible refine QZ ?_ <;> (try constructor) <;> intro hb <;> try intro hb1) | refine Qc Tryz.call14 ((hA.out _)) ?_ | refine Qc Tryz.call15 ((hY.out _)) ?_ | refine Qc Tryz.call23 ((hAll.out _)) ?_ | fail)
 refine tr_loopd (ι := Nat) (fun i A st' => i ≤ l.length ∧ A.df = [] ∧ A.e 1 = .sl .shared RS ∧ A.e 2 = .sl .shared FS ∧ A.e 7 = .sl .shared ML ∧ A.e 8 = .i i ∧ st = st') (fun i => l.length - i) 0 ⟨Nat.zero_le _, Qf, Qf, Qf, Qf, Qf, rfl⟩ ?_
 clear hA hY hAll
 rintro i A st' ⟨hi, hdf, e1, e2, e7, e8, rfl⟩
 by_cases hlt : i < l.length
 · obtain ⟨m, hm⟩ := gEx hlt
   have hmc := hlc.out i m hm
   have hmm := List.mem_of_getElem? hm
   obtain ⟨k, x, e, h1, h2, h3, h4, h5⟩ := ho.out m hmm
   have hxm := List.mem_of_getElem? h1
   have hxc := hRc.out k x h1
   have hkl := (List.getElem?_eq_some_iff.1 h1).1
   have hEx := hE.out x hxm m.ids h5
   rw [h3] at hEx
   have hel : (e.map V.cells).length = 8 := by rw [List.length_map]; exact h4
   rw [show envD (some e) = .tup [.sl .shared (e.map V.cells), .b true] from rfl] at hEx
   rcases Nat.eq_zero_or_pos i with rfl | hpos
   · clear hs hlc ho hRc hE hLs hm hmm hxm h1 h3 h4 h5
     rw [show m.cells = [.i m.rule, .sl .shared (m.ids.map encI)] from rfl, h2] at hmc
     rw [show x.cells = [.str x.name, .i x.sal, .sl .shared (x.pats.map Pt.cells), .sl .shared (x.acts.map Ac.cells)] from rfl] at *
     clear h2
     generalize x.pats.map Pt.cells = PS at *
     generalize x.acts.map Ac.cells = AS at *
     generalize x.name = nm at *
     generalize x.sal = sal at *
     generalize m.ids.map encI = IC at *
     generalize e.map V.cells = EC at *
     replace hEx := Lib.hid hEx
     repeat' (first | refine QV ?_ | ((with_reducible refine QW ?_); intro hne; simp only [nes, ne1, and_assoc] at hne; repeat (have hq := hne.1; replace hne := hne.2)) | refine QY ?_ | (refine QB ?_; intro b) | (with_reducible refine QZ ?_ <;> (try constructor) <;> intro hb <;> try intro hb1) | refine Qc Tryz.call27 ((hEx.out _)) ?_ | fail)
     refine ⟨0 + 1, st, q_u, ⟨hlt, ?_, ?_, ?_, ?_, ?_, rfl⟩, by omega⟩
     all_goals exact Qf
   · obtain ⟨j, hj⟩ : ∃ j, i = j + 1 := ⟨i - 1, by omega⟩
     obtain ⟨a, ha⟩ := gEx (l := l) (i := j) q_o
     have hac := hlc.out j a ha
     have hle := hLs.out a (List.mem_of_getElem? ha) m hmm
     rw [hs.out j a m ha (hj ▸ hm)] at hle
     clear hs hlc ho hRc hE hLs hm hmm hxm h1 h3 h4 h5 ha
     rw [show m.cells = [.i m.rule, .sl .shared (m.ids.map encI)] from rfl] at *
     generalize m.rule = mr at *
     subst h2
     rw [show a.cells = [.i a.rule, .sl .shared (a.ids.map encI)] from rfl] at *
     rw [show x.cells = [.str x.name, .i x.sal, .sl .shared (x.pats.map Pt.cells), .sl .shared (x.acts.map Ac.cells)] from rfl] at *
     generalize x.pats.map Pt.cells = PS at *
     generalize x.acts.map Ac.cells = AS at *
     generalize x.name = nm at *
     generalize x.sal = sal at *
     generalize m.ids.map encI = IC at *
     generalize a.ids.map encI = IA at *
     generalize a.rule = ra at *
     generalize e.map V.cells = EC at *
     have hw : ((i : Int) - 1) = j := by omega
     replace hj : j < i := by omega
     replace hEx := Lib.hid hEx
     replace hle := Lib.hid hle
     repeat' (first | refine QV ?_ | ((with_reducible refine QW ?_); intro hne; simp only [nes, ne1, and_assoc] at hne; repeat (have hq := hne.1; replace hne := hne.2)) | refine QY ?_ | (refine QB ?_; intro b) | (with_reducible refine QZ ?_ <;> (try constructor) <;> intro hb <;> try intro hb1) | refine Qc Tryz.call25 ((hle.out _)) ?_ | refine Qc Tryz.call27 ((hEx.out _)) ?_ | fail)
     refine ⟨i + 1, st, q_u, ⟨hlt, ?_, ?_, ?_, ?_, ?_, rfl⟩, by omega⟩
     all_goals exact Qf
 · clear hs hlc ho hRc hE hLs
   exact WR
end
end Go.Proofs.YtoeidpmjifjplaaGreat
