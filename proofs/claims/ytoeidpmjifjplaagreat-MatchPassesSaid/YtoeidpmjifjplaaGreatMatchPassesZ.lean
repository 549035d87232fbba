/- The walk of the statement MatchPasses. -/
import Derived.Test.YtoeidpmjifjplaaGreatZ10
set_option linter.all false
set_option maxRecDepth 10000
set_option maxHeartbeats 8000000
namespace Go.Proofs.YtoeidpmjifjplaaGreat
open Go.RowKit
section
attribute [local push_cast] encB encI encC V.cells_mk V.cells_len Nat.mul_one Int.sub_zero List.map_nil beq_self_eq_true bne_self_eq_false List.head?_cons Bool.not_true Bool.not_false Nat.zero_add
set_option maxHeartbeats 16000000
theorem allSelfF (e : List V) (h : ∀ v ∈ e, v.Ok) (hl : e.length ≤ 1000000) (o o' : Own) (st : St) : TrF Tryz.prog 19 [.sl o (e.map V.cells), .sl o' (e.map V.cells)] st fun d st' => d = .b true ∧ st' = st := by
 have := refAllF o o' e e h q_o st
 rwa [V.cmpL_self, show ((0 : Int) == 0) = true from rfl] at this
theorem empty_ok : ∀ v ∈ Mat.empty, v.Ok := fun v hv => by
 rw [List.eq_of_mem_replicate hv]
 exact w_ok 0 0 (by decide)
theorem matchPassesLaw (L : List Tm) (R : List Rl) (F : List Fc) (E : List V) (hwL : ∀ t ∈ L, t.Wf) (hlL : L.length ≤ maxLen) (hwR : ∀ x ∈ R, x.Wf) (hlR : R.length ≤ maxLen) (hwF : ∀ f ∈ F, f.Wf) (hlF : F.length ≤ maxLen) (hwE : ∀ v ∈ E, v.Ok) (hlE : E.length ≤ maxLen) (st : St) : TrF Tryz.prog 3 [.sl .shared (L.map Tm.cells), .sl .shared (R.map Rl.cells), .sl .shared (F.map Fc.cells), .sl .shared (E.map V.cells)] st fun d st' => d = .b true ∧ st' = st := by
 have hA := Lib.hid alive18F
 have hY := may18F L R F hwL hlL hwR hlR hwF hlF
 have hEm : (E.map V.cells).length = E.length := List.length_map ..
 unfold maxLen at hlE
 cases hm : Mat.may L R F with
 | false =>
  rw [hm] at hY
  clear hwL hlL hwR hlR hwF hlF hwE hlE
  generalize L.map Tm.cells = LS at *
  generalize R.map Rl.cells = RS at *
  generalize F.map Fc.cells = FS at *
  generalize E.map V.cells = ES at *
  replace hY := Lib.hid hY
  refine Qin [8] Tryz.func3 Tryz.results3 Tryz.ntmps3 ?_
  repeat' (first | refine QX ?_ | (refine QB ?_; intro b) | (with_reducible refine QZ ?_ <;> (try constructor) <;> intro hb <;> try intro hb1) | refine Qc Tryz.call14 ((hA.out _)) ?_ | refine Qc Tryz.call15 ((hY.out _)) ?_ | fail)
  all_goals exact Qret
 | true =>
 rw [hm] at hY
 have hM := Mat.may_iff hwR hwF hm
 clear hwL hlL hwR hlR hwF hlF hm
 by_cases h20 : 20 < E.length
 · clear hM hwE
   generalize L.map Tm.cells = LS at *
   generalize R.map Rl.cells = RS at *
   generalize F.map Fc.cells = FS at *
   generalize E.map V.cells = ES at *
   replace hY := Lib.hid hY
   refine Qin [8] Tryz.func3 Tryz.results3 Tryz.ntmps3 ?_
   repeat' (first | refine QX ?_ | (refine QB ?_; intro b) | (with_reducible refine QZ ?_ <;> (try constructor) <;> intro hb <;> try intro hb1) | refine Qc Tryz.call14 ((hA.out _)) ?_ | refine Qc Tryz.call15 ((hY.out _)) ?_ | fail)
   all_goals exact Qret
 have hP : Hid (∀ x ∈ R, ∀ p ∈ x.pats, ∀ f ∈ F, ∀ st, TrF Tryz.prog 17 [.agg p.cells, .agg f.cells, .sl .shared (E.map V.cells)] st fun d st' => d = passD (Mat.pass p f E) ∧ st' = st) := fun x hx p hp f hf st => matPassF p f E ((hM.xk x hx).p p hp).v ((hM.xk x hx).p p hp).l (hM.fk.f f hf) (fun v hv => (hwE v hv).bg) q_o .shared st
 have hQ : Hid (∀ x ∈ R, ∀ p ∈ x.pats, ∀ f ∈ F, ∀ st, TrF Tryz.prog 18 [.agg p.cells, .agg f.cells, .sl .shared (E.map V.cells)] st fun d st' => d = passD (Mat.pass p f E) ∧ st' = st) := fun x hx p hp f hf st => refPass18F p f E ((hM.xk x hx).p p hp).l (hM.fk.f f hf) q_o .shared st
 have hS : Hid (∀ p, ∀ f ∈ F, ∀ e, Mat.pass p f E = some e → ∀ o o' st, TrF Tryz.prog 19 [.sl o (e.map V.cells), .sl o' (e.map V.cells)] st fun d st' => d = .b true ∧ st' = st) := fun p f hf e he o o' st => allSelfF e (Mat.pass_mem he (fun x hx => ((hM.fk.f f hf).v x hx).1) hwE) (by rw [Mat.pass_len he]; decide) o o' st
 have hS0 := Lib.hid fun st => allSelfF [] (fun v hv => by cases hv) (by decide) .tight .tight st
 have hS8 := Lib.hid fun st => allSelfF Mat.empty empty_ok (by decide) .shared .shared st
 have hV : Hid (∀ x ∈ E, ∀ st, TrF Tryz.prog 16 [.agg x.cells] st fun d st' => d = .b x.great ∧ st' = st) := fun x hx st => refGreatF x (hwE x hx) st
 have hE1 := matEmptyF
 have hE2 := refEmpty18F
 have hM8 : (Mat.empty.map V.cells).length = 8 := by rw [List.length_map]; rfl
 have hRl := hM.rl
 have hFl := hM.fl
 have hPn : Hid (∀ x ∈ R, x.pats.length ≤ 4) := fun x hx => (hM.rn x hx).2
 have hRm : (R.map Rl.cells).length = R.length := List.length_map ..
 have hRc := hMp Rl.cells R
 have hFm : (F.map Fc.cells).length = F.length := List.length_map ..
 have hFc := hMp Fc.cells F
 have hEc := hMp V.cells E
 clear hM hwE
 generalize L.map Tm.cells = LS at *
 generalize R.map Rl.cells = RS at *
 generalize F.map Fc.cells = FS at *
 generalize E.map V.cells = ES at *
 generalize Mat.empty.map V.cells = EM at *
 replace hY := Lib.hid hY
 replace hE1 := Lib.hid hE1
 replace hE2 := Lib.hid hE2
 refine Qin [8] Tryz.func3 Tryz.results3 Tryz.ntmps3 ?_
 repeat' (first | refine QX ?_ | (refine QB ?_; intro b) | (with_reducible refine QZ ?_ <;> (try constructor) <;> intro hb <;> try intro hb1) | refine Qc Tryz.call14 ((hA.out _)) ?_ | refine Qc Tryz.call15 ((hY.out _)) ?_ | fail)
 refine tr_loopd (ι := Nat) (fun i A st' => i ≤ E.length ∧ A.df = [] ∧ A.e 1 = .sl .shared RS ∧ A.e 2 = .sl .shared FS ∧ A.e 3 = .sl .shared ES ∧ A.e 9 = .i i ∧ st = st') (fun i => E.length - i) 0 ⟨Nat.zero_le _, Qf, Qf, Qf, Qf, Qf, rfl⟩ ?_
 clear hA hY
 rintro i A st' ⟨hi, hdf, e1, e2, e3, e9, rfl⟩
 by_cases hlt : i < E.length
 · obtain ⟨x, hx⟩ := gEx hlt
   have hxc := hEc.out i x hx
   have hVx := hV.out x (List.mem_of_getElem? hx)
   clear hP hQ hS hS0 hS8 hV hE1 hE2 hPn hRc hFc hEc hx
   cases x with
   | mk k1 n1 s1 l1 =>
   rw [V.cells_mk] at hxc hVx
   generalize V.great (V.mk k1 n1 s1 l1) = g at *
   generalize l1.map V.cells = L1 at *
   replace hVx := Lib.hid hVx
   cases g with
   | true =>
    repeat' (first | refine QX ?_ | (refine QB ?_; intro b) | (with_reducible refine QZ ?_ <;> (try constructor) <;> intro hb <;> try intro hb1) | refine Qc Tryz.call16 ((hVx.out _)) ?_ | fail)
    all_goals exact Qret
   | false =>
    repeat' (first | refine QX ?_ | (refine QB ?_; intro b) | (with_reducible refine QZ ?_ <;> (try constructor) <;> intro hb <;> try intro hb1) | refine Qc Tryz.call16 ((hVx.out _)) ?_ | fail)
    refine ⟨i + 1, st, q_u, ⟨hlt, ?_, ?_, ?_, ?_, ?_, rfl⟩, by omega⟩
    all_goals exact Qf
 have hil : i = E.length := by omega
 subst hil
 clear hV hEc
 repeat' (first | refine QX ?_ | (refine QB ?_; intro b) | (with_reducible refine QZ ?_ <;> (try constructor) <;> intro hb <;> try intro hb1) | fail)
 refine tr_loopd (ι := Nat) (fun i A st' => i ≤ R.length ∧ A.df = [] ∧ A.e 1 = .sl .shared RS ∧ A.e 2 = .sl .shared FS ∧ A.e 3 = .sl .shared ES ∧ A.e 10 = .i i ∧ st = st') (fun i => R.length - i) 0 ⟨Nat.zero_le _, Qf, Qf, Qf, Qf, Qf, rfl⟩ ?_
 clear hdf e1 e2 e3 e9 hi hlt h20 hlE hEm
 rintro i A st' ⟨hi, hdf, e1, e2, e3, e10, rfl⟩
 by_cases hlt : i < R.length
 · obtain ⟨x, hx⟩ := gEx hlt
   have hxc := hRc.out i x hx
   have hxm := List.mem_of_getElem? hx
   have hPx := Lib.hid (hP.out x hxm)
   have hQx := Lib.hid (hQ.out x hxm)
   have hPl := hPn.out x hxm
   have hPm : (x.pats.map Pt.cells).length = x.pats.length := List.length_map ..
   have hPc := hMp Pt.cells x.pats
   clear hP hQ hPn hRc hx hxm hS8 hE1 hE2
   rw [show x.cells = [.str x.name, .i x.sal, .sl .shared (x.pats.map Pt.cells), .sl .shared (x.acts.map Ac.cells)] from rfl] at *
   generalize x.pats.map Pt.cells = PS at *
   generalize x.acts.map Ac.cells = AS at *
   generalize x.name = nm at *
   generalize x.sal = sal at *
   generalize x.pats = ps at *
   clear x
   repeat' (first | refine QX ?_ | (refine QB ?_; intro b) | (with_reducible refine QZ ?_ <;> (try constructor) <;> intro hb <;> try intro hb1) | fail)
   refine tr_loopd (ι := Nat) (fun k A st' => k ≤ ps.length ∧ A.df = [] ∧ A.e 1 = .sl .shared RS ∧ A.e 2 = .sl .shared FS ∧ A.e 3 = .sl .shared ES ∧ A.e 10 = .i i ∧ A.e 11 = .i k ∧ st = st') (fun k => ps.length - k) 0 ⟨Nat.zero_le _, Qf, Qf, Qf, Qf, Qf, Qf, rfl⟩ ?_
   clear hdf e1 e2 e3 e10
   rintro k A st' ⟨hk, hdf, e1, e2, e3, e10, e11, rfl⟩
   by_cases hkl : k < ps.length
   · obtain ⟨p, hp⟩ := gEx hkl
     have hpc := hPc.out k p hp
     have hpm := List.mem_of_getElem? hp
     have hPp := Lib.hid (hPx.out p hpm)
     have hQp := Lib.hid (hQx.out p hpm)
     have hSp := Lib.hid (hS.out p)
     clear hPx hQx hS hPc hp hpm
     unfold Pt.cells at *
     obtain ⟨T, hT⟩ : ∃ T : Fc → Option (List V), T = fun f => Mat.pass p f E := ⟨_, rfl⟩
     have hPp2 : Hid (∀ f ∈ F, ∀ st, TrF Tryz.prog 17 [.agg [.i p.tmpl, .b p.neg, .sl .shared (p.tests.map Ts.cells)], .agg f.cells, .sl .shared ES] st fun d st' => d = passD (T f) ∧ st' = st) := by rw [hT]; exact hPp.out
     have hQp2 : Hid (∀ f ∈ F, ∀ st, TrF Tryz.prog 18 [.agg [.i p.tmpl, .b p.neg, .sl .shared (p.tests.map Ts.cells)], .agg f.cells, .sl .shared ES] st fun d st' => d = passD (T f) ∧ st' = st) := by rw [hT]; exact hQp.out
     have hSp2 : Hid (∀ f ∈ F, ∀ e, T f = some e → ∀ o o' st, TrF Tryz.prog 19 [.sl o (e.map V.cells), .sl o' (e.map V.cells)] st fun d st' => d = .b true ∧ st' = st) := by rw [hT]; exact hSp.out
     clear hPp hQp hSp hT
     generalize p.tests.map Ts.cells = TS at *
     generalize p.tmpl = p0 at *
     generalize p.neg = p1 at *
     clear p
     repeat' (first | refine QX ?_ | (refine QB ?_; intro b) | (with_reducible refine QZ ?_ <;> (try constructor) <;> intro hb <;> try intro hb1) | fail)
     refine tr_loopd (ι := Nat) (fun m A st' => m ≤ F.length ∧ A.df = [] ∧ A.e 1 = .sl .shared RS ∧ A.e 2 = .sl .shared FS ∧ A.e 3 = .sl .shared ES ∧ A.e 10 = .i i ∧ A.e 11 = .i k ∧ A.e 12 = .i m ∧ st = st') (fun m => F.length - m) 0 ⟨Nat.zero_le _, Qf, Qf, Qf, Qf, Qf, Qf, Qf, rfl⟩ ?_
     clear hdf e1 e2 e3 e10 e11
     rintro m A st' ⟨hm, hdf, e1, e2, e3, e10, e11, e12, rfl⟩
     by_cases hml : m < F.length
     · obtain ⟨f, hf⟩ := gEx hml
       have hfc := hFc.out m f hf
       have hfm := List.mem_of_getElem? hf
       have hPf := hPp2.out f hfm
       have hQf := hQp2.out f hfm
       have hSf := Lib.hid (hSp2.out f hfm)
       clear hPp2 hQp2 hSp2 hFc hf hfm
       rw [show f.cells = [.i f.id, .i f.time, .i f.tmpl, .i f.ver, .sl .shared (f.s.map V.cells)] from rfl] at *
       generalize f.id = f0 at *
       generalize f.time = f1 at *
       generalize f.tmpl = f2 at *
       generalize f.ver = f3 at *
       generalize f.s.map V.cells = VS at *
       cases hq : T f with
       | none =>
        rw [hq] at hPf hQf
        dsimp only [passD] at hPf hQf
        clear hSf hq
        replace hPf := Lib.hid hPf
        replace hQf := Lib.hid hQf
        repeat' (first | refine QV ?_ | ((with_reducible refine QW ?_); intro hne; simp only [nes, ne1, and_assoc] at hne; repeat (have hq := hne.1; replace hne := hne.2)) | refine QY ?_ | (refine QB ?_; intro b) | (with_reducible refine QZ ?_ <;> (try constructor) <;> intro hb <;> try intro hb1) | refine Qc Tryz.call17 ((hPf.out _)) ?_ | refine Qc Tryz.call18 ((hQf.out _)) ?_ | refine Qc Tryz.call19 ((hS0.out _)) ?_ | fail)
        refine ⟨m + 1, st, q_u, ⟨hml, ?_, ?_, ?_, ?_, ?_, ?_, ?_, rfl⟩, by omega⟩
        all_goals exact Qf
       | some e =>
        rw [hq] at hPf hQf
        dsimp only [passD] at hPf hQf
        have hSe := Lib.hid (hSf.out e hq)
        have hEC : Hid ((e.map V.cells).length = e.length) := Lib.hid (List.length_map ..)
        clear hSf hq hEC
        generalize e.map V.cells = EC at *
        replace hPf := Lib.hid hPf
        replace hQf := Lib.hid hQf
        repeat' (first | refine QV ?_ | ((with_reducible refine QW ?_); intro hne; simp only [nes, ne1, and_assoc] at hne; repeat (have hq := hne.1; replace hne := hne.2)) | refine QY ?_ | (refine QB ?_; intro b) | (with_reducible refine QZ ?_ <;> (try constructor) <;> intro hb <;> try intro hb1) | refine Qc Tryz.call17 ((hPf.out _)) ?_ | refine Qc Tryz.call18 ((hQf.out _)) ?_ | refine Qc Tryz.call19 ((hSe.out _ _ _)) ?_ | fail)
        refine ⟨m + 1, st, q_u, ⟨hml, ?_, ?_, ?_, ?_, ?_, ?_, ?_, rfl⟩, by omega⟩
        all_goals exact Qf
     · clear hPp2 hQp2 hSp2 hFc
       repeat' (first | refine QX ?_ | (refine QB ?_; intro b) | (with_reducible refine QZ ?_ <;> (try constructor) <;> intro hb <;> try intro hb1) | fail)
       refine ⟨k + 1, st, q_u, ⟨hkl, ?_, ?_, ?_, ?_, ?_, ?_, rfl⟩, by omega⟩
       all_goals exact Qf
   · clear hPx hQx hS hPc hFc
     repeat' (first | refine QX ?_ | (refine QB ?_; intro b) | (with_reducible refine QZ ?_ <;> (try constructor) <;> intro hb <;> try intro hb1) | fail)
     refine ⟨i + 1, st, q_u, ⟨hlt, ?_, ?_, ?_, ?_, ?_, rfl⟩, by omega⟩
     all_goals exact Qf
 · clear hP hQ hS hS0 hPn hRc hFc
   repeat' (first | refine QX ?_ | (refine QB ?_; intro b) | (with_reducible refine QZ ?_ <;> (try constructor) <;> intro hb <;> try intro hb1) | refine Qc Tryz.call20 ((hE1.out _)) ?_ | refine Qc Tryz.call21 ((hE2.out _)) ?_ | refine Qc Tryz.call19 ((hS8.out _)) ?_ | fail)
   all_goals exact Qret
end
end Go.Proofs.YtoeidpmjifjplaaGreat
