/- The walk of the statement MatchFewer. -/
import Derived.Test.YtoeidpmjifjplaaGreatZ10
set_option linter.all false
set_option maxRecDepth 10000
set_option maxHeartbeats 8000000
namespace Go.Proofs.YtoeidpmjifjplaaGreat
open Go.RowKit
section
attribute [local push_cast] encB encI encC V.cells_mk V.cells_len Nat.mul_one Int.sub_zero List.map_nil beq_self_eq_true bne_self_eq_false List.head?_cons Bool.not_true Bool.not_false Nat.zero_add
set_option maxHeartbeats 16000000
namespace Mat
theorem fewer_at {F : List Fc} (hu : (F.map Fc.id).Nodup) {k : Nat} {g : Fc} (h : F[k]? = some g) : F.take k ++ F.drop (k + 1) = F.filter fun f => f.id ≠ g.id := by
 have e : F = F.take k ++ g :: F.drop (k + 1) := by rw [← V.drop_cons h, List.take_append_drop]
 rw [e, List.map_append, List.map_cons, List.nodup_append, List.nodup_cons] at hu
 obtain ⟨-, ⟨h1, -⟩, h2⟩ := hu
 have e1 : (F.take k).filter (fun f => f.id ≠ g.id) = F.take k := List.filter_eq_self.2 fun f hf => decide_eq_true (h2 f.id (List.mem_map_of_mem hf) g.id (List.mem_cons_self ..))
 have e2 : (F.drop (k + 1)).filter (fun f => f.id ≠ g.id) = F.drop (k + 1) := List.filter_eq_self.2 fun f hf => decide_eq_true fun e => h1 (e ▸ List.mem_map_of_mem hf)
 have e3 : F.filter (fun f => f.id ≠ g.id) = (F.take k ++ g :: F.drop (k + 1)).filter (fun f => f.id ≠ g.id) := by rw [← e]
 rw [e3, List.filter_append, List.filter_cons_of_neg (by simp), e1, e2]
end Mat
theorem matchFewerLaw (L : List Tm) (R : List Rl) (F : List Fc) (hwL : ∀ t ∈ L, t.Wf) (hlL : L.length ≤ maxLen) (hwR : ∀ x ∈ R, x.Wf) (hlR : R.length ≤ maxLen) (hwF : ∀ f ∈ F, f.Wf) (hlF : F.length ≤ maxLen) (n : UInt8) (st : St) : TrF Tryz.prog 7 [.sl .shared (L.map Tm.cells), .sl .shared (R.map Rl.cells), .sl .shared (F.map Fc.cells), .y n] st fun d st' => d = .b true ∧ st' = st := by
 have hA := Lib.hid alive18F
 have hY := may18F L R F hwL hlL hwR hlR hwF hlF
 cases hm : Mat.may L R F with
 | false =>
  rw [hm] at hY
  clear hwL hlL hwR hlR hwF hlF
  generalize L.map Tm.cells = LS at *
  generalize R.map Rl.cells = RS at *
  generalize F.map Fc.cells = FS at *
  replace hY := Lib.hid hY
  refine Qin [8] Tryz.func7 Tryz.results7 Tryz.ntmps7 ?_
  repeat' (first | refine QX ?_ | (refine QB ?_; intro b) | (refine QP ?_; intro o' ho') | (with_reducible refine QZ ?_ <;> (try constructor) <;> intro hb <;> try intro hb1) | refine Qc Tryz.call14 ((hA.out _)) ?_ | refine Qc Tryz.call15 ((hY.out _)) ?_ | fail)
  all_goals exact Qret
 | true =>
 rw [hm] at hY
 have hM := Mat.may_iff hwR hwF hm
 clear hwL hlL hwR hlR hwF hlF hm
 have hFm : (F.map Fc.cells).length = F.length := List.length_map ..
 by_cases h0 : F.length = 0
 · clear hM
   generalize L.map Tm.cells = LS at *
   generalize R.map Rl.cells = RS at *
   generalize F.map Fc.cells = FS at *
   replace hY := Lib.hid hY
   refine Qin [8] Tryz.func7 Tryz.results7 Tryz.ntmps7 ?_
   repeat' (first | refine QX ?_ | (refine QB ?_; intro b) | (refine QP ?_; intro o' ho') | (with_reducible refine QZ ?_ <;> (try constructor) <;> intro hb <;> try intro hb1) | refine Qc Tryz.call14 ((hA.out _)) ?_ | refine Qc Tryz.call15 ((hY.out _)) ?_ | fail)
   all_goals exact Qret
 have hAll := matAllM hM
 have hRl := hM.rl
 have hFl := hM.fl
 obtain ⟨k, hk2⟩ : ∃ k, n.toNat % F.length = k := ⟨_, rfl⟩
 have hkl : k < F.length := by
  have := Nat.mod_lt n.toNat (show 0 < F.length by omega)
  omega
 obtain ⟨g, hg⟩ := gEx hkl
 have hn8 : n.toNat < 256 := UInt8.toNat_lt n
 have hrem : ∀ ty, aBin Tryz.prog .rem ty (.i (n.toNat : Int)) (.i (F.length : Int)) = some (.i (k : Int)) := fun ty => by
  have h0 : ((F.length : Int) == 0) = false := by rw [beq_eq_false_iff_ne]; omega
  rw [bin_rem h0, ← hk2]; rfl
 have hfw := Mat.fewer_at hM.nd hg
 have hlw : (F.take k ++ F.drop (k + 1)).length ≤ 7 := by rw [List.length_append, List.length_take, List.length_drop]; omega
 have hAll2 := matAllF R (F.take k ++ F.drop (k + 1)) hM.xk q_o ⟨fun f hf => hM.fk.f f (by
  rcases List.mem_append.1 hf with h | h
  · exact List.mem_of_mem_take h
  · exact List.mem_of_mem_drop h), by omega⟩ (Mat.raws_le hRl (fun x hx => (hM.rn x hx).2) hlw)
 have hfe : Hid ((∀ x ∈ R, ∀ p ∈ x.pats, p.neg = false) → Mat.sortM (Mat.raws R (F.take k ++ F.drop (k + 1))) = (Mat.sortM (Mat.raws R F)).filter fun m => decide (g.id ∉ m.ids)) := fun h => by
  rw [hfw]; exact Mat.fewer g.id h
 obtain ⟨l, hl⟩ : ∃ l, l = Mat.sortM (Mat.raws R F) := ⟨_, rfl⟩
 have hll : l.length ≤ 1000000 := by rw [hl, (Mat.sortM_srt _).2.length_eq]; exact Mat.raws_len hM
 have hids : Hid (∀ m ∈ l, m.ids.length ≤ 1000000) := fun m h => by
  obtain ⟨k, x, e, h1, -, -, -, h2⟩ := Mat.once (hl ▸ h)
  have := (hM.rn x (List.mem_of_getElem? h1)).2
  omega
 have hpl : Hid (∀ x ∈ R, x.pats.length ≤ 4) := fun x hx => (hM.rn x hx).2
 rw [← hl] at hAll hfe
 rw [List.map_append, List.map_take, List.map_drop] at hAll2
 generalize Mat.sortM (Mat.raws R (F.take k ++ F.drop (k + 1))) = l2 at *
 clear hl hM hfw hlw
 have hRm : (R.map Rl.cells).length = R.length := List.length_map ..
 have hRc := hMp Rl.cells R
 have hlm : (l.map Mt.cells).length = l.length := List.length_map ..
 have hlc := hMp Mt.cells l
 have hgc : (F.map Fc.cells)[k]? = some g.cells := by rw [List.getElem?_map, hg]; rfl
 have hL3 : ∀ e ∈ F.map Fc.cells, e.length = 5 := fun e he => by
  obtain ⟨w, -, rfl⟩ := List.mem_map.1 he
  rfl
 rw [show g.cells = [.i g.id, .i g.time, .i g.tmpl, .i g.ver, .sl .shared (g.s.map V.cells)] from rfl] at hgc
 generalize g.s.map V.cells = GS at *
 generalize g.id = gid at *
 generalize g.time = g1 at *
 generalize g.tmpl = g2 at *
 generalize g.ver = g3 at *
 obtain ⟨og, hog⟩ : ∃ og : Nat → List (List D), og = fun i => ((l.take i).filter fun m => decide (gid ∉ m.ids)).map Mt.cells := ⟨_, rfl⟩
 have hog0 : og 0 = [] := by rw [hog]; rfl
 have hos : Hid (∀ (i : Nat) (m : Mt), l[i]? = some m → og (i + 1) = og i ++ (if gid ∈ m.ids then [] else [m.cells])) := fun i m h => by
  rw [hog]
  dsimp only
  rw [List.take_add_one, h, Option.toList_some, List.filter_append, List.map_append]
  congr 1
  by_cases hq : gid ∈ m.ids
  · rw [if_pos hq, List.filter_cons_of_neg (by simpa using hq)]; rfl
  · rw [if_neg hq, List.filter_cons_of_pos (by simpa using hq)]; rfl
 have hol : Hid (∀ i, (og i).length ≤ 1000000) := fun i => by
  rw [hog]
  dsimp only
  rw [List.length_map]
  have h1 := List.length_filter_le (fun m : Mt => decide (gid ∉ m.ids)) (l.take i)
  rw [List.length_take] at h1
  omega
 have ho1 : Hid (∀ i, ∀ a ∈ og i, a.length = 2) := fun i a ha => by
  rw [hog] at ha
  obtain ⟨x, -, rfl⟩ := List.mem_map.1 ha
  rfl
 have hSame : Hid ((∀ x ∈ R, ∀ p ∈ x.pats, p.neg = false) → ∀ st, TrF Tryz.prog 22 [.sl .shared (l2.map Mt.cells), .sl .shared (og l.length)] st fun d st' => d = .b true ∧ st' = st) := fun h st => by
  have e := hfe.out h
  have e2 : og l.length = l2.map Mt.cells := by
   rw [hog, e]
   dsimp only
   rw [List.take_length]
  rw [e2]
  have h1 : ∀ m ∈ l2, m.ids.length ≤ 1000000 := fun m hm => hids.out m (List.mem_filter.1 (e ▸ hm)).1
  have h2 := refSame18F l2 l2 h1 h1 (by
   rw [e]
   exact Nat.le_trans (List.length_filter_le ..) hll) st
  rw [Mat.same_self] at h2
  exact h2
 clear hog hfe hk2 hg
 generalize l2.map Mt.cells = M2 at *
 generalize l.map Mt.cells = ML at *
 generalize L.map Tm.cells = LS at *
 generalize R.map Rl.cells = RS at *
 generalize F.map Fc.cells = FS at *
 have hall : FS.all (fun e => e.length == 5) = true := by
  rw [List.all_eq_true]
  intro e he
  rw [hL3 e he]; rfl
 have hLT : ∀ e ∈ FS.take k, e.length = 5 := fun e he => hL3 e (List.mem_of_mem_take he)
 have hLD : ∀ e ∈ FS.drop (k + 1), e.length = 5 := fun e he => hL3 e (List.mem_of_mem_drop he)
 have hmT : (FS.take k).length = k := by rw [List.length_take]; omega
 have hmD : (FS.drop (k + 1)).length = F.length - (k + 1) := by rw [List.length_drop, hFm]
 have hN1 : ((k : Int) + 1).toNat = k + 1 := by omega
 have hTD : (FS.drop (k + 1)).take (F.length - (k + 1)) = FS.drop (k + 1) := List.take_of_length_le q_o
 clear hL3
 replace hY := Lib.hid hY
 replace hAll := Lib.hid hAll
 replace hAll2 := Lib.hid hAll2
 refine Qin [8] Tryz.func7 Tryz.results7 Tryz.ntmps7 ?_
 repeat' (first | refine QX ?_ | (refine QB ?_; intro b) | (refine QP ?_; intro o' ho') | (with_reducible refine QZ ?_ <;> (try constructor) <;> intro hb <;> try intro hb1) | refine Qc Tryz.call14 ((hA.out _)) ?_ | refine Qc Tryz.call15 ((hY.out _)) ?_ | fail)
 refine tr_loopd (ι := Nat) (fun i A st' => i ≤ R.length ∧ Hid (∀ (j : Nat) (x : Rl), R[j]? = some x → j < i → ∀ p ∈ x.pats, p.neg = false) ∧ A.df = [] ∧ A.e 1 = .sl .shared RS ∧ A.e 2 = .sl .shared FS ∧ A.e 3 = .y n ∧ A.e 9 = .i i ∧ st = st') (fun i => R.length - i) 0 ⟨Nat.zero_le _, Lib.hid (fun j x _ h => absurd h (Nat.not_lt_zero _)), Qf, Qf, Qf, Qf, Qf, rfl⟩ ?_
 clear hA hY
 rintro i A st' ⟨hi, HN, hdf, e1, e2, e3, e9, rfl⟩
 by_cases hlt : i < R.length
 · obtain ⟨x, hx⟩ := gEx hlt
   have hxc := hRc.out i x hx
   have hxl := hpl.out x (List.mem_of_getElem? hx)
   have hPm : (x.pats.map Pt.cells).length = x.pats.length := List.length_map ..
   have hPc := hMp Pt.cells x.pats
   have hNx : Hid ((∀ p ∈ x.pats, p.neg = false) → ∀ (j : Nat) (x : Rl), R[j]? = some x → j < i + 1 → ∀ p ∈ x.pats, p.neg = false) := fun h j y hy hj => by
    by_cases e : j = i
    · subst e
      rw [hx] at hy
      rw [← Option.some.inj hy]; exact h
    · exact HN.out j y hy q_o
   clear HN hx hSame hall hLT hLD hmT hmD hN1 hTD hlc hRc hpl hids hos hol ho1 hAll hAll2 hrem
   rw [show x.cells = [.str x.name, .i x.sal, .sl .shared (x.pats.map Pt.cells), .sl .shared (x.acts.map Ac.cells)] from rfl] at *
   generalize x.pats.map Pt.cells = PS at *
   generalize x.pats = ps at *
   generalize x.acts.map Ac.cells = AS at *
   generalize x.name = nm at *
   generalize x.sal = sal at *
   repeat' (first | refine QX ?_ | (refine QB ?_; intro b) | (refine QP ?_; intro o' ho') | (with_reducible refine QZ ?_ <;> (try constructor) <;> intro hb <;> try intro hb1) | fail)
   refine tr_loopd (ι := Nat) (fun k A st' => k ≤ ps.length ∧ Hid (∀ (j : Nat) (p : Pt), ps[j]? = some p → j < k → p.neg = false) ∧ A.df = [] ∧ A.e 1 = .sl .shared RS ∧ A.e 2 = .sl .shared FS ∧ A.e 3 = .y n ∧ A.e 9 = .i i ∧ A.e 10 = .i k ∧ st = st') (fun k => ps.length - k) 0 ⟨Nat.zero_le _, Lib.hid (fun j x _ h => absurd h (Nat.not_lt_zero _)), Qf, Qf, Qf, Qf, Qf, Qf, rfl⟩ ?_
   clear hdf e1 e2 e3 e9
   rintro q A st' ⟨hq, HK, hdf, e1, e2, e3, e9, e10, rfl⟩
   by_cases hql : q < ps.length
   · obtain ⟨p, hp⟩ := gEx hql
     have hpc := hPc.out q p hp
     have hKx : Hid (p.neg = false → ∀ (j : Nat) (p : Pt), ps[j]? = some p → j < q + 1 → p.neg = false) := fun h j y hy hj => by
      by_cases e : j = q
      · subst e
        rw [hp] at hy
        rw [← Option.some.inj hy]; exact h
      · exact HK.out j y hy q_o
     clear HK hp hPc hNx
     rw [show p.cells = [.i p.tmpl, .b p.neg, .sl .shared (p.tests.map Ts.cells)] from rfl] at *
     generalize p.tests.map Ts.cells = TS at *
     generalize p.tmpl = tm at *
     generalize p.neg = ng at *
     cases ng with
     | true =>
      clear hKx
      exact WRa
     | false =>
      have HK2 := Lib.hid (hKx.out rfl)
      clear hKx
      repeat' (first | refine QX ?_ | (refine QB ?_; intro b) | (refine QP ?_; intro o' ho') | (with_reducible refine QZ ?_ <;> (try constructor) <;> intro hb <;> try intro hb1) | fail)
      refine ⟨q + 1, st, q_u, ⟨hql, HK2, ?_, ?_, ?_, ?_, ?_, ?_, rfl⟩, by omega⟩
      all_goals exact Qf
   · have HN2 := Lib.hid (hNx.out fun p hp => by
      obtain ⟨j, hj⟩ := List.getElem?_of_mem hp
      have := (List.getElem?_eq_some_iff.1 hj).1
      exact HK.out j p hj q_o)
     clear HK hPc hNx
     repeat' (first | refine QX ?_ | (refine QB ?_; intro b) | (refine QP ?_; intro o' ho') | (with_reducible refine QZ ?_ <;> (try constructor) <;> intro hb <;> try intro hb1) | fail)
     refine ⟨i + 1, st, q_u, ⟨hlt, HN2, ?_, ?_, ?_, ?_, ?_, rfl⟩, by omega⟩
     all_goals exact Qf
 have hSm := Lib.hid (hSame.out fun x hx => by
  obtain ⟨j, hj⟩ := List.getElem?_of_mem hx
  have := (List.getElem?_eq_some_iff.1 hj).1
  exact HN.out j x hj q_o)
 clear HN hSame hRc hpl
 refine tr_room 43 5 ([] : List (List D)).length ?_
 refine tr_room 52 2 (og 0).length ?_
 rw [hog0]
 repeat' (first | refine QX ?_ | (refine QB ?_; intro b) | (refine QP ?_; intro o' ho') | (with_reducible refine QZ ?_ <;> (try constructor) <;> intro hb <;> try intro hb1) | refine QL Tryz.call23 ((hAll.out _)) ?_ | fail)
 generalize hFW : FS.take k ++ FS.drop (k + 1) = FW at *
 generalize o' = oF at *
 refine tr_loopd (ι := Nat) (fun i A st' => i ≤ l.length ∧ A.df = [] ∧ A.e 1 = .sl .shared RS ∧ A.e 2 = .sl .shared FS ∧ A.e 11 = .i k ∧ A.e 12 = .sl oF FW ∧ A.e 14 = .sl .shared ML ∧ A.e 15 = .i i ∧ ∃ o2, o2 ≠ .shared ∧ A.e 13 = .sl o2 (og i) ∧ st' = .room o2 52 2 (og i).length :: .room oF 43 5 FW.length :: st) (fun i => l.length - i) 0 ⟨Nat.zero_le _, Qf, Qf, Qf, Qf, Qf, Qf, Qf, .tight, tight_ne, by rw [hog0]; exact Qf, by rw [hog0]⟩ ?_
 clear hog0 hdf e1 e2 e3 e9 hAll hFW hall hLT hLD hmT hmD hN1 hTD hrem
 rintro i A st' ⟨hi, hdf, e1, e2, e11, e12, e14, e15, o2, ho2, e13, rfl⟩
 by_cases hlt : i < l.length
 · obtain ⟨m, hm⟩ := gEx hlt
   have hmc := hlc.out i m hm
   have hml := hids.out m (List.mem_of_getElem? hm)
   have hos2 := hos.out i m hm
   have hol2 := hol.out i
   have ho12 := ho1.out i
   obtain ⟨hb, hhb⟩ : ∃ hb : Nat → Bool, hb = fun q => (m.ids.take q).any fun v => v == gid := ⟨_, rfl⟩
   have hb0 : hb 0 = false := by rw [hhb]; rfl
   have hbs : Hid (∀ (q : Nat) (v : Int), m.ids[q]? = some v → hb (q + 1) = (hb q || v == gid)) := fun q v h => by
    rw [hhb]
    dsimp only
    rw [List.take_add_one, h, Option.toList_some, List.any_append, List.any_cons, List.any_nil, Bool.or_false]
   have hbe : Hid (hb m.ids.length = decide (gid ∈ m.ids)) := by
    refine Lib.hid ?_
    rw [hhb]
    dsimp only
    rw [List.take_length, Bool.eq_iff_iff, List.any_eq_true, decide_eq_true_eq]
    exact ⟨fun ⟨v, h1, h2⟩ => (beq_iff_eq.1 h2) ▸ h1, fun h => ⟨gid, h, beq_self_eq_true gid⟩⟩
   have hIm : (m.ids.map encI).length = m.ids.length := List.length_map ..
   have hIc : Hid (∀ (k : Nat) (v : Int), m.ids[k]? = some v → (m.ids.map encI)[k]? = some [.i v]) := fun k v h => by rw [List.getElem?_map, h]; rfl
   clear hhb hlc hids hos hol ho1 hm hSm hAll2
   rw [show m.cells = [.i m.rule, .sl .shared (m.ids.map encI)] from rfl] at *
   generalize m.rule = mr at *
   generalize m.ids.map encI = IC at *
   generalize m.ids = ids at *
   replace hos2 := Lib.hid hos2
   obtain ⟨OG, hOG⟩ : ∃ OG, OG = og i := ⟨_, rfl⟩
   rw [← hOG] at hol2 ho12 hos2 e13 ⊢
   clear hOG
   repeat' (first | refine QX ?_ | (refine QB ?_; intro b) | (refine QP ?_; intro o' ho') | (with_reducible refine QZ ?_ <;> (try constructor) <;> intro hb <;> try intro hb1) | fail)
   refine tr_loopd (ι := Nat) (fun q A st' => q ≤ ids.length ∧ A.df = [] ∧ A.e 1 = .sl .shared RS ∧ A.e 2 = .sl .shared FS ∧ A.e 11 = .i k ∧ A.e 12 = .sl oF FW ∧ A.e 13 = .sl o2 OG ∧ A.e 14 = .sl .shared ML ∧ A.e 15 = .i i ∧ A.e 16 = .b (hb q) ∧ A.e 17 = .i q ∧ st' = .room o2 52 2 OG.length :: .room oF 43 5 FW.length :: st) (fun q => ids.length - q) 0 ⟨Nat.zero_le _, Qf, Qf, Qf, Qf, Qf, Qf, Qf, Qf, by rw [hb0]; exact Qf, Qf, rfl⟩ ?_
   clear hb0 hdf e1 e2 e11 e12 e13 e14 e15
   rintro q A st' ⟨hq, hdf, e1, e2, e11, e12, e13, e14, e15, e16, e17, rfl⟩
   by_cases hql : q < ids.length
   · obtain ⟨v, hv⟩ := gEx hql
     have hvc := hIc.out q v hv
     have hbq := hbs.out q v hv
     clear hIc hbs hbe hv hos2
     generalize hb q = b1 at *
     cases b1 with
     | true =>
      rw [Bool.true_or] at hbq
      replace hbq := Lib.hid hbq
      repeat' (first | refine QV ?_ | ((with_reducible refine w_draw [] ?_ ?_ ?_ ?_ ?_); (iterate 3 (focus kernel_rfl)); (focus ((repeat (first | exact keep_nil | refine keep_more q_m ?_)); done))) | ((with_reducible refine And.intro ?_ ?_); (focus exact q_k)) | refine QY ?_ | (refine QB ?_; intro b) | (refine QP ?_; intro o' ho') | (with_reducible refine QZ ?_ <;> (try constructor) <;> intro hb <;> try intro hb1) | fail)
      refine ⟨q + 1, .room o2 52 2 OG.length :: .room oF 43 5 FW.length :: st, q_u, ⟨hql, ?_, ?_, ?_, ?_, ?_, ?_, ?_, ?_, ?_, ?_, rfl⟩, by omega⟩
      all_goals first | (rw [hbq.out]; exact Qf) | exact Qf
     | false =>
      rw [Bool.false_or] at hbq
      generalize hvg : (v == gid) = w at *
      replace hbq := Lib.hid hbq
      repeat' (first | refine QV ?_ | ((with_reducible refine w_draw [] ?_ ?_ ?_ ?_ ?_); (iterate 3 (focus kernel_rfl)); (focus ((repeat (first | exact keep_nil | refine keep_more q_m ?_)); done))) | ((with_reducible refine And.intro ?_ ?_); (focus exact q_k)) | refine QY ?_ | (refine QB ?_; intro b) | (refine QP ?_; intro o' ho') | (with_reducible refine QZ ?_ <;> (try constructor) <;> intro hb <;> try intro hb1) | fail)
      refine ⟨q + 1, .room o2 52 2 OG.length :: .room oF 43 5 FW.length :: st, q_u, ⟨hql, ?_, ?_, ?_, ?_, ?_, ?_, ?_, ?_, ?_, ?_, rfl⟩, by omega⟩
      all_goals first | (rw [hbq.out]; exact Qf) | exact Qf
   · have hqe : q = ids.length := by omega
     rw [hqe, hbe.out] at e16
     clear hIc hbs hbe
     by_cases hin : gid ∈ ids
     · rw [decide_eq_true hin] at e16
       have hos3 := hos2.out
       rw [if_pos hin, List.append_nil] at hos3
       replace hos3 := Lib.hid hos3
       clear hos2
       repeat' (first | refine QX ?_ | (refine QB ?_; intro b) | (refine QP ?_; intro o' ho') | (with_reducible refine QZ ?_ <;> (try constructor) <;> intro hb <;> try intro hb1) | fail)
       refine ⟨i + 1, .room o2 52 2 OG.length :: .room oF 43 5 FW.length :: st, q_u, ⟨hlt, ?_, ?_, ?_, ?_, ?_, ?_, ?_, o2, ho2, ?_, by rw [hos3.out]⟩, by omega⟩
       all_goals first | (rw [hos3.out]; exact Qf) | exact Qf
     · rw [decide_eq_false hin] at e16
       have hos3 := hos2.out
       rw [if_neg hin] at hos3
       replace hos3 := Lib.hid hos3
       clear hos2
       repeat' (first | refine QV ?_ | ((with_reducible refine w_draw [] ?_ ?_ ?_ ?_ ?_); (iterate 3 (focus kernel_rfl)); (focus ((repeat (first | exact keep_nil | refine keep_more q_m ?_)); done))) | ((with_reducible refine And.intro ?_ ?_); (focus exact q_k)) | refine QY ?_ | (refine QB ?_; intro b) | (refine QP ?_; intro o' ho') | (with_reducible refine QZ ?_ <;> (try constructor) <;> intro hb <;> try intro hb1) | fail)
       refine ⟨i + 1, .room o' 52 2 (OG ++ [[D.i mr, D.sl .shared IC]]).length :: .room oF 43 5 FW.length :: st, q_t, ⟨hlt, ?_, ?_, ?_, ?_, ?_, ?_, ?_, o', ho', ?_, by rw [hos3.out]⟩, by omega⟩
       all_goals first | (rw [hos3.out]; exact Qf) | exact Qf
 · have hil : i = l.length := by omega
   subst hil
   clear hlc hids hos hol ho1
   generalize og l.length = OG at *
   repeat' (first | refine QX ?_ | (refine QB ?_; intro b) | (refine QP ?_; intro o' ho') | (with_reducible refine QZ ?_ <;> (try constructor) <;> intro hb <;> try intro hb1) | refine QL Tryz.call23 ((hAll2.out _)) ?_ | refine QL Tryz.call22 ((hSm.out _)) ?_ | fail)
   all_goals exact Qret
end
end Go.Proofs.YtoeidpmjifjplaaGreat
