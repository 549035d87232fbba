/- Texts put together: RulY, RulR, RegQ, RegR, RegKn. No statement is proved here. -/
import Derived.Test.YtgcienlfpnpbgaaGreatZ6
set_option linter.all false
section
namespace Go.Proofs.YtgcienlfpnpbgaaGreat
attribute [local push_cast] encB encI encC encBs V.cells_mk V.cells_len Nat.mul_one Int.sub_zero List.map_nil beq_self_eq_true bne_self_eq_false List.head?_cons
open Go.RowKit B
set_option maxHeartbeats 64000000
set_option maxRecDepth 10000
theorem ref17PutF (R : List Rl) (hR : ∀ x ∈ R, Rul.RK x ∧ (-9223372036854775808 ≤ x.sal ∧ x.sal ≤ 9223372036854775807)) (hl : R.length ≤ 1000) (st : St) : TrF Tryz.prog 40 [.sl .shared (R.map Rl.cells)] st fun d st' => d = .sl .shared ((Rul.put R).map encB) ∧ st' = st := by
 rw [← Rul.putQ_eq]
 unfold Rul.putQ
 have hTl := Rul.listQ_len Rul.rlQ 411103000 R fun x h => Rul.rlQ_len x (hR x h).1
 have h3 : R.length * 411103000 ≤ 1000 * 411103000 := Nat.mul_le_mul_right _ hl
 obtain ⟨T, hT⟩ : ∃ T, (Rul.listW Rul.rlQ R).1 = T := ⟨_, rfl⟩
 obtain ⟨Q, hQ⟩ : ∃ Q, (Rul.listW Rul.rlQ R).2 = Q := ⟨_, rfl⟩
 rw [hT] at hTl
 rw [hT, hQ]
 have hT0 : Hid (([] ++ be 4 R.length) ++ ((R.drop 0).map fun a => (Rul.rlQ a).1).flatten = T) := hT
 have hQ0 : Hid ((false || (R.drop 0).any fun a => (Rul.rlQ a).2) = Q) := hQ
 replace hTl : T.length ≤ 1000000000000 := by omega
 clear hT hQ h3
 have hm : (R.map Rl.cells).length = R.length := List.length_map ..
 have hc := hMp Rl.cells R
 have hM := Lib.hid fun (pb n : Nat) (hn : n ≤ 1000) (X : List UInt8) (q : Bool) (h : X.length ≤ 1000000000000) (o : Own) (ho : o ≠ .shared) => pen17ManyF pb n (by omega) X q (by omega) o ho
 have hP := Lib.hid fun (pb : Nat) (n : Int) (X : List UInt8) (q : Bool) (h : X.length ≤ 1000000000000) (o : Own) (ho : o ≠ .shared) => pen17PutF pb n X q (by omega) o ho
 have hF := Lib.hid fun (pb : Nat) (n : Bool) (X : List UInt8) (q : Bool) (h : X.length ≤ 1000000000000) (o : Own) (ho : o ≠ .shared) => pen17FlagF pb n X q (by omega) o ho
 have hV := Lib.hid fun (pb : Nat) (v : V) (hv : VQ v) (X : List UInt8) (q : Bool) (h : X.length ≤ 1000000000000) (o : Own) (ho : o ≠ .shared) => pen17ValueF pb v hv X q (by omega) o ho
 have hpre : Hid (∀ X Y : List UInt8, X ++ Y = T → X.length ≤ 1000000000000) := Lib.hid fun X Y h => by
  have := congrArg List.length h
  rw [List.length_append] at this
  omega
 have hR2 := Lib.hid hR
 clear hR
 generalize R.map Rl.cells = RS at *
 have hM0 := fun pb => hM.out pb R.length hl [] false (by decide) .tight tight_ne
 unfold penQ at hM0
 simp only [List.map_nil] at hM0
 replace hM0 := Lib.hid hM0
 refine Qin [2] Tryz.func40 Tryz.results40 Tryz.ntmps40 ?_
 refine tr_room 5 1 ([] : List (List D)).length ?_
 repeat' (first | (with_reducible first | refine Q1 ?_ | refine Qe ?_ | refine s_boxP ?_ | refine QQ ?_ | (refine al_go ?_; intro b) | (refine Qa ?_; intro o' ho') | (refine Qp ?_; intro o' ho') | (refine QD ?_ <;> (try constructor) <;> intro hb <;> try intro hb1) | fail) | ((with_reducible apply (ck_ex2 Tryz.call106)); exact (hM0.out b); (focus first | exact LEL.refl _ | ((repeat' (first | exact LEL.nil | refine LEL.cons ?_ ?_ | exact LE.refl _ | exact LE.sl _ _ | refine LE.agg ?_)); done)); (focus (intro _; (repeat (first | exact At2.here | apply At2.there)); done)); (focus exact ⟨.tight, by intro h; cases h⟩); intro o1 ho1) | fail)
 clear hM0
 revert b
 intro pb
 refine tr_loopd (ι := Nat) (fun i A st' => i ≤ R.length ∧ A.df = [] ∧ A.e 0 = .sl .shared RS ∧ A.e 3 = .ptr pb 0 ∧ A.e 4 = .i i ∧ ∃ (o : Own) (X : List UInt8) (q : Bool), o ≠ .shared ∧ Hid (X ++ ((R.drop i).map fun a => (Rul.rlQ a).1).flatten = T) ∧ Hid ((q || (R.drop i).any fun a => (Rul.rlQ a).2) = Q) ∧ st' = penQ pb o X q st) (fun i => R.length - i) 0 ⟨Nat.zero_le _, Qf, Qf, Qf, Qf, o1, _, _, ho1, hT0, hQ0, rfl⟩ ?_
 clear hT0 hQ0 ho1 o1
 rintro i A st' ⟨hi, hdf, e0, e3, e4, o, X, q, ho, HT, HQ, rfl⟩
 by_cases hlt : ¬ i < R.length
 · obtain rfl : i = R.length := by omega
   have h1 := HT.out
   have h2 := HQ.out
   rw [List.drop_length, List.map_nil, List.flatten_nil, List.append_nil] at h1
   rw [List.drop_length, List.any_nil, Bool.or_false] at h2
   subst h1 h2
   clear HT HQ hpre hV hF hP hM hc hR2
   cases q
   · repeat' (with_reducible first | refine Q1 ?_ | refine Qe ?_ | refine QQ ?_ | (refine al_go ?_; intro b) | (refine Qa ?_; intro o' ho') | (refine Qp ?_; intro o' ho') | (refine QD ?_ <;> (try constructor) <;> intro hb <;> try intro hb1) | fail)
     all_goals exact Qret
   · repeat' (with_reducible first | refine Q1 ?_ | refine Qe ?_ | refine QQ ?_ | (refine al_go ?_; intro b) | (refine Qa ?_; intro o' ho') | (refine Qp ?_; intro o' ho') | (refine QD ?_ <;> (try constructor) <;> intro hb <;> try intro hb1) | fail)
     all_goals exact Qret
 rw [Classical.not_not] at hlt
 obtain ⟨x, hx⟩ := gEx hlt
 have h1 := hc.out i x hx
 obtain ⟨hk, hs⟩ := hR2.out x (List.mem_of_getElem? hx)
 have h2 := HT.out
 have h3 := HQ.out
 rw [Rul.flat_drop hx] at h2
 rw [Rul.any_dropQ hx] at h3
 clear HT HQ hx hc hR2
 obtain ⟨Z, hZ⟩ : ∃ Z, ((R.drop (i + 1)).map fun a => (Rul.rlQ a).1).flatten = Z := ⟨_, rfl⟩
 obtain ⟨z, hz⟩ : ∃ z, ((R.drop (i + 1)).any fun a => (Rul.rlQ a).2) = z := ⟨_, rfl⟩
 rw [hZ] at h2
 rw [hz] at h3
 replace hZ := Lib.hid hZ
 replace hz := Lib.hid hz
 have hTx := refTextF x.name (by have := hk.nm; omega)
 have hLo := refLongF x.sal
 have hnp := hk.np
 have hna := hk.na
 have hnt := Lib.hid hk.nt
 have hnv := Lib.hid hk.nv
 have hvt := Lib.hid hk.vt
 have hva := Lib.hid hk.va
 have hnml : x.name.data.toList.length ≤ 900000 := by
  have := hk.nm
  have : x.name.data.toList.length = x.name.size := by simp
  omega
 clear hk
 cases x with
 | mk nm sal ps acts =>
 unfold Rl.cells at h1
 unfold Rul.rlQ Rul.headW at h2 h3
 dsimp only at *
 have hmp : (ps.map Pt.cells).length = ps.length := List.length_map ..
 have hma : (acts.map Ac.cells).length = acts.length := List.length_map ..
 have hcp := hMp Pt.cells ps
 have hca := hMp Ac.cells acts
 generalize ps.map Pt.cells = PS at *
 generalize acts.map Ac.cells = AS at *
 have htl : (tx nm.data.toList).length ≤ 900004 := by
  unfold tx
  rw [List.length_append, be_len]
  omega
 generalize tx nm.data.toList = B1 at *
 have hbl : (be 8 (IntKind.u64.wrap sal).toNat).length = 8 := be_len ..
 generalize be 8 (IntKind.u64.wrap sal).toNat = B2 at *
 have hXl := hpre.out _ _ h2
 have hB1m : (B1.map encB).length = B1.length := List.length_map ..
 have hB2m : (B2.map encB).length = B2.length := List.length_map ..
 have hXm : (X.map encB).length = X.length := List.length_map ..
 have hX2 : (X ++ B1 ++ B2).map encB = X.map encB ++ B1.map encB ++ B2.map encB := by rw [List.map_append, List.map_append]
 replace hTx := Lib.hid hTx
 replace hLo := Lib.hid hLo
 have h4 : (X ++ B1 ++ B2) ++ (be 4 ps.length ++ ((ps.map fun a => (Rul.ptQ a).1).flatten ++ (be 4 acts.length ++ ((acts.map fun a => (Rul.acQ a).1).flatten ++ Z)))) = T := by
  rw [← h2]
  unfold Rul.listW
  simp only [List.flatten_cons, List.flatten_nil, List.append_nil, List.append_assoc]
 have h5 : (q || (ps.any (fun a => (Rul.ptQ a).2) || (acts.any (fun a => (Rul.acQ a).2) || z))) = Q := by
  rw [← h3]
  unfold Rul.listW
  simp only [Bool.or_assoc]
 clear h2 h3
 replace h4 := Lib.hid h4
 replace h5 := Lib.hid h5
 repeat' (first | (with_reducible first | refine Q1 ?_ | refine Qe ?_ | fail) | (refine tr_cutR 8 (fun A' st' => ∃ (bx : Nat) (o : Own), o ≠ .shared ∧ A'.df = [] ∧ A'.e 0 = .sl .shared RS ∧ A'.e 3 = .ptr pb 0 ∧ A'.e 4 = .i i ∧ A'.e 5 = .ptr bx 0 ∧ st' = .box bx 55 [.str nm, .i sal, .sl .shared PS, .sl .shared AS] :: penQ pb o (X ++ B1 ++ B2) q st) ?_ ?_) | ((with_reducible apply (w_drawN [(b, [.str nm, .i sal, .sl .shared PS, .sl .shared AS]), (pb, [.sl o (X.map encB), .b q])])); (iterate 3 (focus kernel_rfl)); (focus ((repeat (first | exact keep_nil | refine keep_more (by (repeat (first | exact mm_h | apply mm_t)); done) ?_)); done)); intro hne; simp only [nes, ne1, and_assoc] at hne; repeat (have hq := hne.1; replace hne := hne.2)) | ((with_reducible refine And.intro ?_ ?_); (focus ((repeat (first | exact keep_nil | refine keep_more (by (repeat (first | exact mm_h | apply mm_t)); done) ?_)); done))) | ((with_reducible apply (w_drawN [(b, [.str nm, .i sal, .sl .shared PS, .sl .shared AS]), (pb, [.sl o' (X.map encB ++ B1.map encB), .b q])])); (iterate 3 (focus kernel_rfl)); (focus ((repeat (first | exact keep_nil | refine keep_more (by (repeat (first | exact mm_h | apply mm_t)); done) ?_)); done)); intro hne; simp only [nes, ne1, and_assoc] at hne; repeat (have hq := hne.1; replace hne := hne.2)) | ((with_reducible refine And.intro ?_ ?_); (focus ((repeat (first | exact keep_nil | refine keep_more (by (repeat (first | exact mm_h | apply mm_t)); done) ?_)); done))) | (with_reducible first | refine QQ ?_ | (refine al_go ?_; intro b) | (refine Qa ?_; intro o' ho') | (refine Qp ?_; intro o' ho') | (refine QD ?_ <;> (try constructor) <;> intro hb <;> try intro hb1) | fail) | refine Qc Tryz.call61 ((hTx.out _)) ?_ | refine Qc Tryz.call107 ((hLo.out _)) ?_ | fail)
 all_goals try (exact ⟨_, _, by assumption, Qf, Qf, Qf, Qf, Qf, by unfold penQ; rw [hX2]⟩)
 clear hTx hLo hdf e0 e3 e4 A ho hX2 hXl hXm h1
 clear o
 rintro A st' ⟨bx, o, ho, hdf, e0, e3, e4, e5, rfl⟩
 clear hB1m hB2m htl hbl hnml
 obtain ⟨X2, hX2⟩ : ∃ Y, X ++ B1 ++ B2 = Y := ⟨_, rfl⟩
 rw [hX2] at h4 ⊢
 clear hX2 B1 B2 X
 obtain ⟨ZP, hZP⟩ : ∃ Y, be 4 acts.length ++ ((acts.map fun a => (Rul.acQ a).1).flatten ++ Z) = Y := ⟨_, rfl⟩
 obtain ⟨zP, hzP⟩ : ∃ Y, (acts.any (fun a => (Rul.acQ a).2) || z) = Y := ⟨_, rfl⟩
 rw [hZP] at h4
 rw [hzP] at h5
 replace hZP := Lib.hid hZP
 replace hzP := Lib.hid hzP
 have hMp := Lib.hid (hM.out pb ps.length (by omega) X2 q (hpre.out _ _ h4.out) o ho)
 have h6 : Hid ((X2 ++ be 4 ps.length) ++ (((ps.drop 0).map fun a => (Rul.ptQ a).1).flatten ++ ZP) = T) := Lib.hid (by rw [← h4.out, List.append_assoc]; rfl)
 have h7 : Hid (((q || false) || ((ps.drop 0).any (fun a => (Rul.ptQ a).2) || zP)) = Q) := Lib.hid (by rw [← h5.out, Bool.or_false]; rfl)
 clear h4 h5
 repeat' (first | (with_reducible first | refine Q1 ?_ | refine Qe ?_ | refine QQ ?_ | (refine al_go ?_; intro b) | (refine Qa ?_; intro o' ho') | (refine Qp ?_; intro o' ho') | (refine QD ?_ <;> (try constructor) <;> intro hb <;> try intro hb1) | fail) | ((with_reducible apply (ck_ex2 Tryz.call106)); exact (hMp.out); (focus first | exact LEL.refl _ | ((repeat' (first | exact LEL.nil | refine LEL.cons ?_ ?_ | exact LE.refl _ | exact LE.sl _ _ | refine LE.agg ?_)); done)); (focus (intro _; (repeat (first | exact At2.here | apply At2.there)); done)); (focus exact ⟨.tight, by intro h; cases h⟩); intro o1 ho1) | fail)
 clear hMp
 refine tr_loopd (ι := Nat) (fun k A st' => k ≤ ps.length ∧ A.df = [] ∧ A.e 0 = .sl .shared RS ∧ A.e 3 = .ptr pb 0 ∧ A.e 4 = .i i ∧ A.e 5 = .ptr bx 0 ∧ A.e 6 = .i k ∧ ∃ (o : Own) (X : List UInt8) (q : Bool), o ≠ .shared ∧ Hid (X ++ (((ps.drop k).map fun a => (Rul.ptQ a).1).flatten ++ ZP) = T) ∧ Hid ((q || ((ps.drop k).any (fun a => (Rul.ptQ a).2) || zP)) = Q) ∧ st' = .box bx 55 [.str nm, .i sal, .sl .shared PS, .sl .shared AS] :: penQ pb o X q st) (fun k => ps.length - k) 0 ⟨Nat.zero_le _, Qf, Qf, Qf, Qf, Qf, Qf, o1, _, _, ho1, h6, h7, rfl⟩ ?_
 clear h6 h7 ho1 X2 e0 e3 e4 e5 hdf A ho
 clear o1 o q
 rintro k A st' ⟨hkk, hdf, e0, e3, e4, e5, e6, o, X, q, ho, HT, HQ, rfl⟩
 by_cases hkl : k < ps.length
 · obtain ⟨p, hp⟩ := gEx hkl
   have g1 := hcp.out k p hp
   have gnt := hnt.out p (List.mem_of_getElem? hp)
   have gvt := Lib.hid (hvt.out p (List.mem_of_getElem? hp))
   have h4 := HT.out
   have h5 := HQ.out
   rw [Rul.flat_drop hp] at h4
   rw [Rul.any_dropQ hp] at h5
   clear HT HQ hp hcp hnt hvt hca hnv hva hZ hz hZP hzP hma
   obtain ⟨Z2, hZ2⟩ : ∃ Y, ((ps.drop (k + 1)).map fun a => (Rul.ptQ a).1).flatten ++ ZP = Y := ⟨_, rfl⟩
   obtain ⟨z2, hz2⟩ : ∃ Y, ((ps.drop (k + 1)).any (fun a => (Rul.ptQ a).2) || zP) = Y := ⟨_, rfl⟩
   rw [List.append_assoc, hZ2] at h4
   rw [Bool.or_assoc, hz2] at h5
   replace hZ2 := Lib.hid hZ2
   replace hz2 := Lib.hid hz2
   cases p with
   | mk tmpl neg ts =>
   unfold Pt.cells at g1
   unfold Rul.ptQ Rul.listW Rul.bitB at h4 h5
   dsimp only at *
   have hmt : (ts.map Ts.cells).length = ts.length := List.length_map ..
   have hct := hMp Ts.cells ts
   generalize ts.map Ts.cells = TS at *
   have hXl := hpre.out _ _ h4
   have c1 := hP.out pb tmpl X q hXl o ho
   have h4a : (X ++ [Rul.r8 tmpl]) ++ ([if neg = true then 1 else 0] ++ (be 4 ts.length ++ ((ts.map fun a => (Rul.tsQ a).1).flatten ++ Z2))) = T := by rw [← h4]; simp only [List.append_assoc]
   have c2 := Lib.hid fun o ho => hF.out pb neg (X ++ [Rul.r8 tmpl]) (q || Rul.badN tmpl) (hpre.out _ _ h4a) o ho
   have h4b : (X ++ [Rul.r8 tmpl] ++ [if neg = true then 1 else 0]) ++ (be 4 ts.length ++ ((ts.map fun a => (Rul.tsQ a).1).flatten ++ Z2)) = T := by rw [← h4]; simp only [List.append_assoc]
   have c3 := Lib.hid fun o ho => hM.out pb ts.length (by omega) (X ++ [Rul.r8 tmpl] ++ [if neg = true then 1 else 0]) (q || Rul.badN tmpl || false) (hpre.out _ _ h4b) o ho
   have h6 : Hid ((X ++ [Rul.r8 tmpl] ++ [if neg = true then 1 else 0] ++ be 4 ts.length) ++ (((ts.drop 0).map fun a => (Rul.tsQ a).1).flatten ++ Z2) = T) := Lib.hid (by rw [← h4]; simp only [List.append_assoc, List.drop_zero])
   have h7 : Hid ((q || Rul.badN tmpl || false || false || ((ts.drop 0).any (fun a => (Rul.tsQ a).2) || z2)) = Q) := Lib.hid (by rw [← h5]; simp only [Bool.or_assoc, Bool.or_false, Bool.false_or, List.drop_zero])
   clear h4 h5 h4a h4b hM hF
   generalize ([if neg = true then (1 : UInt8) else 0]) = NB at *
   replace c1 := Lib.hid c1
   repeat' (first | (with_reducible first | refine Q1 ?_ | refine Qe ?_ | refine QQ ?_ | (refine al_go ?_; intro b) | (refine Qa ?_; intro o' ho') | (refine Qp ?_; intro o' ho') | (refine QD ?_ <;> (try constructor) <;> intro hb <;> try intro hb1) | fail) | ((with_reducible apply (ck_ex2 Tryz.call108)); exact c1.out; (focus first | exact LEL.refl _ | ((repeat' (first | exact LEL.nil | refine LEL.cons ?_ ?_ | exact LE.refl _ | exact LE.sl _ _ | refine LE.agg ?_)); done)); (focus (intro _; (repeat (first | exact At2.here | apply At2.there)); done)); (focus exact ⟨.tight, by intro h; cases h⟩); intro o1 ho1) | ((with_reducible apply (ck_ex2 Tryz.call109)); exact (c2.out o1 ho1); (focus first | exact LEL.refl _ | ((repeat' (first | exact LEL.nil | refine LEL.cons ?_ ?_ | exact LE.refl _ | exact LE.sl _ _ | refine LE.agg ?_)); done)); (focus (intro _; (repeat (first | exact At2.here | apply At2.there)); done)); (focus exact ⟨.tight, by intro h; cases h⟩); intro o2 ho2) | ((with_reducible apply (ck_ex2 Tryz.call106)); exact (c3.out o2 ho2); (focus first | exact LEL.refl _ | ((repeat' (first | exact LEL.nil | refine LEL.cons ?_ ?_ | exact LE.refl _ | exact LE.sl _ _ | refine LE.agg ?_)); done)); (focus (intro _; (repeat (first | exact At2.here | apply At2.there)); done)); (focus exact ⟨.tight, by intro h; cases h⟩); intro o3 ho3) | fail)
   clear c1 c2 c3 ho1 ho2 hXl
   refine tr_loopd (ι := Nat) (fun m A st' => m ≤ ts.length ∧ A.df = [] ∧ A.e 0 = .sl .shared RS ∧ A.e 3 = .ptr pb 0 ∧ A.e 4 = .i i ∧ A.e 5 = .ptr bx 0 ∧ A.e 6 = .i k ∧ A.e 7 = .i m ∧ ∃ (o : Own) (X : List UInt8) (q : Bool), o ≠ .shared ∧ Hid (X ++ (((ts.drop m).map fun a => (Rul.tsQ a).1).flatten ++ Z2) = T) ∧ Hid ((q || ((ts.drop m).any (fun a => (Rul.tsQ a).2) || z2)) = Q) ∧ st' = .box bx 55 [.str nm, .i sal, .sl .shared PS, .sl .shared AS] :: penQ pb o X q st) (fun m => ts.length - m) 0 ⟨Nat.zero_le _, Qf, Qf, Qf, Qf, Qf, Qf, Qf, o3, _, _, ho3, h6, h7, rfl⟩ ?_
   clear h6 h7 ho3 e0 e3 e4 e5 e6 hdf A ho X
   clear o3 o2 o1 o q NB
   rintro m A st' ⟨hmm, hdf, e0, e3, e4, e5, e6, e7, o, X, q, ho, HT, HQ, rfl⟩
   by_cases hml : m < ts.length
   · obtain ⟨t, ht⟩ := gEx hml
     have g2 := hct.out m t ht
     have gv := gvt.out t (List.mem_of_getElem? ht)
     have h4 := HT.out
     have h5 := HQ.out
     rw [Rul.flat_drop ht] at h4
     rw [Rul.any_dropQ ht] at h5
     clear HT HQ ht hct hZ2 hz2
     obtain ⟨Z3, hZ3⟩ : ∃ Y, ((ts.drop (m + 1)).map fun a => (Rul.tsQ a).1).flatten ++ Z2 = Y := ⟨_, rfl⟩
     obtain ⟨z3, hz3⟩ : ∃ Y, ((ts.drop (m + 1)).any (fun a => (Rul.tsQ a).2) || z2) = Y := ⟨_, rfl⟩
     rw [List.append_assoc, hZ3] at h4
     rw [Bool.or_assoc, hz3] at h5
     unfold Rul.tsQ at h4 h5
     dsimp only at h4 h5
     have c1 := Lib.hid (hP.out pb t.kind X q (hpre.out _ _ h4) o ho)
     have c2 := Lib.hid fun o ho => hP.out pb t.slot (X ++ [Rul.r8 t.kind]) (q || Rul.badN t.kind) (hpre.out _ ([Rul.r8 t.slot] ++ ([Rul.r8 t.var] ++ (t.val.bin ++ Z3))) (by rw [← h4]; simp only [List.append_assoc])) o ho
     have c3 := Lib.hid fun o ho => hP.out pb t.var (X ++ [Rul.r8 t.kind] ++ [Rul.r8 t.slot]) (q || Rul.badN t.kind || Rul.badN t.slot) (hpre.out _ ([Rul.r8 t.var] ++ (t.val.bin ++ Z3)) (by rw [← h4]; simp only [List.append_assoc])) o ho
     have c4 := fun o ho => hV.out pb t.val gv (X ++ [Rul.r8 t.kind] ++ [Rul.r8 t.slot] ++ [Rul.r8 t.var]) (q || Rul.badN t.kind || Rul.badN t.slot || Rul.badN t.var) (hpre.out _ (t.val.bin ++ Z3) (by rw [← h4]; simp only [List.append_assoc])) o ho
     have h6 : Hid ((X ++ [Rul.r8 t.kind] ++ [Rul.r8 t.slot] ++ [Rul.r8 t.var] ++ t.val.bin) ++ (((ts.drop (m + 1)).map fun a => (Rul.tsQ a).1).flatten ++ Z2) = T) := Lib.hid (by rw [← h4, hZ3]; simp only [List.append_assoc])
     have h7 : Hid ((q || Rul.badN t.kind || Rul.badN t.slot || Rul.badN t.var || decide (t.val.bin = []) || ((ts.drop (m + 1)).any (fun a => (Rul.tsQ a).2) || z2)) = Q) := Lib.hid (by rw [← h5, hz3]; simp only [Bool.or_assoc])
     clear h4 h5 hZ3 hz3 gv hP hV
     generalize t.val.bin = VB at *
     generalize decide (VB = []) = vb at *
     cases t with
     | mk kind slot var val =>
     cases val with
     | mk k1 n1 s1 l1 =>
     rw [Ts.cells_mk] at g2
     dsimp only at *
     rw [V.cells_mk] at c4
     generalize l1.map V.cells = VL at *
     replace c4 := Lib.hid c4
     generalize [Rul.r8 kind] = E1 at *
     generalize [Rul.r8 slot] = E2 at *
     generalize [Rul.r8 var] = E3 at *
     generalize Rul.badN kind = b1 at *
     generalize Rul.badN slot = b2 at *
     generalize Rul.badN var = b3 at *
     repeat' (first | (with_reducible first | refine Q1 ?_ | refine Qe ?_ | refine QQ ?_ | (refine al_go ?_; intro b) | (refine Qa ?_; intro o' ho') | (refine Qp ?_; intro o' ho') | (refine QD ?_ <;> (try constructor) <;> intro hb <;> try intro hb1) | fail) | ((with_reducible apply (ck_ex2 Tryz.call108)); exact c1.out; (focus first | exact LEL.refl _ | ((repeat' (first | exact LEL.nil | refine LEL.cons ?_ ?_ | exact LE.refl _ | exact LE.sl _ _ | refine LE.agg ?_)); done)); (focus (intro _; (repeat (first | exact At2.here | apply At2.there)); done)); (focus exact ⟨.tight, by intro h; cases h⟩); intro o1 ho1) | ((with_reducible apply (ck_ex2 Tryz.call108)); exact (c2.out o1 ho1); (focus first | exact LEL.refl _ | ((repeat' (first | exact LEL.nil | refine LEL.cons ?_ ?_ | exact LE.refl _ | exact LE.sl _ _ | refine LE.agg ?_)); done)); (focus (intro _; (repeat (first | exact At2.here | apply At2.there)); done)); (focus exact ⟨.tight, by intro h; cases h⟩); intro o2 ho2) | ((with_reducible apply (ck_ex2 Tryz.call108)); exact (c3.out o2 ho2); (focus first | exact LEL.refl _ | ((repeat' (first | exact LEL.nil | refine LEL.cons ?_ ?_ | exact LE.refl _ | exact LE.sl _ _ | refine LE.agg ?_)); done)); (focus (intro _; (repeat (first | exact At2.here | apply At2.there)); done)); (focus exact ⟨.tight, by intro h; cases h⟩); intro o3 ho3) | ((with_reducible apply (ck_ex2 Tryz.call110)); exact (c4.out o3 ho3); (focus first | exact LEL.refl _ | ((repeat' (first | exact LEL.nil | refine LEL.cons ?_ ?_ | exact LE.refl _ | exact LE.sl _ _ | refine LE.agg ?_)); done)); (focus (intro _; (repeat (first | exact At2.here | apply At2.there)); done)); (focus exact ⟨.tight, by intro h; cases h⟩); intro o4 ho4) | fail)
     refine ⟨m + 1, .box bx 55 [.str nm, .i sal, .sl .shared PS, .sl .shared AS] :: penQ pb o4 (X ++ E1 ++ E2 ++ E3 ++ VB) (q || b1 || b2 || b3 || vb) st, (by (repeat (first | exact List.Sublist.refl _ | apply List.Sublist.cons))), ⟨hml, ?_, ?_, ?_, ?_, ?_, ?_, ?_, o4, _, _, ho4, h6, h7, rfl⟩, by omega⟩
     all_goals exact Qf
   · obtain rfl : m = ts.length := by omega
     have h6 : Hid (X ++ (((ps.drop (k + 1)).map fun a => (Rul.ptQ a).1).flatten ++ ZP) = T) := Lib.hid (by rw [hZ2.out, ← HT.out, List.drop_length]; rfl)
     have h7 : Hid ((q || ((ps.drop (k + 1)).any (fun a => (Rul.ptQ a).2) || zP)) = Q) := Lib.hid (by rw [hz2.out, ← HQ.out, List.drop_length]; rfl)
     clear HT HQ hZ2 hz2 hct gvt hP hV hpre
     repeat' (with_reducible first | refine Q1 ?_ | refine Qe ?_ | refine QQ ?_ | (refine al_go ?_; intro b) | (refine Qa ?_; intro o' ho') | (refine Qp ?_; intro o' ho') | (refine QD ?_ <;> (try constructor) <;> intro hb <;> try intro hb1) | fail)
     refine ⟨k + 1, .box bx 55 [.str nm, .i sal, .sl .shared PS, .sl .shared AS] :: penQ pb o X q st, (by (repeat (first | exact List.Sublist.refl _ | apply List.Sublist.cons))), ⟨hkl, ?_, ?_, ?_, ?_, ?_, ?_, o, X, q, ho, h6, h7, rfl⟩, by omega⟩
     all_goals exact Qf
 obtain rfl : k = ps.length := by omega
 have h4 : X ++ ZP = T := by rw [← HT.out, List.drop_length]; rfl
 have h5 : (q || zP) = Q := by rw [← HQ.out, List.drop_length]; rfl
 rw [← hZP.out] at h4
 rw [← hzP.out] at h5
 clear HT HQ hcp hnt hvt hZP hzP
 have hMp := Lib.hid (hM.out pb acts.length (by omega) X q (hpre.out _ _ h4) o ho)
 have h6 : Hid ((X ++ be 4 acts.length) ++ (((acts.drop 0).map fun a => (Rul.acQ a).1).flatten ++ Z) = T) := Lib.hid (by rw [← h4, List.append_assoc]; rfl)
 have h7 : Hid (((q || false) || ((acts.drop 0).any (fun a => (Rul.acQ a).2) || z)) = Q) := Lib.hid (by rw [← h5, Bool.or_false]; rfl)
 clear h4 h5
 repeat' (first | (with_reducible first | refine Q1 ?_ | refine Qe ?_ | refine QQ ?_ | (refine al_go ?_; intro b) | (refine Qa ?_; intro o' ho') | (refine Qp ?_; intro o' ho') | (refine QD ?_ <;> (try constructor) <;> intro hb <;> try intro hb1) | fail) | ((with_reducible apply (ck_ex2 Tryz.call106)); exact (hMp.out); (focus first | exact LEL.refl _ | ((repeat' (first | exact LEL.nil | refine LEL.cons ?_ ?_ | exact LE.refl _ | exact LE.sl _ _ | refine LE.agg ?_)); done)); (focus (intro _; (repeat (first | exact At2.here | apply At2.there)); done)); (focus exact ⟨.tight, by intro h; cases h⟩); intro o1 ho1) | fail)
 clear hMp
 refine tr_loopd (ι := Nat) (fun k A st' => k ≤ acts.length ∧ A.df = [] ∧ A.e 0 = .sl .shared RS ∧ A.e 3 = .ptr pb 0 ∧ A.e 4 = .i i ∧ A.e 5 = .ptr bx 0 ∧ A.e 9 = .i k ∧ ∃ (o : Own) (X : List UInt8) (q : Bool), o ≠ .shared ∧ Hid (X ++ (((acts.drop k).map fun a => (Rul.acQ a).1).flatten ++ Z) = T) ∧ Hid ((q || ((acts.drop k).any (fun a => (Rul.acQ a).2) || z)) = Q) ∧ st' = .box bx 55 [.str nm, .i sal, .sl .shared PS, .sl .shared AS] :: penQ pb o X q st) (fun k => acts.length - k) 0 ⟨Nat.zero_le _, Qf, Qf, Qf, Qf, Qf, Qf, o1, _, _, ho1, h6, h7, rfl⟩ ?_
 clear h6 h7 ho1 e0 e3 e4 e5 e6 hdf A ho X hkl hkk
 clear o1 o q
 rintro k A st' ⟨hkk, hdf, e0, e3, e4, e5, e9, o, X, q, ho, HT, HQ, rfl⟩
 by_cases hkl : k < acts.length
 · obtain ⟨a, ha⟩ := gEx hkl
   have g1 := hca.out k a ha
   have gnv := hnv.out a (List.mem_of_getElem? ha)
   have gva := Lib.hid (hva.out a (List.mem_of_getElem? ha))
   have h4 := HT.out
   have h5 := HQ.out
   rw [Rul.flat_drop ha] at h4
   rw [Rul.any_dropQ ha] at h5
   clear HT HQ ha hca hnv hva hZ hz
   obtain ⟨Z2, hZ2⟩ : ∃ Y, ((acts.drop (k + 1)).map fun a => (Rul.acQ a).1).flatten ++ Z = Y := ⟨_, rfl⟩
   obtain ⟨z2, hz2⟩ : ∃ Y, ((acts.drop (k + 1)).any (fun a => (Rul.acQ a).2) || z) = Y := ⟨_, rfl⟩
   rw [List.append_assoc, hZ2] at h4
   rw [Bool.or_assoc, hz2] at h5
   replace hZ2 := Lib.hid hZ2
   replace hz2 := Lib.hid hz2
   unfold Ac.cells at g1
   unfold Rul.acQ Rul.listW at h4 h5
   dsimp only at h4 h5
   have hmt : (a.vals.map Ex.cells).length = a.vals.length := List.length_map ..
   have hct := hMp Ex.cells a.vals
   generalize a.vals.map Ex.cells = TS at *
   have c1 := Lib.hid (hP.out pb a.kind X q (hpre.out _ _ h4) o ho)
   have c2 := Lib.hid fun o ho => hP.out pb a.pat (X ++ [Rul.r8 a.kind]) (q || Rul.badN a.kind) (hpre.out _ ([Rul.r8 a.pat] ++ ([Rul.r8 a.tmpl] ++ ([Rul.r8 a.slot] ++ (be 4 a.vals.length ++ ((a.vals.map fun a => (Rul.exQ a).1).flatten ++ Z2))))) (by rw [← h4]; simp only [List.append_assoc])) o ho
   have c3 := Lib.hid fun o ho => hP.out pb a.tmpl (X ++ [Rul.r8 a.kind] ++ [Rul.r8 a.pat]) (q || Rul.badN a.kind || Rul.badN a.pat) (hpre.out _ ([Rul.r8 a.tmpl] ++ ([Rul.r8 a.slot] ++ (be 4 a.vals.length ++ ((a.vals.map fun a => (Rul.exQ a).1).flatten ++ Z2)))) (by rw [← h4]; simp only [List.append_assoc])) o ho
   have c4 := Lib.hid fun o ho => hP.out pb a.slot (X ++ [Rul.r8 a.kind] ++ [Rul.r8 a.pat] ++ [Rul.r8 a.tmpl]) (q || Rul.badN a.kind || Rul.badN a.pat || Rul.badN a.tmpl) (hpre.out _ ([Rul.r8 a.slot] ++ (be 4 a.vals.length ++ ((a.vals.map fun a => (Rul.exQ a).1).flatten ++ Z2))) (by rw [← h4]; simp only [List.append_assoc])) o ho
   have c5 := Lib.hid fun o ho => hM.out pb a.vals.length (by omega) (X ++ [Rul.r8 a.kind] ++ [Rul.r8 a.pat] ++ [Rul.r8 a.tmpl] ++ [Rul.r8 a.slot]) (q || Rul.badN a.kind || Rul.badN a.pat || Rul.badN a.tmpl || Rul.badN a.slot) (hpre.out _ (be 4 a.vals.length ++ ((a.vals.map fun a => (Rul.exQ a).1).flatten ++ Z2)) (by rw [← h4]; simp only [List.append_assoc])) o ho
   have h6 : Hid ((X ++ [Rul.r8 a.kind] ++ [Rul.r8 a.pat] ++ [Rul.r8 a.tmpl] ++ [Rul.r8 a.slot] ++ be 4 a.vals.length) ++ (((a.vals.drop 0).map fun a => (Rul.exQ a).1).flatten ++ Z2) = T) := Lib.hid (by rw [← h4]; simp only [List.append_assoc, List.drop_zero])
   have h7 : Hid ((q || Rul.badN a.kind || Rul.badN a.pat || Rul.badN a.tmpl || Rul.badN a.slot || false || ((a.vals.drop 0).any (fun a => (Rul.exQ a).2) || z2)) = Q) := Lib.hid (by rw [← h5]; simp only [Bool.or_assoc, Bool.or_false, Bool.false_or, List.drop_zero])
   clear h4 h5 hM
   cases a with
   | mk kind pat tmpl slot vals =>
   dsimp only at *
   generalize [Rul.r8 kind] = E1 at *
   generalize [Rul.r8 pat] = E2 at *
   generalize [Rul.r8 tmpl] = E3 at *
   generalize [Rul.r8 slot] = E4 at *
   generalize Rul.badN kind = b1 at *
   generalize Rul.badN pat = b2 at *
   generalize Rul.badN tmpl = b3 at *
   generalize Rul.badN slot = b4 at *
   repeat' (first | (with_reducible first | refine Q1 ?_ | refine Qe ?_ | refine QQ ?_ | (refine al_go ?_; intro b) | (refine Qa ?_; intro o' ho') | (refine Qp ?_; intro o' ho') | (refine QD ?_ <;> (try constructor) <;> intro hb <;> try intro hb1) | fail) | ((with_reducible apply (ck_ex2 Tryz.call108)); exact c1.out; (focus first | exact LEL.refl _ | ((repeat' (first | exact LEL.nil | refine LEL.cons ?_ ?_ | exact LE.refl _ | exact LE.sl _ _ | refine LE.agg ?_)); done)); (focus (intro _; (repeat (first | exact At2.here | apply At2.there)); done)); (focus exact ⟨.tight, by intro h; cases h⟩); intro o1 ho1) | ((with_reducible apply (ck_ex2 Tryz.call108)); exact (c2.out o1 ho1); (focus first | exact LEL.refl _ | ((repeat' (first | exact LEL.nil | refine LEL.cons ?_ ?_ | exact LE.refl _ | exact LE.sl _ _ | refine LE.agg ?_)); done)); (focus (intro _; (repeat (first | exact At2.here | apply At2.there)); done)); (focus exact ⟨.tight, by intro h; cases h⟩); intro o2 ho2) | ((with_reducible apply (ck_ex2 Tryz.call108)); exact (c3.out o2 ho2); (focus first | exact LEL.refl _ | ((repeat' (first | exact LEL.nil | refine LEL.cons ?_ ?_ | exact LE.refl _ | exact LE.sl _ _ | refine LE.agg ?_)); done)); (focus (intro _; (repeat (first | exact At2.here | apply At2.there)); done)); (focus exact ⟨.tight, by intro h; cases h⟩); intro o3 ho3) | ((with_reducible apply (ck_ex2 Tryz.call108)); exact (c4.out o3 ho3); (focus first | exact LEL.refl _ | ((repeat' (first | exact LEL.nil | refine LEL.cons ?_ ?_ | exact LE.refl _ | exact LE.sl _ _ | refine LE.agg ?_)); done)); (focus (intro _; (repeat (first | exact At2.here | apply At2.there)); done)); (focus exact ⟨.tight, by intro h; cases h⟩); intro o4 ho4) | ((with_reducible apply (ck_ex2 Tryz.call106)); exact (c5.out o4 ho4); (focus first | exact LEL.refl _ | ((repeat' (first | exact LEL.nil | refine LEL.cons ?_ ?_ | exact LE.refl _ | exact LE.sl _ _ | refine LE.agg ?_)); done)); (focus (intro _; (repeat (first | exact At2.here | apply At2.there)); done)); (focus exact ⟨.tight, by intro h; cases h⟩); intro o5 ho5) | fail)
   revert b
   intro ba
   refine tr_loopd (ι := Nat) (fun m A st' => m ≤ vals.length ∧ A.df = [] ∧ A.e 0 = .sl .shared RS ∧ A.e 3 = .ptr pb 0 ∧ A.e 4 = .i i ∧ A.e 5 = .ptr bx 0 ∧ A.e 9 = .i k ∧ A.e 10 = .ptr ba 0 ∧ A.e 11 = .i m ∧ ∃ (o : Own) (X : List UInt8) (q : Bool), o ≠ .shared ∧ Hid (X ++ (((vals.drop m).map fun a => (Rul.exQ a).1).flatten ++ Z2) = T) ∧ Hid ((q || ((vals.drop m).any (fun a => (Rul.exQ a).2) || z2)) = Q) ∧ st' = .box ba 110 [.i kind, .i pat, .i tmpl, .i slot, .sl .shared TS] :: .box bx 55 [.str nm, .i sal, .sl .shared PS, .sl .shared AS] :: penQ pb o X q st) (fun m => vals.length - m) 0 ⟨Nat.zero_le _, Qf, Qf, Qf, Qf, Qf, Qf, Qf, Qf, o5, _, _, ho5, h6, h7, rfl⟩ ?_
   clear c1 c2 c3 c4 c5 e0 e3 e4 e5 e9 hdf A ho ho1 ho2 ho3 ho4 h6 h7 ho5 X g1
   clear o5 o4 o3 o2 o1 o q b1 b2 b3 b4 E1 E2 E3 E4
   rintro m A st' ⟨hmm, hdf, e0, e3, e4, e5, e9, e10, e11, o, X, q, ho, HT, HQ, rfl⟩
   by_cases hml : m < vals.length
   · obtain ⟨t, ht⟩ := gEx hml
     have g2 := hct.out m t ht
     have gv := gva.out t (List.mem_of_getElem? ht)
     have h4 := HT.out
     have h5 := HQ.out
     rw [Rul.flat_drop ht] at h4
     rw [Rul.any_dropQ ht] at h5
     clear HT HQ ht hct hZ2 hz2
     obtain ⟨Z3, hZ3⟩ : ∃ Y, ((vals.drop (m + 1)).map fun a => (Rul.exQ a).1).flatten ++ Z2 = Y := ⟨_, rfl⟩
     obtain ⟨z3, hz3⟩ : ∃ Y, ((vals.drop (m + 1)).any (fun a => (Rul.exQ a).2) || z2) = Y := ⟨_, rfl⟩
     rw [List.append_assoc, hZ3] at h4
     rw [Bool.or_assoc, hz3] at h5
     unfold Rul.exQ Rul.bitB at h4 h5
     dsimp only at h4 h5
     have c1 := Lib.hid (hF.out pb t.isVar X q (hpre.out _ _ h4) o ho)
     have c2 := Lib.hid fun o ho => hP.out pb t.var (X ++ [if t.isVar = true then 1 else 0]) (q || false) (hpre.out _ ([Rul.r8 t.var] ++ (t.val.bin ++ Z3)) (by rw [← h4]; simp only [List.append_assoc])) o ho
     have c4 := fun o ho => hV.out pb t.val gv (X ++ [if t.isVar = true then 1 else 0] ++ [Rul.r8 t.var]) (q || false || Rul.badN t.var) (hpre.out _ (t.val.bin ++ Z3) (by rw [← h4]; simp only [List.append_assoc])) o ho
     have h6 : Hid ((X ++ [if t.isVar = true then 1 else 0] ++ [Rul.r8 t.var] ++ t.val.bin) ++ (((vals.drop (m + 1)).map fun a => (Rul.exQ a).1).flatten ++ Z2) = T) := Lib.hid (by rw [← h4, hZ3]; simp only [List.append_assoc])
     have h7 : Hid ((q || false || Rul.badN t.var || decide (t.val.bin = []) || ((vals.drop (m + 1)).any (fun a => (Rul.exQ a).2) || z2)) = Q) := Lib.hid (by rw [← h5, hz3]; simp only [Bool.or_assoc, Bool.or_false, Bool.false_or])
     clear h4 h5 hZ3 hz3 gv hP hV hF
     generalize t.val.bin = VB at *
     generalize decide (VB = []) = vb at *
     cases t with
     | mk iv var val =>
     cases val with
     | mk k1 n1 s1 l1 =>
     rw [Ex.cells_mk] at g2
     dsimp only at *
     rw [V.cells_mk] at c4
     generalize l1.map V.cells = VL at *
     replace c4 := Lib.hid c4
     generalize [if iv = true then (1 : UInt8) else 0] = E1 at *
     generalize [Rul.r8 var] = E3 at *
     generalize Rul.badN var = b3 at *
     repeat' (first | (with_reducible first | refine Q1 ?_ | refine Qe ?_ | refine QQ ?_ | (refine al_go ?_; intro b) | (refine Qa ?_; intro o' ho') | (refine Qp ?_; intro o' ho') | (refine QD ?_ <;> (try constructor) <;> intro hb <;> try intro hb1) | fail) | ((with_reducible apply (ck_ex2 Tryz.call109)); exact c1.out; (focus first | exact LEL.refl _ | ((repeat' (first | exact LEL.nil | refine LEL.cons ?_ ?_ | exact LE.refl _ | exact LE.sl _ _ | refine LE.agg ?_)); done)); (focus (intro _; (repeat (first | exact At2.here | apply At2.there)); done)); (focus exact ⟨.tight, by intro h; cases h⟩); intro o1 ho1) | ((with_reducible apply (ck_ex2 Tryz.call108)); exact (c2.out o1 ho1); (focus first | exact LEL.refl _ | ((repeat' (first | exact LEL.nil | refine LEL.cons ?_ ?_ | exact LE.refl _ | exact LE.sl _ _ | refine LE.agg ?_)); done)); (focus (intro _; (repeat (first | exact At2.here | apply At2.there)); done)); (focus exact ⟨.tight, by intro h; cases h⟩); intro o2 ho2) | ((with_reducible apply (ck_ex2 Tryz.call110)); exact (c4.out o2 ho2); (focus first | exact LEL.refl _ | ((repeat' (first | exact LEL.nil | refine LEL.cons ?_ ?_ | exact LE.refl _ | exact LE.sl _ _ | refine LE.agg ?_)); done)); (focus (intro _; (repeat (first | exact At2.here | apply At2.there)); done)); (focus exact ⟨.tight, by intro h; cases h⟩); intro o4 ho4) | fail)
     refine ⟨m + 1, .box ba 110 [.i kind, .i pat, .i tmpl, .i slot, .sl .shared TS] :: .box bx 55 [.str nm, .i sal, .sl .shared PS, .sl .shared AS] :: penQ pb o4 (X ++ E1 ++ E3 ++ VB) (q || false || b3 || vb) st, (by (repeat (first | exact List.Sublist.refl _ | apply List.Sublist.cons))), ⟨hml, ?_, ?_, ?_, ?_, ?_, ?_, ?_, ?_, o4, _, _, ho4, h6, h7, rfl⟩, by omega⟩
     all_goals exact Qf
   · obtain rfl : m = vals.length := by omega
     have h6 : Hid (X ++ (((acts.drop (k + 1)).map fun a => (Rul.acQ a).1).flatten ++ Z) = T) := Lib.hid (by rw [hZ2.out, ← HT.out, List.drop_length]; rfl)
     have h7 : Hid ((q || ((acts.drop (k + 1)).any (fun a => (Rul.acQ a).2) || z)) = Q) := Lib.hid (by rw [hz2.out, ← HQ.out, List.drop_length]; rfl)
     clear HT HQ hZ2 hz2 hct gva hP hV hF hpre
     repeat' (with_reducible first | refine Q1 ?_ | refine Qe ?_ | refine QQ ?_ | (refine al_go ?_; intro b) | (refine Qa ?_; intro o' ho') | (refine Qp ?_; intro o' ho') | (refine QD ?_ <;> (try constructor) <;> intro hb <;> try intro hb1) | fail)
     refine ⟨k + 1, .box bx 55 [.str nm, .i sal, .sl .shared PS, .sl .shared AS] :: penQ pb o X q st, (by (repeat (first | exact List.Sublist.refl _ | apply List.Sublist.cons))), ⟨hkl, ?_, ?_, ?_, ?_, ?_, ?_, o, X, q, ho, h6, h7, rfl⟩, by omega⟩
     all_goals exact Qf
 obtain rfl : k = acts.length := by omega
 have h6 : Hid (X ++ ((R.drop (i + 1)).map fun a => (Rul.rlQ a).1).flatten = T) := Lib.hid (by rw [hZ.out, ← HT.out, List.drop_length]; rfl)
 have h7 : Hid ((q || (R.drop (i + 1)).any fun a => (Rul.rlQ a).2) = Q) := Lib.hid (by rw [hz.out, ← HQ.out, List.drop_length]; rfl)
 clear HT HQ hZ hz hca hnv hva hP hV hF hM hpre
 repeat' (with_reducible first | refine Q1 ?_ | refine Qe ?_ | refine QQ ?_ | (refine al_go ?_; intro b) | (refine Qa ?_; intro o' ho') | (refine Qp ?_; intro o' ho') | (refine QD ?_ <;> (try constructor) <;> intro hb <;> try intro hb1) | fail)
 refine ⟨i + 1, penQ pb o X q st, (by (repeat (first | exact List.Sublist.refl _ | apply List.Sublist.cons))), ⟨hlt, ?_, ?_, ?_, ?_, o, X, q, ho, h6, h7, rfl⟩, by omega⟩
 all_goals exact Qf
end Go.Proofs.YtgcienlfpnpbgaaGreat
end
section
namespace Go.Proofs.YtgcienlfpnpbgaaGreat
attribute [local push_cast] encB encI encC V.cells_mk V.cells_len Nat.mul_one Int.sub_zero List.map_nil beq_self_eq_true bne_self_eq_false List.head?_cons
open Go.RowKit
set_option maxHeartbeats 8000000
set_option maxRecDepth 10000
namespace Rul
theorem refVers_get (t : Tm) (v : Int) : Sch.ver t v = if 1 ≤ v then (Sch.refVers t)[(v - 1).toNat]? else none := by
 unfold Sch.ver Sch.refVers
 by_cases h1 : 0 < Sch.last t
 · simp [h1]
 · rw [if_neg (fun h => h1 h.1), if_neg h1]
   split <;> rfl
theorem slots_ref {L : List Tm} {k : Nat} {t : Tm} (h : L[k]? = some t) : (Sch.refVers t = [] ∧ slots L k = []) ∨ ∃ n x, (Sch.refVers t).length = n + 1 ∧ (Sch.refVers t)[n]? = some x ∧ slots L k = x.slots := by
 rw [slots_in h]
 unfold Sch.verX
 rw [refVers_get]
 unfold Sch.refVers
 by_cases h0 : 0 < Sch.last t
 · obtain ⟨h1, h2⟩ := Sch.last_len h0
   rw [if_pos h0, if_pos (by omega)]
   refine .inr ⟨t.steps.length, (Sch.vers t)[t.steps.length], h1, List.getElem?_eq_getElem (by omega), ?_⟩
   rw [show ((Sch.last t : Int) - 1).toNat = t.steps.length by omega, List.getElem?_eq_getElem (by omega)]
   rfl
 · rw [if_neg h0, if_neg (by omega)]
   exact .inl ⟨rfl, rfl⟩
end Rul
theorem ref17SlotsF (L : List Tm) (hQ : ∀ t ∈ L, TQ t) (hl : L.length ≤ 1000000) (k : Int) (st : St) : TrF Tryz.prog 43 [.sl .shared (L.map Tm.cells), .i k] st fun d st' => d = .sl .shared ((Rul.slots L k).map Sl.cells) ∧ st' = st := by
 have hm : (L.map Tm.cells).length = L.length := List.length_map ..
 by_cases hk : 0 ≤ k ∧ k < L.length
 · obtain ⟨n, rfl⟩ : ∃ n : Nat, (n : Int) = k := ⟨k.toNat, Int.toNat_of_nonneg hk.1⟩
   obtain ⟨t, ht⟩ := gEx (l := L) (i := n) (by omega)
   have hc : (L.map Tm.cells)[n]? = some t.cells := by rw [List.getElem?_map, ht]; rfl
   have hV := refVersF t (hQ t (List.mem_of_getElem? ht))
   have hS := Rul.slots_ref ht
   have hml : ((Sch.refVers t).map Vr.cells).length = (Sch.refVers t).length := List.length_map ..
   have hgc : ∀ (i : Nat) (x : Vr), (Sch.refVers t)[i]? = some x → ((Sch.refVers t).map Vr.cells)[i]? = some [.sl .shared (x.slots.map Sl.cells), .sl .shared (x.cols.map encC)] := fun i x h => by rw [List.getElem?_map, h]; rfl
   generalize Rul.slots L n = SX at *
   have hll : (Sch.refVers t).length ≤ 9 := by
    have := (Sch.vers_len t).2
    unfold Sch.refVers
    split
    · exact this
    · simp
   generalize Sch.refVers t = RV at *
   clear hQ ht
   generalize L.map Tm.cells = LS at *
   unfold Tm.cells at *
   generalize t.slots.map Sl.cells = SL at *
   generalize t.steps.map Stp.cells = TL at *
   generalize t.name = nm at *
   obtain ⟨hk1, hk2⟩ := hk
   rcases hS with ⟨rfl, rfl⟩ | ⟨m, x, h1, h2, rfl⟩
   · clear hgc hml
     replace hV := Lib.hid hV
     refine Qin [4] Tryz.func43 Tryz.results43 Tryz.ntmps43 ?_
     exact WR
   · have hc2 := hgc m x h2
     clear hgc h2
     rw [h1] at hml
     have hsub : ((m : Int) + 1 - 1) = m := by omega
     generalize RV.map Vr.cells = RC at *
     generalize x.cols.map encC = XC at *
     generalize x.slots.map Sl.cells = XS at *
     replace hV := Lib.hid hV
     refine Qin [4] Tryz.func43 Tryz.results43 Tryz.ntmps43 ?_
     exact WR
 · rw [Rul.slots_out hk]
   generalize L.map Tm.cells = LS at *
   by_cases h0 : k < 0
   · refine Qin [4] Tryz.func43 Tryz.results43 Tryz.ntmps43 ?_
     exact WR
   · have h1 : (L.length : Int) ≤ k := by omega
     refine Qin [4] Tryz.func43 Tryz.results43 Tryz.ntmps43 ?_
     exact WR
theorem ref17BoundF (x : Rl) (hp : x.pats.length ≤ 1000) (ht : ∀ p ∈ x.pats, p.tests.length ≤ 1000) (st : St) : TrF Tryz.prog 38 [.agg x.cells] st fun d st' => d = .sl .shared ((Rul.bound x).map encI) ∧ st' = st := by
 cases x with
 | mk nm sal ps acts =>
 unfold Rul.bound Rl.cells
 dsimp only at *
 generalize acts.map Ac.cells = AS at *
 have hm : (ps.map Pt.cells).length = ps.length := List.length_map ..
 have hc := hMp Pt.cells ps
 obtain ⟨BF, hBF⟩ : ∃ BF : Nat → List Int, (fun i : Nat => Rul.bindP (ps.take i)) = BF := ⟨_, rfl⟩
 have hBi : ∀ i, Rul.bindP (ps.take i) = BF i := fun i => by rw [← hBF]
 have hB0 : Hid (BF 0 = []) := Lib.hid (by rw [← hBi]; rfl)
 have hBn : Hid (Rul.bindP ps = BF ps.length) := Lib.hid (by rw [← hBi, List.take_length])
 have hBs : Hid (∀ (i : Nat) (p : Pt), ps[i]? = some p → BF (i + 1) = BF i ++ Rul.bindT p.tests) := fun i p h => by rw [← hBi, ← hBi]; exact Rul.bindP_take h
 have hBl : Hid (∀ i, i ≤ ps.length → (BF i).length ≤ 1000000) := fun i hi => by
  rw [← hBi]
  have := Rul.bindP_len 1000 (ps.take i) fun p hp => ht p (List.mem_of_mem_take hp)
  rw [List.length_take] at this
  have h3 : min i ps.length * 1000 ≤ 1000 * 1000 := Nat.mul_le_mul_right _ (by omega)
  omega
 rw [hBn.out]
 have ht2 := Lib.hid ht
 clear hBF hBi hBn ht
 generalize ps.map Pt.cells = PS at *
 refine Qin [2] Tryz.func38 Tryz.results38 Tryz.ntmps38 ?_
 refine tr_room 3 1 ([] : List (List D)).length ?_
 repeat' (with_reducible first | refine Q1 ?_ | refine Qe ?_ | refine QQ ?_ | (refine al_go ?_; intro b) | (refine Qa ?_; intro o' ho') | (refine Qp ?_; intro o' ho') | (refine QD ?_ <;> (try constructor) <;> intro hb <;> try intro hb1) | fail)
 refine tr_loopd (ι := Nat) (fun i A st' => i ≤ ps.length ∧ A.df = [] ∧ A.e 1 = .ip [.str nm, .i sal, .sl .shared PS, .sl .shared AS] ∧ A.e 4 = .i i ∧ ∃ o', o' ≠ .shared ∧ A.e 3 = .sl o' ((BF i).map encI) ∧ st' = .room o' 3 1 ((BF i).map encI).length :: st) (fun i => ps.length - i) 0 ⟨Nat.zero_le _, Qf, Qf, Qf, .tight, by decide, by rw [hB0.out]; exact Qf, by rw [hB0.out]; rfl⟩ ?_
 rintro i A st' ⟨hi, hdf, e1, e4, o', ho', e3, rfl⟩
 by_cases hlt : i < ps.length
 · obtain ⟨p, hp2⟩ := gEx hlt
   have h1 := hc.out i p hp2
   have hB := hBs.out i p hp2
   have hBx := hBl.out i (by omega)
   have htl := ht2.out p (List.mem_of_getElem? hp2)
   clear hp2 hBs hBl ht2 hc hB0
   cases p with
   | mk tmpl neg ts =>
   unfold Pt.cells at h1
   dsimp only at *
   have hmt : (ts.map Ts.cells).length = ts.length := List.length_map ..
   have hct := hMp Ts.cells ts
   generalize BF i = X0 at *
   obtain ⟨TF, hTF⟩ : ∃ TF : Nat → List Int, (fun k : Nat => X0 ++ Rul.bindT (ts.take k)) = TF := ⟨_, rfl⟩
   have hTi : ∀ i, X0 ++ Rul.bindT (ts.take i) = TF i := fun i => by rw [← hTF]
   have hT0 : Hid (X0 = TF 0) := Lib.hid (by rw [← hTi]; exact (List.append_nil _).symm)
   have hTn : Hid (BF (i + 1) = TF ts.length) := Lib.hid (by rw [← hTi, List.take_length]; exact hB)
   have hTs : Hid (∀ (k : Nat) (t : Ts), ts[k]? = some t → TF (k + 1) = TF k ++ if t.kind = 5 then [t.var] else []) := fun k t h => by
    rw [← hTi, ← hTi, Rul.bindT_take h, List.append_assoc]
   have hTl : Hid (∀ k, k ≤ ts.length → (TF k).length ≤ 2000000) := fun k hk => by
    rw [← hTi]
    have := Rul.bindT_len (ts.take k)
    rw [List.length_take] at this
    rw [List.length_append]
    omega
   clear hTF hTi hB
   generalize ts.map Ts.cells = TS at *
   repeat' (with_reducible first | refine Q1 ?_ | refine Qe ?_ | refine QQ ?_ | (refine al_go ?_; intro b) | (refine Qa ?_; intro o' ho') | (refine Qp ?_; intro o' ho') | (refine QD ?_ <;> (try constructor) <;> intro hb <;> try intro hb1) | fail)
   refine tr_loopd (ι := Nat) (fun k A st' => k ≤ ts.length ∧ A.df = [] ∧ A.e 1 = .ip [.str nm, .i sal, .sl .shared PS, .sl .shared AS] ∧ A.e 4 = .i i ∧ A.e 5 = .i k ∧ ∃ o', o' ≠ .shared ∧ A.e 3 = .sl o' ((TF k).map encI) ∧ st' = .room o' 3 1 ((TF k).map encI).length :: st) (fun k => ts.length - k) 0 ?_ ?_
   · rw [← hT0.out]
     exact ⟨Nat.zero_le _, Qf, Qf, Qf, Qf, o', ho', Qf, rfl⟩
   clear e3 e1 e4 hdf A ho' hT0
   clear o'
   rintro k A st' ⟨hk, hdf, e1, e4, e5, o', ho', e3, rfl⟩
   by_cases hkl : k < ts.length
   · obtain ⟨t, ht⟩ := gEx hkl
     have g1 := hct.out k t ht
     have hT := hTs.out k t ht
     have hTx := hTl.out k (by omega)
     clear ht hTs hTl hct hTn
     generalize TF k = Y at *
     cases t with
     | mk kind slot var val =>
     cases val with
     | mk k1 n1 s1 l1 =>
     rw [Ts.cells_mk] at g1
     dsimp only at hT
     by_cases h5 : kind = 5
     · subst h5
       rw [if_pos rfl] at hT
       have hT2 := Lib.hid hT
       clear hT
       have hY : (Y.map encI).length = Y.length := List.length_map ..
       repeat' (with_reducible first | refine Q1 ?_ | refine Qe ?_ | refine QQ ?_ | (refine al_go ?_; intro b) | (refine Qa ?_; intro o' ho') | (refine Qp ?_; intro o' ho') | (refine QD ?_ <;> (try constructor) <;> intro hb <;> try intro hb1) | fail)
       refine ⟨k + 1, .room o' 3 1 ((Y ++ [var]).map encI).length :: st, ?_, ⟨hkl, ?_, ?_, ?_, ?_, o', ho', ?_, ?_⟩, ?_⟩
       · rw [List.map_append]; (repeat (first | exact List.Sublist.refl _ | with_reducible apply List.Sublist.cons_cons | apply List.Sublist.cons))
       rotate_right 3
       · rw [hT2.out, List.map_append]; exact Qf
       · rw [hT2.out]
       all_goals exact Qf
     · rw [if_neg h5, List.append_nil] at hT
       have h5b : (kind == 5) = false := beq_eq_false_iff_ne.2 h5
       have hT2 := Lib.hid hT
       clear hT
       repeat' (with_reducible first | refine Q1 ?_ | refine Qe ?_ | refine QQ ?_ | (refine al_go ?_; intro b) | (refine Qa ?_; intro o' ho') | (refine Qp ?_; intro o' ho') | (refine QD ?_ <;> (try constructor) <;> intro hb <;> try intro hb1) | fail)
       refine ⟨k + 1, .room o' 3 1 (Y.map encI).length :: st, (by (repeat (first | exact List.Sublist.refl _ | apply List.Sublist.cons))), ⟨hkl, ?_, ?_, ?_, ?_, o', ho', ?_, ?_⟩, ?_⟩
       rotate_right 3
       · rw [hT2.out]; exact Qf
       · rw [hT2.out]
       all_goals exact Qf
   · obtain rfl : k = ts.length := by omega
     have hE := hTn
     clear hTs hTl hct hTn
     repeat' (with_reducible first | refine Q1 ?_ | refine Qe ?_ | refine QQ ?_ | (refine al_go ?_; intro b) | (refine Qa ?_; intro o' ho') | (refine Qp ?_; intro o' ho') | (refine QD ?_ <;> (try constructor) <;> intro hb <;> try intro hb1) | fail)
     refine ⟨i + 1, .room o' 3 1 ((TF ts.length).map encI).length :: st, (by (repeat (first | exact List.Sublist.refl _ | apply List.Sublist.cons))), ⟨hlt, ?_, ?_, ?_, o', ho', ?_, ?_⟩, by omega⟩
     rotate_right 2
     · rw [hE.out]; exact Qf
     · rw [hE.out]
     all_goals exact Qf
 · obtain rfl : i = ps.length := by omega
   exact WRa
theorem sameSlotsF (a b : List Sl) (hok : ∀ s ∈ a, s.dv.Ok) (hl : a.length ≤ 1000000) (hlb : b.length ≤ 1000000) (st : St) : TrF Tryz.prog 41 [.sl .shared (a.map Sl.cells), .sl .shared (b.map Sl.cells)] st fun d st' => d = .b (Reg.all2 Reg.slotS a b) ∧ st' = st := by
 obtain ⟨B, hB⟩ : ∃ B, Reg.all2 Reg.slotS a b = B := ⟨_, rfl⟩
 rw [hB]
 have hm1 : (a.map Sl.cells).length = a.length := List.length_map ..
 have hm2 : (b.map Sl.cells).length = b.length := List.length_map ..
 have hc1 := hMp Sl.cells a
 have hc2 := hMp Sl.cells b
 have hok2 := Lib.hid hok
 clear hok
 generalize a.map Sl.cells = AS at *
 generalize b.map Sl.cells = BS at *
 by_cases hlen : a.length = b.length
 · have HB : Hid (Reg.all2 Reg.slotS (a.drop 0) (b.drop 0) = B) := hB
   clear hB
   refine Qin [4] Tryz.func41 Tryz.results41 Tryz.ntmps41 ?_
   repeat' (with_reducible first | refine Q1 ?_ | refine Qe ?_ | refine QQ ?_ | (refine al_go ?_; intro b) | (refine QD ?_ <;> (try constructor) <;> intro hb <;> try intro hb1) | fail)
   refine tr_loopd (ι := Nat) (fun i A st' => i ≤ a.length ∧ Hid (Reg.all2 Reg.slotS (a.drop i) (b.drop i) = B) ∧ A.df = [] ∧ A.e 0 = .sl .shared AS ∧ A.e 1 = .sl .shared BS ∧ A.e 5 = .i i ∧ st = st') (fun i => a.length - i) 0 ⟨Nat.zero_le _, HB, Qf, Qf, Qf, Qf, rfl⟩ ?_
   rintro i A st' ⟨hi, HT, hdf, e0, e1, e5, rfl⟩
   clear HB
   by_cases hlt : i < a.length
   · obtain ⟨s, hs⟩ := gEx hlt
     obtain ⟨v, hv⟩ := gEx (l := b) (i := i) (by omega)
     have HE := HT.out
     rw [Reg.all2_drop hs hv] at HE
     have h1 := hc1.out i s hs
     have h2 := hc2.out i v hv
     have hF := refSameF s.dv v.dv (hok2.out s (List.mem_of_getElem? hs))
     clear HT hs hv
     obtain ⟨G, hGG⟩ : ∃ G, Reg.all2 Reg.slotS (a.drop (i + 1)) (b.drop (i + 1)) = G := ⟨_, rfl⟩
     rw [hGG] at HE
     replace hGG := Lib.hid hGG
     cases s with
     | mk an at_ ar av =>
     cases v with
     | mk bn bt br bv =>
     unfold Reg.slotS at HE
     dsimp only at HE hF
     generalize (av.cmp bv == 0) = q4 at *
     generalize hq1 : (an.toList == bn.toList) = q1 at *
     have hq1n : (an.toList != bn.toList) = !q1 := by rw [← hq1]; rfl
     cases av with
     | mk k n s l =>
     cases bv with
     | mk k' n' s' l' =>
     rw [Sl.cells_mk] at h1 h2
     rw [V.cells_mk] at hF
     rw [V.cells_mk] at hF
     replace hF := Lib.hid hF
     cases q1 with
     | false =>
      rw [Bool.false_and, Bool.false_and] at HE
      subst HE
      clear hGG
      repeat' (first | (with_reducible first | refine Q1 ?_ | refine Qe ?_ | fail) | ((with_reducible refine w_drawRN ?_ ?_ ?_ ?_); (iterate 3 (focus kernel_rfl)); intro hne; simp only [nes, ne1, and_assoc] at hne; repeat (have hq := hne.1; replace hne := hne.2)) | (with_reducible first | refine QQ ?_ | (refine al_go ?_; intro b) | (refine QD ?_ <;> (try constructor) <;> intro hb <;> try intro hb1) | fail) | fail)
      all_goals exact Qret
     | true =>
      by_cases ht : at_ = bt
      · subst ht
        have ht2 : (at_ != at_) = false := by simp
        rw [beq_self_eq_true, Bool.true_and, Bool.true_and] at HE
        by_cases hr : ar = br
        · subst hr
          have hr2 : (ar != ar) = false := by simp
          rw [beq_self_eq_true, Bool.true_and] at HE
          cases q4 with
          | true =>
           rw [Bool.true_and] at HE
           replace HE := Lib.hid (hGG.out.trans HE)
           clear hGG
           repeat' (first | (with_reducible first | refine Q1 ?_ | refine Qe ?_ | fail) | ((with_reducible refine w_drawRN ?_ ?_ ?_ ?_); (iterate 3 (focus kernel_rfl)); intro hne; simp only [nes, ne1, and_assoc] at hne; repeat (have hq := hne.1; replace hne := hne.2)) | (with_reducible first | refine QQ ?_ | (refine al_go ?_; intro b) | (refine QD ?_ <;> (try constructor) <;> intro hb <;> try intro hb1) | fail) | fail)
           refine ⟨i + 1, st, (by (repeat (first | exact List.Sublist.refl _ | apply List.Sublist.cons))), ⟨hlt, HE, ?_, ?_, ?_, ?_, rfl⟩, by omega⟩
           all_goals exact Qf
          | false =>
           rw [Bool.false_and] at HE
           subst HE
           clear hGG
           repeat' (first | (with_reducible first | refine Q1 ?_ | refine Qe ?_ | fail) | ((with_reducible refine w_drawRN ?_ ?_ ?_ ?_); (iterate 3 (focus kernel_rfl)); intro hne; simp only [nes, ne1, and_assoc] at hne; repeat (have hq := hne.1; replace hne := hne.2)) | (with_reducible first | refine QQ ?_ | (refine al_go ?_; intro b) | (refine QD ?_ <;> (try constructor) <;> intro hb <;> try intro hb1) | fail) | fail)
           all_goals exact Qret
        · have hr2 : (ar != br) = true := by rw [bne_iff_ne]; exact hr
          rw [beq_eq_false_iff_ne.2 hr, Bool.false_and, Bool.false_and] at HE
          subst HE
          clear hGG
          repeat' (first | (with_reducible first | refine Q1 ?_ | refine Qe ?_ | fail) | ((with_reducible refine w_drawRN ?_ ?_ ?_ ?_); (iterate 3 (focus kernel_rfl)); intro hne; simp only [nes, ne1, and_assoc] at hne; repeat (have hq := hne.1; replace hne := hne.2)) | (with_reducible first | refine QQ ?_ | (refine al_go ?_; intro b) | (refine QD ?_ <;> (try constructor) <;> intro hb <;> try intro hb1) | fail) | fail)
          all_goals exact Qret
      · have ht2 : (at_ != bt) = true := by rw [bne_iff_ne]; exact ht
        rw [beq_eq_false_iff_ne.2 ht, Bool.false_and, Bool.true_and, Bool.false_and] at HE
        subst HE
        clear hGG
        repeat' (first | (with_reducible first | refine Q1 ?_ | refine Qe ?_ | fail) | ((with_reducible refine w_drawRN ?_ ?_ ?_ ?_); (iterate 3 (focus kernel_rfl)); intro hne; simp only [nes, ne1, and_assoc] at hne; repeat (have hq := hne.1; replace hne := hne.2)) | (with_reducible first | refine QQ ?_ | (refine al_go ?_; intro b) | (refine QD ?_ <;> (try constructor) <;> intro hb <;> try intro hb1) | fail) | fail)
        all_goals exact Qret
   · have HE := HT.out
     rw [List.drop_of_length_le (by omega), List.drop_of_length_le (by omega), Reg.all2] at HE
     subst HE
     clear HT
     exact WR
 · have hBf : B = false := by
    cases B with
    | false => rfl
    | true => exact absurd (Reg.all2_len _ _ hB) hlen
   subst hBf
   clear hB
   have hl2 : ¬ (a.length : Int) = (b.length : Int) := by omega
   clear hlen
   refine Qin [4] Tryz.func41 Tryz.results41 Tryz.ntmps41 ?_
   exact WR
structure Reg.TmR (t : Tm) : Prop where
 ls : t.slots.length ≤ 1000000
 lt : t.steps.length ≤ 1000000
 os : ∀ s ∈ t.slots, s.dv.Ok
 ot : ∀ s ∈ t.steps, s.slot.dv.Ok
end Go.Proofs.YtgcienlfpnpbgaaGreat
end
section
namespace Go.Proofs.YtgcienlfpnpbgaaGreat
attribute [local push_cast] encB encI encC V.cells_mk V.cells_len Nat.mul_one Int.sub_zero List.map_nil beq_self_eq_true bne_self_eq_false List.head?_cons
open Go.RowKit B
set_option maxHeartbeats 8000000
set_option maxRecDepth 10000
namespace Reg
structure KnR (t : Tm) : Prop where
 q : TQ t
 r : TmR t
theorem not_greatR {L : List Tm} (hw : ∀ t ∈ L, t.Wf) (h : great L = false) : ∀ t ∈ L, KnR t := by
 unfold great at h
 rw [Bool.or_eq_false_iff, decide_eq_false_iff_not, List.any_eq_false] at h
 intro t ht
 have hg : Sch.great t = false := by
  have := h.2 t ht
  cases hq : Sch.great t with
  | false => rfl
  | true => exact absurd hq this
 obtain ⟨hT, hs, hp, -, hl1, hl2⟩ := not_great10 (hw t ht) hg
 exact ⟨⟨by omega, by omega, fun s h => ⟨⟨(hs s h).2.2.2.2.2, (hs s h).1, by have := (hs s h).2.1; omega⟩, (hs s h).2.2.2.2.1⟩, fun s h => ⟨⟨(hp s h).2.2.2.1.2.2, (hp s h).1, by have := (hp s h).2.1; omega⟩, (hp s h).2.2.2.1.2.1, by have := (hp s h).2.2.2.2; omega⟩⟩, ⟨by omega, by omega, fun s h => (hs s h).2.2.2.2.2, fun s h => (hp s h).2.2.2.1.2.2⟩⟩
end Reg
end Go.Proofs.YtgcienlfpnpbgaaGreat
end
