/- Texts put together. No statement is proved here. -/
import Derived.Test.YtoeidpmjifjplaaGreatZ9
set_option linter.all false
set_option maxRecDepth 10000
set_option maxHeartbeats 8000000
namespace Go.Proofs.YtoeidpmjifjplaaGreat
open Go.RowKit
section
attribute [local push_cast] encB encI encC V.cells_mk V.cells_len Nat.mul_one Int.sub_zero List.map_nil beq_self_eq_true bne_self_eq_false List.head?_cons Bool.not_true Bool.not_false Nat.zero_add
set_option maxHeartbeats 16000000
theorem may18F (L : List Tm) (R : List Rl) (F : List Fc) (hwL : ∀ t ∈ L, t.Wf) (hlL : L.length ≤ maxLen) (hwR : ∀ x ∈ R, x.Wf) (hlR : R.length ≤ maxLen) (hwF : ∀ f ∈ F, f.Wf) (hlF : F.length ≤ maxLen) (st : St) : TrF Tryz.prog 15 [.sl .shared (L.map Tm.cells), .sl .shared (R.map Rl.cells), .sl .shared (F.map Fc.cells)] st fun d st' => d = .b (Mat.may L R F) ∧ st' = st := by
 have hG1 := refGreat13F L hwL hlL
 have hG2 := refGreat17F R hwR hlR
 unfold Mat.may
 have hFm : (F.map Fc.cells).length = F.length := List.length_map ..
 have hlF2 := hlF
 unfold maxLen at hlF2
 cases h1 : Reg.great L with
 | true =>
  rw [h1] at hG1
  rw [Bool.true_or, Bool.not_true, Bool.false_and]
  clear hwL hwR hwF h1 hG2 hlL hlR hlF
  generalize L.map Tm.cells = LS at *
  generalize R.map Rl.cells = RS at *
  generalize F.map Fc.cells = FS at *
  replace hG1 := Lib.hid hG1
  refine Qin [6] Tryz.func15 Tryz.results15 Tryz.ntmps15 ?_
  repeat' (first | refine QX ?_ | (refine QB ?_; intro b) | (refine QP ?_; intro o' ho') | (with_reducible refine QZ ?_ <;> (try constructor) <;> intro hb <;> try intro hb1) | refine Qc Tryz.call45 ((hG1.out _)) ?_ | fail)
  all_goals exact Qret
 | false =>
 rw [Bool.false_or]
 obtain ⟨hl12, hkn⟩ := Reg.not_great hwL h1
 rw [h1] at hG1
 clear h1 hwL
 cases h2 : Rul.great R with
 | true =>
  rw [h2] at hG2
  rw [Bool.not_true, Bool.false_and]
  clear hwR hwF h2 hlL hlR hlF hkn
  generalize L.map Tm.cells = LS at *
  generalize R.map Rl.cells = RS at *
  generalize F.map Fc.cells = FS at *
  replace hG1 := Lib.hid hG1
  replace hG2 := Lib.hid hG2
  refine Qin [6] Tryz.func15 Tryz.results15 Tryz.ntmps15 ?_
  repeat' (first | refine QX ?_ | (refine QB ?_; intro b) | (refine QP ?_; intro o' ho') | (with_reducible refine QZ ?_ <;> (try constructor) <;> intro hb <;> try intro hb1) | refine Qc Tryz.call45 ((hG1.out _)) ?_ | refine Qc Tryz.call46 ((hG2.out _)) ?_ | fail)
  all_goals exact Qret
 | false =>
 rw [Bool.not_false, Bool.true_and]
 obtain ⟨hr12, hrk⟩ := Rul.not_great hwR h2
 rw [h2] at hG2
 clear h2 hwR
 have hok : ∀ t ∈ L, TOk t := fun t h => (hkn t h).ok
 have hRt := ruleRightF L hok q_o R hrk q_o
 cases h3 : Rul.right L R with
 | false =>
  rw [h3] at hRt
  rw [Bool.false_and]
  clear hwF h3 hlL hlR hlF hkn hrk hok
  generalize L.map Tm.cells = LS at *
  generalize R.map Rl.cells = RS at *
  generalize F.map Fc.cells = FS at *
  replace hG1 := Lib.hid hG1
  replace hG2 := Lib.hid hG2
  replace hRt := Lib.hid hRt
  refine Qin [6] Tryz.func15 Tryz.results15 Tryz.ntmps15 ?_
  repeat' (first | refine QX ?_ | (refine QB ?_; intro b) | (refine QP ?_; intro o' ho') | (with_reducible refine QZ ?_ <;> (try constructor) <;> intro hb <;> try intro hb1) | refine Qc Tryz.call45 ((hG1.out _)) ?_ | refine Qc Tryz.call46 ((hG2.out _)) ?_ | refine Qc Tryz.call47 ((hRt.out _)) ?_ | fail)
  all_goals exact Qret
 | true =>
 rw [h3] at hRt
 rw [Bool.true_and]
 clear h3 hrk
 by_cases h7 : 7 < F.length
 · rw [decide_eq_false q_o, Bool.false_and]
   clear hwF hlL hlR hlF hkn hok
   generalize L.map Tm.cells = LS at *
   generalize R.map Rl.cells = RS at *
   generalize F.map Fc.cells = FS at *
   replace hG1 := Lib.hid hG1
   replace hG2 := Lib.hid hG2
   replace hRt := Lib.hid hRt
   refine Qin [6] Tryz.func15 Tryz.results15 Tryz.ntmps15 ?_
   repeat' (first | refine QX ?_ | (refine QB ?_; intro b) | (refine QP ?_; intro o' ho') | (with_reducible refine QZ ?_ <;> (try constructor) <;> intro hb <;> try intro hb1) | refine Qc Tryz.call45 ((hG1.out _)) ?_ | refine Qc Tryz.call46 ((hG2.out _)) ?_ | refine Qc Tryz.call47 ((hRt.out _)) ?_ | fail)
   all_goals exact Qret
 rw [decide_eq_true q_o, Bool.true_and]
 have hSl := Lib.hid fun (i : Nat) => ruleSlotsF L hok q_o i
 have hSm := Lib.hid fun (i : Nat) => Rul.slots_le L i
 have hLm : (L.map Tm.cells).length = L.length := List.length_map ..
 have hRg : Hid ((F.any fun f => f.s.any V.great) = false → ∀ (o : Own) (st : St), TrF Tryz.prog 49 [.sl .shared (F.map Fc.cells), .sl o ((Mat.slotN L).map encI)] st fun d st' => d = .b (Mat.right (Mat.slotN L) F) ∧ st' = st) := fun hg o st => refRight18F F (Mat.slotN L) (fun _ f hf => ⟨fun x hx => by
  have h1 := List.any_eq_false.1 hg f hf
  rw [Bool.not_eq_true] at h1
  have h2 := List.any_eq_false.1 h1 x hx
  rw [Bool.not_eq_true] at h2
  have h3 := V.not_great h2
  exact ⟨(hwF f hf).v x hx, h3.1, by omega⟩, (hwF f hf).l⟩) hlF (by rw [Mat.slotN_len]; omega) o st
 obtain ⟨og, hog⟩ : ∃ og : Nat → List (List D), og = fun i => ((Mat.slotN L).take i).map encI := ⟨_, rfl⟩
 have h0 : og 0 = [] := by rw [hog]; rfl
 have hst : Hid (∀ i, i < L.length → og (i + 1) = og i ++ [[.i (Rul.slots L i).length]]) := fun i h => by
  have e : (Mat.slotN L)[i]? = some ((Rul.slots L i).length : Int) := by
   unfold Mat.slotN
   rw [List.getElem?_map, List.getElem?_range h]
   rfl
  rw [hog]
  dsimp only
  rw [List.take_add_one, e, Option.toList_some, List.map_append]
  rfl
 have hend : Hid (og L.length = (Mat.slotN L).map encI) := by
  rw [hog]
  dsimp only
  rw [List.take_of_length_le (Nat.le_of_eq (Mat.slotN_len L))]
  exact Lib.hid rfl
 have hol : Hid (∀ i, (og i).length ≤ 12) := fun i => by
  rw [hog]
  dsimp only
  rw [List.length_map, List.length_take, Mat.slotN_len]
  omega
 have ho1 : Hid (∀ i, ∀ a ∈ og i, a.length = 1) := fun i a ha => by
  rw [hog] at ha
  obtain ⟨x, -, rfl⟩ := List.mem_map.1 ha
  rfl
 have hFc := hMp Fc.cells F
 replace hwF := Lib.hid hwF
 rw [← hend.out] at hRg
 clear hog hend hok hkn hlL hlR hlF
 obtain ⟨Q, hQ⟩ : ∃ Q, Mat.right (Mat.slotN L) F = Q := ⟨_, rfl⟩
 rw [hQ] at hRg ⊢
 clear hQ
 obtain ⟨T, hT⟩ : ∃ T, (F.any fun f => f.s.any V.great) = T := ⟨_, rfl⟩
 rw [hT] at hRg ⊢
 have HT : Hid (((F.drop 0).any fun f => f.s.any V.great) = T) := hT
 clear hT
 generalize L.map Tm.cells = LS at *
 generalize R.map Rl.cells = RS at *
 generalize F.map Fc.cells = FS at *
 replace hG1 := Lib.hid hG1
 replace hG2 := Lib.hid hG2
 replace hRt := Lib.hid hRt
 refine Qin [6] Tryz.func15 Tryz.results15 Tryz.ntmps15 ?_
 refine tr_room 3 1 (og 0).length ?_
 rw [h0]
 repeat' (first | refine QX ?_ | (refine QB ?_; intro b) | (refine QP ?_; intro o' ho') | (with_reducible refine QZ ?_ <;> (try constructor) <;> intro hb <;> try intro hb1) | refine Qc Tryz.call45 ((hG1.out _)) ?_ | refine Qc Tryz.call46 ((hG2.out _)) ?_ | refine Qc Tryz.call47 ((hRt.out _)) ?_ | fail)
 refine tr_loopd (ι := Nat) (fun i A st' => i ≤ L.length ∧ A.df = [] ∧ A.e 0 = .sl .shared LS ∧ A.e 2 = .sl .shared FS ∧ A.e 8 = .i i ∧ ∃ o2, o2 ≠ .shared ∧ A.e 7 = .sl o2 (og i) ∧ st' = .room o2 3 1 (og i).length :: st) (fun i => L.length - i) 0 ⟨Nat.zero_le _, Qf, Qf, Qf, Qf, .tight, tight_ne, by rw [h0]; exact Qf, by rw [h0]⟩ ?_
 clear h0 hG1 hG2 hRt
 rintro i A st' ⟨hi, hdf, e0, e2, e8, o2, ho2, e7, rfl⟩
 by_cases hlt : i < L.length
 · have hC := Lib.hid (hSl.out i)
   have hs := Lib.hid (hst.out i hlt)
   have hl1 := hol.out i
   have hl3 := ho1.out i
   have hn := hSm.out i
   have hCm : ((Rul.slots L i).map Sl.cells).length = (Rul.slots L i).length := List.length_map ..
   clear hSl hst hol ho1 hSm hFc hwF hRg HT
   generalize (Rul.slots L i).map Sl.cells = SC at *
   generalize (Rul.slots L i).length = n at *
   obtain ⟨OG, hOG⟩ : ∃ OG, OG = og i := ⟨_, rfl⟩
   rw [← hOG] at hl1 hl3 e7 hs ⊢
   clear hOG
   repeat' (first | refine QV ?_ | ((with_reducible refine w_draw [] ?_ ?_ ?_ ?_ ?_); (iterate 3 (focus kernel_rfl)); (focus ((repeat (first | exact keep_nil | refine keep_more q_m ?_)); done))) | ((with_reducible refine And.intro ?_ ?_); (focus exact q_k)) | refine QY ?_ | (refine QB ?_; intro b) | (refine QP ?_; intro o' ho') | (with_reducible refine QZ ?_ <;> (try constructor) <;> intro hb <;> try intro hb1) | refine Qc Tryz.call48 ((hC.out _)) ?_ | fail)
   refine ⟨i + 1, .room o' 3 1 (OG ++ [[D.i n]]).length :: st, q_t, ⟨hlt, ?_, ?_, ?_, ?_, o', ho', ?_, by rw [hs.out]⟩, by omega⟩
   all_goals first | (rw [hs.out]; exact Qf) | exact Qf
 have hil : i = L.length := by omega
 subst hil
 clear hSl hst hol ho1 hSm
 repeat' (first | refine QX ?_ | (refine QB ?_; intro b) | (refine QP ?_; intro o' ho') | (with_reducible refine QZ ?_ <;> (try constructor) <;> intro hb <;> try intro hb1) | fail)
 refine tr_loopd (ι := Nat) (fun i A st' => i ≤ F.length ∧ Hid (((F.drop i).any fun f => f.s.any V.great) = T) ∧ A.df = [] ∧ A.e 2 = .sl .shared FS ∧ A.e 9 = .i i ∧ A.e 7 = .sl o2 (og L.length) ∧ st' = .room o2 3 1 (og L.length).length :: st) (fun i => F.length - i) 0 ⟨Nat.zero_le _, HT, Qf, Qf, Qf, Qf, rfl⟩ ?_
 clear HT hdf e0 e2 e7 e8
 rintro i A st' ⟨hi, HT, hdf, e2, e9, e7, rfl⟩
 by_cases hlt : i < F.length
 · obtain ⟨f, hf⟩ := gEx hlt
   have hfc := hFc.out i f hf
   have hfw := hwF.out f (List.mem_of_getElem? hf)
   have HE := HT.out
   rw [any_drop hf] at HE
   have hVm : (f.s.map V.cells).length = f.s.length := List.length_map ..
   have hVc := hMp V.cells f.s
   have hVg : Hid (∀ x ∈ f.s, ∀ st, TrF Tryz.prog 16 [.agg x.cells] st fun d st' => d = .b x.great ∧ st' = st) := fun x hx st => refGreatF x (hfw.v x hx) st
   have hfl := hfw.l
   unfold maxLen at hfl
   rw [show f.cells = [.i f.id, .i f.time, .i f.tmpl, .i f.ver, .sl .shared (f.s.map V.cells)] from rfl] at hfc
   clear HT hFc hwF hf hfw hRg
   obtain ⟨G, hGG⟩ : ∃ G, ((F.drop (i + 1)).any fun f => f.s.any V.great) = G := ⟨_, rfl⟩
   rw [hGG] at HE
   replace hGG := Lib.hid hGG
   generalize f.s = vs at *
   generalize f.id = f0 at *
   generalize f.time = f1 at *
   generalize f.tmpl = f2 at *
   generalize f.ver = f3 at *
   generalize vs.map V.cells = VS at *
   generalize og L.length = OG at *
   have HV : Hid (((vs.drop 0).any V.great || G) = T) := HE
   clear HE
   repeat' (first | refine QX ?_ | (refine QB ?_; intro b) | (refine QP ?_; intro o' ho') | (with_reducible refine QZ ?_ <;> (try constructor) <;> intro hb <;> try intro hb1) | fail)
   refine tr_loopd (ι := Nat) (fun k A2 st2 => k ≤ vs.length ∧ Hid (((vs.drop k).any V.great || G) = T) ∧ A2.df = [] ∧ A2.e 2 = .sl .shared FS ∧ A2.e 9 = .i i ∧ A2.e 7 = .sl o2 OG ∧ A2.e 10 = .i k ∧ st2 = .room o2 3 1 OG.length :: st) (fun k => vs.length - k) 0 ⟨Nat.zero_le _, HV, Qf, Qf, Qf, Qf, Qf, rfl⟩ ?_
   clear HV hdf e2 e9 e7
   rintro k A2 st2 ⟨hk, HK, hdf, e2, e9, e7, e10, rfl⟩
   by_cases hkl : k < vs.length
   · obtain ⟨x, hx⟩ := gEx hkl
     have hxc := hVc.out k x hx
     have hxr := hVg.out x (List.mem_of_getElem? hx)
     have HE := HK.out
     rw [any_drop hx, Bool.or_assoc] at HE
     clear HK hVc hVg hx
     cases x with
     | mk k1 n1 s1 l1 =>
     rw [V.cells_mk] at hxc hxr
     generalize l1.map V.cells = L1 at *
     cases hq : V.great (V.mk k1 n1 s1 l1) with
     | true =>
      rw [hq, Bool.true_or] at HE
      rw [hq] at hxr
      subst HE
      clear hq
      replace hxr := Lib.hid hxr
      repeat' (first | refine QX ?_ | (refine QB ?_; intro b) | (refine QP ?_; intro o' ho') | (with_reducible refine QZ ?_ <;> (try constructor) <;> intro hb <;> try intro hb1) | refine Qc Tryz.call16 ((hxr.out _)) ?_ | fail)
      all_goals exact Qret
     | false =>
      rw [hq, Bool.false_or] at HE
      rw [hq] at hxr
      clear hq
      replace hxr := Lib.hid hxr
      replace HE := Lib.hid HE
      repeat' (first | refine QX ?_ | (refine QB ?_; intro b) | (refine QP ?_; intro o' ho') | (with_reducible refine QZ ?_ <;> (try constructor) <;> intro hb <;> try intro hb1) | refine Qc Tryz.call16 ((hxr.out _)) ?_ | fail)
      refine ⟨k + 1, .room o2 3 1 OG.length :: st, q_u, ⟨hkl, HE, ?_, ?_, ?_, ?_, ?_, rfl⟩, by omega⟩
      all_goals exact Qf
   · have HE := HK.out
     rw [List.drop_of_length_le q_o, List.any_nil, Bool.false_or] at HE
     replace HE := Lib.hid (hGG.out.trans HE)
     clear HK hGG hVc hVg
     repeat' (first | refine QX ?_ | (refine QB ?_; intro b) | (refine QP ?_; intro o' ho') | (with_reducible refine QZ ?_ <;> (try constructor) <;> intro hb <;> try intro hb1) | fail)
     refine ⟨i + 1, .room o2 3 1 OG.length :: st, q_u, ⟨hlt, HE, ?_, ?_, ?_, ?_, rfl⟩, by omega⟩
     all_goals exact Qf
 · have HE := HT.out
   rw [List.drop_of_length_le q_o, List.any_nil] at HE
   subst HE
   have hR := Lib.hid (hRg.out rfl)
   clear HT hFc hwF hRg
   generalize og L.length = OG at *
   repeat' (first | refine QX ?_ | (refine QB ?_; intro b) | (refine QP ?_; intro o' ho') | (with_reducible refine QZ ?_ <;> (try constructor) <;> intro hb <;> try intro hb1) | refine Qc Tryz.call49 ((hR.out _ _)) ?_ | fail)
   all_goals exact Qret
abbrev w0 : V := .mk 0 0 ⟨#[]⟩ []
abbrev wI (n : Int) : V := .mk 2 n ⟨#[]⟩ []
abbrev aR : Rl := ⟨⟨#[114]⟩, 0, [⟨0, false, [⟨5, 0, 0, w0⟩]⟩, ⟨0, false, []⟩], []⟩
abbrev aF : List Fc := [⟨1, 0, 0, 0, [wI 5]⟩, ⟨2, 0, 0, 0, [wI 6]⟩]
theorem aR_cells : aR.cells = [.str ⟨#[114]⟩, .i 0, .sl .shared [[.i 0, .b false, .sl .shared [[.i 5, .i 0, .i 0, .i 0, .i 0, .str ⟨#[]⟩, .sl .shared []]]], [.i 0, .b false, .sl .shared []]], .sl .shared []] := by
 simp only [Rl.cells, Pt.cells, Ac.cells, List.map_cons, List.map_nil, Ts.cells_mk, Ex.cells_mk]
theorem aF_cells : aF.map Fc.cells = [[.i 1, .i 0, .i 0, .i 0, .sl .shared [[.i 2, .i 5, .str ⟨#[]⟩, .sl .shared []]]], [.i 2, .i 0, .i 0, .i 0, .sl .shared [[.i 2, .i 6, .str ⟨#[]⟩, .sl .shared []]]]] := by
 simp only [Fc.cells, List.map_cons, List.map_nil, V.cells_mk]
theorem w_ok (k n : Int) (h : (0 ≤ k ∧ k ≤ 9) ∧ 0 ≤ n ∧ n ≤ 9) : (V.mk k n ⟨#[]⟩ []).Ok := .mk q_o q_o (Nat.zero_le _) (Nat.zero_le _) (fun x h => by cases h)
theorem aR_xk : ∀ x ∈ [aR], XK x := fun x hx => by
 rw [List.mem_singleton.1 hx]
 refine ⟨fun p hp => ?_, by decide⟩
 simp only [List.mem_cons, List.not_mem_nil, or_false] at hp
 rcases hp with rfl | rfl
 · exact ⟨fun t ht => by rw [List.mem_singleton.1 ht]; exact (w_ok 0 0 (by decide)).bg, by decide⟩
 · exact ⟨fun t ht => (by cases ht), by decide⟩
theorem aF_fks : FKs aF := ⟨fun f hf => by
 simp only [List.mem_cons, List.not_mem_nil, or_false] at hf
 rcases hf with rfl | rfl
 · exact ⟨fun x hx => by rw [List.mem_singleton.1 hx]; exact ⟨w_ok 2 5 (by decide), by decide⟩, by decide⟩
 · exact ⟨fun x hx => by rw [List.mem_singleton.1 hx]; exact ⟨w_ok 2 6 (by decide), by decide⟩, by decide⟩, by decide⟩
theorem a_all : Mat.sortM (Mat.raws [aR] aF) = [⟨0, [1, 1]⟩, ⟨0, [1, 2]⟩, ⟨0, [2, 1]⟩, ⟨0, [2, 2]⟩] := by kernel_rfl
theorem a_rl : (Mat.raws [aR] aF).length ≤ 1000000 := of_decide_eq_true (by kernel_rfl)
theorem a_env : Mat.envP aR aF [2, 1] = some [wI 6, w0, w0, w0, w0, w0, w0, w0] := by kernel_rfl
theorem a_no : Mat.envP aR aF [3, 1] = none := by kernel_rfl
theorem a_less : Mat.less ⟨0, [1, 1]⟩ ⟨0, [1, 2]⟩ = true := by kernel_rfl
theorem alive18F (st : St) : TrF Tryz.prog 14 [] st fun d st' => d = .b true ∧ st' = st := by
 have hA := matAllF [aR] aF aR_xk (by decide) aF_fks a_rl
 have hE := matEnvF aR aF (aR_xk aR (List.mem_singleton.2 rfl)) aF_fks [2, 1] (by decide)
 have hN := matEnvF aR aF (aR_xk aR (List.mem_singleton.2 rfl)) aF_fks [3, 1] (by decide)
 have hL := matLessF ⟨0, [1, 1]⟩ ⟨0, [1, 2]⟩ (by decide) (by decide)
 have hI := fun o => refIntsL .shared o [1, 2] [1, 2]
 have hM := matEmptyF
 have h5 := refIntF 5
 have h6 := refIntF 6
 have hMl : (Mat.empty.map V.cells).length = 8 := by rw [List.length_map]; rfl
 generalize Mat.empty.map V.cells = EM at *
 rw [a_all] at hA
 rw [a_env] at hE
 rw [a_no] at hN
 rw [a_less] at hL
 rw [decide_eq_true rfl] at hI
 simp only [List.map_cons, List.map_nil, V.cells_mk, Mt.cells, encI, envD, aR_cells, aF_cells] at hA hE hN hL hI h5 h6
 replace hA := Lib.hid hA
 replace hE := Lib.hid hE
 replace hN := Lib.hid hN
 replace hL := Lib.hid hL
 replace hI := Lib.hid hI
 replace hM := Lib.hid hM
 replace h5 := Lib.hid h5
 replace h6 := Lib.hid h6
 refine Qin [0] Tryz.func14 Tryz.results14 Tryz.ntmps14 ?_
 repeat' (first | refine QV ?_ | with_reducible refine s_boxP ?_ | ((with_reducible refine QW ?_); intro hne; simp only [nes, ne1, and_assoc] at hne; repeat (have hq := hne.1; replace hne := hne.2)) | refine QY ?_ | (refine QB ?_; intro b) | (with_reducible refine QZ ?_ <;> (try constructor) <;> intro hb <;> try intro hb1) | refine Qc Tryz.call44 ((h5.out _)) ?_ | refine Qc Tryz.call44 ((h6.out _)) ?_ | refine QL Tryz.call23 ((hA.out _)) ?_ | refine QL Tryz.call27 ((hE.out _)) ?_ | refine QL Tryz.call27 ((hN.out _)) ?_ | refine QL Tryz.call25 ((hL.out _)) ?_ | refine Qc Tryz.call20 ((hM.out _)) ?_ | refine QL Tryz.call29 ((hI.out _ _)) ?_ | fail)
 all_goals exact Qret
end
section
attribute [local push_cast] encB encI encC V.cells_mk V.cells_len Nat.mul_one Int.sub_zero List.map_nil beq_self_eq_true bne_self_eq_false List.head?_cons Bool.not_true Bool.not_false Nat.zero_add
def findD : Option Fc → D
 | some f => .tup [.agg f.cells, .b true]
 | none => .tup [.agg [.i 0, .i 0, .i 0, .i 0, .sl .tight []], .b false]
theorem Mat.find_drop {F : List Fc} {i : Nat} {f : Fc} {id : Int} (h : F[i]? = some f) : Mat.find (F.drop i) id = if f.id = id then some f else Mat.find (F.drop (i + 1)) id := by
 rw [V.drop_cons h]
 unfold Mat.find
 rw [List.find?_cons]
 by_cases e : f.id = id
 · rw [if_pos e, beq_iff_eq.2 e]
 · rw [if_neg e, beq_eq_false_iff_ne.2 e]
theorem refFind18F (F : List Fc) (hF : F.length ≤ 1000000) (id : Int) (st : St) : TrF Tryz.prog 61 [.sl .shared (F.map Fc.cells), .i id] st fun d st' => d = findD (Mat.find F id) ∧ st' = st := by
 have hFm : (F.map Fc.cells).length = F.length := List.length_map ..
 have hFc := hMp Fc.cells F
 obtain ⟨R, hR⟩ : ∃ R, Mat.find F id = R := ⟨_, rfl⟩
 have HR : Hid (Mat.find (F.drop 0) id = R) := hR
 rw [hR]
 clear hR
 generalize F.map Fc.cells = FS at *
 refine trF_enterG (G := twoA Tryz.prog (.cell 4 43) (.tmp 5)) Tryz.func61 rfl (by rw [Tryz.ntmps61]; exact Nat.le_of_ble_eq_true rfl) (fun h1 h2 h3 => res_two rfl h1 h2 h3) ?_
 simp only [Tryz.ntmps61]
 repeat' (first | refine QX ?_ | (refine QB ?_; intro b) | (with_reducible refine QZ ?_ <;> (try constructor) <;> intro hb <;> try intro hb1) | fail)
 refine tr_loop (ι := Nat) (fun i A st' => i ≤ F.length ∧ Hid (Mat.find (F.drop i) id = R) ∧ A.df = [] ∧ A.e 0 = .sl .shared FS ∧ A.e 1 = .i id ∧ A.e 4 = .ptr b 0 ∧ A.e 6 = .i i ∧ st' = .box b 43 [.i 0, .i 0, .i 0, .i 0, .sl .tight []] :: st) (fun i => F.length - i) 0 ⟨Nat.zero_le _, HR, Qf, Qf, Qf, Qf, Qf, rfl⟩ ?_
 clear HR
 rintro i A st' ⟨hi, HT, hdf, e0, e1, e4, e6, rfl⟩
 by_cases hlt : i < F.length
 · obtain ⟨f, hf⟩ := gEx hlt
   have hfc := hFc.out i f hf
   have HE := HT.out
   rw [Mat.find_drop hf] at HE
   clear HT hFc hf
   by_cases he : f.id = id
   · rw [if_pos he] at HE
     subst HE he
     unfold findD
     dsimp only
     rw [show f.cells = [.i f.id, .i f.time, .i f.tmpl, .i f.ver, .sl .shared (f.s.map V.cells)] from rfl] at *
     generalize f.id = f0 at *
     generalize f.time = f1 at *
     generalize f.tmpl = f2 at *
     generalize f.ver = f3 at *
     generalize f.s.map V.cells = VS at *
     repeat' (first | refine QX ?_ | (refine QB ?_; intro b) | (with_reducible refine QZ ?_ <;> (try constructor) <;> intro hb <;> try intro hb1) | fail)
     all_goals (refine retG_mk (rs := []) q_x q_y (List.Perm.refl _) ⟨_, _, rfl, cell_mk q_s q_m q_s q_v, q_w⟩ q_t (LE.refl _) ⟨rfl, rfl⟩)
   · rw [if_neg he] at HE
     replace HE := Lib.hid HE
     rw [show f.cells = [.i f.id, .i f.time, .i f.tmpl, .i f.ver, .sl .shared (f.s.map V.cells)] from rfl] at *
     generalize f.id = f0 at *
     generalize f.time = f1 at *
     generalize f.tmpl = f2 at *
     generalize f.ver = f3 at *
     generalize f.s.map V.cells = VS at *
     repeat' (first | refine QX ?_ | (refine QB ?_; intro b) | (with_reducible refine QZ ?_ <;> (try constructor) <;> intro hb <;> try intro hb1) | fail)
     refine ⟨i + 1, ⟨hlt, HE, ?_, ?_, ?_, ?_, ?_, rfl⟩, by omega⟩
     all_goals exact Qf
 · have HE := HT.out
   rw [List.drop_of_length_le q_o] at HE
   subst HE
   clear HT hFc
   repeat' (first | refine QX ?_ | (refine QB ?_; intro b) | (with_reducible refine QZ ?_ <;> (try constructor) <;> intro hb <;> try intro hb1) | fail)
   all_goals (refine retG_mk (rs := []) q_x q_y (List.Perm.refl _) ⟨_, _, rfl, cell_mk q_s q_m q_s q_v, q_w⟩ q_t (LE.refl _) ⟨rfl, rfl⟩)
namespace Mat
def envF (F : List Fc) : List Pt → List Int → List V → List V × Bool
 | [], ids, env => (env, decide (ids = []))
 | p :: ps, ids, env => if p.neg = true then (if passL p F env = [] then envF F ps ids env else ([], false))
  else match ids with
   | [] => ([], false)
   | i :: is => match find F i with
    | none => ([], false)
    | some f => match pass p f env with
     | none => ([], false)
     | some e => envF F ps is e
theorem envF_R (F : List Fc) : ∀ (ps : List Pt) (ids : List Int) (env : List V), match envR F ps ids env with | some e => envF F ps ids env = (e, true) | none => (envF F ps ids env).2 = false
 | [], ids, env => by
  unfold envR envF
  by_cases h : ids = []
  · rw [if_pos h, decide_eq_true h]
  · rw [if_neg h, decide_eq_false h]
 | p :: ps, ids, env => by
  rw [envR.eq_def, envF.eq_def]
  dsimp only
  by_cases hn : p.neg = true
  · rw [if_pos hn, if_pos hn]
    by_cases h0 : passL p F env = []
    · rw [if_pos h0, if_pos h0]; exact envF_R F ps ids env
    · rw [if_neg h0, if_neg h0]
  · rw [if_neg hn, if_neg hn]
    cases ids with
    | nil => rfl
    | cons i is =>
     dsimp only
     cases find F i with
     | none => rfl
     | some f =>
      dsimp only
      cases pass p f env with
      | none => rfl
      | some e => exact envF_R F ps is e
end Mat
end
section
attribute [local push_cast] encB encI encC V.cells_mk V.cells_len Nat.mul_one Int.sub_zero List.map_nil beq_self_eq_true bne_self_eq_false List.head?_cons Bool.not_true Bool.not_false Nat.zero_add
set_option maxHeartbeats 16000000
def envFD (r : List V × Bool) : D := .tup [.sl .shared (r.1.map V.cells), .b r.2]
namespace Mat
theorem passL_take {p : Pt} {F : List Fc} {e : List V} {k : Nat} {f : Fc} (h : F[k]? = some f) : passL p (F.take (k + 1)) e = passL p (F.take k) e ++ (match pass p f e with | some e' => [(f.id, e')] | none => []) := by
 unfold passL
 rw [List.take_add_one, h, Option.toList_some, List.filterMap_append]
 congr 1
 cases hq : pass p f e with
 | none => rw [List.filterMap_cons_none (by rw [hq]; rfl)]; rfl
 | some e' => rw [List.filterMap_cons_some (by rw [hq]; rfl)]; rfl
theorem passL_some {p : Pt} {F : List Fc} {e e' : List V} {k : Nat} {f : Fc} (h : F[k]? = some f) (hp : pass p f e = some e') : passL p F e ≠ [] := fun h0 => by
 unfold passL at h0
 have := List.filterMap_eq_nil_iff.1 h0 f (List.mem_of_getElem? h)
 rw [hp] at this
 cases this
theorem envF_neg {F : List Fc} {P : List Pt} {i : Nat} {p : Pt} {ids : List Int} {e : List V} (h : P[i]? = some p) (hn : p.neg = true) : envF F (P.drop i) ids e = if passL p F e = [] then envF F (P.drop (i + 1)) ids e else ([], false) := by
 rw [V.drop_cons h, envF.eq_def]
 dsimp only
 rw [if_pos hn]
theorem envF_out {F : List Fc} {P : List Pt} {i a : Nat} {p : Pt} {ids : List Int} {e : List V} (h : P[i]? = some p) (hn : p.neg = false) (ha : ids.length ≤ a) : envF F (P.drop i) (ids.drop a) e = ([], false) := by
 rw [V.drop_cons h, envF.eq_def, List.drop_of_length_le ha]
 dsimp only
 rw [if_neg (by rw [hn]; exact Bool.false_ne_true)]
theorem envF_pos {F : List Fc} {P : List Pt} {i a : Nat} {p : Pt} {ids : List Int} {v : Int} {e : List V} (h : P[i]? = some p) (hn : p.neg = false) (ha : ids[a]? = some v) : envF F (P.drop i) (ids.drop a) e = match find F v with | none => ([], false) | some f => match pass p f e with | none => ([], false) | some e' => envF F (P.drop (i + 1)) (ids.drop (a + 1)) e' := by
 rw [V.drop_cons h, envF.eq_def, V.drop_cons ha]
 dsimp only
 rw [if_neg (by rw [hn]; exact Bool.false_ne_true)]
 all_goals
  cases find F v with
  | none => rfl
  | some f =>
   dsimp only
   cases pass p f e <;> rfl
theorem find_mem {F : List Fc} {v : Int} {f : Fc} (h : find F v = some f) : f ∈ F := List.mem_of_find?_eq_some h
end Mat
theorem zero_fk : FK Fc.zero := ⟨fun x hx => (by cases hx), Nat.zero_le _⟩
theorem refEnv18F (x : Rl) (F : List Fc) (hx : XK x) (hF : FKs F) (ids : List Int) (hid : ids.length ≤ 1000000) (st : St) : TrF Tryz.prog 28 [.agg x.cells, .sl .shared (F.map Fc.cells), .sl .shared (ids.map encI)] st fun d st' => d = envFD (Mat.envF F x.pats ids Mat.empty) ∧ st' = st := by
 have hE := Lib.hid refEmpty18F
 have hFm : (F.map Fc.cells).length = F.length := List.length_map ..
 have hFc := hMp Fc.cells F
 have hIm : (ids.map encI).length = ids.length := List.length_map ..
 have hIc : Hid (∀ (i : Nat) (v : Int), ids[i]? = some v → (ids.map encI)[i]? = some [.i v]) := fun i v h => by rw [List.getElem?_map, h]; rfl
 have hPm : (x.pats.map Pt.cells).length = x.pats.length := List.length_map ..
 have hPc := hMp Pt.cells x.pats
 have hPa : Hid (∀ p ∈ x.pats, ∀ f, FK f → ∀ e : List V, e.length ≤ 1000000 → ∀ st, TrF Tryz.prog 18 [.agg p.cells, .agg f.cells, .sl .shared (e.map V.cells)] st fun d st' => d = passD (Mat.pass p f e) ∧ st' = st) := fun p hp f hf e he st => refPass18F p f e (hx.p p hp).l hf he .shared st
 have hFi := Lib.hid fun v => refFind18F F hF.l v
 have hff := Lib.hid hF.f
 have hfl := hF.l
 have hxl := hx.l
 obtain ⟨R, hR⟩ : ∃ R, Mat.envF F x.pats ids Mat.empty = R := ⟨_, rfl⟩
 have HR : Hid (Mat.envF F (x.pats.drop 0) (ids.drop 0) Mat.empty = R) := hR
 have h8 : Mat.empty.length = 8 := rfl
 rw [hR]
 clear hR hx hF
 rw [show x.cells = [.str x.name, .i x.sal, .sl .shared (x.pats.map Pt.cells), .sl .shared (x.acts.map Ac.cells)] from rfl]
 generalize x.pats.map Pt.cells = PS at *
 generalize x.acts.map Ac.cells = AS at *
 generalize x.name = nm at *
 generalize x.sal = sal at *
 generalize x.pats = P at *
 generalize F.map Fc.cells = FS at *
 generalize ids.map encI = IS at *
 generalize Mat.empty = em at *
 refine Qin [6,7] Tryz.func28 Tryz.results28 Tryz.ntmps28 ?_
 repeat' (first | refine QX ?_ | (refine QB ?_; intro b) | (with_reducible refine QZ ?_ <;> (try constructor) <;> intro hb <;> try intro hb1) | refine Qc Tryz.call21 ((hE.out _)) ?_ | fail)
 refine tr_loopd (ι := Nat) (fun i A st' => i ≤ P.length ∧ A.df = [] ∧ A.e 1 = .sl .shared FS ∧ A.e 2 = .sl .shared IS ∧ A.e 3 = .ip [.str nm, .i sal, .sl .shared PS, .sl .shared AS] ∧ A.e 10 = .i i ∧ ∃ (a : Nat) (e : List V), a ≤ ids.length ∧ Hid (e.length ≤ 1000000) ∧ Hid (Mat.envF F (P.drop i) (ids.drop a) e = R) ∧ A.e 8 = .sl .shared (e.map V.cells) ∧ A.e 9 = .i a ∧ st' = st) (fun i => P.length - i) 0 ⟨Nat.zero_le _, Qf, Qf, Qf, Qf, Qf, 0, em, Nat.zero_le _, Lib.hid q_o, HR, Qf, Qf, rfl⟩ ?_
 clear HR h8
 rintro i A st' ⟨hi, hdf, e1, e2, e3, e10, a, e, ha, hel, HT, e8, e9, rfl⟩
 by_cases hlt : i < P.length
 · obtain ⟨p, hp⟩ := gEx hlt
   have hpc := hPc.out i p hp
   have hPp := hPa.out p (List.mem_of_getElem? hp)
   have HE := HT.out
   clear HT hPc hPa
   cases hn : p.neg with
   | true =>
    rw [Mat.envF_neg hp hn] at HE
    rw [show p.cells = [.i p.tmpl, .b p.neg, .sl .shared (p.tests.map Ts.cells)] from rfl] at *
    generalize p.neg = pn at *
    subst hn
    have hPf : Hid (∀ f ∈ F, ∀ st, TrF Tryz.prog 18 [.agg [.i p.tmpl, .b true, .sl .shared (p.tests.map Ts.cells)], .agg f.cells, .sl .shared (e.map V.cells)] st fun d st' => d = passD (Mat.pass p f e) ∧ st' = st) := fun f hf => hPp f (hff.out f hf) e hel.out
    have htk : Hid (∀ (k : Nat) (f : Fc), F[k]? = some f → Mat.passL p (F.take (k + 1)) e = Mat.passL p (F.take k) e ++ (match Mat.pass p f e with | some e' => [(f.id, e')] | none => [])) := fun k f h => Mat.passL_take h
    have hso : Hid (∀ (k : Nat) (f : Fc) (e' : List V), F[k]? = some f → Mat.pass p f e = some e' → Mat.passL p F e ≠ []) := fun k f e' h1 h2 => Mat.passL_some h1 h2
    have htl : F.take F.length = F := List.take_length
    have h00 : Hid (Mat.passL p (F.take 0) e = []) := rfl
    obtain ⟨pf, hpf⟩ : ∃ pf : Fc → Option (List V), pf = fun f => Mat.pass p f e := ⟨_, rfl⟩
    obtain ⟨pl, hpl⟩ : ∃ pl : List Fc → List (Int × List V), pl = fun F => Mat.passL p F e := ⟨_, rfl⟩
    have hPf2 : Hid (∀ f ∈ F, ∀ st, TrF Tryz.prog 18 [.agg [.i p.tmpl, .b true, .sl .shared (p.tests.map Ts.cells)], .agg f.cells, .sl .shared (e.map V.cells)] st fun d st' => d = passD (pf f) ∧ st' = st) := by rw [hpf]; exact hPf.out
    have htk2 : Hid (∀ (k : Nat) (f : Fc), F[k]? = some f → pl (F.take (k + 1)) = pl (F.take k) ++ (match pf f with | some e' => [(f.id, e')] | none => [])) := by rw [hpl, hpf]; exact htk.out
    have hso2 : Hid (∀ (k : Nat) (f : Fc) (e' : List V), F[k]? = some f → pf f = some e' → pl F ≠ []) := by rw [hpl, hpf]; exact hso.out
    have h02 : Hid (pl (F.take 0) = []) := by rw [hpl]; exact h00.out
    rw [show Mat.passL p F e = pl F by rw [hpl]] at HE
    replace HE := Lib.hid HE
    clear hPf htk hso h00 hpf hpl hPp hFi hIc hff hp hE
    generalize p.tests.map Ts.cells = TS at *
    generalize p.tmpl = p0 at *
    generalize hEC : e.map V.cells = EC at *
    repeat' (first | refine QX ?_ | (refine QB ?_; intro b) | (with_reducible refine QZ ?_ <;> (try constructor) <;> intro hb <;> try intro hb1) | fail)
    refine tr_loop (ι := Nat) (fun k A2 st2 => k ≤ F.length ∧ Hid (pl (F.take k) = []) ∧ A2.df = [] ∧ A2.e 1 = .sl .shared FS ∧ A2.e 2 = .sl .shared IS ∧ A2.e 3 = .ip [.str nm, .i sal, .sl .shared PS, .sl .shared AS] ∧ A2.e 8 = .sl .shared EC ∧ A2.e 9 = .i a ∧ A2.e 10 = .i i ∧ A2.e 11 = .i k ∧ st2 = st') (fun k => F.length - k) 0 ⟨Nat.zero_le _, h02, Qf, Qf, Qf, Qf, Qf, Qf, Qf, Qf, rfl⟩ ?_
    clear h02 hdf e1 e2 e3 e8 e9 e10
    rintro k A2 st2 ⟨hk, HK, hdf, e1, e2, e3, e8, e9, e10, e11, rfl⟩
    by_cases hkl : k < F.length
    · obtain ⟨f, hf⟩ := gEx hkl
      have hfc := hFc.out k f hf
      have hP0 := hPf2.out f (List.mem_of_getElem? hf)
      have hT := htk2.out k f hf
      have hS := hso2.out k f
      rw [show f.cells = [.i f.id, .i f.time, .i f.tmpl, .i f.ver, .sl .shared (f.s.map V.cells)] from rfl] at *
      clear hPf2 htk2 hFc hso2
      generalize f.s.map V.cells = VS at *
      cases hq : pf f with
      | none =>
       rw [hq] at hP0 hT
       dsimp only [passD] at hP0 hT
       rw [HK.out, List.append_nil] at hT
       clear hS hq hf HK
       generalize f.id = f0 at *
       generalize f.time = f1 at *
       generalize f.tmpl = f2 at *
       generalize f.ver = f3 at *
       replace hP0 := Lib.hid hP0
       replace hT := Lib.hid hT
       repeat' (first | refine QV ?_ | ((with_reducible refine QW ?_); intro hne; simp only [nes, ne1, and_assoc] at hne; repeat (have hq := hne.1; replace hne := hne.2)) | refine QY ?_ | (refine QB ?_; intro b) | (with_reducible refine QZ ?_ <;> (try constructor) <;> intro hb <;> try intro hb1) | refine Qc Tryz.call18 ((hP0.out _)) ?_ | fail)
       refine ⟨k + 1, ⟨hkl, hT, ?_, ?_, ?_, ?_, ?_, ?_, ?_, ?_, rfl⟩, by omega⟩
       all_goals exact Qf
      | some e' =>
       rw [hq] at hP0
       dsimp only [passD] at hP0
       have HE2 := HE.out
       rw [if_neg (hS e' hf hq)] at HE2
       subst HE2
       clear hS hq hf HK hT HE
       generalize f.id = f0 at *
       generalize f.time = f1 at *
       generalize f.tmpl = f2 at *
       generalize f.ver = f3 at *
       replace hP0 := Lib.hid hP0
       repeat' (first | refine QV ?_ | ((with_reducible refine QW ?_); intro hne; simp only [nes, ne1, and_assoc] at hne; repeat (have hq := hne.1; replace hne := hne.2)) | refine QY ?_ | (refine QB ?_; intro b) | (with_reducible refine QZ ?_ <;> (try constructor) <;> intro hb <;> try intro hb1) | refine Qc Tryz.call18 ((hP0.out _)) ?_ | fail)
       all_goals exact Qret
    · have hkF : k = F.length := by omega
      subst hkF
      have HE2 := HE.out
      have HK2 := HK.out
      rw [htl] at HK2
      rw [if_pos HK2] at HE2
      replace HE2 := Lib.hid HE2
      clear HE HK HK2 hPf2 htk2 hFc hso2
      repeat' (first | refine QX ?_ | (refine QB ?_; intro b) | (with_reducible refine QZ ?_ <;> (try constructor) <;> intro hb <;> try intro hb1) | fail)
      refine ⟨i + 1, st2, q_t, ⟨hlt, ?_, ?_, ?_, ?_, ?_, a, e, ha, hel, HE2, ?_, ?_, rfl⟩, by omega⟩
      all_goals first | exact Qf | (rw [hEC]; exact Qf)
   | false =>
    by_cases hal : a < ids.length
    · obtain ⟨v, hv⟩ := gEx hal
      have hvc := hIc.out a v hv
      have hFv := hFi.out v
      rw [Mat.envF_pos hp hn hv] at HE
      rw [show p.cells = [.i p.tmpl, .b p.neg, .sl .shared (p.tests.map Ts.cells)] from rfl] at *
      generalize p.neg = pn at *
      subst hn
      cases hf : Mat.find F v with
      | none =>
       have hP0 := hPp Fc.zero zero_fk e hel.out
       rw [hf] at HE hFv
       dsimp only at HE
       subst HE
       rw [show Fc.zero.cells = [.i 0, .i 0, .i 0, .i 0, .sl .shared []] from rfl] at hP0
       clear hPp hFi hIc hFc hff hp hv hf hE
       unfold findD at hFv
       dsimp only at hFv
       generalize p.tests.map Ts.cells = TS at *
       generalize p.tmpl = p0 at *
       generalize e.map V.cells = EC at *
       cases hq : Mat.pass p Fc.zero e with
       | none =>
        rw [hq] at hP0
        dsimp only [passD] at hP0
        clear hq
        replace hP0 := Lib.hid hP0
        replace hFv := Lib.hid hFv
        repeat' (first | refine QV ?_ | with_reducible refine s_boxP ?_ | ((with_reducible refine QW ?_); intro hne; simp only [nes, ne1, and_assoc] at hne; repeat (have hq := hne.1; replace hne := hne.2)) | refine QY ?_ | (refine QB ?_; intro b) | (with_reducible refine QZ ?_ <;> (try constructor) <;> intro hb <;> try intro hb1) | refine Qc Tryz.call61 ((hFv.out _)) ?_ | refine QL Tryz.call18 (hP0.out _) ?_ | fail)
        all_goals exact Qret
       | some e' =>
        rw [hq] at hP0
        dsimp only [passD] at hP0
        clear hq
        replace hP0 := Lib.hid hP0
        replace hFv := Lib.hid hFv
        repeat' (first | refine QV ?_ | with_reducible refine s_boxP ?_ | ((with_reducible refine QW ?_); intro hne; simp only [nes, ne1, and_assoc] at hne; repeat (have hq := hne.1; replace hne := hne.2)) | refine QY ?_ | (refine QB ?_; intro b) | (with_reducible refine QZ ?_ <;> (try constructor) <;> intro hb <;> try intro hb1) | refine Qc Tryz.call61 ((hFv.out _)) ?_ | refine QL Tryz.call18 (hP0.out _) ?_ | fail)
        all_goals exact Qret
      | some f =>
       have hP0 := hPp f (hff.out f (Mat.find_mem hf)) e hel.out
       rw [hf] at HE hFv
       dsimp only at HE
       unfold findD at hFv
       dsimp only at hFv
       rw [show f.cells = [.i f.id, .i f.time, .i f.tmpl, .i f.ver, .sl .shared (f.s.map V.cells)] from rfl] at *
       clear hPp hFi hIc hFc hff hp hv hf hE
       generalize p.tests.map Ts.cells = TS at *
       generalize p.tmpl = p0 at *
       generalize hEC : e.map V.cells = EC at *
       generalize f.s.map V.cells = VS at *
       cases hq : Mat.pass p f e with
       | none =>
        rw [hq] at hP0 HE
        dsimp only [passD] at hP0 HE
        subst HE
        clear hq
        generalize f.id = f0 at *
        generalize f.time = f1 at *
        generalize f.tmpl = f2 at *
        generalize f.ver = f3 at *
        replace hP0 := Lib.hid hP0
        replace hFv := Lib.hid hFv
        repeat' (first | refine QV ?_ | with_reducible refine s_boxP ?_ | ((with_reducible refine QW ?_); intro hne; simp only [nes, ne1, and_assoc] at hne; repeat (have hq := hne.1; replace hne := hne.2)) | refine QY ?_ | (refine QB ?_; intro b) | (with_reducible refine QZ ?_ <;> (try constructor) <;> intro hb <;> try intro hb1) | refine Qc Tryz.call61 ((hFv.out _)) ?_ | refine Qc Tryz.call18 ((hP0.out _)) ?_ | fail)
        all_goals exact Qret
       | some e' =>
        rw [hq] at hP0 HE
        dsimp only [passD] at hP0 HE
        have hl8 : Hid (e'.length ≤ 1000000) := Lib.hid (by rw [Mat.pass_len hq]; decide)
        clear hq
        generalize f.id = f0 at *
        generalize f.time = f1 at *
        generalize f.tmpl = f2 at *
        generalize f.ver = f3 at *
        replace hP0 := Lib.hid hP0
        replace hFv := Lib.hid hFv
        replace HE := Lib.hid HE
        repeat' (first | refine QV ?_ | with_reducible refine s_boxP ?_ | ((with_reducible refine QW ?_); intro hne; simp only [nes, ne1, and_assoc] at hne; repeat (have hq := hne.1; replace hne := hne.2)) | refine QY ?_ | (refine QB ?_; intro b) | (with_reducible refine QZ ?_ <;> (try constructor) <;> intro hb <;> try intro hb1) | refine Qc Tryz.call61 ((hFv.out _)) ?_ | refine Qc Tryz.call18 ((hP0.out _)) ?_ | fail)
        refine ⟨i + 1, st', q_t, ⟨hlt, ?_, ?_, ?_, ?_, ?_, a + 1, e', hal, hl8, HE, ?_, ?_, rfl⟩, by omega⟩
        all_goals exact Qf
    · rw [Mat.envF_out hp hn q_o] at HE
      subst HE
      have hae : a = ids.length := by omega
      subst hae
      rw [show p.cells = [.i p.tmpl, .b p.neg, .sl .shared (p.tests.map Ts.cells)] from rfl] at *
      generalize p.neg = pn at *
      subst hn
      clear hPp hFi hIc hFc hff hp hE
      generalize p.tests.map Ts.cells = TS at *
      generalize p.tmpl = p0 at *
      generalize e.map V.cells = EC at *
      exact WR
 · have HE := HT.out
   rw [List.drop_of_length_le q_o, Mat.envF] at HE
   subst HE
   have hd : decide (ids.drop a = []) = decide ((a : Int) = ids.length) := decide_eq_decide.2 ⟨fun h => by
    have := congrArg List.length h
    rw [List.length_drop] at this
    simp at this; omega, fun h => List.drop_of_length_le q_o⟩
   unfold envFD
   dsimp only
   rw [hd]
   clear HT hPc hPa hFi hIc hFc hff hE hd
   generalize e.map V.cells = EC at *
   exact WR
end
namespace Mat
theorem rows_nodup {F : List Fc} (hu : (F.map Fc.id).Nodup) : ∀ n, (rows F n []).Nodup
 | 0 => List.nodup_cons.2 ⟨List.not_mem_nil, List.nodup_nil⟩
 | n + 1 => by
  have ih := rows_nodup hu n
  rw [rows]
  have key : ∀ G : List Fc, (G.map Fc.id).Nodup → (G.flatMap fun f => rows F n ([] ++ [f.id])).Nodup := by
   intro G
   induction G with
   | nil => exact fun _ => List.nodup_nil
   | cons f G ih2 =>
    intro hg
    rw [List.map_cons, List.nodup_cons] at hg
    rw [List.flatMap_cons, List.nodup_append]
    refine ⟨?_, ih2 hg.2, ?_⟩
    · rw [rows_app]
      exact List.Pairwise.map _ (fun a b hab h => hab (List.append_cancel_left h)) ih
    · rintro a ha b hb rfl
      rw [rows_app] at ha
      obtain ⟨r, -, rfl⟩ := List.mem_map.1 ha
      obtain ⟨g, hgm, hb2⟩ := List.mem_flatMap.1 hb
      rw [rows_app] at hb2
      obtain ⟨r2, -, e⟩ := List.mem_map.1 hb2
      simp only [List.nil_append, List.cons_append, List.cons.injEq] at e
      exact hg.1 (e.1 ▸ List.mem_map_of_mem hgm)
  exact key F hu
theorem refs_nodup {F : List Fc} (hu : (F.map Fc.id).Nodup) (x : Rl) : (refs x F).Nodup := (rows_nodup hu _).filter _
theorem mem_flatR {f : Rl → List (List Int)} {m : Mt} : ∀ {l : List Rl} {i : Nat}, m ∈ flatR f l i → ∃ (k : Nat) (x : Rl), l[k]? = some x ∧ m.rule = (i + k : Nat) ∧ m.ids ∈ f x
 | [], _, h => by cases h
 | x :: l, i, h => by
  rw [flatR, List.mem_append] at h
  rcases h with h | h
  · obtain ⟨r, hr, rfl⟩ := List.mem_map.1 h
    exact ⟨0, x, rfl, rfl, hr⟩
  · obtain ⟨k, y, h1, h2, h3⟩ := mem_flatR (i := i + 1) h
    exact ⟨k + 1, y, h1, by rw [h2]; congr 1; omega, h3⟩
theorem flatR_nodup {f : Rl → List (List Int)} : ∀ (l : List Rl) (i : Nat), (∀ x ∈ l, (f x).Nodup) → (flatR f l i).Nodup
 | [], _, _ => List.nodup_nil
 | x :: l, i, h => by
  rw [flatR, List.nodup_append]
  refine ⟨List.Pairwise.map _ (fun a b hab he => hab (Mt.mk.inj he).2) (h x (List.mem_cons_self ..)), flatR_nodup l (i + 1) fun y hy => h y (List.mem_cons_of_mem _ hy), ?_⟩
  rintro a ha b hb rfl
  obtain ⟨r, -, rfl⟩ := List.mem_map.1 ha
  obtain ⟨k, y, -, h2, -⟩ := mem_flatR (i := i + 1) hb
  have : (i : Int) = ((i + 1 + k : Nat) : Int) := h2
  omega
theorem raws_nodup {F : List Fc} (hu : (F.map Fc.id).Nodup) (R : List Rl) : (raws R F).Nodup := by
 rw [raws_eq hu]
 exact flatR_nodup R 0 fun x _ => refs_nodup hu x
theorem sortM_mem {l : List Mt} {m : Mt} : m ∈ sortM l ↔ m ∈ l := (sortM_srt l).2.mem_iff
theorem sortM_strict {l : List Mt} (h : l.Nodup) {i j : Nat} {a b : Mt} (ha : (sortM l)[i]? = some a) (hb : (sortM l)[j]? = some b) (hij : i < j) : less a b = true := by
 have hs := (sortM_srt l).1
 have hn : (sortM l).Nodup := (sortM_srt l).2.nodup_iff.2 h
 obtain ⟨p1, q1⟩ := List.getElem?_eq_some_iff.1 ha
 obtain ⟨p2, q2⟩ := List.getElem?_eq_some_iff.1 hb
 have h1 := List.pairwise_iff_getElem.1 hs i j p1 p2 hij
 have h2 := List.pairwise_iff_getElem.1 hn i j p1 p2 hij
 rw [q1, q2] at h1 h2
 have h3 : ord a b ≠ 0 := fun e => h2 (ord_eq e)
 exact decide_eq_true q_o
theorem from_env {F : List Fc} : ∀ (ps : List Pt) (ids : List Int) (env : List V), env.length = 8 → ∀ y ∈ from_ F ps ids env, y.2.length = 8
 | [], ids, env, he, y, hy => by
  rw [from_, List.mem_singleton] at hy
  rw [hy]; exact he
 | p :: ps, ids, env, he, y, hy => by
  rw [from_] at hy
  split at hy
  · split at hy
    · exact from_env ps ids env he y hy
    · cases hy
  · obtain ⟨q, hq, h⟩ := List.mem_flatMap.1 hy
    obtain ⟨f, -, hf⟩ := List.mem_filterMap.1 hq
    refine from_env ps _ _ ?_ y h
    cases hp : pass p f env with
    | none => rw [hp] at hf; cases hf
    | some e =>
     rw [hp] at hf
     rw [← Option.some.inj hf]
     exact pass_len hp
theorem once {R : List Rl} {F : List Fc} {m : Mt} (h : m ∈ sortM (raws R F)) : ∃ (k : Nat) (x : Rl) (e : List V), R[k]? = some x ∧ m.rule = k ∧ envP x F m.ids = some e ∧ e.length = 8 ∧ m.ids.length ≤ x.pats.length := by
 obtain ⟨k, x, h1, h2, h3⟩ := mem_flatR (i := 0) (sortM_mem.1 h)
 obtain ⟨y, hy, e⟩ := List.mem_map.1 h3
 cases hq : envP x F m.ids with
 | none =>
  unfold envP at hq
  rw [Option.map_eq_none_iff, List.find?_eq_none] at hq
  exact absurd (decide_eq_true e) (hq y hy)
 | some v =>
  refine ⟨k, x, v, h1, by rw [h2, Nat.zero_add], hq, ?_, e ▸ mats_len hy⟩
  unfold envP at hq
  obtain ⟨z, hz, rfl⟩ := Option.map_eq_some_iff.1 hq
  exact from_env _ _ _ (List.length_replicate ..) z (List.mem_of_find?_eq_some hz)
theorem passL_perm {F G : List Fc} (h : F.Perm G) (p : Pt) (env : List V) : (passL p F env).Perm (passL p G env) := h.filterMap _
theorem from_perm {F G : List Fc} (h : F.Perm G) : ∀ (ps : List Pt) (ids : List Int) (env : List V), (from_ F ps ids env).Perm (from_ G ps ids env)
 | [], ids, env => .refl _
 | p :: ps, ids, env => by
  have hp := passL_perm h p env
  rw [from_, from_]
  by_cases hn : p.neg = true
  · rw [if_pos hn, if_pos hn]
    have e : passL p F env = [] ↔ passL p G env = [] := ⟨fun e => (e ▸ hp).symm.eq_nil, fun e => (e ▸ hp).eq_nil⟩
    by_cases h0 : passL p F env = []
    · rw [if_pos h0, if_pos (e.1 h0)]
      exact from_perm h ps ids env
    · rw [if_neg h0, if_neg fun k => h0 (e.2 k)]
  · rw [if_neg hn, if_neg hn]
    have h1 : ∀ l : List (Int × List V), (l.flatMap fun x => from_ F ps (ids ++ [x.1]) x.2).Perm (l.flatMap fun x => from_ G ps (ids ++ [x.1]) x.2) := fun l => by
     induction l with
     | nil => exact .refl _
     | cons x l ih =>
      rw [List.flatMap_cons, List.flatMap_cons]
      exact (from_perm h ps _ _).append ih
    exact (h1 _).trans (hp.flatMap_right _)
theorem flatR_perm {f g : Rl → List (List Int)} : ∀ (l : List Rl) (i : Int), (∀ x ∈ l, (f x).Perm (g x)) → (flatR f l i).Perm (flatR g l i)
 | [], _, _ => .refl _
 | x :: l, i, h => by
  rw [flatR, flatR]
  exact ((h x (List.mem_cons_self ..)).map _).append (flatR_perm l (i + 1) fun y hy => h y (List.mem_cons_of_mem _ hy))
theorem sortM_perm {l m : List Mt} (h : l.Perm m) : sortM l = sortM m := sortM_eq ((sortM_srt l).2.trans h) (sortM_srt l).1
theorem turned {F G : List Fc} (h : F.Perm G) (R : List Rl) : sortM (raws R F) = sortM (raws R G) := sortM_perm (flatR_perm R 0 fun x _ => (from_perm h _ _ _).map _)
def alone (f : Rl → List (List Int)) (x : Rl) : List (List Int) := (sortM ((f x).map (Mt.mk 0))).map Mt.ids
theorem alone_perm (f : Rl → List (List Int)) (x : Rl) : (alone f x).Perm (f x) := by
 have h := (sortM_srt ((f x).map (Mt.mk 0))).2.map Mt.ids
 rw [List.map_map] at h
 refine h.trans ?_
 rw [show (Mt.ids ∘ Mt.mk 0) = id from rfl, List.map_id]
theorem ord_rule {i : Int} {a b : List Int} : ord ⟨i, a⟩ ⟨i, b⟩ = cmpI a b := by
 unfold ord
 rw [V.sgn_self]
 exact if_neg fun h => h rfl
theorem alone_srt (f : Rl → List (List Int)) (x : Rl) (i : Int) : Srt ((alone f x).map (Mt.mk i)) := by
 have h := (sortM_srt ((f x).map (Mt.mk 0))).1
 unfold Srt alone
 rw [List.map_map, List.pairwise_map]
 refine List.Pairwise.imp_of_mem ?_ h
 intro a b ha hb hab
 have h0 : ∀ m ∈ sortM ((f x).map (Mt.mk 0)), m.rule = 0 := fun m hm => by
  obtain ⟨r, -, rfl⟩ := List.mem_map.1 (sortM_mem.1 hm)
  rfl
 show ord ⟨i, a.ids⟩ ⟨i, b.ids⟩ ≤ 0
 have e1 : a = ⟨0, a.ids⟩ := by have := h0 a ha; cases a; subst this; rfl
 have e2 : b = ⟨0, b.ids⟩ := by have := h0 b hb; cases b; subst this; rfl
 rw [e1, e2, ord_rule] at hab
 rw [ord_rule]
 exact hab
theorem flatR_alone_srt (f : Rl → List (List Int)) : ∀ (l : List Rl) (i : Nat), Srt (flatR (alone f) l i)
 | [], _ => List.Pairwise.nil
 | x :: l, i => by
  rw [flatR]
  refine List.pairwise_append.2 ⟨alone_srt f x i, flatR_alone_srt f l (i + 1), fun a ha b hb => ?_⟩
  obtain ⟨r, -, rfl⟩ := List.mem_map.1 ha
  obtain ⟨k, y, -, h2, -⟩ := mem_flatR (i := i + 1) hb
  have h3 : V.sgn (i : Int) b.rule < 0 := sgn_neg.2 (by rw [h2]; omega)
  unfold ord
  rw [if_pos (show V.sgn (Mt.rule ⟨i, r⟩) b.rule ≠ 0 by show V.sgn (i : Int) b.rule ≠ 0; omega)]
  exact Int.le_of_lt h3
theorem by_rule (f : Rl → List (List Int)) (l : List Rl) : sortM (flatR f l 0) = flatR (alone f) l 0 :=
 (sortM_eq (flatR_perm l 0 fun x _ => alone_perm f x) (flatR_alone_srt f l 0)).symm
theorem all_alone (x : Rl) (F : List Fc) : (sortM (raws [x] F)).map Mt.ids = alone (fun x => (mats x F).map Prod.fst) x := by
 unfold alone raws
 rw [flatR, flatR, List.append_nil]
theorem flatR_app (g : Rl → List (List Int)) : ∀ (a b : List Rl) (i : Nat), flatR g (a ++ b) i = flatR g a i ++ flatR g b (i + a.length : Nat)
 | [], b, i => rfl
 | x :: a, b, i => by
  rw [List.cons_append, flatR, flatR, show (i : Int) + 1 = ((i + 1 : Nat) : Int) from rfl, flatR_app g a b (i + 1), List.append_assoc, List.length_cons]
  congr 3
  omega
def ahead (g : Rl → List (List Int)) (R : List Rl) (i : Nat) : Nat := (flatR g (R.take i) 0).length
theorem ahead_step (g : Rl → List (List Int)) {R : List Rl} {i : Nat} {x : Rl} (h : R[i]? = some x) : ahead g R (i + 1) = ahead g R i + (g x).length := by
 unfold ahead
 rw [List.take_add_one, h, Option.toList_some]
 have := flatR_app g (R.take i) [x] 0
 rw [show ((0 : Nat) : Int) = 0 from rfl] at this
 rw [this, List.length_append, flatR, flatR, List.append_nil, List.length_map]
theorem ahead_all (g : Rl → List (List Int)) (R : List Rl) : ahead g R R.length = (flatR g R 0).length := by
 unfold ahead
 rw [List.take_length]
theorem ahead_at (g : Rl → List (List Int)) {R : List Rl} {i : Nat} {x : Rl} (h : R[i]? = some x) {k : Nat} {r : List Int} (hk : (g x)[k]? = some r) : (flatR g R 0)[ahead g R i + k]? = some ⟨i, r⟩ := by
 have e : R = R.take i ++ x :: R.drop (i + 1) := by rw [← V.drop_cons h, List.take_append_drop]
 have h1 := flatR_app g (R.take i) (x :: R.drop (i + 1)) 0
 rw [← e, show ((0 : Nat) : Int) = 0 from rfl] at h1
 have hl : (R.take i).length = i := by
  have := (List.getElem?_eq_some_iff.1 h).1
  rw [List.length_take]; omega
 unfold ahead
 rw [h1, flatR, hl, Nat.zero_add, List.getElem?_append_right (Nat.le_add_right _ _)]
 have hk2 := (List.getElem?_eq_some_iff.1 hk).1
 rw [Nat.add_sub_cancel_left, List.getElem?_append_left (by rw [List.length_map]; exact hk2), List.getElem?_map, hk]
 rfl
theorem passL_fewer {F : List Fc} (g : Int) (p : Pt) (env : List V) : passL p (F.filter fun f => f.id ≠ g) env = (passL p F env).filter fun y => y.1 ≠ g := by
 unfold passL
 rw [List.filter_filterMap, List.filterMap_filter]
 congr 1
 funext f
 cases pass p f env with
 | none => simp
 | some e => by_cases h : f.id = g <;> simp [h, Option.filter]
theorem from_has {F : List Fc} {g : Int} : ∀ (ps : List Pt) (ids : List Int) (env : List V), g ∈ ids → ∀ y ∈ from_ F ps ids env, g ∈ y.1
 | [], ids, env, h, y, hy => by
  rw [from_, List.mem_singleton] at hy
  rw [hy]; exact h
 | p :: ps, ids, env, h, y, hy => by
  rw [from_] at hy
  split at hy
  · split at hy
    · exact from_has ps ids env h y hy
    · cases hy
  · obtain ⟨q, -, h2⟩ := List.mem_flatMap.1 hy
    exact from_has ps _ _ (List.mem_append_left _ h) y h2
theorem from_fewer {F : List Fc} (g : Int) : ∀ (ps : List Pt) (ids : List Int) (env : List V), (∀ p ∈ ps, p.neg = false) → g ∉ ids → from_ (F.filter fun f => f.id ≠ g) ps ids env = (from_ F ps ids env).filter fun y => g ∉ y.1
 | [], ids, env, _, h => by
  rw [from_, from_, List.filter_cons_of_pos (by simpa using h)]; rfl
 | p :: ps, ids, env, hn, h => by
  have hp := hn p (List.mem_cons_self ..)
  rw [from_, from_, if_neg (by rw [hp]; exact Bool.false_ne_true), if_neg (by rw [hp]; exact Bool.false_ne_true), passL_fewer]
  have key : ∀ l : List (Int × List V), ((l.filter fun y => y.1 ≠ g).flatMap fun x => from_ (F.filter fun f => f.id ≠ g) ps (ids ++ [x.1]) x.2) = (l.flatMap fun x => from_ F ps (ids ++ [x.1]) x.2).filter fun y => g ∉ y.1 := fun l => by
   induction l with
   | nil => rfl
   | cons x l ih =>
    rw [List.flatMap_cons, List.filter_append]
    by_cases e : x.1 = g
    · have h0 : ((from_ F ps (ids ++ [x.1]) x.2).filter fun y => g ∉ y.1) = [] := List.filter_eq_nil_iff.2 fun y hy => by
       have := from_has ps _ _ (show g ∈ ids ++ [x.1] by rw [e]; exact List.mem_append_right _ (List.mem_singleton.2 rfl)) y hy
       simpa using this
      rw [List.filter_cons_of_neg (by simpa using e), ih, h0, List.nil_append]
    · rw [List.filter_cons_of_pos (by simpa using e), List.flatMap_cons, ih]
      rw [from_fewer g ps _ _ (fun q hq => hn q (List.mem_cons_of_mem _ hq)) (by
       intro hm
       rcases List.mem_append.1 hm with hm | hm
       · exact h hm
       · exact e (List.mem_singleton.1 hm).symm)]
  exact key _
theorem flatR_filter {f f2 : Rl → List (List Int)} (q : List Int → Bool) : ∀ (l : List Rl) (i : Int), (∀ x ∈ l, f2 x = (f x).filter q) → flatR f2 l i = (flatR f l i).filter fun m => q m.ids
 | [], _, _ => rfl
 | x :: l, i, h => by
  rw [flatR, flatR, List.filter_append, h x (List.mem_cons_self ..), flatR_filter q l (i + 1) fun y hy => h y (List.mem_cons_of_mem _ hy), List.filter_map]
  rfl
theorem fewer {R : List Rl} {F : List Fc} (g : Int) (h : ∀ x ∈ R, ∀ p ∈ x.pats, p.neg = false) : sortM (raws R (F.filter fun f => f.id ≠ g)) = (sortM (raws R F)).filter fun m => g ∉ m.ids := by
 symm
 refine sortM_eq ?_ ((sortM_srt _).1.filter _)
 have e : raws R (F.filter fun f => f.id ≠ g) = (raws R F).filter fun m => decide (g ∉ m.ids) := flatR_filter (fun l => decide (g ∉ l)) R 0 fun x hx => by
  unfold mats
  rw [from_fewer g x.pats [] empty (h x hx) List.not_mem_nil, List.filter_map]
  rfl
 rw [e]
 exact (sortM_srt _).2.filter _
theorem rows_mem {F : List Fc} : ∀ {ids : List Int}, (∀ v ∈ ids, ∃ f ∈ F, f.id = v) → ids ∈ rows F ids.length []
 | [], _ => List.mem_singleton.2 rfl
 | v :: ids, h => by
  obtain ⟨f, hf, e⟩ := h v (List.mem_cons_self ..)
  rw [List.length_cons, rows]
  refine List.mem_flatMap.2 ⟨f, hf, ?_⟩
  rw [rows_app]
  exact List.mem_map.2 ⟨ids, rows_mem fun w hw => h w (List.mem_cons_of_mem _ hw), by rw [e]; rfl⟩
theorem envR_ids {F : List Fc} : ∀ {ps : List Pt} {ids : List Int} {env e : List V}, envR F ps ids env = some e → ids.length = npos ps ∧ ∀ v ∈ ids, ∃ f ∈ F, f.id = v
 | [], ids, env, e, h => by
  rw [envR] at h
  split at h
  · rename_i h0
    subst h0
    exact ⟨rfl, List.forall_mem_nil _⟩
  · cases h
 | p :: ps, ids, env, e, h => by
  rw [envR.eq_def] at h
  dsimp only at h
  split at h
  · rename_i hn
    split at h
    · obtain ⟨h1, h2⟩ := envR_ids h
      exact ⟨by rw [h1]; unfold npos; rw [List.filter_cons_of_neg (by simp [hn])], h2⟩
    · cases h
  · rename_i hn
    cases ids with
    | nil => cases h
    | cons v ids =>
     dsimp only at h
     cases hf : find F v with
     | none => rw [hf] at h; cases h
     | some f =>
      rw [hf] at h
      dsimp only at h
      cases hp : pass p f env with
      | none => rw [hp] at h; cases h
      | some e2 =>
       rw [hp] at h
       obtain ⟨h1, h2⟩ := envR_ids h
       refine ⟨by rw [List.length_cons, h1]; unfold npos; rw [List.filter_cons_of_pos (by simpa using hn)]; rfl, fun w hw => ?_⟩
       rcases List.mem_cons.1 hw with rfl | hw
       · refine ⟨f, find_mem hf, ?_⟩
         unfold find at hf
         exact beq_iff_eq.1 (List.find?_some (p := fun f : Fc => f.id == w) hf)
       · exact h2 w hw
theorem envP_eq {F : List Fc} (hu : (F.map Fc.id).Nodup) (x : Rl) (ids : List Int) : envP x F ids = envR F x.pats ids empty := by
 unfold envP mats
 rw [from_rows hu]
 have key : ∀ L : List (List Int), ((L.filterMap fun r => (envR F x.pats r empty).map fun e => (([] : List Int) ++ r, e)).find? fun y => decide (y.1 = ids)).map Prod.snd = if ids ∈ L then envR F x.pats ids empty else none := fun L => by
  induction L with
  | nil => rfl
  | cons r L ih =>
   by_cases hr : r = ids
   · subst hr
     rw [if_pos (List.mem_cons_self ..)]
     cases hq : envR F x.pats r empty with
     | none =>
      rw [List.filterMap_cons_none (by rw [hq]; rfl), ih, hq, ite_self]
     | some e =>
      rw [List.filterMap_cons_some (by rw [hq]; rfl), List.find?_cons]
      simp
   · have e1 : (ids ∈ r :: L) ↔ ids ∈ L := ⟨fun h => (List.mem_cons.1 h).resolve_left fun h => hr h.symm, List.mem_cons_of_mem _⟩
     simp only [e1]
     rw [← ih]
     cases hq : envR F x.pats r empty with
     | none => rw [List.filterMap_cons_none (by rw [hq]; rfl)]
     | some e =>
      rw [List.filterMap_cons_some (by rw [hq]; rfl), List.find?_cons]
      simp [hr]
 rw [key]
 split
 · rfl
 · rename_i hn
   cases hq : envR F x.pats ids empty with
   | none => rfl
   | some e =>
    obtain ⟨h1, h2⟩ := envR_ids hq
    exact absurd (h1 ▸ rows_mem h2) hn
end Mat
section
attribute [local push_cast] encB encI encC V.cells_mk V.cells_len Nat.mul_one Int.sub_zero List.map_nil beq_self_eq_true bne_self_eq_false List.head?_cons Bool.not_true Bool.not_false Nat.zero_add
set_option maxHeartbeats 16000000
def encR (l : List Int) : List D := [.sl .shared (l.map encI)]
namespace Mat
theorem rows_len (F : List Fc) : ∀ (n : Nat) (h : List Int), (rows F n h).length = F.length ^ n
 | 0, h => rfl
 | n + 1, h => by
  rw [rows, List.length_flatMap]
  have : (F.map fun f => (rows F n (h ++ [f.id])).length) = F.map fun _ => F.length ^ n := List.map_congr_left fun f _ => rows_len F n _
  rw [this, List.map_const', List.sum_replicate_nat, Nat.pow_succ, Nat.mul_comm]
end Mat
theorem refRows18F (F : List Fc) (hF : F.length ≤ 7) : ∀ (n : Nat), n ≤ 6 → ∀ (h : List Int), h.length + n ≤ 1000 → ∀ (o : Own) (st : St), TrF Tryz.prog 59 [.sl .shared (F.map Fc.cells), .i n, .sl o (h.map encI)] st fun d st' => d = .sl .shared ((Mat.rows F n h).map encR) ∧ st' = st
 | 0, _, h, hh, o, st => by
  rw [Mat.rows]
  show TrF _ _ _ _ fun d st' => d = .sl .shared [encR h] ∧ st' = st
  unfold encR
  generalize F.map Fc.cells = FS at *
  generalize h.map encI = HS at *
  refine Qin [6] Tryz.func59 Tryz.results59 Tryz.ntmps59 ?_
  exact WRa
 | n + 1, hn, h, hh, o, st => by
  have IH := Lib.hid fun (f : Fc) => refRows18F F hF n q_o (h ++ [f.id]) (by rw [List.length_append, List.length_singleton]; omega)
  have hFm : (F.map Fc.cells).length = F.length := List.length_map ..
  have hFc := hMp Fc.cells F
  have hp : F.length ^ n ≤ 7 ^ 6 := Nat.le_trans (Nat.pow_le_pow_left hF n) (Nat.pow_le_pow_right (by decide) q_o)
  obtain ⟨g, hg⟩ : ∃ g : Fc → List (List Int), g = fun f => Mat.rows F n (h ++ [f.id]) := ⟨_, rfl⟩
  have hgl : Hid (∀ f, (g f).length ≤ 117649) := fun f => by rw [hg]; dsimp only; rw [Mat.rows_len]; exact hp
  have IH2 : Hid (∀ (f : Fc) (o : Own) (st : St), TrF Tryz.prog 59 [.sl .shared (F.map Fc.cells), .i ((n : Int) + 1 - 1), .sl o (h.map encI ++ [[.i f.id]])] st fun d st' => d = .sl .shared ((g f).map encR) ∧ st' = st) := fun f o st => by
   rw [show (n : Int) + 1 - 1 = n by omega]
   have := IH.out f o st
   rw [List.map_append] at this
   rw [hg]
   exact this
  obtain ⟨og, hog⟩ : ∃ og : Nat → List (List D), og = fun i => ((F.take i).flatMap g).map encR := ⟨_, rfl⟩
  have h0 : og 0 = [] := by rw [hog]; rfl
  have hst : Hid (∀ (i : Nat) (f : Fc), F[i]? = some f → og (i + 1) = og i ++ (g f).map encR) := fun i f h => by
   rw [hog]
   dsimp only
   rw [List.take_add_one, h, Option.toList_some, List.flatMap_append, List.map_append, List.flatMap_cons, List.flatMap_nil, List.append_nil]
  have hend : Hid (og F.length = (Mat.rows F (n + 1) h).map encR) := by
   rw [hog]
   dsimp only
   rw [List.take_length, hg]
   rfl
  have hol : Hid (∀ i, (og i).length ≤ 1000000) := fun i => by
   rw [hog]
   dsimp only
   rw [List.length_map, List.length_flatMap]
   have h1 : ∀ l : List Fc, (l.map fun f => (g f).length).sum ≤ l.length * 117649 := fun l => by
    induction l with
    | nil => exact Nat.le_refl _
    | cons f l ih =>
     rw [List.map_cons, List.sum_cons, List.length_cons]
     have := hgl.out f
     omega
   have h2 := h1 (F.take i)
   rw [List.length_take] at h2
   omega
  have ho1 : Hid (∀ i, ∀ a ∈ og i, a.length = 1) := fun i a ha => by
   rw [hog] at ha
   obtain ⟨x, -, rfl⟩ := List.mem_map.1 ha
   rfl
  have hhm : (h.map encI).length ≤ 1000 := by rw [List.length_map]; omega
  have hh1 : ∀ a ∈ h.map encI, a.length = 1 := fun a ha => by
   obtain ⟨x, -, rfl⟩ := List.mem_map.1 ha
   rfl
  rw [← hend.out]
  clear IH hog hg hp hend
  generalize F.map Fc.cells = FS at *
  generalize h.map encI = HS at *
  rw [show ((n + 1 : Nat) : Int) = (n : Int) + 1 by omega]
  refine Qin [6] Tryz.func59 Tryz.results59 Tryz.ntmps59 ?_
  refine tr_room 50 1 (og 0).length ?_
  rw [h0]
  repeat' (first | refine QX ?_ | (refine QB ?_; intro b) | (refine QP ?_; intro o' ho') | (with_reducible refine QZ ?_ <;> (try constructor) <;> intro hb <;> try intro hb1) | fail)
  refine tr_loopd (ι := Nat) (fun i A st' => i ≤ F.length ∧ A.df = [] ∧ A.e 0 = .sl .shared FS ∧ A.e 1 = .i ((n : Int) + 1) ∧ A.e 2 = .sl o HS ∧ A.e 8 = .i i ∧ ∃ o2, o2 ≠ .shared ∧ A.e 7 = .sl o2 (og i) ∧ st' = .room o2 50 1 (og i).length :: st) (fun i => F.length - i) 0 ⟨Nat.zero_le _, Qf, Qf, Qf, Qf, Qf, .tight, tight_ne, by rw [h0]; exact Qf, by rw [h0]⟩ ?_
  clear h0
  rintro i A st' ⟨hi, hdf, e0, e1, e2, e8, o2, ho2, e7, rfl⟩
  by_cases hlt : i < F.length
  · obtain ⟨f, hf⟩ := gEx hlt
    have hfc := hFc.out i f hf
    have hC := Lib.hid (IH2.out f)
    have hs := Lib.hid (hst.out i f hf)
    have hl1 := hol.out i
    have hl2 : ((g f).map encR).length ≤ 117649 := by rw [List.length_map]; exact hgl.out f
    have hl3 := ho1.out i
    have hl4 : ∀ a ∈ (g f).map encR, a.length = 1 := fun a ha => by
     obtain ⟨x, -, rfl⟩ := List.mem_map.1 ha
     rfl
    clear IH2 hst hol ho1 hFc hf hgl
    generalize (g f).map encR = RW at *
    rw [show f.cells = [.i f.id, .i f.time, .i f.tmpl, .i f.ver, .sl .shared (f.s.map V.cells)] from rfl] at *
    generalize f.s.map V.cells = VS at *
    generalize f.id = f0 at *
    generalize f.time = f1 at *
    generalize f.tmpl = f2 at *
    generalize f.ver = f3 at *
    obtain ⟨OG, hOG⟩ : ∃ OG, OG = og i := ⟨_, rfl⟩
    rw [← hOG] at hl1 hl3 e7 hs ⊢
    clear hOG
    refine tr_room 3 1 ([] : List (List D)).length ?_
    repeat' (first | refine QV ?_ | ((with_reducible refine w_draw [] ?_ ?_ ?_ ?_ ?_); (iterate 3 (focus kernel_rfl)); (focus ((repeat (first | exact keep_nil | refine keep_more q_m ?_)); done))) | ((with_reducible refine And.intro ?_ ?_); (focus exact q_k)) | refine QY ?_ | (refine QB ?_; intro b) | (refine QP ?_; intro o' ho') | (with_reducible refine QZ ?_ <;> (try constructor) <;> intro hb <;> try intro hb1) | refine Qc Tryz.call59 ((hC.out _ _)) ?_ | fail)
    refine ⟨i + 1, .room o' 50 1 (OG ++ RW).length :: st, q_t, ⟨hlt, ?_, ?_, ?_, ?_, ?_, o', ho', ?_, by rw [hs.out]⟩, by omega⟩
    all_goals first | (rw [hs.out]; exact Qf) | exact Qf
  · have hil : i = F.length := by omega
    subst hil
    clear IH2 hst hol ho1 hFc hgl
    exact WRa
end
section
attribute [local push_cast] encB encI encC V.cells_mk V.cells_len Nat.mul_one Int.sub_zero List.map_nil beq_self_eq_true bne_self_eq_false List.head?_cons Bool.not_true Bool.not_false Nat.zero_add
set_option maxHeartbeats 16000000
section
variable {P : Program} {N : Nat} {r : Option Nat} {A : AA} {st : St} {Q : Exit → AA → St → Prop}
theorem tr_keep (id id2 : Nat) (K : AA → St → Prop) {ops ops2 : Array Oper} {b b2 : Bool} {c : Code} (h1 : (∀ A' st', K A' st' → Tr P N r c A' st' Q) → Tr P N r (.seq (.region id ops b) (.seq (.region id2 ops2 b2) c)) A st Q) (h2 : ∀ A' st', K A' st' → Tr P N r c A' st' Q) : Tr P N r (.seq (.region id ops b) (.seq (.region id2 ops2 b2) c)) A st Q := h1 h2
end
theorem rowM_at {l : List Mt} {i : Nat} {x : Mt} (zs : List D) (h : l[i]? = some x) : List.take 2 (List.drop (i * 2) (rowM l ++ zs)) = x.cells := by
 have h1 : rowM l = rowM (l.take i) ++ (x.cells ++ rowM (l.drop (i + 1))) := by
  unfold rowM
  rw [← List.flatten_cons, ← List.map_cons, ← List.flatten_append, ← List.map_append]
  congr 2
  have := V.drop_cons h
  rw [← this, List.take_append_drop]
 have h2 : (rowM (l.take i)).length = i * 2 := by
  rw [rowM_len, List.length_take, Nat.min_eq_left (Nat.le_of_lt (List.getElem?_eq_some_iff.1 h).1)]
 rw [h1, List.append_assoc, List.append_assoc, ← h2, List.drop_left]
 exact List.take_left' rfl
theorem rowM_set {out : List Mt} {c : Nat} {u : Mt} (zs : List D) (h : c < out.length) : List.take (c * 2) (rowM out ++ zs) ++ u.cells ++ List.drop (c * 2 + 2) (rowM out ++ zs) = rowM (out.set c u) ++ zs := by
 obtain ⟨z, hz⟩ := gEx h
 have hL : (out.map Mt.cells)[c]? = some z.cells := by rw [List.getElem?_map, hz]; rfl
 have hs := row_splice (o := 0) (sz := 2) (ds := u.cells) zs (out.map Mt.cells) c (rowM_each out) hL (by rw [Mt.cells_len]; omega)
 have h1 : splice z.cells 0 u.cells = u.cells := by
  unfold splice
  rw [List.take_zero, List.nil_append, Nat.zero_add, List.drop_of_length_le (by rw [Mt.cells_len, Mt.cells_len]; omega), List.append_nil]
 rw [h1, ← List.map_set] at hs
 unfold splice at hs
 rw [Nat.add_zero, Mt.cells_len] at hs
 exact hs
theorem set_hole {α : Type} {l : List α} {k : Nat} {h v : α} (hk : k ≤ l.length) : (l.take k ++ h :: l.drop k).set k v = l.take k ++ v :: l.drop k := by
 rw [List.set_append_right _ _ (by rw [List.length_take]; omega), List.length_take, Nat.min_eq_left hk, Nat.sub_self]
 rfl
theorem hole_step {α : Type} {l : List α} {t : Nat} {c : α} (h : l[t]? = some c) : l.take (t + 1) ++ c :: l.drop (t + 1) = l.take t ++ c :: l.drop t := by
 rw [List.take_add_one, h, V.drop_cons h, Option.toList_some, List.append_assoc]
 rfl
theorem hole_get {α : Type} {l : List α} {t k : Nat} {h : α} (htk : t < k) (hk : k ≤ l.length) : (l.take k ++ h :: l.drop k)[t]? = l[t]? := by
 rw [List.getElem?_append_left (by rw [List.length_take]; omega), List.getElem?_take_of_lt htk]
theorem hole_len {α : Type} {l : List α} {k : Nat} {h : α} (hk : k ≤ l.length) : (l.take k ++ h :: l.drop k).length = l.length + 1 := by
 rw [List.length_append, List.length_cons, List.length_take, List.length_drop]
 omega
namespace Mat
theorem rows_lenE (F : List Fc) : ∀ (n : Nat) (h r : List Int), r ∈ rows F n h → r.length = h.length + n
 | 0, h, r, hr => by rw [rows, List.mem_singleton] at hr; rw [hr]; rfl
 | n + 1, h, r, hr => by
  rw [rows] at hr
  obtain ⟨f, -, h2⟩ := List.mem_flatMap.1 hr
  rw [rows_lenE F n _ r h2, List.length_append, List.length_singleton]
  omega
theorem npos_le (ps : List Pt) : npos ps ≤ ps.length := List.length_filter_le ..
theorem npos_take {ps : List Pt} {k : Nat} {p : Pt} (h : ps[k]? = some p) : npos (ps.take (k + 1)) = if p.neg = true then npos (ps.take k) else npos (ps.take k) + 1 := by
 unfold npos
 rw [List.take_add_one, h, Option.toList_some, List.filter_append, List.length_append]
 cases hn : p.neg with
 | true => rw [List.filter_cons_of_neg (by rw [hn]; decide)]; rfl
 | false => rw [List.filter_cons_of_pos (by rw [hn]; rfl)]; rfl
theorem sortM_app (l : List Mt) (m : Mt) : sortM (l ++ [m]) = ins (sortM l) m := by
 unfold sortM
 rw [List.foldl_append]
 rfl
theorem sortM_len (l : List Mt) : (sortM l).length = l.length := (sortM_srt l).2.length_eq
theorem ins_len (l : List Mt) (m : Mt) : (ins l m).length = l.length + 1 := (ins_perm l m).length_eq
end Mat
def OutB (acc : List Mt) (st : St) (d : D) (st' : St) : Prop := (acc = [] ∧ d = .sl .tight [] ∧ st' = st) ∨ (acc ≠ [] ∧ ∃ g cap zs, (rowM acc ++ zs).length = cap * 2 ∧ d = .ar g 0 acc.length cap ∧ st' = .box g 52 (rowM acc ++ zs) :: st)
theorem OutB.raw {M : List Mt} {st st' : St} {d : D} (h : OutB (Mat.sortM M) st d st') : AllRaw M st d st' := by
 have hl := Mat.sortM_len M
 rcases h with ⟨h1, rfl, rfl⟩ | ⟨h1, g, cap, zs, -, rfl, rfl⟩
 · rw [h1] at hl
   exact .inl ⟨List.eq_nil_of_length_eq_zero hl.symm, rfl, rfl⟩
 · refine .inr ⟨fun h => h1 ?_, g, cap, zs, by rw [hl], rfl⟩
   rw [h]; rfl
theorem refAll18RawF (R : List Rl) (F : List Fc) (hR : ∀ x ∈ R, XK x) (hRl : R.length ≤ 1000) (hR4 : ∀ x ∈ R, x.pats.length ≤ 4) (hF : FKs F) (hFl : F.length ≤ 7) (hM : (Mat.refRaws R F).length ≤ 1000000) (st : St) : TrF Tryz.prog 24 [.sl .shared (R.map Rl.cells), .sl .shared (F.map Fc.cells)] st (AllRaw (Mat.refRaws R F) st) := by
 have hRm : (R.map Rl.cells).length = R.length := List.length_map ..
 have hRc := hMp Rl.cells R
 have hRw : Hid (∀ x ∈ R, ∀ st, TrF Tryz.prog 59 [.sl .shared (F.map Fc.cells), .i (Mat.npos x.pats), .sl .tight []] st fun d st' => d = .sl .shared ((Mat.rows F (Mat.npos x.pats) []).map encR) ∧ st' = st) := fun x hx st => refRows18F F hFl (Mat.npos x.pats) (by have := Mat.npos_le x.pats; have := hR4 x hx; omega) [] (by have := Mat.npos_le x.pats; have := hR4 x hx; rw [List.length_nil]; omega) .tight st
 have hEn : Hid (∀ x ∈ R, ∀ r ∈ Mat.rows F (Mat.npos x.pats) [], ∃ w : List V, ∀ st, TrF Tryz.prog 28 [.agg x.cells, .sl .shared (F.map Fc.cells), .sl .shared (r.map encI)] st fun d st' => d = .tup [.sl .shared (w.map V.cells), .b (Mat.envR F x.pats r Mat.empty).isSome] ∧ st' = st) := fun x hx r hr => by
  have h1 := refEnv18F x F (hR x hx) hF r (by have := Mat.rows_lenE F _ _ r hr; have := Mat.npos_le x.pats; have := hR4 x hx; rw [List.length_nil] at *; omega)
  have h3 := Mat.envF_R F x.pats r Mat.empty
  cases hq : Mat.envR F x.pats r Mat.empty with
  | none =>
   rw [hq] at h3
   generalize Mat.envF F x.pats r Mat.empty = r at *
   obtain ⟨w, k⟩ := r
   dsimp only at h3
   subst h3
   exact ⟨w, h1⟩
  | some e =>
   rw [hq] at h3
   dsimp only at h3
   rw [h3] at h1
   exact ⟨e, h1⟩
 have hrl0 : Hid (∀ x ∈ R, (Mat.rows F (Mat.npos x.pats) []).length ≤ 2401) := fun x hx => by
  rw [Mat.rows_len]
  have h1 := Mat.npos_le x.pats
  have h2 := hR4 x hx
  exact Nat.le_trans (Nat.pow_le_pow_left hFl _) (Nat.le_trans (Nat.pow_le_pow_right (by decide) (show Mat.npos x.pats ≤ 4 by omega)) (by decide))
 have hok1 : Hid (∀ x ∈ R, ∀ r, (Mat.envR F x.pats r Mat.empty).isSome = true → r.length ≤ 1000) := fun x hx r hr => by
  obtain ⟨e, he⟩ := Option.isSome_iff_exists.1 hr
  have := (Mat.envR_ids he).1
  have := Mat.npos_le x.pats
  have := hR4 x hx
  omega
 have hLs : Hid (∀ a b : Mt, a.ids.length ≤ 1000 → b.ids.length ≤ 1000 → ∀ st, TrF Tryz.prog 26 [.agg a.cells, .agg b.cells] st fun d st' => d = .b (Mat.less a b) ∧ st' = st) := fun a b ha hb => refLess18F a b q_o q_o
 have hP4 := Lib.hid hR4
 obtain ⟨M, hMe⟩ : ∃ M, Mat.refRaws R F = M := ⟨_, rfl⟩
 have HM : Hid ([] ++ Mat.flatR (fun x => Mat.refs x F) (R.drop 0) (0 : Nat) = M) := hMe
 rw [hMe] at hM ⊢
 clear hMe hR hF hR4 hFl
 obtain ⟨FR, hFR⟩ : ∃ FR : Nat → List Mt, FR = fun i => Mat.flatR (fun x => Mat.refs x F) (R.drop i) i := ⟨_, rfl⟩
 have HM0 : Hid ([] ++ FR 0 = M) := by rw [hFR]; exact HM.out
 have hstep : Hid (∀ (i : Nat) (x : Rl), R[i]? = some x → FR i = (Mat.refs x F).map (Mt.mk i) ++ FR (i + 1)) := fun i x h => by rw [hFR]; exact Mat.raws_drop h
 have hend : Hid (FR R.length = []) := by rw [hFR]; dsimp only; rw [List.drop_length]; rfl
 clear HM hFR
 obtain ⟨rf, hrf⟩ : ∃ rf : Rl → List (List Int), rf = fun x => Mat.refs x F := ⟨_, rfl⟩
 obtain ⟨rw0, hrw0⟩ : ∃ rw0 : Rl → List (List Int), rw0 = fun x => Mat.rows F (Mat.npos x.pats) [] := ⟨_, rfl⟩
 obtain ⟨ok, hok⟩ : ∃ ok : Rl → List Int → Bool, ok = fun x r => (Mat.envR F x.pats r Mat.empty).isSome := ⟨_, rfl⟩
 have hfil : Hid (∀ x, Mat.refs x F = (rw0 x).filter (ok x)) := fun x => by rw [hrw0, hok]; rfl
 have hRw2 : Hid (∀ x ∈ R, ∀ st, TrF Tryz.prog 59 [.sl .shared (F.map Fc.cells), .i (Mat.npos x.pats), .sl .tight []] st fun d st' => d = .sl .shared ((rw0 x).map encR) ∧ st' = st) := by rw [hrw0]; exact hRw.out
 have hEn2 : Hid (∀ x ∈ R, ∀ r ∈ rw0 x, ∃ w : List V, ∀ st, TrF Tryz.prog 28 [.agg x.cells, .sl .shared (F.map Fc.cells), .sl .shared (r.map encI)] st fun d st' => d = .tup [.sl .shared (w.map V.cells), .b (ok x r)] ∧ st' = st) := by rw [hrw0, hok]; exact hEn.out
 have hok2 : Hid (∀ x ∈ R, ∀ r, ok x r = true → r.length ≤ 1000) := by rw [hok]; exact hok1.out
 have hrl2 : Hid (∀ x ∈ R, (rw0 x).length ≤ 2401) := by rw [hrw0]; exact hrl0.out
 clear hRw hEn hok1 hrf rf hrw0 hok hrl0
 generalize R.map Rl.cells = RS at *
 generalize F.map Fc.cells = FS at *
 refine Qin [4] Tryz.func24 Tryz.results24 Tryz.ntmps24 ?_
 repeat' (first | refine QX ?_ | (refine QB ?_; intro b) | (with_reducible refine QZ ?_ <;> (try constructor) <;> intro hb <;> try intro hb1) | fail)
 refine tr_loopd (ι := Nat) (fun i A st' => i ≤ R.length ∧ A.df = [] ∧ A.e 0 = .sl .shared RS ∧ A.e 1 = .sl .shared FS ∧ A.e 6 = .i i ∧ ∃ don d5, Hid (don ++ FR i = M) ∧ Hid (∀ m ∈ Mat.sortM don, m.ids.length ≤ 1000) ∧ A.e 5 = d5 ∧ OutB (Mat.sortM don) st d5 st') (fun i => R.length - i) 0 ⟨Nat.zero_le _, Qf, Qf, Qf, Qf, [], .sl .tight [], HM0, Lib.hid (fun m hm => by cases hm), Qf, .inl ⟨rfl, rfl, rfl⟩⟩ ?_
 clear HM0
 rintro i A st' ⟨hi, hdf, e0, e1, e6, don, d5, HA, hAi, e5, hO⟩
 by_cases hlt : i < R.length
 · obtain ⟨x, hx⟩ := gEx hlt
   have hxc := hRc.out i x hx
   have hxm := List.mem_of_getElem? hx
   have HE := HA.out
   rw [hstep.out i x hx, hfil.out x, ← List.append_assoc] at HE
   have hRx := hRw2.out x hxm
   have hEx := Lib.hid (hEn2.out x hxm)
   have hokx := Lib.hid (hok2.out x hxm)
   have hp4 := hP4.out x hxm
   have hrwl := hrl2.out x hxm
   clear hrl2 hRc hstep hfil hRw2 hEn2 hok2 hP4 hx hxm HA hend
   generalize rw0 x = RW at *
   generalize ok x = okx at *
   obtain ⟨AC, hAC⟩ : ∃ AC : Nat → List Mt, AC = fun j => Mat.sortM (don ++ ((RW.take j).filter okx).map (Mt.mk i)) := ⟨_, rfl⟩
   have hAC0 : AC 0 = Mat.sortM don := by rw [hAC]; dsimp only; rw [List.take_zero, List.filter_nil, List.map_nil, List.append_nil]
   have hACL : Hid (AC RW.length = Mat.sortM (don ++ (RW.filter okx).map (Mt.mk i))) := by rw [hAC]; dsimp only; rw [List.take_length]; exact Lib.hid rfl
   have hACs : Hid (∀ (j : Nat) (r : List Int), RW[j]? = some r → (okx r = false → AC (j + 1) = AC j) ∧ (okx r = true → AC (j + 1) = Mat.ins (AC j) ⟨i, r⟩)) := fun j r h => by
    rw [hAC]
    dsimp only
    rw [List.take_add_one, h, Option.toList_some, List.filter_append]
    refine ⟨fun h2 => ?_, fun h2 => ?_⟩
    · rw [List.filter_cons_of_neg (by rw [h2]; exact Bool.false_ne_true), List.filter_nil, List.append_nil]
    · rw [List.filter_cons_of_pos h2, List.filter_nil, List.map_append, ← List.append_assoc]
      exact Mat.sortM_app _ _
   have hACn : Hid (∀ j, (AC j).length ≤ 1000000) := fun j => by
    rw [hAC]
    dsimp only
    rw [Mat.sortM_len, List.length_append, List.length_map]
    have h1 := ((List.take_sublist j RW).filter okx).length_le
    have h2 := congrArg List.length HE
    rw [List.length_append, List.length_append, List.length_map] at h2
    omega
   rw [← hAC0] at hO hAi
   clear hAC hAC0
   replace HE := Lib.hid HE
   have hPm : (x.pats.map Pt.cells).length = x.pats.length := List.length_map ..
   have hPc := hMp Pt.cells x.pats
   rw [show x.cells = [.str x.name, .i x.sal, .sl .shared (x.pats.map Pt.cells), .sl .shared (x.acts.map Ac.cells)] from rfl] at *
   obtain ⟨NP, hNP⟩ : ∃ NP : Nat → Nat, NP = fun k => Mat.npos (x.pats.take k) := ⟨_, rfl⟩
   have hNP0 : NP 0 = 0 := by rw [hNP]; rfl
   have hNPs : Hid (∀ (k : Nat) (p : Pt), x.pats[k]? = some p → NP (k + 1) = if p.neg = true then NP k else NP k + 1) := fun k p h => by rw [hNP]; exact Mat.npos_take h
   have hNPL : Mat.npos x.pats = NP x.pats.length := by rw [hNP]; dsimp only; rw [List.take_length]
   have hNPn : Hid (∀ k, NP k ≤ 4) := fun k => by
    rw [hNP]
    dsimp only
    have := Mat.npos_le (x.pats.take k)
    rw [List.length_take] at this
    omega
   rw [hNPL] at hRx
   clear hNPL hNP
   generalize x.pats.map Pt.cells = PS at *
   generalize x.acts.map Ac.cells = AS at *
   generalize x.name = nm at *
   generalize x.sal = sal at *
   generalize x.pats = ps at *
   clear x
   replace hRx := Lib.hid hRx
   repeat' (first | refine QX ?_ | (refine QB ?_; intro b) | (with_reducible refine QZ ?_ <;> (try constructor) <;> intro hb <;> try intro hb1) | fail)
   refine tr_loopd (ι := Nat) (fun k A st2 => k ≤ ps.length ∧ A.df = [] ∧ A.e 0 = .sl .shared RS ∧ A.e 1 = .sl .shared FS ∧ A.e 6 = .i i ∧ A.e 5 = d5 ∧ A.e 7 = .i (NP k) ∧ A.e 8 = .i k ∧ st' = st2) (fun k => ps.length - k) 0 ⟨Nat.zero_le _, Qf, Qf, Qf, Qf, Qf, by rw [hNP0]; exact Qf, Qf, rfl⟩ ?_
   clear hdf e0 e1 e6 e5 hNP0
   rintro k A st2 ⟨hk, hdf, e0, e1, e6, e5, e7, e8, rfl⟩
   by_cases hkl : k < ps.length
   · obtain ⟨p, hp⟩ := gEx hkl
     have hpc := hPc.out k p hp
     have hN := hNPs.out k p hp
     have hN4 := hNPn.out k
     clear hPc hNPs hNPn hp hRx hEx hokx hACL hACs hACn HE hAi hLs
     unfold Pt.cells at hpc
     generalize p.tests.map Ts.cells = TS at *
     generalize p.tmpl = p0 at *
     cases hn : p.neg with
     | true =>
      rw [hn] at hpc hN
      rw [if_pos rfl] at hN
      clear hn
      obtain ⟨n1, hn1⟩ : ∃ n, n = NP (k + 1) := ⟨_, rfl⟩
      obtain ⟨n0, hn0⟩ : ∃ n, n = NP k := ⟨_, rfl⟩
      rw [← hn1, ← hn0] at hN
      rw [← hn0] at e7 hN4
      replace hn1 := Lib.hid hn1
      replace hn0 := Lib.hid hn0
      subst hN
      repeat' (first | refine QX ?_ | (refine QB ?_; intro b) | (with_reducible refine QZ ?_ <;> (try constructor) <;> intro hb <;> try intro hb1) | fail)
      refine ⟨k + 1, st', q_u, ⟨hkl, ?_, ?_, ?_, ?_, ?_, by rw [← hn1.out]; exact Qf, ?_, rfl⟩, by omega⟩
      all_goals exact Qf
     | false =>
      rw [hn] at hpc hN
      rw [if_neg Bool.false_ne_true] at hN
      clear hn
      obtain ⟨n1, hn1⟩ : ∃ n, n = NP (k + 1) := ⟨_, rfl⟩
      obtain ⟨n0, hn0⟩ : ∃ n, n = NP k := ⟨_, rfl⟩
      rw [← hn1, ← hn0] at hN
      rw [← hn0] at e7 hN4
      replace hn1 := Lib.hid hn1
      replace hn0 := Lib.hid hn0
      subst hN
      repeat' (first | refine QX ?_ | (refine QB ?_; intro b) | (with_reducible refine QZ ?_ <;> (try constructor) <;> intro hb <;> try intro hb1) | fail)
      refine ⟨k + 1, st', q_u, ⟨hkl, ?_, ?_, ?_, ?_, ?_, by rw [← hn1.out]; exact Qf, ?_, rfl⟩, by omega⟩
      all_goals exact Qf
   have hkL : k = ps.length := by omega
   subst hkL
   have hN4 := hNPn.out ps.length
   obtain ⟨n0, hn0⟩ : ∃ n, n = NP ps.length := ⟨_, rfl⟩
   rw [← hn0] at e7 hN4 hRx
   have hWm : (RW.map encR).length = RW.length := List.length_map ..
   have hWc : Hid (∀ (j : Nat) (r : List Int), RW[j]? = some r → (RW.map encR)[j]? = some [.sl .shared (r.map encI)]) := fun i t h => by rw [List.getElem?_map, h]; rfl
   clear hn0 hNPs hNPn hPc
   generalize RW.map encR = WS at *
   repeat' (first | refine QX ?_ | (refine QB ?_; intro b) | (with_reducible refine QZ ?_ <;> (try constructor) <;> intro hb <;> try intro hb1) | refine Qc Tryz.call59 ((hRx.out _)) ?_ | fail)
   refine tr_loopd (ι := Nat) (fun j A st2 => j ≤ RW.length ∧ A.df = [] ∧ A.e 0 = .sl .shared RS ∧ A.e 1 = .sl .shared FS ∧ A.e 6 = .i i ∧ A.e 9 = .sl .shared WS ∧ A.e 10 = .i j ∧ ∃ d5, Hid (∀ m ∈ AC j, m.ids.length ≤ 1000) ∧ A.e 5 = d5 ∧ OutB (AC j) st d5 st2) (fun j => RW.length - j) 0 ⟨Nat.zero_le _, Qf, Qf, Qf, Qf, Qf, Qf, d5, hAi, Qf, hO⟩ ?_
   clear hdf e0 e1 e6 e5 e7 e8 hRx hO hAi hN4
   clear d5 n0
   rintro j A st2 ⟨hj, hdf, e0, e1, e6, e9, e10, d5, hAi, e5, hO⟩
   by_cases hjl : j < RW.length
   · obtain ⟨r, hr⟩ := gEx hjl
     have hrc := hWc.out j r hr
     obtain ⟨w, hw⟩ := hEx.out r (List.mem_of_getElem? hr)
     have hs := hACs.out j r hr
     have hn := hACn.out j
     have hrl := hokx.out r
     clear hEx hACs hACn hWc hr hokx
     generalize w.map V.cells = WE at *
     obtain ⟨m, hm⟩ : ∃ m : Mt, m = ⟨i, r⟩ := ⟨_, rfl⟩
     have hmc : m.cells = [.i i, .sl .shared (r.map encI)] := by rw [hm]; rfl
     have hmi : okx r = true → m.ids.length ≤ 1000 := by rw [hm]; exact hrl
     rw [← hm] at hs
     clear hm hrl
     generalize r.map encI = IR at *
     cases hq : okx r with
     | false =>
      rw [hq] at hw
      rw [← hs.1 hq] at hO hAi
      clear hs hq hmi hLs HE hACL hn
      replace hw := Lib.hid hw
      repeat' (first | refine QV ?_ | ((with_reducible refine QW ?_); intro hne; simp only [nes, ne1, and_assoc] at hne; repeat (have hq := hne.1; replace hne := hne.2)) | refine QY ?_ | (refine QB ?_; intro b) | (with_reducible refine QZ ?_ <;> (try constructor) <;> intro hb <;> try intro hb1) | refine Qc Tryz.call28 ((hw.out _)) ?_ | fail)
      refine ⟨j + 1, st2, q_u, ⟨hjl, ?_, ?_, ?_, ?_, ?_, ?_, d5, hAi, ?_, hO⟩, by omega⟩
      all_goals exact Qf
     | true =>
      rw [hq] at hw
      replace hmi := hmi hq
      have hs := Lib.hid (hs.2 hq)
      clear hq HE hACL
      have hAi2 : Hid (∀ z ∈ AC (j + 1), z.ids.length ≤ 1000) := fun z hz => by
       rw [hs.out] at hz
       rcases List.mem_cons.1 ((Mat.ins_perm _ _).mem_iff.1 hz) with rfl | hz
       · exact hmi
       · exact hAi.out z hz
      obtain ⟨acc, hacc⟩ : ∃ acc, acc = AC j := ⟨_, rfl⟩
      rw [← hacc] at hO hAi hn hs
      have hC : Hid (∀ (t : Nat) (c : Mt), acc[t]? = some c → ∀ st, TrF Tryz.prog 26 [.agg [.i i, .sl .shared IR], .agg c.cells] st fun d st' => d = .b (Mat.less m c) ∧ st' = st) := fun t c h => by
       rw [← hmc]
       exact hLs.out m c hmi (hAi.out c (List.mem_of_getElem? h))
      have hil := Mat.ins_len acc m
      clear hacc hLs hAi hmi
      rw [← hs.out] at hil
      obtain ⟨PO, hPO⟩ : ∃ PO : Nat → Nat, PO = Mat.pos m acc := ⟨_, rfl⟩
      have hPO0 : PO 0 = 0 := by rw [hPO]; rfl
      have hPOs : Hid (∀ (t : Nat) (c : Mt), acc[t]? = some c → PO (t + 1) = if Mat.less m c = true then PO t else t + 1) := fun t c h => by
       rw [hPO, Mat.pos, List.getD_eq_getElem?_getD, h, Option.getD_some]
      obtain ⟨RK, hRK⟩ : ∃ RK : Nat → Mt → List D, RK = fun k hole => rowM (acc.take k ++ hole :: acc.drop k) := ⟨_, rfl⟩
      have hRg : Hid (∀ (k t : Nat) (hole c : Mt) (zs : List D), t < k → k ≤ acc.length → acc[t]? = some c → List.take 2 (List.drop (t * 2) (RK k hole ++ zs)) = c.cells) := fun k t hole c zs h1 h2 h3 => by
       rw [hRK]
       exact rowM_at zs (by rw [hole_get h1 h2]; exact h3)
      have hRs : Hid (∀ (k : Nat) (hole v : Mt) (zs : List D), k ≤ acc.length → List.take (k * 2) (RK k hole ++ zs) ++ v.cells ++ List.drop (k * 2 + 2) (RK k hole ++ zs) = RK k v ++ zs) := fun k hole v zs h1 => by
       rw [hRK]
       dsimp only
       rw [rowM_set zs (by rw [hole_len h1]; omega), set_hole h1]
      have hRn : Hid (∀ (t : Nat) (c : Mt), acc[t]? = some c → RK (t + 1) c = RK t c) := fun t c h => by
       rw [hRK]
       dsimp only
       rw [hole_step h]
      have hRl2 : Hid (∀ (k : Nat) (hole : Mt), k ≤ acc.length → (RK k hole).length = (acc.length + 1) * 2) := fun k hole h => by
       rw [hRK]
       dsimp only
       rw [rowM_len, hole_len h]
      have hRi : rowM (acc ++ [m]) = RK acc.length m := by
       rw [hRK]
       dsimp only
       rw [List.take_length, List.drop_length]
      have hRf : Hid (∀ k, PO acc.length = k → RK k m = rowM (AC (j + 1))) := fun k h => by
       rw [hPO] at h
       rw [hRK, hs.out]
       dsimp only
       unfold Mat.ins
       rw [h]
      clear hPO hRK hs
      replace hw := Lib.hid hw
      have hAne : Hid (AC (j + 1) ≠ []) := fun h => by rw [h] at hil; simp at hil
      repeat' (first | refine QV ?_ | (refine tr_keep 18 19 (fun A' st' => ∃ g cap zs, (RK acc.length m ++ zs).length = cap * 2 ∧ A'.df = [] ∧ A'.e 0 = .sl .shared RS ∧ A'.e 1 = .sl .shared FS ∧ A'.e 5 = .ar g 0 (acc.length + 1) cap ∧ A'.e 6 = .i i ∧ A'.e 9 = .sl .shared WS ∧ A'.e 10 = .i j ∧ A'.e 13 = .ptr b 0 ∧ A'.e 14 = .i acc.length ∧ st'.Perm (.box b 52 [.i i, .sl .shared IR] :: .box g 52 (RK acc.length m ++ zs) :: st)) ?_ ?_) | ((with_reducible refine QW ?_); intro hne; simp only [nes, ne1, and_assoc] at hne; repeat (have hq := hne.1; replace hne := hne.2)) | refine QY ?_ | (refine QB ?_; intro b) | (with_reducible refine QZ ?_ <;> (try constructor) <;> intro hb <;> try intro hb1) | refine Qc Tryz.call28 ((hw.out _)) ?_ | fail)
      · intro hK
        replace hK := Lib.hid hK
        clear hPOs hRg hRs hRn hRl2 hRf hC hAi2 hil hAne hw
        rcases hO with ⟨rfl, rfl, rfl⟩ | ⟨hne, g, cap, zs, hz, rfl, rfl⟩
        · have hrm : rowM [m] = [[D.i i, D.sl .shared IR]].flatten := by
           unfold rowM
           rw [List.map_cons, hmc]; rfl
          have hRi2 : RK 0 m = [[D.i i, D.sl .shared IR]].flatten := by rw [← hrm, ← List.nil_append [m], hRi]; rfl
          clear hRi hrm
          repeat' (first | refine QV ?_ | with_reducible refine hK.out _ _ ?_ | with_reducible refine s_appN ?_ | with_reducible refine rn_go ?_ | ((with_reducible apply rn2_go); (focus exact q_n); (focus exact len_one rfl); (focus exact q_n); (focus exact q_n); intro g' cap' zs' hc hl') | refine QY ?_ | (refine QB ?_; intro b) | (with_reducible refine QZ ?_ <;> (try constructor) <;> intro hb <;> try intro hb1) | fail)
          refine ⟨g', cap', zs', ?_, ?_, ?_, ?_, ?_, ?_, ?_, ?_, ?_, ?_, ?_⟩
          · show (RK 0 m ++ zs').length = cap' * 2
            rw [hRi2]; exact hl'
          rotate_right
          · show List.Perm _ (_ :: Res.box g' _ (RK 0 m ++ zs') :: _)
            rw [hRi2]
            try (first | exact .refl _ | exact .swap _ _ _)
          all_goals exact Qf
        · have hrl : (rowM acc).length = acc.length * 2 := rowM_len _
          have hra := rowM_app acc m
          rw [hmc, hRi] at hra
          clear hRi
          generalize rowM acc = RWW at *
          generalize acc.length = n at *
          repeat' (first | refine QV ?_ | with_reducible refine hK.out _ _ ?_ | with_reducible refine s_appR ?_ | with_reducible refine rk_go ?_ | ((with_reducible apply (r2_go hrl hz)); (focus (intro g' cs'; repeat (first | exact ra_h | apply ra_t))); (focus exact len_one rfl); (iterate 2 (focus exact q_n)); intro g' cap' zs' hc hl') | refine QY ?_ | (refine QB ?_; intro b) | (with_reducible refine QZ ?_ <;> (try constructor) <;> intro hb <;> try intro hb1) | fail)
          refine ⟨g', cap', zs', ?_, ?_, ?_, ?_, ?_, ?_, ?_, ?_, ?_, ?_, ?_⟩
          · rw [hra]; exact hl'
          rotate_right
          · rw [hra]
            try (first | exact .refl _ | exact .swap _ _ _)
          all_goals exact Qf
      · clear hO hdf e0 e1 e6 e9 e10 e5 hw hRi hrc
        clear d5 A
        rintro A st3 ⟨g, cap, zs, hz, hdf, e0, e1, e5, e6, e9, e10, e13, e14, hp⟩
        refine tr_perm hp ?_
        clear hp
        generalize hn2 : acc.length = n at *
        obtain ⟨pf, hpf⟩ : ∃ pf, pf = PO n := ⟨_, rfl⟩
        replace hpf := Lib.hid hpf
        repeat' (first | refine QX ?_ | (refine QB ?_; intro b) | (with_reducible refine QZ ?_ <;> (try constructor) <;> intro hb <;> try intro hb1) | fail)
        refine tr_loopd (ι := Nat) (fun k A st' => k ≤ n ∧ Hid (pf = PO k) ∧ A.df = [] ∧ A.e 0 = .sl .shared RS ∧ A.e 1 = .sl .shared FS ∧ A.e 5 = .ar g 0 (n + 1) cap ∧ A.e 6 = .i i ∧ A.e 9 = .sl .shared WS ∧ A.e 10 = .i j ∧ A.e 13 = .ptr b 0 ∧ A.e 14 = .i k ∧ ∃ hole, st' = .box b 52 [.i i, .sl .shared IR] :: .box g 52 (RK k hole ++ zs) :: st) (fun k => k) n ⟨Nat.le_refl _, hpf, Qf, Qf, Qf, Qf, Qf, Qf, Qf, Qf, Qf, m, rfl⟩ ?_
        clear hdf e0 e1 e5 e6 e9 e10 e13 e14
        rintro k A st' ⟨hk, HP, hdf, e0, e1, e5, e6, e9, e10, e13, e14, hole, rfl⟩
        have hzl : (RK n m).length = (n + 1) * 2 := hRl2.out n m q_o
        have hkz : (RK k hole).length = (n + 1) * 2 := hRl2.out k hole q_o
        have hzs : (RK k hole ++ zs).length = cap * 2 := by rw [List.length_append, hkz, ← hzl, ← List.length_append]; exact hz
        have hcap : n + 1 ≤ cap := by rw [List.length_append, hzl] at hz; omega
        have hcap2 : k * 2 + 2 ≤ (RK k hole ++ zs).length := by rw [hzs]; omega
        have hdl2 : 2 ≤ (List.drop (k * 2) (RK k hole ++ zs)).length := by rw [List.length_drop, hzs]; omega
        have hset := hRs.out k hole m zs q_o
        rw [hmc] at hset
        have hfin : Hid (PO n = k → RK k m = rowM (AC (j + 1))) := Lib.hid (hRf.out k)
        have hpl : (RK k m ++ zs).length = cap * 2 := by rw [List.length_append, hRl2.out k m q_o, ← hkz, ← List.length_append]; exact hzs
        rcases Nat.eq_zero_or_pos k with rfl | hpos
        · have hf := hfin.out (by rw [← hpf.out, HP.out]; exact hPO0)
          clear hPOs hRg hRs hRn hRl2 hRf hC hfin HP hpf hz hzl hkz
          generalize hR2 : RK 0 m ++ zs = R2 at *
          generalize RK 0 hole ++ zs = RR at *
          simp only [Nat.zero_mul, Nat.zero_add, List.take_zero, List.nil_append, List.cons_append] at hset
          simp only [Nat.zero_mul, Nat.zero_add] at hcap2 hdl2
          repeat' (first | refine QV ?_ | ((with_reducible refine QW ?_); intro hne; simp only [nes, ne1, and_assoc] at hne; repeat (have hq := hne.1; replace hne := hne.2)) | refine QY ?_ | (refine QB ?_; intro b) | (with_reducible refine QZ ?_ <;> (try constructor) <;> intro hb <;> try intro hb1) | fail)
          refine ⟨j + 1, .box g 52 R2 :: st, q_t, ⟨hjl, ?_, ?_, ?_, ?_, ?_, ?_, _, hAi2, rfl, .inr ⟨hAne.out, g, cap, zs, ?_, ?_, ?_⟩⟩, by omega⟩
          all_goals first | (rw [← hf, hR2]; exact hpl) | (rw [← hf, hR2]; done) | (rw [hil]; exact Qf) | exact Qf
        · obtain ⟨t, ht⟩ : ∃ t, k = t + 1 := ⟨k - 1, by omega⟩
          obtain ⟨c, hc⟩ := gEx (l := acc) (i := t) q_o
          have hg2 := hRg.out k t hole c zs q_o q_o hc
          have hCt := hC.out t c hc
          have hPt := hPOs.out t c hc
          have hRt := hRn.out t c hc
          have hset2 := hRs.out k hole c zs q_o
          have hcap3 : t * 2 + 2 ≤ (RK k hole ++ zs).length := by omega
          have hdl3 : 2 ≤ (List.drop (t * 2) (RK k hole ++ zs)).length := by rw [List.length_drop]; omega
          have hwk : ((k : Int) - 1) = t := by omega
          have htk : t < k := by omega
          rw [← ht] at hPt hRt
          rw [← HP.out] at hPt
          clear hPOs hRg hRs hRn hRl2 hRf hC hz hzl hkz hc HP ht
          rw [show c.cells = [.i c.rule, .sl .shared (c.ids.map encI)] from rfl] at *
          generalize c.ids.map encI = IC at *
          generalize c.rule = rc at *
          cases hq : Mat.less m c with
          | true =>
           rw [hq] at hCt hPt
           rw [if_pos rfl] at hPt
           replace hPt := Lib.hid hPt
           replace hCt := Lib.hid hCt
           clear hset hpl hfin hpf
           rw [hRt] at hset2
           generalize hR2 : RK t c ++ zs = R2 at *
           generalize RK k hole ++ zs = RR at *
           repeat' (first | refine QV ?_ | ((with_reducible refine QW ?_); intro hne; simp only [nes, ne1, and_assoc] at hne; repeat (have hq := hne.1; replace hne := hne.2)) | refine QY ?_ | (refine QB ?_; intro b) | (with_reducible refine QZ ?_ <;> (try constructor) <;> intro hb <;> try intro hb1) | refine Qc Tryz.call26 ((hCt.out _)) ?_ | fail)
           refine ⟨t, .box b 52 [.i i, .sl .shared IR] :: .box g 52 R2 :: st, q_t, ⟨by omega, hPt, ?_, ?_, ?_, ?_, ?_, ?_, ?_, ?_, ?_, c, by rw [hR2]⟩, htk⟩
           all_goals exact Qf
          | false =>
           rw [hq] at hCt hPt
           rw [if_neg Bool.false_ne_true] at hPt
           replace hCt := Lib.hid hCt
           have hf := hfin.out (by rw [← hpf.out]; omega)
           clear hset2 hPt hfin hpf hRt
           generalize hR2 : RK k m ++ zs = R2 at *
           generalize RK k hole ++ zs = RR at *
           repeat' (first | refine QV ?_ | ((with_reducible refine QW ?_); intro hne; simp only [nes, ne1, and_assoc] at hne; repeat (have hq := hne.1; replace hne := hne.2)) | refine QY ?_ | (refine QB ?_; intro b) | (with_reducible refine QZ ?_ <;> (try constructor) <;> intro hb <;> try intro hb1) | refine Qc Tryz.call26 ((hCt.out _)) ?_ | fail)
           refine ⟨j + 1, .box g 52 R2 :: st, q_t, ⟨hjl, ?_, ?_, ?_, ?_, ?_, ?_, _, hAi2, rfl, .inr ⟨hAne.out, g, cap, zs, ?_, ?_, ?_⟩⟩, by omega⟩
           all_goals first | (rw [← hf, hR2]; exact hpl) | (rw [← hf, hR2]; done) | (rw [hil]; exact Qf) | exact Qf
   · have hjL : j = RW.length := by omega
     subst hjL
     rw [hACL.out] at hO hAi
     clear hEx hokx hACL hACs hACn hWc hLs
     repeat' (first | refine QX ?_ | (refine QB ?_; intro b) | (with_reducible refine QZ ?_ <;> (try constructor) <;> intro hb <;> try intro hb1) | fail)
     refine ⟨i + 1, st2, q_u, ⟨hlt, ?_, ?_, ?_, ?_, _, d5, HE, hAi, ?_, hO⟩, by omega⟩
     all_goals exact Qf
 · have hil : i = R.length := by omega
   subst hil
   have HE := HA.out
   rw [hend.out, List.append_nil] at HE
   subst HE
   have hO2 := hO.raw
   clear HA hend hRc hrl2 hstep hRw2 hEn2 hok2 hLs hP4 hO hfil
   replace hO2 := Lib.hid hO2
   repeat' (first | refine QX ?_ | (refine QB ?_; intro b) | (with_reducible refine QZ ?_ <;> (try constructor) <;> intro hb <;> try intro hb1) | fail)
   all_goals exact retA_mk (by simp) q_y (List.Sublist.refl _) (LE.of_eq q_v) hO2.out
end
section
attribute [local push_cast] encB encI encC V.cells_mk V.cells_len Nat.mul_one Int.sub_zero List.map_nil beq_self_eq_true List.head?_cons
theorem refAllF (o o' : Own) (a b : List V) (ha : ∀ v ∈ a, v.Ok) (hl : a.length ≤ 9223372036854775806) (st : St) : TrF Tryz.prog 19 [.sl o (a.map V.cells), .sl o' (b.map V.cells)] st fun d st' => d = .b (V.cmpL a b == 0) ∧ st' = st := by
 have hma : (a.map V.cells).length = a.length := List.length_map ..
 have hmb : (b.map V.cells).length = b.length := List.length_map ..
 have hca := hMp V.cells a
 have hcb := hMp V.cells b
 have ha2 := Lib.hid ha
 have hne : Hid (a ≠ b → (V.cmpL a b == 0) = false) := fun h => by rw [beq_eq_false_iff_ne]; exact fun h2 => h (V.cmpL_eq a b h2)
 have heq : Hid (a = b → (V.cmpL a b == 0) = true) := fun h => by rw [h, V.cmpL_self]; rfl
 clear ha
 generalize (V.cmpL a b == 0) = B at *
 generalize a.map V.cells = AC at *
 generalize b.map V.cells = BC at *
 by_cases hlen : a.length = b.length
 · have hlen2 : b.length = a.length := hlen.symm
   replace hlen := Lib.hid hlen
   refine Qin [4] Tryz.func19 Tryz.results19 Tryz.ntmps19 ?_
   repeat' (first | refine QX ?_ | (refine QB ?_; intro b) | (refine QP ?_; intro o' ho') | (with_reducible refine QZ ?_ <;> (try constructor) <;> intro hb <;> try intro hb1) | fail)
   refine tr_loop (ι := Nat) (fun i A st' => i ≤ a.length ∧ Hid (a.take i = b.take i) ∧ A.df = [] ∧ A.e 0 = .sl o AC ∧ A.e 1 = .sl o' BC ∧ A.e 5 = .i i ∧ st = st') (fun i => a.length - i) 0 ⟨Nat.zero_le _, rfl, Qf, Qf, Qf, Qf, rfl⟩ ?_
   rintro i A st' ⟨hi, HT, hdf, e0, e1, e5, rfl⟩
   by_cases hlt : i < a.length
   · obtain ⟨x, hx⟩ := gEx hlt
     obtain ⟨y, hy⟩ := gEx (l := b) (i := i) q_o
     have hcx := hca.out i x hx
     have hcy := hcb.out i y hy
     have hS := refSameF x y (ha2.out x (List.mem_of_getElem? hx))
     have hyes : Hid (x = y → a.take (i + 1) = b.take (i + 1)) := fun e => by
      rw [List.take_add_one, List.take_add_one, HT.out, hx, hy, e]
     have hno : Hid (x ≠ y → a ≠ b) := fun e h => e (by
      rw [h, hy] at hx
      exact (Option.some.inj hx).symm)
     cases hq : (x.cmp y == 0) with
     | true =>
      have hxy := hyes.out (V.cmp_eq x y (by simpa using hq))
      rw [hq] at hS
      clear hyes hno hx hy hq HT
      cases x with
      | mk k n sv lv =>
      cases y with
      | mk k' n' sv' lv' =>
      rw [V.cells_mk] at hcx hcy
      rw [V.cells_mk, V.cells_mk] at hS
      replace hS := Lib.hid hS
      replace hxy := Lib.hid hxy
      repeat' (first | refine QV ?_ | ((with_reducible refine QW ?_); intro hne; simp only [nes, ne1, and_assoc] at hne; repeat (have hq := hne.1; replace hne := hne.2)) | refine QY ?_ | (refine QB ?_; intro b) | (refine QP ?_; intro o' ho') | (with_reducible refine QZ ?_ <;> (try constructor) <;> intro hb <;> try intro hb1) | fail)
      refine ⟨i + 1, ⟨hlt, hxy, ?_, ?_, ?_, ?_, rfl⟩, ?_⟩
      all_goals exact Qf
     | false =>
      have hB := hne.out (hno.out fun e => by rw [e, V.cmp_self] at hq; exact absurd hq (by decide))
      rw [hq] at hS
      clear hyes hno hx hy hq HT
      subst hB
      cases x with
      | mk k n sv lv =>
      cases y with
      | mk k' n' sv' lv' =>
      rw [V.cells_mk] at hcx hcy
      rw [V.cells_mk, V.cells_mk] at hS
      replace hS := Lib.hid hS
      repeat' (first | refine QV ?_ | ((with_reducible refine QW ?_); intro hne; simp only [nes, ne1, and_assoc] at hne; repeat (have hq := hne.1; replace hne := hne.2)) | refine QY ?_ | (refine QB ?_; intro b) | (refine QP ?_; intro o' ho') | (with_reducible refine QZ ?_ <;> (try constructor) <;> intro hb <;> try intro hb1) | fail)
      all_goals exact Qret
   · have h1 := HT.out
     rw [List.take_of_length_le q_o, List.take_of_length_le q_o] at h1
     have hB := heq.out h1
     subst hB
     clear heq hne HT hca hcb h1
     exact WRa
 · have hB := hne.out fun e => hlen (by rw [e])
   subst hB
   have hl2 : ¬ (a.length : Int) = (b.length : Int) := by omega
   clear hne heq hlen
   refine Qin [4] Tryz.func19 Tryz.results19 Tryz.ntmps19 ?_
   exact WRa
end
end Go.Proofs.YtoeidpmjifjplaaGreat
