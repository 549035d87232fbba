/- Texts put together. No statement is proved here. -/
import Derived.Test.YtoeidpmjifjplaaGreatZ6
set_option linter.all false
set_option maxRecDepth 10000
set_option maxHeartbeats 8000000
namespace Go.Proofs.YtoeidpmjifjplaaGreat
open Go.RowKit
section
attribute [local push_cast] encB encI encC V.cells_mk V.cells_len Nat.mul_one Int.sub_zero List.map_nil beq_self_eq_true List.head?_cons
def doTab : List D := [.s .nilFunc, .fn (.func 186) [] [], .fn (.func 187) [] [], .fn (.func 188) [] [], .fn (.func 189) [] [], .fn (.func 190) [] []]
theorem stepR_of {F G : Vr → Stp → Option Vr} {x : Vr} {stp : Stp} {bx : Nat} {s : St} (h : F x stp = G x stp) : StepR F x stp bx s = StepR G x stp bx s := by
 unfold StepR; rw [h]
theorem doTabF (x : Vr) (stp : Stp) (hx : VW x) (hc1 : 1 ≤ x.cols.length) (hs : stp.Ok) (hk : 1 ≤ stp.kind ∧ stp.kind ≤ 5) : ∃ (n : Nat) (f : FuncId), stp.kind = n ∧ n ≤ 5 ∧ (∃ tl, doTab.drop n = .fn (.func f) [] [] :: tl) ∧ (∀ args w, (callFunc f args).run Tryz.prog w = .ok (.enter f args) w) ∧
 ∀ (bx gs cS gc cC : Nat) (zS zC : List D), VL cS zS cC zC x → ∀ s, TrF Tryz.prog f [.ptr bx 0, .agg stp.cells] (VB bx gs cS zS gc cC zC x s) (StepR Sch.stepV x stp bx s) := by
 have hk' : stp.kind = 1 ∨ stp.kind = 2 ∨ stp.kind = 3 ∨ stp.kind = 4 ∨ stp.kind = 5 := by omega
 rcases hk' with h | h | h | h | h
 · exact ⟨1, _, h, by decide, ⟨_, rfl⟩, Tryz.call186, fun bx gs cS gc cC zS zC hz s => stepR_of (G := Sch.stepV) (by unfold Sch.stepV; rw [if_pos h]) ▸ schAddF bx gs cS gc cC zS zC x stp hx hs hz s⟩
 · exact ⟨2, _, h, by decide, ⟨_, rfl⟩, Tryz.call187, fun bx gs cS gc cC zS zC hz s => stepR_of (G := Sch.stepV) (by unfold Sch.stepV; rw [if_neg (show ¬ stp.kind = 1 by omega), if_pos h]) ▸ schLoseF bx gs cS gc cC zS zC x stp hx hs hz s⟩
 · exact ⟨3, _, h, by decide, ⟨_, rfl⟩, Tryz.call188, fun bx gs cS gc cC zS zC hz s => stepR_of (G := Sch.stepV) (by unfold Sch.stepV; rw [if_neg (show ¬ stp.kind = 1 by omega), if_neg (show ¬ stp.kind = 2 by omega), if_pos h]) ▸ schRenameF bx gs cS gc cC zS zC x stp hx hs hz s⟩
 · exact ⟨4, _, h, by decide, ⟨_, rfl⟩, Tryz.call189, fun bx gs cS gc cC zS zC hz s => stepR_of (G := Sch.stepV) (by unfold Sch.stepV; rw [if_neg (show ¬ stp.kind = 1 by omega), if_neg (show ¬ stp.kind = 2 by omega), if_neg (show ¬ stp.kind = 3 by omega), if_pos h]) ▸ schWidenF bx gs cS gc cC zS zC x stp hx hs hz s⟩
 · exact ⟨5, _, h, by decide, ⟨_, rfl⟩, Tryz.call190, fun bx gs cS gc cC zS zC hz s => stepR_of (G := Sch.stepV) (by unfold Sch.stepV; rw [if_neg (show ¬ stp.kind = 1 by omega), if_neg (show ¬ stp.kind = 2 by omega), if_neg (show ¬ stp.kind = 3 by omega), if_neg (show ¬ stp.kind = 4 by omega), if_pos h]) ▸ schReorderF bx gs cS gc cC zS zC x stp hx hc1 hs hz s⟩
theorem firstR_ex (t : Tm) (st : St) : ∃ d st', FirstR t st d st' := by
 unfold FirstR
 cases h : Sch.firstV t with
 | none => exact ⟨_, _, .inl ⟨rfl, .inl rfl, rfl⟩⟩
 | some x => exact ⟨_, _, .inr ⟨x, 0, x.slots.length, [], 0, x.cols.length, [], rfl, ⟨by rw [List.append_nil, slotC_len], by rw [List.append_nil, colC_len]⟩, rfl, rfl⟩⟩
theorem stepR_ex (x : Vr) (stp : Stp) (bx : Nat) (s : St) : ∃ d st', StepR Sch.stepV x stp bx s d st' := by
 unfold StepR
 cases h : Sch.stepV x stp with
 | none => exact ⟨_, _, .inl ⟨rfl, rfl, rfl⟩⟩
 | some y => exact ⟨_, _, .inr ⟨y, 0, y.slots.length, [], 0, y.cols.length, [], rfl, ⟨by rw [List.append_nil, slotC_len], by rw [List.append_nil, colC_len]⟩, rfl, rfl⟩⟩
def verD (p : Vr × Nat) : List D := [.i p.2, .agg p.1.cells]
theorem versF (t : Tm) (st : St) : TrF Tryz.prog 123 [.agg t.cells] st fun d st' => ∃ tb, d = .fn (.func 156) [] [.ptr tb 0] ∧ st' = .box tb 136 t.cells :: st := by
 unfold Tm.cells
 generalize t.slots.map Sl.cells = SL
 generalize t.steps.map Stp.cells = TL
 refine Qin [2] Tryz.func123 Tryz.results123 Tryz.ntmps123 ?_
 repeat' (first | with_reducible refine s_boxP ?_ | refine QX ?_ | (refine QB ?_; intro b) | (with_reducible refine QZ ?_ <;> (try constructor) <;> intro hb <;> try intro hb1) | fail)
 all_goals exact retA_mk q_x rfl q_u (LE.of_eq q_v) ⟨_, rfl, rfl⟩
theorem versIter (tb : Nat) (t : Tm) (ht : TOk t) : IterC Tryz.prog 156 [.ptr tb 0] verD ((Sch.vers t).zipIdx 1) [.box tb 136 t.cells] (fun K => K = [.box tb 136 t.cells]) (fun _ K => K = [.box tb 136 t.cells]) := by
 intro l C J Jx hY hJ
 have HY := Lib.hid hY
 have HJ := Lib.hid hJ
 clear hY hJ
 have hFi := Lib.hid (schFirstF t ht.os ht.ls ht.lt)
 have hot := Lib.hid ht.ot
 have hcells : Hid (t.cells = [.str t.name, .sl .shared (t.slots.map Sl.cells), .sl .shared (t.steps.map Stp.cells)]) := rfl
 obtain ⟨Vs, hVs⟩ : ∃ Vs, Sch.vers t = Vs := ⟨_, rfl⟩
 have hV : Hid (Vs = match Sch.firstV t with | none => [] | some x => x :: Sch.versL x t.steps) := hVs.symm
 have hvi : Hid (∀ y ∈ Vs, Sch.VI 16 y) := Lib.hid (by rw [← hVs]; exact fun y => Sch.vers_vi)
 rw [hVs] at HY ⊢
 clear hVs
 have hLl : (Vs.zipIdx 1).length = Vs.length := List.length_zipIdx
 have hget : Hid (∀ i x, Vs[i]? = some x → (Vs.zipIdx 1)[i]? = some (x, 1 + i)) := fun i x h => by rw [List.getElem?_zipIdx, h]; rfl
 generalize Vs.zipIdx 1 = L at *
 unfold FirstR at hFi
 have hex := Lib.hid (firstR_ex t)
 unfold FirstR at hex
 generalize hTC : t.cells = TC at *
 have hTC2 := hcells.out
 subst hTC2
 generalize t.slots.map Sl.cells = SL at *
 generalize hSt : t.steps.map Stp.cells = TL at *
 replace hSt := Lib.hid hSt
 replace hTC := Lib.hid hTC
 refine Qin [] Tryz.func156 Tryz.results156 Tryz.ntmps156 ?_
 refine tr_perm (st' := .box tb 136 [.str t.name, .sl .shared SL, .sl .shared TL] :: C) (.refl _) ?_
 repeat' (first | refine QX ?_ | (refine QB ?_; intro b) | (with_reducible refine QZ ?_ <;> (try constructor) <;> intro hb <;> try intro hb1) | ((with_reducible apply (ck_gen Tryz.call157)); (focus exact List.Perm.refl _); (focus exact hFi.out _); (focus exact LEL.refl _); (focus exact hex.out _); (rintro d st' (⟨hn, rfl | ⟨gs, n1, cS, gc, n2, cC, rfl⟩, rfl⟩ | ⟨x, gs, cS, zS, gc, cC, zC, hx, hz, rfl, rfl⟩))) | fail)
 · have hL0 : L.length = 0 := by rw [hLl, hV.out, hn]; rfl
   exact retA_mk q_x rfl q_u (LE.refl _) ⟨[_], C, rfl, .inl ⟨rfl, by rw [hL0]; exact HJ.out⟩⟩
 · have hL0 : L.length = 0 := by rw [hLl, hV.out, hn]; rfl
   exact retA_mk q_x rfl q_u (LE.refl _) ⟨[_], C, rfl, .inl ⟨rfl, by rw [hL0]; exact HJ.out⟩⟩
 have hV1 : Vs = x :: Sch.versL x t.steps := by rw [hV.out, hx]
 have hx0 : Vs[0]? = some x := by rw [hV1]; rfl
 have hT0 : Hid (Sch.versL x (t.steps.drop 0) = Vs.drop 1) := Lib.hid (by rw [hV1]; rfl)
 have hVx := hvi.out x (List.mem_of_getElem? hx0)
 have hg0 := hget.out 0 x hx0
 replace hx0 := Lib.hid hx0
 have hdoF := schDoersF
 have hLl2 := Lib.hid hLl
 clear hV hV1 hex hFi hx hLl
 obtain ⟨b3, rfl⟩ : ∃ q, q = b := ⟨_, rfl⟩
 have hcp := Lib.hid (schCopiedF gs cS gc cC zS zC x (fun h => by have := hVx.lp; rw [h] at this; simp at this) (fun h => by have := hVx.cp; rw [h] at this; simp at this) (hVx.vw q_o))
 obtain ⟨TB, hTB⟩ : ∃ TB, TB = doTab := ⟨_, rfl⟩
 have hdo : Hid (∀ st, TrF Tryz.prog 159 [] st fun d st' => d = .agg TB ∧ st' = st) := by rw [hTB]; exact hdoF
 have hTBl : TB.length = 6 := by rw [hTB]; rfl
 have hTBa : TB.all D.leaf = true := by rw [hTB]; rfl
 replace hTB := Lib.hid hTB
 clear hdoF
 repeat' (first | refine QV ?_ | ((with_reducible apply (s_yield HY.out HJ.out hg0)); (focus exact q_v); (focus exact q_v); (focus exact q_l); (focus (repeat (first | exact tl_nil | apply tl_cons)); done); all_goals (intro C' hC')) | refine QY ?_ | (refine QB ?_; intro b) | (with_reducible refine QZ ?_ <;> (try constructor) <;> intro hb <;> try intro hb1) | refine Qc Tryz.call158 (hcp.out _ q_m q_m) ?_ | fail)
 rotate_left
 · exact retA_mk q_x q_y q_u (LE.refl _) ⟨[_], C', rfl, .inr ⟨_, rfl, hC'⟩⟩
 obtain ⟨b5, rfl⟩ : ∃ q, q = b := ⟨_, rfl⟩
 refine tr_perm (st' := .box b3 146 [.ar gs 0 x.slots.length cS, .ar gc 0 x.cols.length cC] :: .box gs 184 (slotC x.slots ++ zS) :: .box gc 3 (colC x.cols ++ zC) :: .box b5 232 TB :: .box tb 136 [.str t.name, .sl .shared SL, .sl .shared TL] :: C') (by (repeat (first | exact List.Perm.refl _ | refine perm_cons_out (by repeat (first | exact out_here | apply out_there)) ?_))) ?_
 have hJ0 := Lib.hid hC'
 have hTl : TL.length = t.steps.length := by rw [← hSt.out, List.length_map]
 have hms := ht.lt
 clear hg0 hcp
 refine tr_loopd (ι := Nat) (fun i A st' => ∃ x gs cS zS gc cC zC C', i ≤ TL.length ∧ VL cS zS cC zC x ∧ Hid (Vs[i]? = some x) ∧ Hid (Sch.versL x (t.steps.drop i) = Vs.drop (i + 1)) ∧ Hid (J (i + 1) C') ∧ A.df = [] ∧ A.e 0 = .fn (.yield l) [] [] ∧ A.e 1 = .ptr tb 0 ∧ A.e 3 = .ptr b3 0 ∧ A.e 5 = .ptr b5 0 ∧ A.e 24 = .sl .shared TL ∧ A.e 25 = .i TL.length ∧ A.e 26 = .i i ∧
  st' = .box b3 146 [.ar gs 0 x.slots.length cS, .ar gc 0 x.cols.length cC] :: .box gs 184 (slotC x.slots ++ zS) :: .box gc 3 (colC x.cols ++ zC) :: .box b5 232 TB :: .box tb 136 [.str t.name, .sl .shared SL, .sl .shared TL] :: C') (fun i => TL.length - i) 0 ⟨x, gs, cS, zS, gc, cC, zC, C', Nat.zero_le _, hz, hx0, hT0, hJ0, Qf, Qf, Qf, Qf, Qf, Qf, Qf, Qf, rfl⟩ ?_
 clear hx0 hT0 hJ0 hz hVx hC' HJ
 rintro i A st' ⟨x, gs, cS, zS, gc, cC, zC, C', hi, hz, hxi, hTi, hJi, hdf, e0, e1, e3, e5, e24, e25, e26, rfl⟩
 have hVx := hvi.out x (List.mem_of_getElem? hxi.out)
 by_cases hlt : i < TL.length
 · obtain ⟨stp, hstp⟩ := gEx (l := t.steps) (i := i) q_o
   have hso := hot.out stp (List.mem_of_getElem? hstp)
   have hTd := hTi.out
   rw [Sch.versL_drop hstp] at hTd
   have hcl : TL[i]? = some stp.cells := by rw [← hSt.out, List.getElem?_map, hstp]; rfl
   have hin : i < Vs.length := (List.getElem?_eq_some_iff.1 hxi.out).1
   by_cases hk : 1 ≤ stp.kind ∧ stp.kind ≤ 5
   · obtain ⟨nk, f, hkn, hn5, ⟨tl, htl⟩, hent, hTr⟩ := doTabF x stp (hVx.vw q_o) hVx.cp hso hk
     have hTr2 := Lib.hid (hTr b3 gs cS gc cC zS zC hz)
     have hSR := Lib.hid (stepR_ex x stp b3)
     obtain ⟨hk1, hk2⟩ := hk
     clear hTr hTi
     rw [← hTB.out] at htl
     unfold StepR VB at hTr2 hSR
     have hvw : Hid (∀ y, Sch.stepV x stp = some y → Vs[i + 1]? = some y ∧ Sch.versL y (t.steps.drop (i + 1)) = Vs.drop (i + 1 + 1)) := fun y hy => by
      rw [hy] at hTd
      have h1 : Vs[i + 1]? = some y := by
       have : (Vs.drop (i + 1))[0]? = some y := by rw [← hTd]; rfl
       rwa [List.getElem?_drop, Nat.add_zero] at this
      refine ⟨h1, ?_⟩
      rw [V.drop_cons h1] at hTd
      exact (List.cons.inj hTd).2
     have hvn : Hid (Sch.stepV x stp = none → Vs.length = i + 1) := fun h => by
      rw [h] at hTd
      have := congrArg List.length hTd
      rw [List.length_drop, List.length_nil] at this
      omega
     obtain ⟨n2, hn2⟩ : ∃ n2 : Nat, 1 + (i + 1) = n2 := ⟨_, rfl⟩
     have hn3 : (i : Int) + 2 = (n2 : Int) := by omega
     have hgY : Hid (∀ y, Sch.stepV x stp = some y → L[i + 1]? = some (y, n2)) := fun y hy => by rw [← hn2]; exact hget.out _ _ (hvw.out y hy).1
     have hcp : Hid (∀ y, Sch.stepV x stp = some y → ∀ (gs cS gc cC : Nat) (zS zC : List D) (st : St), Res.box gs 184 (slotC y.slots ++ zS) ∈ st → Res.box gc 3 (colC y.cols ++ zC) ∈ st → TrF Tryz.prog 158 [.agg [.ar gs 0 y.slots.length cS, .ar gc 0 y.cols.length cC]] st fun d st' => d = .agg y.cells ∧ st' = st) := fun y hy gs cS gc cC zS zC st m1 m2 => by
      have hVy := hvi.out y (List.mem_of_getElem? (hvw.out y hy).1)
      exact schCopiedF gs cS gc cC zS zC y (fun h => by have := hVy.lp; rw [h] at this; simp at this) (fun h => by have := hVy.cp; rw [h] at this; simp at this) (hVy.vw q_o) st m1 m2
     have hn2b : n2 ≤ 2000 ∧ i ≤ 2000 ∧ TL.length ≤ 2000 := by omega
     obtain ⟨hb1, hb2, hb3⟩ := hn2b
     replace hn2 := Lib.hid hn2
     clear hTd hstp hxi hVx
     generalize Sch.stepV x stp = F at *
     cases stp with
     | mk kd col slot order =>
     cases slot with
     | mk nm ty rq dv =>
     cases dv with
     | mk k n sv lv =>
     unfold Stp.cells at hcl hTr2
     rw [Sl.cells_mk] at hcl hTr2
     dsimp only [List.cons_append, List.nil_append] at hcl hTr2 hkn hk1 hk2
     subst hkn
     replace hcl := hcl
     have hentH := Lib.hid hent
     clear hent
     replace hin := Lib.hid hin
     replace hLl2 := Lib.hid hLl2
     replace hTl := Lib.hid hTl
     repeat' (first | refine QV ?_ | ((with_reducible apply (s_yield HY.out hJi.out hgy.out)); (focus exact q_v); (focus exact q_v); (focus exact q_l); (focus (repeat (first | exact tl_nil | apply tl_cons)); done); all_goals (intro C' hC')) | ((with_reducible apply (w_drawQ [(b5, TB), (b, [.i nk, .i col, .str nm, .i ty, .b rq, .i k, .i n, .str sv, .sl .shared (lv.map V.cells), .sl .shared (order.map encI)])] 14)); (iterate 4 (focus kernel_rfl)); (focus (simp only [List.take_succ_cons, List.take_zero]; exact rfl)); (focus (simp only [List.drop_succ_cons, List.drop_zero]; exact rfl)); (focus exact q_k); intro hne; simp only [nes, ne1, and_assoc] at hne; repeat (have hq := hne.1; replace hne := hne.2)) | ((with_reducible refine Exists.intro [(b3, [.ar gs1 0 y.slots.length cS1, .ar gc1 0 y.cols.length cC1])] ?_); (with_reducible refine And.intro ?_ ?_); (focus exact q_k)) | ((with_reducible refine And.intro ?_ ?_); (focus exact q_k)) | ((with_reducible refine Exists.intro [] ?_); (with_reducible refine And.intro ?_ ?_); (focus exact keep_nil)) | refine QY ?_ | (refine QB ?_; intro b) | (with_reducible refine QZ ?_ <;> (try constructor) <;> intro hb <;> try intro hb1) | ((with_reducible apply (ck_gen hentH.out)); (focus (show List.Perm _ (VB b3 gs cS zS gc cC zC x (.box b 186 [.i nk, .i col, .str nm, .i ty, .b rq, .i k, .i n, .str sv, .sl .shared (lv.map V.cells), .sl .shared (order.map encI)] :: .box b5 232 TB :: .box tb 136 [.str t.name, .sl .shared SL, .sl .shared TL] :: C')); (repeat (first | exact List.Perm.refl _ | refine perm_cons_out (by repeat (first | exact out_here | apply out_there)) ?_)); done)); (focus exact hTr2.out _); (focus exact LEL.refl _); (focus exact hSR.out _); (rintro d st' (⟨hn1, rfl, rfl⟩ | ⟨y, gs1, cS1, zS1, gc1, cC1, zC1, hy, hz1, rfl, rfl⟩) <;> (try (have hgy := Lib.hid (hgY.out y hy); have hcy := Lib.hid (hcp.out y hy gs1 cS1 gc1 cC1 zS1 zC1); replace hy := Lib.hid hy)))) | refine Qc Tryz.call158 (hcy.out _ q_m q_m) ?_ | fail)
     · have hL1 : L.length = i + 1 := by rw [hLl2.out.out, hvn.out hn1]
       exact retA_mk q_x q_y q_t (LE.refl _) ⟨[_], C', rfl, .inl ⟨rfl, by rw [hL1]; exact hJi.out⟩⟩
     · obtain ⟨q1, q2⟩ := hvw.out y hy.out
       refine ⟨i + 1, .box b3 146 [.ar gs1 0 y.slots.length cS1, .ar gc1 0 y.cols.length cC1] :: .box gs1 184 (slotC y.slots ++ zS1) :: .box gc1 3 (colC y.cols ++ zC1) :: .box b5 232 TB :: .box tb 136 [.str t.name, .sl .shared SL, .sl .shared TL] :: C', ?_, ⟨y, gs1, cS1, zS1, gc1, cC1, zC1, C', hlt, hz1, q1, q2, hC', ?_, ?_, ?_, ?_, ?_, ?_, ?_, ?_, rfl⟩, ?_⟩
       · (repeat (first | exact List.Sublist.refl _ | with_reducible apply List.Sublist.cons_cons | apply List.Sublist.cons))
       iterate 8 (focus exact Qf)
       · omega
     · exact retA_mk q_x q_y q_t (LE.refl _) ⟨[_], C', rfl, .inr ⟨_, rfl, hC'⟩⟩
   · have hn1 : Sch.stepV x stp = none := by
      unfold Sch.stepV
      rw [if_neg q_o, if_neg q_o, if_neg q_o, if_neg q_o, if_neg q_o]
     rw [hn1] at hTd
     have hL1 : L.length = i + 1 := by
      rw [hLl2.out]
      have := congrArg List.length hTd
      rw [List.length_drop, List.length_nil] at this
      omega
     have hk' : stp.kind < 1 ∨ (1 ≤ stp.kind ∧ 5 < stp.kind) := by omega
     clear hTd hstp hk hn1 hTi hxi
     replace hL1 := Lib.hid hL1
     cases stp with
     | mk kd col slot order =>
     cases slot with
     | mk nm ty rq dv =>
     cases dv with
     | mk k n sv lv =>
     unfold Stp.cells at hcl
     rw [Sl.cells_mk] at hcl
     dsimp only [List.cons_append, List.nil_append] at hcl hk'
     have hb3 : TL.length ≤ 2000 ∧ i ≤ 2000 := by omega
     obtain ⟨hb3, hb4⟩ := hb3
     replace hTl := Lib.hid hTl
     replace hLl2 := Lib.hid hLl2
     replace hin := Lib.hid hin
     rcases hk' with hk1 | ⟨hk1, hk2⟩
     all_goals skip
     all_goals (
      repeat' (first | refine QV ?_ | ((with_reducible apply (w_drawN [(b, [.i kd, .i col, .str nm, .i ty, .b rq, .i k, .i n, .str sv, .sl .shared (lv.map V.cells), .sl .shared (order.map encI)])])); (iterate 3 (focus kernel_rfl)); (focus exact q_k); intro hne; simp only [nes, ne1, and_assoc] at hne; repeat (have hq := hne.1; replace hne := hne.2)) | ((with_reducible refine And.intro ?_ ?_); (focus exact q_k)) | refine QY ?_ | (refine QB ?_; intro b) | (with_reducible refine QZ ?_ <;> (try constructor) <;> intro hb <;> try intro hb1) | fail)
      all_goals exact retA_mk q_x q_y q_t (LE.refl _) ⟨[_], C', rfl, .inl ⟨rfl, by rw [hL1.out]; exact hJi.out⟩⟩)
 · have hL1 : L.length = i + 1 := by
    have h1 := hTi.out
    rw [List.drop_of_length_le q_o, Sch.versL] at h1
    have := congrArg List.length h1
    rw [List.length_drop, List.length_nil] at this
    have hin : i < Vs.length := (List.getElem?_eq_some_iff.1 hxi.out).1
    rw [hLl2.out]; omega
   replace hL1 := Lib.hid hL1
   replace hTl := Lib.hid hTl
   replace hLl2 := Lib.hid hLl2
   repeat' (first | refine QX ?_ | (refine QB ?_; intro b) | (with_reducible refine QZ ?_ <;> (try constructor) <;> intro hb <;> try intro hb1) | fail)
   all_goals exact retA_mk q_x q_y q_t (LE.refl _) ⟨[_], C', rfl, .inl ⟨rfl, by rw [hL1.out]; exact hJi.out⟩⟩
theorem versF' (t : Tm) (st : St) : TrF Tryz.prog 123 [.agg t.cells] st fun d st' => ∃ tb : Nat, True ∧ d = .fn (.func 156) [] [.ptr tb 0] ∧ st' = .box tb 136 t.cells :: st :=
 (versF t st).mono fun _ _ ⟨tb, h1, h2⟩ => ⟨tb, trivial, h1, h2⟩
theorem schLastF (t : Tm) (ht : TOk t) (st : St) : TrF Tryz.prog 82 [.agg t.cells] st fun d st' => d = .i (Sch.last t) ∧ st' = st := by
 have hVF := Lib.hid (versF' t)
 have hIt := Lib.hid fun tb => versIter tb t ht
 have hLl : Hid (((Sch.vers t).zipIdx 1).length = (Sch.vers t).length) := Lib.hid List.length_zipIdx
 have hget : Hid (∀ i x, ((Sch.vers t).zipIdx 1)[i]? = some x → x.2 = i + 1) := fun i x h => by
  rw [List.getElem?_zipIdx] at h
  cases hv : (Sch.vers t)[i]? with
  | none => rw [hv] at h; cases h
  | some y => rw [hv] at h; cases h; exact Nat.add_comm 1 i
 have hlast : Hid (Sch.last t = if (Sch.vers t).length = t.steps.length + 1 then t.steps.length + 1 else 0) := rfl
 have hvl := (Sch.vers_len t).1
 have hms := ht.lt
 generalize Sch.last t = LT at *
 generalize (Sch.vers t).zipIdx 1 = L at *
 generalize (Sch.vers t).length = vl at *
 have hTL : (t.steps.map Stp.cells).length = t.steps.length := List.length_map ..
 unfold Tm.cells at hVF hIt ⊢
 generalize t.slots.map Sl.cells = SL at *
 generalize t.steps.map Stp.cells = TL at *
 generalize t.steps.length = ms at *
 generalize t.name = nm at *
 refine Qin [2] Tryz.func82 Tryz.results82 Tryz.ntmps82 ?_
 repeat' (first | with_reducible refine s_boxP ?_ | refine QX ?_ | (refine QB ?_; intro b) | (with_reducible refine QZ ?_ <;> (try constructor) <;> intro hb <;> try intro hb1) | ((with_reducible apply (ck_ex Tryz.call123)); (focus exact LEL.refl _); (focus exact hVF.out _); (focus exact ⟨0, trivial⟩); intro tb htb) | fail)
 rename_i b1
 refine tr_perm (st' := [.box tb 136 [.str nm, .sl .shared SL, .sl .shared TL]] ++ (.box b 3 [.i 0] :: .box b1 136 [.str nm, .sl .shared SL, .sl .shared TL] :: st)) (.refl _) ?_
 refine tr_range (hIt.out tb) Tryz.call156 q_v (fun _ => rfl) rfl (fun i C => C = .box b 3 [.i i] :: .box b1 136 [.str nm, .sl .shared SL, .sl .shared TL] :: st) (fun _ _ _ => False) rfl (fun i _ => ⟨_, rfl⟩) ?_ ?_ (fun _ _ _ _ _ _ h => h.elim)
 · rintro l i ⟨y, v⟩ C K hx rfl
   have hv : v = i + 1 := hget.out i _ hx
   subst hv
   have hil : i < L.length := (List.getElem?_eq_some_iff.1 hx).1
   have hib : i ≤ 2000 := by have := hLl.out; omega
   clear hx hil
   refine (?_ : Tr _ _ _ _ (AA.put (AA.put ⟨_, []⟩ (some 7) (.i ((i + 1 : Nat) : Int))) (some 8) (.agg y.cells)) (.box b 3 [.i i] :: .box b1 136 [.str nm, .sl .shared SL, .sl .shared TL] :: (st ++ K)) _)
   repeat' (first | refine QX ?_ | (refine QB ?_; intro b) | (with_reducible refine QZ ?_ <;> (try constructor) <;> intro hb <;> try intro hb1) | fail)
   refine ⟨.box b 3 [.i i] :: .box b1 136 [.str nm, .sl .shared SL, .sl .shared TL] :: st, List.Sublist.refl _, fun K' => ?_⟩
   refine (?_ : Tr _ _ _ _ _ (.box b 3 [.i i] :: .box b1 136 [.str nm, .sl .shared SL, .sl .shared TL] :: (st ++ K')) _)
   repeat' (first | refine QX ?_ | (refine QB ?_; intro b) | (with_reducible refine QZ ?_ <;> (try constructor) <;> intro hb <;> try intro hb1) | fail)
   exact ⟨_, List.Sublist.refl _, rfl⟩
 · rintro d K1 C' rfl rfl
   rw [hLl.out]
   clear hIt
   change Tr _ _ _ _ _ _ _
   by_cases hc : vl = ms + 1
   · have hL2 : LT = vl := by rw [hlast.out, if_pos hc, hc]
     clear hlast
     have hc2 : (vl : Int) = (ms : Int) + 1 := by omega
     clear hc
     refine tr_perm (st' := .box b 3 [.i vl] :: .box b1 136 [.str nm, .sl .shared SL, .sl .shared TL] :: markR d :: .box tb 136 [.str nm, .sl .shared SL, .sl .shared TL] :: st) (by show List.Perm (markR d :: .box tb 136 [.str nm, .sl .shared SL, .sl .shared TL] :: .box b 3 [.i vl] :: .box b1 136 [.str nm, .sl .shared SL, .sl .shared TL] :: st) _; (repeat (first | exact List.Perm.refl _ | refine perm_cons_out (by repeat (first | exact out_here | apply out_there)) ?_))) ?_
     repeat' (first | refine QX ?_ | (refine QB ?_; intro b) | (with_reducible refine QZ ?_ <;> (try constructor) <;> intro hb <;> try intro hb1) | fail)
     all_goals (refine retA_mark (by simp) q_y (by repeat (first | exact out_here | apply out_there)) q_u ?_ ⟨rfl, rfl⟩; (try simp (disch := omega) only [push_cast, simprocAttr, *]); try (first | exact q_e | refine LE.of_eq ?_))
   · have hL2 : LT = 0 := by rw [hlast.out, if_neg hc]
     clear hlast
     have hc2 : ¬ (vl : Int) = (ms : Int) + 1 := by omega
     clear hc
     refine tr_perm (st' := .box b 3 [.i vl] :: .box b1 136 [.str nm, .sl .shared SL, .sl .shared TL] :: markR d :: .box tb 136 [.str nm, .sl .shared SL, .sl .shared TL] :: st) (by show List.Perm (markR d :: .box tb 136 [.str nm, .sl .shared SL, .sl .shared TL] :: .box b 3 [.i vl] :: .box b1 136 [.str nm, .sl .shared SL, .sl .shared TL] :: st) _; (repeat (first | exact List.Perm.refl _ | refine perm_cons_out (by repeat (first | exact out_here | apply out_there)) ?_))) ?_
     repeat' (first | refine QX ?_ | (refine QB ?_; intro b) | (with_reducible refine QZ ?_ <;> (try constructor) <;> intro hb <;> try intro hb1) | fail)
     all_goals (refine retA_mark (by simp) q_y (by repeat (first | exact out_here | apply out_there)) q_u ?_ ⟨rfl, rfl⟩; (try simp (disch := omega) only [push_cast, simprocAttr, *]); try (first | exact q_e | refine LE.of_eq ?_))
theorem schRightF (t : Tm) (ht : TOk t) (st : St) : TrF Tryz.prog 113 [.agg t.cells] st fun d st' => d = .b (decide (0 < Sch.last t)) ∧ st' = st := by
 have hL := Lib.hid (schLastF t ht)
 generalize Sch.last t = n at *
 unfold Tm.cells at *
 generalize t.slots.map Sl.cells = SL at *
 generalize t.steps.map Stp.cells = TL at *
 refine Qin [2] Tryz.func113 Tryz.results113 Tryz.ntmps113 ?_
 repeat' (first | with_reducible refine s_boxP ?_ | refine QX ?_ | (refine QB ?_; intro b) | (with_reducible refine QZ ?_ <;> (try constructor) <;> intro hb <;> try intro hb1) | fail)
 all_goals (refine Qret (hd := ?_); (try simp (disch := omega) only [push_cast, simprocAttr, *]); try (first | exact q_e | refine LE.of_eq ?_))
 all_goals (refine congrArg D.b (decide_eq_decide.2 ?_); omega)
def Sch.verX (t : Tm) (v : Int) : Vr := (Sch.ver t v).getD ⟨[], []⟩
def Sch.verB (t : Tm) (v : Int) : Bool := (Sch.ver t v).isSome
theorem schAtF (t : Tm) (ht : TOk t) (v : Int) (st : St) : TrF Tryz.prog 81 [.agg t.cells, .i v] st fun d st' => d = .tup [.agg (Sch.verX t v).cells, .b (Sch.verB t v)] ∧ st' = st := by
 have hVF := Lib.hid (versF' t)
 have hRi := schRightF t ht
 have hIt := Lib.hid fun tb => versIter tb t ht
 have hLl : Hid (((Sch.vers t).zipIdx 1).length = (Sch.vers t).length) := Lib.hid List.length_zipIdx
 have hget : Hid (∀ i x, ((Sch.vers t).zipIdx 1)[i]? = some x → x.2 = i + 1 ∧ (Sch.vers t)[i]? = some x.1) := fun i x h => by
  rw [List.getElem?_zipIdx] at h
  cases hv : (Sch.vers t)[i]? with
  | none => rw [hv] at h; cases h
  | some y => rw [hv] at h; cases h; exact ⟨Nat.add_comm 1 i, rfl⟩
 have hver : Hid (Sch.ver t v = if 0 < Sch.last t ∧ 1 ≤ v then (Sch.vers t)[(v - 1).toNat]? else none) := rfl
 have hvl := (Sch.vers_len t).1
 have hms := ht.lt
 have hvl2 : Hid ((Sch.vers t).length ≤ 2000) := Lib.hid q_o
 unfold Sch.verX Sch.verB
 generalize Sch.ver t v = VT at *
 generalize (Sch.vers t).zipIdx 1 = L at *
 generalize Sch.vers t = Vs at *
 clear hvl hms
 unfold Tm.cells at hVF hIt hRi ⊢
 generalize t.slots.map Sl.cells = SL at *
 generalize t.steps.map Stp.cells = TL at *
 generalize t.name = nm at *
 refine trF_enterG (G := twoA Tryz.prog (.cell 4 146) (.cell 5 4)) Tryz.func81 rfl (by rw [Tryz.ntmps81]; exact Nat.le_of_ble_eq_true rfl) (fun h1 h2 h3 => res_two rfl h1 h2 h3) ?_
 simp only [Tryz.ntmps81]
 by_cases hr : 0 < Sch.last t
 · rw [decide_eq_true hr] at hRi
   replace hRi := Lib.hid hRi
   have hver2 : Hid (VT = if 1 ≤ v then Vs[(v - 1).toNat]? else none) := Lib.hid (by rw [hver.out]; simp [hr])
   clear hver
   repeat' (first | with_reducible refine s_boxP ?_ | refine QX ?_ | (refine QB ?_; intro b) | (with_reducible refine QZ ?_ <;> (try constructor) <;> intro hb <;> try intro hb1) | ((with_reducible apply (ck_ex Tryz.call123)); (focus exact LEL.refl _); (focus exact hVF.out _); (focus exact ⟨0, trivial⟩); intro tb htb) | fail)
   rename_i b2 b3 b4
   obtain ⟨b5, rfl⟩ : ∃ q, q = b := ⟨_, rfl⟩
   clear hRi
   refine tr_perm (st' := [.box tb 136 [.str nm, .sl .shared SL, .sl .shared TL]] ++ (.box b5 4 [.s (.bool false)] :: .box b4 146 [.sl .tight [], .sl .tight []] :: .box b3 3 [.i v] :: .box b2 136 [.str nm, .sl .shared SL, .sl .shared TL] :: st)) (.refl _) ?_
   refine tr_rangeS (hIt.out tb) Tryz.call156 q_v (fun _ => rfl) rfl (fun i C => Hid (∀ j, j < i → (j : Int) + 1 ≠ v) ∧ C = .box b5 4 [.s (.bool false)] :: .box b4 146 [.sl .tight [], .sl .tight []] :: .box b3 3 [.i v] :: .box b2 136 [.str nm, .sl .shared SL, .sl .shared TL] :: st) (fun c i C => ∃ x : Vr, c = .ret ∧ Hid (VT = some x) ∧ C = .box b5 4 [.s (.bool true)] :: .box b4 146 x.cells :: .box b3 3 [.i v] :: .box b2 136 [.str nm, .sl .shared SL, .sl .shared TL] :: st)
    ⟨fun j hj => absurd hj (Nat.not_lt_zero _), rfl⟩ ?_ ?_ ?_ ?_
   · rintro i ⟨x, k⟩ C hx ⟨hj, rfl⟩
     obtain ⟨h1, h2⟩ := hget.out i _ hx
     by_cases hv : (i : Int) + 1 = v
     · exact .inr ⟨.ret, _, x, rfl, by rw [hver2.out, if_pos q_o, show (v - 1).toNat = i by omega]; exact h2, rfl⟩
     · refine .inl ⟨_, fun j hj' => ?_, rfl⟩
       by_cases hji : j = i
       · subst hji; exact hv
       · exact hj.out j q_o
   · rintro l i ⟨x, k⟩ C K hx ⟨hj, rfl⟩
     obtain ⟨h1, h2⟩ := hget.out i _ hx
     dsimp only at h1 h2
     subst h1
     have hib : i ≤ 2000 := by
      have := (List.getElem?_eq_some_iff.1 hx).1
      have := hLl.out
      have := hvl2.out
      omega
     have hvx : Hid ((i : Int) + 1 = v → VT = some x) := fun hv => by rw [hver2.out, if_pos q_o, show (v - 1).toNat = i by omega]; exact h2
     have hnx : Hid ((i : Int) + 1 ≠ v → ∀ j, j < i + 1 → (j : Int) + 1 ≠ v) := fun hv j hj' => by
      by_cases hji : j = i
      · subst hji; exact hv
      · exact hj.out j q_o
     clear hx h2 hj hIt
     dsimp only [verD, Vr.cells]
     generalize hX1 : x.slots.map Sl.cells = X1 at *
     generalize hX2 : x.cols.map encC = X2 at *
     replace hX1 := Lib.hid hX1
     replace hX2 := Lib.hid hX2
     refine (?_ : Tr _ _ _ _ (AA.put (AA.put ⟨_, []⟩ (some 14) (.i ((i + 1 : Nat) : Int))) (some 15) (.agg [.sl .shared X1, .sl .shared X2])) (.box b5 4 [.s (.bool false)] :: .box b4 146 [.sl .tight [], .sl .tight []] :: .box b3 3 [.i v] :: .box b2 136 [.str nm, .sl .shared SL, .sl .shared TL] :: (st ++ K)) _)
     repeat' (first | refine QX ?_ | (refine QB ?_; intro b) | (with_reducible refine QZ ?_ <;> (try constructor) <;> intro hb <;> try intro hb1) | fail)
     obtain ⟨b7, rfl⟩ : ∃ q, q = b := ⟨_, rfl⟩
     refine ⟨.box b7 146 [.sl .shared X1, .sl .shared X2] :: .box b5 4 [.s (.bool false)] :: .box b4 146 [.sl .tight [], .sl .tight []] :: .box b3 3 [.i v] :: .box b2 136 [.str nm, .sl .shared SL, .sl .shared TL] :: st, List.Sublist.refl _, fun K' => ?_⟩
     refine (?_ : Tr _ _ _ _ _ (.box b7 146 [.sl .shared X1, .sl .shared X2] :: .box b5 4 [.s (.bool false)] :: .box b4 146 [.sl .tight [], .sl .tight []] :: .box b3 3 [.i v] :: .box b2 136 [.str nm, .sl .shared SL, .sl .shared TL] :: (st ++ K')) _)
     repeat' (first | refine QX ?_ | (refine QB ?_; intro b) | (with_reducible refine QZ ?_ <;> (try constructor) <;> intro hb <;> try intro hb1) | fail)
     · exact ⟨.box b5 4 [.s (.bool true)] :: .box b4 146 [.sl .shared X1, .sl .shared X2] :: .box b3 3 [.i v] :: .box b2 136 [.str nm, .sl .shared SL, .sl .shared TL] :: st, .cons _ (.refl _), ⟨x, rfl, hvx.out hb, by rw [hX1.out, hX2.out]⟩⟩
     · exact ⟨.box b5 4 [.s (.bool false)] :: .box b4 146 [.sl .tight [], .sl .tight []] :: .box b3 3 [.i v] :: .box b2 136 [.str nm, .sl .shared SL, .sl .shared TL] :: st, .cons _ (.refl _), hnx.out hb, rfl⟩
   · rintro d K1 C' rfl ⟨hj, rfl⟩
     have hVN : VT = none := by
      rw [hver2.out]
      split
      · rename_i h1
        refine List.getElem?_eq_none ?_
        have hl := hLl.out
        refine Nat.le_of_not_lt fun hlt => ?_
        exact hj.out (v - 1).toNat q_o q_o
      · rfl
     subst hVN
     clear hIt hj hver2
     change Tr _ _ _ _ _ _ _
     repeat' (first | refine QX ?_ | (refine QB ?_; intro b) | (with_reducible refine QZ ?_ <;> (try constructor) <;> intro hb <;> try intro hb1) | fail)
     all_goals exact retG_mk (rs := [d]) (s2 := .box tb 136 [.str nm, .sl .shared SL, .sl .shared TL] :: .box b5 4 [.s (.bool false)] :: .box b4 146 [.sl .tight [], .sl .tight []] :: .box b3 3 [.i v] :: .box b2 136 [.str nm, .sl .shared SL, .sl .shared TL] :: st) q_x rfl (List.Perm.refl _) ⟨_, _, rfl, cell_mk q_s q_m q_s q_v, cell_mk q_s q_m q_s q_v⟩ q_t (LE.tup (l' := [.agg [.sl .shared [], .sl .shared []], .b false]) ⟨LE.agg (l := [.sl .tight [], .sl .tight []]) ⟨LE.sl _ _, LE.sl _ _, trivial⟩, LE.refl _, trivial⟩) ⟨rfl, rfl⟩
   · rintro c d i K1 C' rfl ⟨x, rfl, hx, rfl⟩
     have hVS := hx.out
     subst hVS
     clear hIt hver2
     repeat' (first | refine QX ?_ | (refine QB ?_; intro b) | (with_reducible refine QZ ?_ <;> (try constructor) <;> intro hb <;> try intro hb1) | fail)
     all_goals exact retG_mk (rs := [d]) (s2 := .box tb 136 [.str nm, .sl .shared SL, .sl .shared TL] :: .box b5 4 [.s (.bool true)] :: .box b4 146 x.cells :: .box b3 3 [.i v] :: .box b2 136 [.str nm, .sl .shared SL, .sl .shared TL] :: st) q_x rfl (List.Perm.refl _) ⟨_, _, rfl, cell_mk q_s q_m q_s q_v, cell_mk q_s q_m q_s q_v⟩ q_t (LE.refl _) ⟨rfl, rfl⟩
 · rw [decide_eq_false hr] at hRi
   replace hRi := Lib.hid hRi
   have hver2 : VT = none := by rw [hver.out]; simp [hr]
   subst hver2
   repeat' (first | with_reducible refine s_boxP ?_ | refine QX ?_ | (refine QB ?_; intro b) | (with_reducible refine QZ ?_ <;> (try constructor) <;> intro hb <;> try intro hb1) | ((with_reducible apply (ck_ex Tryz.call123)); (focus exact LEL.refl _); (focus exact hVF.out _); (focus exact ⟨0, trivial⟩); intro tb htb) | fail)
   all_goals exact retG_mk (rs := []) q_x q_y (List.Perm.refl _) ⟨_, _, rfl, cell_mk q_s q_m q_s q_v, cell_mk q_s q_m q_s q_v⟩ q_t (LE.tup (l' := [.agg [.sl .shared [], .sl .shared []], .b false]) ⟨LE.agg (l := [.sl .tight [], .sl .tight []]) ⟨LE.sl _ _, LE.sl _ _, trivial⟩, LE.refl _, trivial⟩) ⟨rfl, rfl⟩
def twoT : Tm := ⟨⟨#[116]⟩, [⟨⟨#[97]⟩, 4, false, .mk 2 0 ⟨#[]⟩ []⟩, ⟨⟨#[98]⟩, 4, true, .mk 2 0 ⟨#[]⟩ []⟩], [⟨2, 0, ⟨⟨#[]⟩, 0, false, .mk 0 0 ⟨#[]⟩ []⟩, []⟩, ⟨1, 0, ⟨⟨#[99]⟩, 5, false, .mk 0 0 ⟨#[]⟩ []⟩, []⟩]⟩
abbrev sA : List D := [.str ⟨#[97]⟩, .i 4, .b false, .i 2, .i 0, .str ⟨#[]⟩, .sl .shared []]
abbrev sB : List D := [.str ⟨#[98]⟩, .i 4, .b true, .i 2, .i 0, .str ⟨#[]⟩, .sl .shared []]
abbrev sC : List D := [.str ⟨#[99]⟩, .i 5, .b false, .i 0, .i 0, .str ⟨#[]⟩, .sl .shared []]
end
section
attribute [local push_cast] encB encI encC V.cells_mk V.cells_len Nat.mul_one Int.sub_zero List.map_nil beq_self_eq_true bne_self_eq_false List.head?_cons
namespace Reg
def findL (nm : ByteArray) : List Tm → Nat → Int
 | [], _ => -1
 | t :: l, i => if t.name.toList == nm.toList then i else findL nm l (i + 1)
def find (L : List Tm) (nm : ByteArray) : Int := findL nm L 0
theorem findL_drop {L : List Tm} {nm : ByteArray} {i : Nat} {t : Tm} (h : L[i]? = some t) : findL nm (L.drop i) i = if t.name.toList == nm.toList then (i : Int) else findL nm (L.drop (i + 1)) (i + 1) := by
 obtain ⟨h1, rfl⟩ := List.getElem?_eq_some_iff.1 h
 rw [List.drop_eq_getElem_cons h1, findL]
def rightL (L : List Tm) : List Tm → Nat → Bool
 | [], _ => true
 | t :: l, i => decide (i < 6) && (decide (0 < Sch.last t) && ((find L t.name == (i : Int)) && rightL L l (i + 1)))
def right (L : List Tm) : Bool := rightL L L 0
theorem rightL_drop {L l : List Tm} {i : Nat} {t : Tm} (h : l[i]? = some t) : rightL L (l.drop i) i = (decide (i < 6) && (decide (0 < Sch.last t) && ((find L t.name == (i : Int)) && rightL L (l.drop (i + 1)) (i + 1)))) := by
 obtain ⟨h1, rfl⟩ := List.getElem?_eq_some_iff.1 h
 rw [List.drop_eq_getElem_cons h1, rightL]
end Reg
theorem regFind1F (t : Tm) (nm : ByteArray) (st : St) : TrF Tryz.prog 147 [.agg t.cells, .ip [.str nm]] st fun d st' => d = .b (t.name.toList == nm.toList) ∧ st' = st := by
 unfold Tm.cells
 generalize t.slots.map Sl.cells = SL at *
 generalize t.steps.map Stp.cells = TL at *
 generalize t.name = n at *
 refine Qin [3] Tryz.func147 Tryz.results147 Tryz.ntmps147 ?_
 exact WR
theorem regIndexF (L : List Tm) (nm : ByteArray) (hl : L.length ≤ 1000000) (st : St) : TrF Tryz.prog 146 [.sl .shared (L.map Tm.cells), .fn (.func 147) [] [.ip [.str nm]]] st fun d st' => d = .i (Reg.find L nm) ∧ st' = st := by
 unfold Reg.find
 obtain ⟨F, hF⟩ : ∃ F, Reg.findL nm L 0 = F := ⟨_, rfl⟩
 rw [hF]
 have HF : Hid (Reg.findL nm (L.drop 0) 0 = F) := hF
 have hm : (L.map Tm.cells).length = L.length := List.length_map ..
 have hc := hMp Tm.cells L
 clear hF
 generalize L.map Tm.cells = LS at *
 refine Qin [4] Tryz.func146 Tryz.results146 Tryz.ntmps146 ?_
 repeat' (first | refine QX ?_ | (refine QB ?_; intro b) | (with_reducible refine QZ ?_ <;> (try constructor) <;> intro hb <;> try intro hb1) | fail)
 refine tr_loopd (ι := Nat) (fun i A st' => i ≤ L.length ∧ Hid (Reg.findL nm (L.drop i) i = F) ∧ A.df = [] ∧ A.e 0 = .sl .shared LS ∧ A.e 1 = .fn (.func 147) [] [.ip [.str nm]] ∧ A.e 7 = .i L.length ∧ A.e 8 = .i i ∧ st = st') (fun i => L.length - i) 0 ⟨Nat.zero_le _, HF, Qf, Qf, Qf, Qf, Qf, rfl⟩ ?_
 rintro i A st' ⟨hi, HT, hdf, e0, e1, e7, e8, rfl⟩
 clear HF
 by_cases hlt : i < L.length
 · obtain ⟨t, ht⟩ := gEx hlt
   have h1 := hc.out i t ht
   have HE := HT.out
   rw [Reg.findL_drop ht] at HE
   have hG := regFind1F t nm
   clear HT ht
   generalize (t.name.toList == nm.toList) = q at *
   unfold Tm.cells at h1 hG
   generalize t.slots.map Sl.cells = SL at *
   generalize t.steps.map Stp.cells = TL at *
   replace hG := Lib.hid hG
   cases q with
   | true =>
    rw [if_pos rfl] at HE
    subst HE
    exact WR
   | false =>
    rw [if_neg Bool.false_ne_true] at HE
    replace HE := Lib.hid HE
    repeat' (first | refine QX ?_ | (refine QB ?_; intro b) | (with_reducible refine QZ ?_ <;> (try constructor) <;> intro hb <;> try intro hb1) | fail)
    refine ⟨i + 1, st, q_u, ⟨hlt, HE, ?_, ?_, ?_, ?_, ?_, rfl⟩, by omega⟩
    all_goals exact Qf
 · have HE := HT.out
   rw [List.drop_of_length_le q_o, Reg.findL] at HE
   subst HE
   clear HT
   exact WR
theorem regFindF (L : List Tm) (nm : ByteArray) (hl : L.length ≤ 1000000) (st : St) : TrF Tryz.prog 114 [.sl .shared (L.map Tm.cells), .str nm] st fun d st' => d = .i (Reg.find L nm) ∧ st' = st := by
 have hI := regIndexF L nm hl
 generalize Reg.find L nm = q at *
 generalize L.map Tm.cells = LS at *
 replace hI := Lib.hid hI
 refine Qin [4] Tryz.func114 Tryz.results114 Tryz.ntmps114 ?_
 exact WR
theorem regRightF (L : List Tm) (hL : ∀ t ∈ L, TOk t) (hl : L.length ≤ 1000000) (st : St) : TrF Tryz.prog 77 [.sl .shared (L.map Tm.cells)] st fun d st' => d = .b (Reg.right L) ∧ st' = st := by
 unfold Reg.right
 obtain ⟨F, hF⟩ : ∃ F, Reg.rightL L L 0 = F := ⟨_, rfl⟩
 rw [hF]
 have HF : Hid (Reg.rightL L (L.drop 0) 0 = F) := hF
 have hm : (L.map Tm.cells).length = L.length := List.length_map ..
 have hc := hMp Tm.cells L
 have hFi := Lib.hid fun (nm : ByteArray) => regFindF L nm hl
 have hL2 := Lib.hid hL
 clear hF hL
 obtain ⟨LS, hLS⟩ : ∃ LS, L.map Tm.cells = LS := ⟨_, rfl⟩
 rw [hLS] at hm hc hFi ⊢
 clear hLS
 refine Qin [2] Tryz.func77 Tryz.results77 Tryz.ntmps77 ?_
 repeat' (first | refine QX ?_ | (refine QB ?_; intro b) | (with_reducible refine QZ ?_ <;> (try constructor) <;> intro hb <;> try intro hb1) | fail)
 refine tr_loopd (ι := Nat) (fun i A st' => i ≤ L.length ∧ Hid (Reg.rightL L (L.drop i) i = F) ∧ A.df = [] ∧ A.e 0 = .sl .shared LS ∧ A.e 5 = .sl .shared LS ∧ A.e 6 = .i L.length ∧ A.e 7 = .i i ∧ st = st') (fun i => L.length - i) 0 ⟨Nat.zero_le _, HF, Qf, Qf, Qf, Qf, Qf, rfl⟩ ?_
 rintro i A st' ⟨hi, HT, hdf, e0, e5, e6, e7, rfl⟩
 clear HF
 by_cases hlt : i < L.length
 · obtain ⟨t, ht⟩ := gEx hlt
   have h1 := hc.out i t ht
   have HE := HT.out
   rw [Reg.rightL_drop ht] at HE
   have hR := schRightF t (hL2.out t (List.mem_of_getElem? ht))
   have hG := hFi.out t.name
   clear HT ht
   obtain ⟨G, hGG⟩ : ∃ G, Reg.rightL L (L.drop (i + 1)) (i + 1) = G := ⟨_, rfl⟩
   rw [hGG] at HE
   replace hGG := Lib.hid hGG
   obtain ⟨q2, hq2⟩ : ∃ q, decide (0 < Sch.last t) = q := ⟨_, rfl⟩
   rw [hq2] at HE hR
   generalize Reg.find L t.name = fi at *
   clear hq2
   unfold Tm.cells at h1 hR
   generalize t.slots.map Sl.cells = SL at *
   generalize t.steps.map Stp.cells = TL at *
   generalize t.name = nm at *
   replace hR := Lib.hid hR
   replace hG := Lib.hid hG
   by_cases hi6 : i < 6
   · rw [decide_eq_true hi6, Bool.true_and] at HE
     cases q2 with
     | false =>
      rw [Bool.false_and] at HE
      subst HE
      exact WR
     | true =>
      rw [Bool.true_and] at HE
      by_cases hf : fi = (i : Int)
      · rw [beq_iff_eq.2 hf, Bool.true_and] at HE
        subst hf
        replace HE := Lib.hid (hGG.out.trans HE)
        clear hGG
        repeat' (first | refine QX ?_ | (refine QB ?_; intro b) | (with_reducible refine QZ ?_ <;> (try constructor) <;> intro hb <;> try intro hb1) | fail)
        refine ⟨i + 1, st, q_u, ⟨hlt, HE, ?_, ?_, ?_, ?_, ?_, rfl⟩, by omega⟩
        all_goals exact Qf
      · rw [beq_eq_false_iff_ne.2 hf, Bool.false_and] at HE
        subst HE
        exact WR
   · rw [decide_eq_false hi6, Bool.false_and] at HE
     subst HE
     exact WR
 · have HE := HT.out
   rw [List.drop_of_length_le q_o, Reg.rightL] at HE
   subst HE
   clear HT
   exact WR
end
section
attribute [local push_cast] encB encI Nat.mul_one
namespace B
def be : Nat → Nat → List UInt8
 | 0, _ => []
 | m + 1, x => UInt8.ofNat (x / 256 ^ m) :: be m x
theorem be_len : ∀ m x, (be m x).length = m
 | 0, _ => rfl
 | m + 1, x => by rw [be, List.length_cons, be_len m x]
end B
namespace B
def tx (l : List UInt8) : List UInt8 := be 4 l.length ++ l
end B
end
section
attribute [local push_cast] encB encI Nat.mul_one
open Go.RowKit B
structure RS where
 o : Own
 l : List UInt8
 bad : Bool
namespace RS
def cells (s : RS) : List D := [.sl s.o (s.l.map encB), .b s.bad]
attribute [local push_cast] RS.cells
def fail : RS := ⟨.tight, [], true⟩
attribute [local push_cast] RS.fail
def cut (s : RS) (n : Nat) : RS := ⟨.shared, s.l.drop n, s.bad⟩
attribute [local push_cast] RS.cut
end RS
attribute [local push_cast] RS.cells RS.fail RS.cut
def B.num (l : List UInt8) : Nat := l.foldl (fun n c => n * 256 + c.toNat) 0
end
section
attribute [local push_cast] encB encI RS.cells RS.fail RS.cut Nat.mul_one
open Go.RowKit B
namespace RS
def byte (s : RS) : Int × RS := if s.bad = true then (0, fail) else match s.l with
 | [] => (0, fail)
 | c :: _ => (c.toNat, s.cut 1)
def rnum (s : RS) : Int × RS := if s.bad = true ∨ s.l.length < 4 then (0, fail) else if num (s.l.take 4) ≤ 2147483647 then (num (s.l.take 4), s.cut 4) else (0, fail)
def long (s : RS) : Int × RS := if s.bad = true ∨ s.l.length < 8 then (0, fail) else (IntKind.i64.wrap (num (s.l.take 8)), s.cut 8)
def textN (s : RS) (n : Int) : ByteArray × RS := if s.bad = true ∨ n < 0 ∨ s.l.length < n then (⟨#[]⟩, fail) else (⟨(s.l.take n.toNat).toArray⟩, s.cut n.toNat)
def text (s : RS) : ByteArray × RS := s.rnum.2.textN s.rnum.1
end RS
end
section
attribute [local push_cast] encB encI V.cells_mk V.cells_take V.cells_len Nat.mul_one
open Go.RowKit B
namespace V
mutual
def put : V → List UInt8
 | .mk k n s l => UInt8.ofNat k.toNat :: (if k = 1 then [UInt8.ofNat n.toNat] else if k = 2 then be 8 (IntKind.u64.wrap n).toNat else if k = 3 ∨ k = 4 then tx s.data.toList else if k = 5 then be 4 l.length ++ putL l else [])
def putL : List V → List UInt8
 | [] => []
 | x :: l => x.put ++ putL l
end
theorem sgl_facts {k n : Int} {s : ByteArray} {len : Nat} (h : sgl k n s len = true) : 0 ≤ k ∧ k ≤ 5 ∧ (k ≠ 2 → 0 ≤ n ∧ n ≤ 1) ∧ s.size ≤ 200 ∧ (k ≠ 3 ∧ k ≠ 4 → s.size = 0) ∧ (k = 5 → len ≤ 20) := by
 unfold sgl at h
 by_cases k0 : k = 0
 · subst k0; simp at h; obtain ⟨h1, h2⟩ := h; subst h2; simp; omega
 by_cases k1 : k = 1
 · subst k1; simp at h; obtain ⟨h1, h2⟩ := h; subst h2; simp; omega
 by_cases k2 : k = 2
 · subst k2; simp at h; subst h; simp
 by_cases k3 : k = 3
 · subst k3
   simp at h
   have := h.2
   unfold isName at this
   simp at this
   simp; omega
 by_cases k4 : k = 4
 · subst k4; simp at h; simp; omega
 by_cases k5 : k = 5
 · subst k5; simp at h; obtain ⟨h1, h2, h3⟩ := h; subst h2; simp; omega
 simp [k0, k1, k2, k3, k4, k5] at h
theorem parts_facts {k n : Int} {s : ByteArray} {l : List V} (h : (V.mk k n s l).parts = true) : sgl k n s l.length = true ∧ (k = 5 ∨ l = []) ∧ ∀ x ∈ l, x.parts = true := by
 rw [parts] at h
 simp only [Bool.and_eq_true, Bool.or_eq_true, decide_eq_true_eq] at h
 obtain ⟨⟨h1, h2⟩, h3⟩ := h
 refine ⟨h1, h2.imp id List.eq_nil_of_length_eq_zero, ?_⟩
 rw [partsL_all] at h3
 exact List.all_eq_true.1 h3
mutual
theorem put_le : ∀ v : V, v.parts = true → v.put.length ≤ 205 * v.nodes
 | .mk k n s l, h => by
  obtain ⟨h1, h2, h3⟩ := parts_facts h
  obtain ⟨f1, f2, f3, f4, f5, f6⟩ := sgl_facts h1
  have h4 := putL_le l h3
  have h5 : (tx s.data.toList).length = 4 + s.size := by unfold tx; rw [List.length_append, be_len]; simp
  rw [put, nodes, List.length_cons]
  split
  · simp; omega
  split
  · rw [be_len]; omega
  split
  · rw [h5]; omega
  split
  · rw [List.length_append, be_len]; omega
  · simp; omega
theorem putL_le : ∀ l : List V, (∀ x ∈ l, x.parts = true) → (putL l).length ≤ 205 * nodesL l
 | [], _ => by simp [putL]
 | x :: l, h => by
  have := put_le x (h x (List.mem_cons_self ..))
  have := putL_le l fun y hy => h y (List.mem_cons_of_mem _ hy)
  rw [putL, nodesL, List.length_append]; omega
end
end V
namespace V
def bin (v : V) : List UInt8 := if v.right = true then v.put else []
end V
namespace RS
def vals (f : RS → V × RS) : Nat → RS → List V × RS
 | 0, s => ([], s)
 | n + 1, s => if s.bad = true then ([], s) else ((f s).1 :: (vals f n (f s).2).1, (vals f n (f s).2).2)
def list5 (f : Option (RS → V × RS)) (n : Int) (s : RS) : V × RS :=
 match f with
 | none => (.mk 5 0 ⟨#[]⟩ [], fail)
 | some f => if 20 < n then (.mk 5 0 ⟨#[]⟩ [], fail) else (.mk 5 0 ⟨#[]⟩ (vals f n.toNat s).1, (vals f n.toNat s).2)
def body (f : Option (RS → V × RS)) (s : RS) : V × RS :=
 if s.byte.1 = 1 then (.mk 1 s.byte.2.byte.1 ⟨#[]⟩ [], s.byte.2.byte.2)
 else if s.byte.1 = 2 then (.mk 2 s.byte.2.long.1 ⟨#[]⟩ [], s.byte.2.long.2)
 else if s.byte.1 = 3 ∨ s.byte.1 = 4 then (.mk s.byte.1 0 s.byte.2.text.1 [], s.byte.2.text.2)
 else if s.byte.1 = 5 then list5 f s.byte.2.rnum.1 s.byte.2.rnum.2
 else (.mk s.byte.1 0 ⟨#[]⟩ [], s.byte.2)
def value : Nat → RS → V × RS
 | 0 => body none
 | d + 1 => body (some (value d))
end RS
namespace RS
def sub : Nat → Option (RS → V × RS)
 | 0 => none
 | e + 1 => some (value e)
end RS
def V.zero : V := .mk 0 0 ⟨#[]⟩ []
def RS.val (s : RS) : V × RS := if s.bad = true then (V.zero, s) else if (RS.value 4 s).2.bad = true ∨ (RS.value 4 s).1.right = false then (V.zero, RS.fail) else RS.value 4 s
end
structure Ts where
 kind : Int
 slot : Int
 var : Int
 val : V
structure Pt where
 tmpl : Int
 neg : Bool
 tests : List Ts
structure Ex where
 isVar : Bool
 var : Int
 val : V
structure Ac where
 kind : Int
 pat : Int
 tmpl : Int
 slot : Int
 vals : List Ex
structure Rl where
 name : ByteArray
 sal : Int
 pats : List Pt
 acts : List Ac
def Ts.cells (t : Ts) : List D := .i t.kind :: .i t.slot :: .i t.var :: t.val.cells
def Pt.cells (p : Pt) : List D := [.i p.tmpl, .b p.neg, .sl .shared (p.tests.map Ts.cells)]
def Ex.cells (e : Ex) : List D := .b e.isVar :: .i e.var :: e.val.cells
def Ac.cells (a : Ac) : List D := [.i a.kind, .i a.pat, .i a.tmpl, .i a.slot, .sl .shared (a.vals.map Ex.cells)]
def Rl.cells (x : Rl) : List D := [.str x.name, .i x.sal, .sl .shared (x.pats.map Pt.cells), .sl .shared (x.acts.map Ac.cells)]
theorem Ts.cells_mk (kind slot var k n : Int) (s : ByteArray) (l : List V) : (Ts.mk kind slot var (.mk k n s l)).cells = [.i kind, .i slot, .i var, .i k, .i n, .str s, .sl .shared (l.map V.cells)] := by unfold Ts.cells; rw [V.cells_mk]
theorem Ex.cells_mk (iv : Bool) (var k n : Int) (s : ByteArray) (l : List V) : (Ex.mk iv var (.mk k n s l)).cells = [.b iv, .i var, .i k, .i n, .str s, .sl .shared (l.map V.cells)] := by unfold Ex.cells; rw [V.cells_mk]
theorem Ts.cells_len (t : Ts) : t.cells.length = 7 := by unfold Ts.cells; simp [V.cells_len]
theorem Ex.cells_len (e : Ex) : e.cells.length = 6 := by unfold Ex.cells; simp [V.cells_len]
namespace Rul
def slots (L : List Tm) (k : Int) : List Sl := if 0 ≤ k ∧ k < L.length then (match L[k.toNat]? with | some t => (Sch.verX t (Sch.last t)).slots | none => []) else []
def bindT (l : List Ts) : List Int := (l.filter fun t => t.kind == 5).map Ts.var
def bindP (l : List Pt) : List Int := l.flatMap fun p => bindT p.tests
def bound (x : Rl) : List Int := bindP x.pats
def testB (ns : Int) (neg : Bool) (B : List Int) (t : Ts) : Bool :=
 (decide (0 ≤ t.slot) && decide (t.slot < ns)) && (
 if t.kind = 1 ∨ t.kind = 2 ∨ t.kind = 3 ∨ t.kind = 4 then (t.var == 0) && t.val.right
 else if t.kind = 5 then (t.val.cmp V.zero == 0) && ((decide (0 ≤ t.var) && decide (t.var < 8)) && (!neg && decide (t.var ∉ B)))
 else if t.kind = 6 ∨ t.kind = 7 ∨ t.kind = 8 ∨ t.kind = 9 then (t.val.cmp V.zero == 0) && ((decide (0 ≤ t.var) && decide (t.var < 8)) && decide (t.var ∈ B))
 else false)
def testN (B : List Int) (t : Ts) : List Int := if t.kind = 5 then B ++ [t.var] else B
def testsF (ns : Int) (neg : Bool) : List Ts → List Int → Bool × List Int
 | [], B => (true, B)
 | t :: l, B => if testB ns neg B t = true then testsF ns neg l (testN B t) else (false, B)
def patF (L : List Tm) (B : List Int) (p : Pt) : Bool × List Int :=
 if 0 ≤ p.tmpl ∧ p.tmpl < L.length ∧ p.tests.length ≤ 6 then testsF (slots L p.tmpl).length p.neg p.tests B else (false, B)
def patsF (L : List Tm) : List Pt → List Int → Bool × List Int
 | [], B => (true, B)
 | p :: l, B => if (patF L B p).1 = true then patsF L l (patF L B p).2 else (false, (patF L B p).2)
def exprB (B : List Int) (e : Ex) (s : Sl) : Bool := if e.isVar = true then decide (e.var ∈ B) && (e.val.cmp V.zero == 0) else (e.var == 0) && Sch.fits s e.val
def exprsB (B : List Int) : List Ex → List Sl → Bool
 | e :: l, s :: m => exprB B e s && exprsB B l m
 | _, _ => true
def posB (ps : List Pt) (k : Int) : Bool := (decide (0 ≤ k) && decide (k < ps.length)) && !((ps[k.toNat]?).any Pt.neg)
def actB (L : List Tm) (ps : List Pt) (B : List Int) (a : Ac) : Bool :=
 if a.kind = 1 then ((a.pat == 0) && (a.slot == 0)) && ((decide ((slots L a.tmpl).length ≠ 0) && decide (a.vals.length = (slots L a.tmpl).length)) && exprsB B a.vals (slots L a.tmpl))
 else if a.kind = 2 then posB ps a.pat && ((a.tmpl == 0) && ((a.slot == 0) && decide (a.vals.length = 0)))
 else if a.kind = 3 then (posB ps a.pat && ((a.tmpl == 0) && decide (a.vals.length = 1))) && (match ps[a.pat.toNat]?, a.vals with
  | some p, [e] => decide (0 ≤ a.slot) && (decide (a.slot < (slots L p.tmpl).length) && (match (slots L p.tmpl)[a.slot.toNat]? with | some s => exprB B e s | none => false))
  | _, _ => false)
 else (a.kind == 4) && ((a.pat == 0) && ((a.tmpl == 0) && ((a.slot == 0) && decide (a.vals.length = 0))))
def headB (x : Rl) : Bool := V.isName x.name.data.toList && ((decide (-100 ≤ x.sal) && decide (x.sal ≤ 100)) && ((decide (1 ≤ x.pats.length) && decide (x.pats.length ≤ 4)) && (!((x.pats[0]?).any Pt.neg) && decide (x.acts.length ≤ 4))))
def oneB (L : List Tm) (x : Rl) : Bool := headB x && ((patsF L x.pats []).1 && x.acts.all fun a => actB L x.pats (patsF L x.pats []).2 a)
def rightL (L : List Tm) (R : List Rl) : List Rl → Nat → Bool
 | [], _ => true
 | x :: l, i => oneB L x && (!((R.take i).any fun y => y.name.toList == x.name.toList) && rightL L R l (i + 1))
def right (L : List Tm) (R : List Rl) : Bool := Reg.right L && (decide (R.length ≤ 8) && rightL L R R 0)
end Rul
structure Fc where
 id : Int
 time : Int
 tmpl : Int
 ver : Int
 s : List V
structure Mt where
 rule : Int
 ids : List Int
def Fc.cells (f : Fc) : List D := [.i f.id, .i f.time, .i f.tmpl, .i f.ver, .sl .shared (f.s.map V.cells)]
def Mt.cells (m : Mt) : List D := [.i m.rule, .sl .shared (m.ids.map encI)]
theorem Fc.cells_len (f : Fc) : f.cells.length = 5 := rfl
theorem Mt.cells_len (m : Mt) : m.cells.length = 2 := rfl
def Fc.zero : Fc := ⟨0, 0, 0, 0, []⟩
namespace Mat
def empty : List V := List.replicate 8 V.zero
def kd : V → Int | .mk k _ _ _ => k
def holds (k : Int) (x y : V) : Bool := if k = 1 then x.cmp y == 0 else if k = 2 then !(x.cmp y == 0) else (kd x == kd y) && ((k == 3 && decide (x.cmp y < 0)) || (k == 4 && decide (0 < x.cmp y)))
def test (t : Ts) (f : Fc) (env : List V) : Option (List V) :=
 if 0 ≤ t.slot ∧ t.slot < f.s.length ∧ 0 ≤ t.var ∧ t.var < env.length ∧ 1 ≤ t.kind ∧ t.kind ≤ 9 then
  (if t.kind = 5 then some (env.set t.var.toNat (f.s.getD t.slot.toNat V.zero))
  else if t.kind < 5 then (if holds t.kind (f.s.getD t.slot.toNat V.zero) t.val = true then some env else none)
  else if holds (t.kind - 5) (f.s.getD t.slot.toNat V.zero) (env.getD t.var.toNat V.zero) = true then some env else none)
 else none
def tests (f : Fc) : List Ts → List V → Option (List V)
 | [], env => some env
 | t :: l, env => match test t f env with
  | some e => tests f l e
  | none => none
def pass (p : Pt) (f : Fc) (env : List V) : Option (List V) := if p.tmpl = f.tmpl ∧ env.length = 8 then tests f p.tests env else none
def passL (p : Pt) (F : List Fc) (env : List V) : List (Int × List V) := F.filterMap fun f => (pass p f env).map fun e => (f.id, e)
def from_ (F : List Fc) : List Pt → List Int → List V → List (List Int × List V)
 | [], ids, env => [(ids, env)]
 | p :: ps, ids, env => if p.neg = true then (if passL p F env = [] then from_ F ps ids env else [])
  else (passL p F env).flatMap fun x => from_ F ps (ids ++ [x.1]) x.2
def mats (x : Rl) (F : List Fc) : List (List Int × List V) := from_ F x.pats [] empty
def find (F : List Fc) (id : Int) : Option Fc := F.find? fun f => f.id == id
def envR (F : List Fc) : List Pt → List Int → List V → Option (List V)
 | [], ids, env => if ids = [] then some env else none
 | p :: ps, ids, env => if p.neg = true then (if passL p F env = [] then envR F ps ids env else none)
  else match ids with
   | [] => none
   | i :: is => match find F i with
    | none => none
    | some f => match pass p f env with
     | none => none
     | some e => envR F ps is e
def npos (ps : List Pt) : Nat := (ps.filter fun p => !p.neg).length
def rows (F : List Fc) : Nat → List Int → List (List Int)
 | 0, h => [h]
 | n + 1, h => F.flatMap fun f => rows F n (h ++ [f.id])
def cmpI : List Int → List Int → Int
 | a :: l, b :: m => if V.sgn a b ≠ 0 then V.sgn a b else cmpI l m
 | [], [] => 0
 | [], _ :: _ => -1
 | _ :: _, [] => 1
def ord (a b : Mt) : Int := if V.sgn a.rule b.rule ≠ 0 then V.sgn a.rule b.rule else cmpI a.ids b.ids
def less (a b : Mt) : Bool := decide (ord a b < 0)
def flatR (f : Rl → List (List Int)) : List Rl → Int → List Mt
 | [], _ => []
 | x :: l, i => (f x).map (Mt.mk i) ++ flatR f l (i + 1)
def raws (R : List Rl) (F : List Fc) : List Mt := flatR (fun x => (mats x F).map Prod.fst) R 0
def refs (x : Rl) (F : List Fc) : List (List Int) := (rows F (npos x.pats) []).filter fun r => (envR F x.pats r empty).isSome
def refRaws (R : List Rl) (F : List Fc) : List Mt := flatR (fun x => refs x F) R 0
def pos (m : Mt) (out : List Mt) : Nat → Nat
 | 0 => 0
 | k + 1 => if less m (out.getD k ⟨0, []⟩) = true then pos m out k else k + 1
def ins (out : List Mt) (m : Mt) : List Mt := out.take (pos m out out.length) ++ m :: out.drop (pos m out out.length)
def refAll (R : List Rl) (F : List Fc) : List Mt := (refRaws R F).foldl ins []
def same : List Mt → List Mt → Bool
 | a :: l, b :: m => (!less a b && !less b a) && same l m
 | [], [] => true
 | _, _ => false
theorem sgn_anti (a b : Int) : V.sgn b a = - V.sgn a b := by
 unfold V.sgn; split <;> split <;> (try split) <;> omega
theorem sgn_neg {a b : Int} : V.sgn a b < 0 ↔ a < b := by
 unfold V.sgn; split
 · simp [*]
 · split <;> simp <;> omega
theorem cmpI_anti : ∀ a b : List Int, cmpI b a = - cmpI a b
 | a :: l, b :: m => by
  unfold cmpI
  rw [sgn_anti a b, cmpI_anti l m]
  by_cases h : V.sgn a b = 0
  · simp [h]
  · rw [if_pos q_o, if_pos h]
 | [], [] => rfl
 | [], _ :: _ => rfl
 | _ :: _, [] => rfl
theorem cmpI_eq : ∀ a b : List Int, cmpI a b = 0 → a = b
 | a :: l, b :: m, h => by
  unfold cmpI at h
  by_cases h0 : V.sgn a b = 0
  · rw [if_neg (by simpa using h0)] at h
    rw [V.sgn_zero.1 h0, cmpI_eq l m h]
  · rw [if_pos h0] at h; exact absurd h h0
 | [], [], _ => rfl
 | [], _ :: _, h => by cases h
 | _ :: _, [], h => by cases h
theorem cmpI_self : ∀ a : List Int, cmpI a a = 0
 | [] => rfl
 | a :: l => by unfold cmpI; rw [V.sgn_self]; simpa using cmpI_self l
theorem cmpI_trans : ∀ a b c : List Int, cmpI a b < 0 → cmpI b c < 0 → cmpI a c < 0
 | [], [], _, h, _ => absurd h (by decide)
 | [], b :: m, [], _, h => absurd h (by simp [cmpI])
 | [], b :: m, c :: n, _, _ => by simp [cmpI]
 | a :: l, [], _, h, _ => absurd h (by simp [cmpI])
 | a :: l, b :: m, [], _, h => absurd h (by simp [cmpI])
 | a :: l, b :: m, c :: n, h1, h2 => by
  unfold cmpI at h1 h2 ⊢
  by_cases h3 : V.sgn a b = 0
  · rw [if_neg (by simpa using h3)] at h1
    obtain rfl := V.sgn_zero.1 h3
    by_cases h4 : V.sgn a c = 0
    · rw [if_neg (by simpa using h4)] at h2 ⊢
      exact cmpI_trans l m n h1 h2
    · rw [if_pos h4] at h2 ⊢; exact h2
  · rw [if_pos h3] at h1
    have k1 := sgn_neg.1 h1
    by_cases h4 : V.sgn b c = 0
    · obtain rfl := V.sgn_zero.1 h4
      rw [if_pos h3]; exact h1
    · rw [if_pos h4] at h2
      have k2 := sgn_neg.1 h2
      have k3 : V.sgn a c < 0 := sgn_neg.2 q_o
      rw [if_pos q_o]; exact k3
theorem ord_anti (a b : Mt) : ord b a = - ord a b := by
 unfold ord; rw [sgn_anti a.rule, cmpI_anti a.ids]
 by_cases h : V.sgn a.rule b.rule = 0
 · simp [h]
 · rw [if_pos q_o, if_pos h]
theorem ord_eq {a b : Mt} (h : ord a b = 0) : a = b := by
 unfold ord at h
 by_cases h0 : V.sgn a.rule b.rule = 0
 · rw [if_neg (by simpa using h0)] at h
   cases a; cases b
   exact congr (congrArg Mt.mk (V.sgn_zero.1 h0)) (cmpI_eq _ _ h)
 · rw [if_pos h0] at h; exact absurd h h0
theorem ord_self (a : Mt) : ord a a = 0 := by unfold ord; rw [V.sgn_self, cmpI_self]; rfl
theorem ord_trans {a b c : Mt} (h1 : ord a b < 0) (h2 : ord b c < 0) : ord a c < 0 := by
 unfold ord at h1 h2 ⊢
 by_cases h3 : V.sgn a.rule b.rule = 0
 · rw [if_neg (by simpa using h3)] at h1
   rw [V.sgn_zero.1 h3]
   by_cases h4 : V.sgn b.rule c.rule = 0
   · rw [if_neg (by simpa using h4)] at h2 ⊢
     exact cmpI_trans _ _ _ h1 h2
   · rw [if_pos h4] at h2 ⊢; exact h2
 · rw [if_pos h3] at h1
   have k1 := sgn_neg.1 h1
   by_cases h4 : V.sgn b.rule c.rule = 0
   · rw [← V.sgn_zero.1 h4, if_pos h3]; exact h1
   · rw [if_pos h4] at h2
     have k2 := sgn_neg.1 h2
     have k3 : V.sgn a.rule c.rule < 0 := sgn_neg.2 q_o
     rw [if_pos q_o]; exact k3
theorem not_less {a b : Mt} : less a b = false ↔ ord b a ≤ 0 := by
 unfold less; rw [ord_anti a b]; simp
theorem le_trans {a b c : Mt} (h1 : ord a b ≤ 0) (h2 : ord b c ≤ 0) : ord a c ≤ 0 := by
 by_cases e1 : ord a b = 0
 · rw [ord_eq e1]; exact h2
 · by_cases e2 : ord b c = 0
   · rw [← ord_eq e2]; exact h1
   · have k1 : ord a b < 0 := by omega
     have k2 : ord b c < 0 := by omega
     exact Int.le_of_lt (ord_trans k1 k2)
def Srt (l : List Mt) : Prop := l.Pairwise fun a b => ord a b ≤ 0
theorem srt_unique {l m : List Mt} (hl : Srt l) (hm : Srt m) (hp : l.Perm m) : l = m :=
 List.Perm.eq_of_pairwise (le := fun a b => ord a b ≤ 0) (fun a b _ _ h1 h2 => ord_eq (by have := ord_anti a b; omega)) hl hm hp
theorem pos_le (m : Mt) (out : List Mt) : ∀ k, pos m out k ≤ k
 | 0 => Nat.le_refl _
 | k + 1 => by unfold pos; split; · exact Nat.le_succ_of_le (pos_le m out k)
               · exact Nat.le_refl _
theorem ins_perm (out : List Mt) (m : Mt) : (ins out m).Perm (m :: out) := by
 unfold ins
 refine List.perm_middle.trans (.cons _ ?_)
 rw [List.take_append_drop]
theorem pos_above (m : Mt) (out : List Mt) : ∀ k i, pos m out k ≤ i → i < k → less m (out.getD i ⟨0, []⟩) = true
 | 0, _, _, h => absurd h (Nat.not_lt_zero _)
 | k + 1, i, h, hi => by
  unfold pos at h
  by_cases hl : less m (out.getD k ⟨0, []⟩) = true
  · rw [if_pos hl] at h
    by_cases e : i = k
    · rw [e]; exact hl
    · exact pos_above m out k i h q_o
  · rw [if_neg hl] at h; omega
theorem pos_below (m : Mt) (out : List Mt) : ∀ k, 0 < pos m out k → less m (out.getD (pos m out k - 1) ⟨0, []⟩) = false
 | 0, h => absurd h (Nat.lt_irrefl _)
 | k + 1, h => by
  unfold pos at h ⊢
  by_cases hl : less m (out.getD k ⟨0, []⟩) = true
  · rw [if_pos hl] at h ⊢; exact pos_below m out k h
  · rw [if_neg hl]; simpa using hl
theorem ins_srt {out : List Mt} (m : Mt) (h : Srt out) : Srt (ins out m) := by
 obtain ⟨k, hk⟩ : ∃ k, k = pos m out out.length := ⟨_, rfl⟩
 have h1 : k ≤ out.length := by rw [hk]; exact pos_le _ _ _
 have hd : Srt (out.take k ++ out.drop k) := by rw [List.take_append_drop]; exact h
 have hs := List.pairwise_append.1 hd
 have hbel : ∀ a ∈ out.take k, ord a m ≤ 0 := by
  intro a ha
  by_cases hk0 : k = 0
  · rw [hk0] at ha; cases ha
  · have hb := not_less.1 (hk ▸ pos_below m out out.length q_o)
    have hlt : k - 1 < out.length := by omega
    rw [List.getD_eq_getElem?_getD, List.getElem?_eq_getElem hlt, Option.getD_some] at hb
    obtain ⟨i, hi, rfl⟩ := List.getElem_of_mem ha
    rw [List.length_take] at hi
    rw [List.getElem_take]
    by_cases e : i = k - 1
    · subst e; exact hb
    · exact le_trans (List.pairwise_iff_getElem.1 h i (k - 1) q_o hlt q_o) hb
 have habv : ∀ a ∈ out.drop k, ord m a ≤ 0 := by
  intro a ha
  obtain ⟨i, hi, rfl⟩ := List.getElem_of_mem ha
  rw [List.length_drop] at hi
  rw [List.getElem_drop]
  have := pos_above m out out.length (k + i) q_o q_o
  rw [List.getD_eq_getElem?_getD, List.getElem?_eq_getElem q_o, Option.getD_some] at this
  unfold less at this
  have := of_decide_eq_true this
  omega
 unfold ins
 rw [← hk]
 exact List.pairwise_append.2 ⟨hs.1, List.pairwise_cons.2 ⟨habv, hs.2.1⟩, fun a ha b hb => (List.mem_cons.1 hb).elim (fun e => e ▸ hbel a ha) fun h' => hs.2.2 a ha b h'⟩
theorem fold_ins : ∀ (l out : List Mt), Srt out → Srt (l.foldl ins out) ∧ (l.foldl ins out).Perm (l ++ out)
 | [], out, h => ⟨h, .refl _⟩
 | m :: l, out, h => by
  have := fold_ins l (ins out m) (ins_srt m h)
  exact ⟨this.1, this.2.trans ((List.Perm.append_left l (ins_perm out m)).trans List.perm_middle)⟩
theorem same_self : ∀ l : List Mt, same l l = true
 | [] => rfl
 | a :: l => by unfold same; rw [same_self l]; unfold less; rw [ord_self]; rfl
theorem rows_app (F : List Fc) : ∀ (n : Nat) (h : List Int), rows F n h = (rows F n []).map (h ++ ·)
 | 0, h => by simp [rows]
 | n + 1, h => by
  unfold rows
  rw [List.map_flatMap]
  congr 1; funext f
  rw [rows_app F n (h ++ [f.id]), rows_app F n ([] ++ [f.id]), List.map_map]
  congr 1; funext r
  simp
theorem find_self {F : List Fc} (hu : (F.map Fc.id).Nodup) {f : Fc} (hf : f ∈ F) : find F f.id = some f := by
 induction F with
 | nil => cases hf
 | cons g F ih =>
  unfold find
  rw [List.find?_cons]
  rw [List.map_cons, List.nodup_cons] at hu
  rcases List.mem_cons.1 hf with rfl | h
  · simp
  · have : g.id ≠ f.id := fun e => hu.1 (e ▸ List.mem_map_of_mem h)
    rw [show (g.id == f.id) = false by simpa using this]
    exact ih hu.2 h
theorem flatMap_congr {α β : Type} {l : List α} {f g : α → List β} (h : ∀ a ∈ l, f a = g a) : l.flatMap f = l.flatMap g := by
 induction l with
 | nil => rfl
 | cons a l ih => rw [List.flatMap_cons, List.flatMap_cons, h a (List.mem_cons_self ..), ih fun b hb => h b (List.mem_cons_of_mem _ hb)]
theorem passL_flat (p : Pt) (F : List Fc) (env : List V) {β : Type} (g : Int × List V → List β) : (passL p F env).flatMap g = F.flatMap fun f => match pass p f env with | some e => g (f.id, e) | none => [] := by
 induction F with
 | nil => rfl
 | cons f F ih =>
  unfold passL at ih ⊢
  rw [List.flatMap_cons, ← ih]
  cases h : pass p f env with
  | none => rw [List.filterMap_cons_none (by rw [h]; rfl)]; rfl
  | some e => rw [List.filterMap_cons_some (by rw [h]; rfl)]; rfl
theorem from_rows {F : List Fc} (hu : (F.map Fc.id).Nodup) : ∀ (ps : List Pt) (ids : List Int) (env : List V), from_ F ps ids env = (rows F (npos ps) []).filterMap fun r => (envR F ps r env).map fun e => (ids ++ r, e)
 | [], ids, env => by simp [from_, npos, rows, envR]
 | p :: ps, ids, env => by
  unfold from_
  by_cases hn : p.neg = true
  · rw [if_pos hn]
    have e1 : npos (p :: ps) = npos ps := by unfold npos; rw [List.filter_cons_of_neg (by simp [hn])]
    rw [e1]
    by_cases h0 : passL p F env = []
    · rw [if_pos h0, from_rows hu ps ids env]
      congr 1; funext r
      rw [envR.eq_def F (p :: ps)]; simp [hn, h0]
    · rw [if_neg h0]
      symm
      rw [List.filterMap_eq_nil_iff]
      intro r _
      rw [envR.eq_def F (p :: ps)]; simp [hn, h0]
  · rw [if_neg hn, passL_flat]
    have e1 : npos (p :: ps) = npos ps + 1 := by unfold npos; rw [List.filter_cons_of_pos (by simpa using hn)]; rfl
    rw [e1]; unfold rows
    rw [List.filterMap_flatMap]
    refine flatMap_congr fun f hf => ?_
    rw [rows_app, List.filterMap_map]
    have hstep : ∀ r, envR F (p :: ps) (f.id :: r) env = match pass p f env with | none => none | some e => envR F ps r e := fun r => by
     rw [envR.eq_def]; simp [hn, find_self hu hf]
    cases hp : pass p f env with
    | none =>
     symm
     rw [List.filterMap_eq_nil_iff]
     intro r _
     show Option.map _ (envR F (p :: ps) (f.id :: r) env) = none
     rw [hstep, hp]; rfl
    | some e =>
     show from_ F ps (ids ++ [f.id]) e = _
     rw [from_rows hu ps _ e]
     congr 1; funext r
     show _ = Option.map _ (envR F (p :: ps) (f.id :: r) env)
     rw [hstep, hp]
     simp
theorem mats_refs {F : List Fc} (hu : (F.map Fc.id).Nodup) (x : Rl) : (mats x F).map Prod.fst = refs x F := by
 unfold mats refs
 rw [from_rows hu]
 generalize rows F (npos x.pats) [] = L
 induction L with
 | nil => rfl
 | cons r L ih =>
  cases h : envR F x.pats r empty with
  | none => rw [List.filterMap_cons_none (by rw [h]; rfl), List.filter_cons_of_neg (by rw [h]; simp), ih]
  | some e => rw [List.filterMap_cons_some (by rw [h]; rfl), List.filter_cons_of_pos (by rw [h]; rfl), List.map_cons, ih]; rfl
theorem flatR_congr {f g : Rl → List (List Int)} (h : ∀ x, f x = g x) : ∀ (l : List Rl) (i : Int), flatR f l i = flatR g l i
 | [], _ => rfl
 | x :: l, i => by unfold flatR; rw [h, flatR_congr h l]
theorem raws_eq {F : List Fc} (hu : (F.map Fc.id).Nodup) (R : List Rl) : raws R F = refRaws R F := flatR_congr (mats_refs hu) R 0
end Mat
section
attribute [local push_cast] encB encI V.cells_mk V.cells_take V.cells_len Nat.mul_one Int.sub_zero
open V in
theorem valCopyF : ∀ (N : Nat) (v : V), v.nodes ≤ N → v.nodes ≤ 1000000000 → ∀ st, TrF Tryz.prog 84 [.agg v.cells] st fun x st' => x = .agg v.cells ∧ st' = st
 | 0, v, h, _ => by have := v.nodes_pos; omega
 | N + 1, .mk k n s l, hN, hB => by
  intro st
  have hll := nodesL_len l
  rw [nodes] at hN hB
  have IH := Lib.hid fun x (hx : x ∈ l) => valCopyF N x (by have := nodesL_mem hx; omega) (by have := nodesL_mem hx; omega)
  clear hN
  rw [V.cells_mk]
  refine QinC 2 30 Tryz.func84 Tryz.ntmps84 ?_
  refine tr_room 30 4 0 ?_
  repeat' (first | with_reducible refine s_boxP ?_ | refine QX ?_ | (refine QB ?_; intro b) | (refine QP ?_; intro o' ho') | (with_reducible refine QZ ?_ <;> (try constructor) <;> intro hb <;> try intro hb1) | fail)
  rename_i b1
  revert b
  intro b2
  refine tr_loopd (ι := Nat) (fun i A st' => i ≤ l.length ∧ A.df = [] ∧ A.e 1 = .ptr b1 0 ∧ A.e 2 = .ptr b2 0 ∧ A.e 7 = .sl .shared (l.map V.cells) ∧ A.e 8 = .i l.length ∧ A.e 9 = .i i ∧ ∃ o', o' ≠ .shared ∧ A.e 3 = .sl o' ((l.take i).map V.cells) ∧ ∃ zs, zs.length = 4 ∧ st' = .box b2 30 zs :: .box b1 30 [.i k, .i n, .str s, .sl .shared (l.map V.cells)] :: .room o' 30 4 ((l.take i).map V.cells).length :: st) (fun i => l.length - i) 0 ⟨Nat.zero_le _, Qf, Qf, Qf, Qf, Qf, Qf, .tight, by simp, Qf, _, rfl, rfl⟩ ?_
  rintro i A st' ⟨hi, hdf, e1, e2, e7, e8, e9, o', ho', e3, zs, hzs, rfl⟩
  by_cases hlt : i < l.length
  · obtain ⟨x, hx⟩ := gEx hlt
    have ih := IH.out x (mem_of hx)
    have htk : l.take (i + 1) = l.take i ++ [x] := by
     rw [List.take_succ, hx]; rfl
    have hTi : (l.take i).length = i := by rw [List.length_take]; omega
    replace htk := Lib.hid htk
    generalize l.take i = Ti at *
    clear IH
    have hT4 : ∀ a ∈ Ti.map V.cells, a.length = 4 := fun a ha => by
     obtain ⟨y, -, rfl⟩ := List.mem_map.1 ha
     exact V.cells_len y
    cases x with
    | mk k1 n1 s1 l1 =>
     rw [V.cells_mk] at ih
     replace ih := Lib.hid ih
     repeat' (first | refine QV ?_ | ((with_reducible apply (a2_go ho')); (focus (intro o'; repeat (first | exact ra_h | apply ra_t))); (focus exact hT4); (focus exact len_one rfl); (focus (simp only [List.length_map, List.length_cons, List.length_nil]; omega)); (focus (simp only [List.length_map, List.length_cons, List.length_nil]; omega)); intro o' ho') | refine QY ?_ | (refine QB ?_; intro b) | (refine QP ?_; intro o' ho') | (with_reducible refine QZ ?_ <;> (try constructor) <;> intro hb <;> try intro hb1) | fail)
     refine ⟨i + 1, .box b2 30 zs :: .box b1 30 [.i k, .i n, .str s, .sl .shared (l.map V.cells)] :: .room o' 30 4 ((l.take (i + 1)).map V.cells).length :: st, ?_, ⟨hlt, ?_, ?_, ?_, ?_, ?_, ?_, o', ho', ?_, zs, hzs, rfl⟩, ?_⟩
     · rw [htk.out]; simp only [List.map_append, List.map_cons, List.map_nil, V.cells_mk]; (repeat (first | exact List.Sublist.refl _ | apply List.Sublist.cons))
     · exact Qf
     · exact Qf
     · exact Qf
     · exact Qf
     · exact Qf
     · exact Qf
     · rw [htk.out]; simp only [List.map_append, List.map_cons, List.map_nil, V.cells_mk]; exact Qf
     · omega
  · rw [List.take_of_length_le q_o] at *
    clear IH
    repeat' (first | refine QX ?_ | (refine QB ?_; intro b) | (refine QP ?_; intro o' ho') | (with_reducible refine QZ ?_ <;> (try constructor) <;> intro hb <;> try intro hb1) | fail)
    all_goals exact QretC
end
section
attribute [local push_cast] encB encI V.cells_mk V.cells_take V.cells_len Nat.mul_one Int.sub_zero
def rowC (l : List V) : List D := (l.map V.cells).flatten
theorem rowC_len (l : List V) : (rowC l).length = l.length * 4 := by
 unfold rowC
 rw [flat_len (sz := 4) fun e he => by
  obtain ⟨x, -, rfl⟩ := List.mem_map.1 he
  exact V.cells_len x, List.length_map]
theorem rowC_at {l : List V} {i : Nat} {x : V} (zs : List D) (h : l[i]? = some x) : List.take 4 (List.drop (i * 4) (rowC l ++ zs)) = x.cells := by
 have h1 : rowC l = rowC (l.take i) ++ (x.cells ++ rowC (l.drop (i + 1))) := by
  unfold rowC
  rw [← List.flatten_cons, ← List.map_cons, ← List.flatten_append, ← List.map_append]
  congr 2
  have := V.drop_cons h
  rw [← this, List.take_append_drop]
 have h2 : (rowC (l.take i)).length = i * 4 := by
  rw [rowC_len, List.length_take, Nat.min_eq_left (Nat.le_of_lt (List.getElem?_eq_some_iff.1 h).1)]
 rw [h1, List.append_assoc, List.drop_append_of_le_length q_o, ← h2, List.drop_length, List.nil_append, List.append_assoc, List.take_append_of_le_length (by rw [V.cells_len]; exact Nat.le_refl _), List.take_of_length_le (by rw [V.cells_len]; exact Nat.le_refl _)]
end
section
attribute [local push_cast] encB encI encC V.cells_mk V.cells_len Nat.mul_one Int.sub_zero List.map_nil beq_self_eq_true bne_self_eq_false List.head?_cons Bool.not_true Bool.not_false Nat.zero_add
theorem matHoldsF (k : Int) (h1 : 1 ≤ k) (h4 : k ≤ 4) (x y : V) (hx : x.Bg) (hy : y.Bg) (st : St) : TrF Tryz.prog 85 [.i k, .agg x.cells, .agg y.cells] st fun d st' => d = .b (Mat.holds k x y) ∧ st' = st := by
 have hS := valSameB x y hx hy
 have hC := valCompareB x.nodes x y (Nat.le_refl _) hx hy
 unfold Mat.holds
 generalize x.cmp y = c at *
 clear hx hy
 cases x with
 | mk k1 n1 s1 l1 =>
 cases y with
 | mk k2 n2 s2 l2 =>
 rw [V.cells_mk, V.cells_mk] at *
 generalize l1.map V.cells = L1 at *
 generalize l2.map V.cells = L2 at *
 dsimp only [Mat.kd]
 replace hS := Lib.hid hS
 replace hC := Lib.hid hC
 by_cases e1 : k = 1
 · subst e1
   rw [if_pos rfl]
   refine Qin [6] Tryz.func85 Tryz.results85 Tryz.ntmps85 ?_
   exact WR
 by_cases e2 : k = 2
 · subst e2
   rw [if_neg (by decide), if_pos rfl]
   refine Qin [6] Tryz.func85 Tryz.results85 Tryz.ntmps85 ?_
   exact WR
 rw [if_neg e1, if_neg e2]
 by_cases hk : k1 = k2
 · rw [beq_iff_eq.2 hk, Bool.true_and]
   subst hk
   by_cases e3 : k = 3
   · subst e3
     rw [show (((3 : Int) == 3 && decide (c < 0)) || ((3 : Int) == 4 && decide (0 < c))) = decide (c < 0) by simp]
     refine Qin [6] Tryz.func85 Tryz.results85 Tryz.ntmps85 ?_
     exact WR
   · obtain rfl : k = 4 := by omega
     rw [show (((4 : Int) == 3 && decide (c < 0)) || ((4 : Int) == 4 && decide (0 < c))) = decide (0 < c) by simp]
     refine Qin [6] Tryz.func85 Tryz.results85 Tryz.ntmps85 ?_
     exact WR
 · rw [beq_eq_false_iff_ne.2 hk, Bool.false_and]
   refine Qin [6] Tryz.func85 Tryz.results85 Tryz.ntmps85 ?_
   exact WR
theorem refHolds18F (k : Int) (x y : V) (hx : x.Ok) (st : St) : TrF Tryz.prog 54 [.i k, .agg x.cells, .agg y.cells] st fun d st' => d = .b (Mat.holds k x y) ∧ st' = st := by
 have hC := refCompareF x.nodes x y (Nat.le_refl _) hx
 unfold Mat.holds
 generalize x.cmp y = c at *
 clear hx
 cases x with
 | mk k1 n1 s1 l1 =>
 cases y with
 | mk k2 n2 s2 l2 =>
 rw [V.cells_mk, V.cells_mk] at *
 generalize l1.map V.cells = L1 at *
 generalize l2.map V.cells = L2 at *
 dsimp only [Mat.kd]
 replace hC := Lib.hid hC
 by_cases e1 : k = 1
 · rw [if_pos e1]
   refine Qin [6] Tryz.func54 Tryz.results54 Tryz.ntmps54 ?_
   exact WR
 by_cases e2 : k = 2
 · rw [if_neg e1, if_pos e2]
   refine Qin [6] Tryz.func54 Tryz.results54 Tryz.ntmps54 ?_
   exact WR
 rw [if_neg e1, if_neg e2]
 by_cases hk : k1 = k2
 · rw [beq_iff_eq.2 hk, Bool.true_and]
   subst hk
   by_cases e3 : k = 3
   · by_cases hc : c < 0
     · rw [show ((k == 3 && decide (c < 0)) || (k == 4 && decide (0 < c))) = true by simp [e3, hc]]
       refine Qin [6] Tryz.func54 Tryz.results54 Tryz.ntmps54 ?_
       exact WR
     · rw [show ((k == 3 && decide (c < 0)) || (k == 4 && decide (0 < c))) = false by simp [e3, hc]]
       refine Qin [6] Tryz.func54 Tryz.results54 Tryz.ntmps54 ?_
       exact WR
   · by_cases e4 : k = 4
     · rw [show ((k == 3 && decide (c < 0)) || (k == 4 && decide (0 < c))) = decide (0 < c) by simp [e4]]
       refine Qin [6] Tryz.func54 Tryz.results54 Tryz.ntmps54 ?_
       exact WR
     · rw [show ((k == 3 && decide (c < 0)) || (k == 4 && decide (0 < c))) = false by simp [e3, e4]]
       refine Qin [6] Tryz.func54 Tryz.results54 Tryz.ntmps54 ?_
       exact WR
 · rw [beq_eq_false_iff_ne.2 hk, Bool.false_and]
   refine Qin [6] Tryz.func54 Tryz.results54 Tryz.ntmps54 ?_
   exact WR
theorem rowC_set {out : List V} {c : Nat} {u : V} (zs : List D) (h : c < out.length) : List.take (c * 4) (rowC out ++ zs) ++ u.cells ++ List.drop (c * 4 + 4) (rowC out ++ zs) = rowC (out.set c u) ++ zs := by
 obtain ⟨z, hz⟩ := gEx h
 have hL : (out.map V.cells)[c]? = some z.cells := by rw [List.getElem?_map, hz]; rfl
 have hs := row_splice (o := 0) (sz := 4) (ds := u.cells) zs (out.map V.cells) c (fun e he => by
  obtain ⟨x, -, rfl⟩ := List.mem_map.1 he
  exact V.cells_len x) hL (by rw [V.cells_len]; omega)
 have h1 : splice z.cells 0 u.cells = u.cells := by
  unfold splice
  rw [List.take_zero, List.nil_append, Nat.zero_add, List.drop_of_length_le (by rw [V.cells_len, V.cells_len]; omega), List.append_nil]
 rw [h1, ← List.map_set] at hs
 unfold splice at hs
 rw [Nat.add_zero, V.cells_len] at hs
 exact hs
structure FK (f : Fc) : Prop where
 v : ∀ x ∈ f.s, x.Ok ∧ x.nodes ≤ 1000
 l : f.s.length ≤ 1000000
namespace Mat
theorem test_bad {t : Ts} {f : Fc} {env : List V} (h : ¬ (0 ≤ t.slot ∧ t.slot < f.s.length ∧ 0 ≤ t.var ∧ t.var < env.length ∧ 1 ≤ t.kind ∧ t.kind ≤ 9)) : test t f env = none := if_neg h
theorem test_good {t : Ts} {f : Fc} {env : List V} {i v : Nat} {x y : V} (h : t.slot = i) (hv : t.var = v) (hi : f.s[i]? = some x) (hy : env[v]? = some y) (h1 : 1 ≤ t.kind) (h9 : t.kind ≤ 9) : test t f env = if t.kind = 5 then some (env.set v x) else if t.kind < 5 then (if holds t.kind x t.val = true then some env else none) else if holds (t.kind - 5) x y = true then some env else none := by
 have hl := (List.getElem?_eq_some_iff.1 hi).1
 have hl2 := (List.getElem?_eq_some_iff.1 hy).1
 unfold test
 rw [if_pos ⟨by omega, by omega, by omega, by omega, h1, h9⟩, h, hv, Int.toNat_natCast, Int.toNat_natCast, List.getD_eq_getElem?_getD, List.getD_eq_getElem?_getD, hi, hy]
 rfl
end Mat
theorem matTestF (t : Ts) (f : Fc) (env : List V) (ht : t.val.Bg) (hf : FK f) (he : ∀ v ∈ env, v.Bg) (hl2 : env.length = 8) (g cap : Nat) (zs : List D) (hz : (rowC env ++ zs).length = cap * 4) (st : St) :
 TrF Tryz.prog 53 [.agg t.cells, .agg f.cells, .ar g 0 8 cap] (.box g 30 (rowC env ++ zs) :: st) fun d st' => d = .b (Mat.test t f env).isSome ∧ st' = .box g 30 (rowC ((Mat.test t f env).getD env) ++ zs) :: st := by
 by_cases hok : 0 ≤ t.slot ∧ t.slot < f.s.length ∧ 0 ≤ t.var ∧ t.var < env.length ∧ 1 ≤ t.kind ∧ t.kind ≤ 9
 · obtain ⟨h1, h2, h3, h4, h5, h6⟩ := hok
   obtain ⟨i, hi⟩ : ∃ i : Nat, t.slot = i := ⟨t.slot.toNat, by omega⟩
   obtain ⟨v, hv⟩ : ∃ v : Nat, t.var = v := ⟨t.var.toNat, by omega⟩
   obtain ⟨x, hx⟩ := gEx (l := f.s) (i := i) q_o
   obtain ⟨y, hy⟩ := gEx (l := env) (i := v) q_o
   rw [Mat.test_good hi hv hx hy h5 h6]
   have hxk := hf.v x (List.mem_of_getElem? hx)
   have hyk := he y (List.mem_of_getElem? hy)
   have hxc : (f.s.map V.cells)[i]? = some x.cells := by rw [List.getElem?_map, hx]; rfl
   have hml : (f.s.map V.cells).length = f.s.length := List.length_map ..
   have hil := (List.getElem?_eq_some_iff.1 hx).1
   have hvl : v < 8 := by omega
   have hrd := rowC_at zs hy
   have hset := rowC_set (u := x) zs (show v < env.length by omega)
   have hdl : 4 ≤ (List.drop (v * 4) (rowC env ++ zs)).length := by
    rw [List.length_drop, List.length_append, rowC_len]; omega
   have hcap : v * 4 + 4 ≤ (rowC env ++ zs).length := by rw [List.length_append, rowC_len]; omega
   have hC := valCopyF x.nodes x (Nat.le_refl _) q_o
   have hH1 := fun (a : 1 ≤ t.kind) (b : t.kind ≤ 4) => matHoldsF t.kind a b x t.val hxk.1.bg ht
   have hH2 := fun (a : 1 ≤ t.kind - 5) (b : t.kind - 5 ≤ 4) => matHoldsF (t.kind - 5) a b x y hxk.1.bg hyk
   cases t with
   | mk kind slot var val =>
   dsimp only at *
   subst hi hv
   cases f with
   | mk fid ftime ftm fver fs =>
   dsimp only at *
   unfold Fc.cells
   dsimp only
   generalize Mat.holds kind x val = q1 at *
   generalize Mat.holds (kind - 5) x y = q2 at *
   generalize fs.map V.cells = FS at *
   clear ht hf he hx hy hxk hyk h1 h2 h3 h4 hl2
   cases val with
   | mk k3 n3 s3 l3 =>
   cases x with
   | mk k1 n1 s1 l1 =>
   cases y with
   | mk k2 n2 s2 l2 =>
   rw [Ts.cells_mk]
   simp only [V.cells_mk] at *
   generalize l1.map V.cells = L1 at *
   generalize l2.map V.cells = L2 at *
   generalize l3.map V.cells = L3 at *
   replace hC := Lib.hid hC
   by_cases e5 : kind = 5
   · subst e5
     rw [if_pos rfl]
     clear hH1 hH2
     dsimp only [Option.isSome, Option.getD]
     generalize rowC (env.set v _) ++ zs = R2 at *
     generalize rowC env ++ zs = R at *
     refine Qin [6] Tryz.func53 Tryz.results53 Tryz.ntmps53 ?_
     repeat' (first | refine QV ?_ | ((with_reducible refine QW ?_); intro hne; simp only [nes, ne1, and_assoc] at hne; repeat (have hq := hne.1; replace hne := hne.2)) | refine QY ?_ | (refine QB ?_; intro b) | (with_reducible refine QZ ?_ <;> (try constructor) <;> intro hb <;> try intro hb1) | fail)
     all_goals exact Qret
   · rw [if_neg e5]
     by_cases e4 : kind < 5
     · rw [if_pos e4]
       have hH := Lib.hid (hH1 h5 q_o)
       clear hH1 hH2 hset hrd
       cases q1
       all_goals (
        simp only [if_true, if_false, Bool.false_eq_true]
        dsimp only [Option.isSome, Option.getD]
        generalize rowC env ++ zs = R at *
        refine Qin [6] Tryz.func53 Tryz.results53 Tryz.ntmps53 ?_
        repeat' (first | refine QV ?_ | ((with_reducible refine QW ?_); intro hne; simp only [nes, ne1, and_assoc] at hne; repeat (have hq := hne.1; replace hne := hne.2)) | refine QY ?_ | (refine QB ?_; intro b) | (with_reducible refine QZ ?_ <;> (try constructor) <;> intro hb <;> try intro hb1) | fail)
        all_goals exact Qret)
     · rw [if_neg e4]
       have hH := Lib.hid (hH2 q_o q_o)
       clear hH1 hH2 hset
       cases q2
       all_goals (
        simp only [if_true, if_false, Bool.false_eq_true]
        dsimp only [Option.isSome, Option.getD]
        generalize rowC env ++ zs = R at *
        refine Qin [6] Tryz.func53 Tryz.results53 Tryz.ntmps53 ?_
        repeat' (first | refine QV ?_ | ((with_reducible refine QW ?_); intro hne; simp only [nes, ne1, and_assoc] at hne; repeat (have hq := hne.1; replace hne := hne.2)) | refine QY ?_ | (refine QB ?_; intro b) | (with_reducible refine QZ ?_ <;> (try constructor) <;> intro hb <;> try intro hb1) | fail)
        all_goals exact Qret)
 · rw [Mat.test_bad hok]
   dsimp only [Option.isSome, Option.getD]
   clear ht hf he hz
   cases t with
   | mk kind slot var val =>
   dsimp only at hok
   rw [hl2] at hok
   cases f with
   | mk fid ftime ftm fver fs =>
   dsimp only at hok
   have hml : (fs.map V.cells).length = fs.length := List.length_map ..
   unfold Fc.cells
   dsimp only
   generalize fs.map V.cells = FS at *
   generalize rowC env ++ zs = R
   cases val with
   | mk k3 n3 s3 l3 =>
   rw [Ts.cells_mk]
   generalize l3.map V.cells = L3 at *
   refine Qin [6] Tryz.func53 Tryz.results53 Tryz.ntmps53 ?_
   exact WR
end
section
mutual
inductive Frz (g n cap : Nat) (es : List (List D)) : D → D → Prop
 | same (d : D) : Frz g n cap es d d
 | ar : Frz g n cap es (.ar g 0 n cap) (.sl .shared es)
 | agg (cs cs' : List D) (h : FrzL g n cap es cs cs') : Frz g n cap es (.agg cs) (.agg cs')
 | tup (cs cs' : List D) (h : FrzL g n cap es cs cs') : Frz g n cap es (.tup cs) (.tup cs')
inductive FrzL (g n cap : Nat) (es : List (List D)) : List D → List D → Prop
 | nil : FrzL g n cap es [] []
 | cons (d d' : D) (l l' : List D) (h : Frz g n cap es d d') (k : FrzL g n cap es l l') : FrzL g n cap es (d :: l) (d' :: l')
end
section
variable {g n cap : Nat} {es : List (List D)} {O O' : Nat → Nat → Prop} {w : World}
mutual
theorem Frz.rep (he : Ext O w O' w) (hr : ∀ v, Rep O w v (.ar g 0 n cap) → Rep O' w v (.sl .shared es)) : ∀ {d d' : D}, Frz g n cap es d d' → ∀ v, Rep O w v d → Rep O' w v d'
 | _, _, .same d, v, h => h.ext he
 | _, _, .ar, v, h => hr v h
 | _, _, .agg cs cs' k, v, h => by
  cases h with
  | agg us _ h1 h2 =>
   obtain ⟨q1, q2⟩ := FrzL.rep he hr k us ⟨h1, h2⟩
   exact .agg us cs' q1 q2
 | _, _, .tup cs cs' k, v, h => by
  cases h with
  | tup us _ h1 h2 =>
   obtain ⟨q1, q2⟩ := FrzL.rep he hr k us ⟨h1, h2⟩
   exact .tup us cs' q1 q2
theorem FrzL.rep (he : Ext O w O' w) (hr : ∀ v, Rep O w v (.ar g 0 n cap) → Rep O' w v (.sl .shared es)) : ∀ {l l' : List D}, FrzL g n cap es l l' → ∀ us, RepL O w us l → RepL O' w us l'
 | _, _, .nil, us, h => by
  obtain rfl := h.inv_nil
  exact .nil
 | _, _, .cons d d' l l' h k, us, hh => by
  obtain ⟨u, t, rfl, k1, k2⟩ := hh.inv_cons
  exact .cons (Frz.rep he hr h u k1) (FrzL.rep he hr k t k2)
end
theorem row_rest {el : TypeId} {zs : List D} {s0 : St} {sz : Nat} (hh : Holds (.box g el (es.flatten ++ zs) :: s0) w) (hsz : 0 < sz) (hes : ∀ e ∈ es, e.length = sz) (hn : es.length = n) (v : Value) (hv : Rep (OwnS (.box g el (es.flatten ++ zs) :: s0)) w v (.ar g 0 n cap)) : Rep (OwnS s0) w v (.sl .shared es) := by
 have hch : chop sz n ((es.flatten ++ zs).drop 0) = es := by
  rw [List.drop_zero, ← hn]
  exact chop_row zs es hes
 have hr := frozen .shared (.inl rfl) (sz := sz) hh hv hsz (by rw [List.length_append, flat_len hes, hn]; omega) (by intro h; cases h)
 rwa [hch] at hr
end
section
variable {P : Program} {f : FuncId} {args : List D} {st : St}
theorem TrF.rest {ι : Type} {el : TypeId} {sz : Nat} {p : ι → Prop} {es : ι → List (List D)} {g n cap : ι → Nat} {F F' : ι → D} {zs : ι → List D} {S : ι → St} (hsz : 0 < sz) (hes : ∀ i, p i → (∀ e ∈ es i, e.length = sz) ∧ (es i).length = n i) (hF : ∀ i, Frz (g i) (n i) (cap i) (es i) (F i) (F' i))
 (h : TrF P f args st fun d st' => ∃ i, p i ∧ d = F i ∧ st' = .box (g i) el ((es i).flatten ++ zs i) :: S i) : TrF P f args st fun d st' => ∃ i, p i ∧ d = F' i ∧ st' = S i := by
 intro vs w h1 h2
 refine (h vs w h1 h2).mono fun _ w' ⟨v, ev, d, s, k1, k2, k3, i, hi, e1, e2⟩ => ?_
 subst e1 e2
 have he := Ext.drop (st := .box (g i) el ((es i).flatten ++ zs i) :: S i) (st' := S i) (fun _ h => List.mem_cons_of_mem _ h) w'
 exact ⟨v, ev, _, S i, (hF i).rep he (row_rest k2 hsz (hes i hi).1 (hes i hi).2) v k1, k2.sub (List.sublist_cons_self _ _), k3.trans he, i, hi, rfl, rfl⟩
end
section
variable {P : Program} {N : Nat} {r : Option Nat} {A : AA} {st : St} {Q : Exit → AA → St → Prop}
end
end
section
attribute [local push_cast] encB encI encC V.cells_mk V.cells_len Nat.mul_one Int.sub_zero List.map_nil beq_self_eq_true bne_self_eq_false List.head?_cons Bool.not_true Bool.not_false Nat.zero_add
theorem rowC_each (l : List V) : ∀ e ∈ l.map V.cells, e.length = 4 := fun e he => by
 obtain ⟨x, -, rfl⟩ := List.mem_map.1 he
 exact V.cells_len x
theorem cloneVF (o : Own) (l : List V) (hl0 : l ≠ []) (hl : l.length ≤ 1000000) (st : St) : TrF Tryz.prog 52 [.sl o (l.map V.cells)] st fun d st' => ∃ g cap zs, (rowC l ++ zs).length = cap * 4 ∧ d = .ar g 0 l.length cap ∧ st' = .box g 30 (rowC l ++ zs) :: st := by
 have hm : (l.map V.cells).length = l.length := List.length_map ..
 have hpos : 0 < (l.map V.cells).length := by rw [hm]; exact List.length_pos_iff.2 hl0
 have hle : (l.map V.cells).length ≤ 1000000 := by rw [hm]; exact hl
 have h4 := rowC_each l
 have hne : l.map V.cells ≠ [] := fun h => by rw [h] at hpos; exact absurd hpos (Nat.lt_irrefl _)
 unfold rowC
 rw [← hm]
 generalize l.map V.cells = L at *
 clear hl0 hm
 refine Qin [2] Tryz.func52 Tryz.results52 Tryz.ntmps52 ?_
 repeat' (first | refine QV ?_ | ((with_reducible apply s_isNil); (focus exact q_v); (focus exact q_v); intro bn hbn) | with_reducible refine s_appN ?_ | with_reducible refine rn_go ?_ | ((with_reducible apply rn2_go); (focus exact hpos); (focus exact h4); (focus omega); (focus omega); intro g' cap' zs' hc hl') | refine QY ?_ | (refine QB ?_; intro b) | (refine QP ?_; intro o' ho') | (with_reducible refine QZ ?_ <;> (try constructor) <;> intro hb <;> try intro hb1) | fail)
 · exact absurd (hbn hb) hne
 · exact retA_mk (by simp) rfl (List.Sublist.refl _) (LE.of_eq q_v) ⟨g', cap', zs', hl', rfl, rfl⟩
def PassRaw (R : Option (List V)) (st : St) (d : D) (st' : St) : Prop := (R = none ∧ d = .tup [.sl .tight [], .b false] ∧ st' = st) ∨ ∃ e g cap zs, R = some e ∧ d = .tup [.ar g 0 e.length cap, .b true] ∧ st' = .box g 30 (rowC e ++ zs) :: st
theorem Mat.tests_drop {f : Fc} {L : List Ts} {i : Nat} {t : Ts} {e : List V} (h : L[i]? = some t) : Mat.tests f (L.drop i) e = match Mat.test t f e with | some e' => Mat.tests f (L.drop (i + 1)) e' | none => none := by
 rw [V.drop_cons h]; rfl
theorem Mat.test_len {t : Ts} {f : Fc} {env e : List V} (h : Mat.test t f env = some e) : e.length = env.length := by
 unfold Mat.test at h
 repeat' split at h
 all_goals first | (cases h; done) | (cases h; rfl) | (cases h; exact List.length_set ..)
theorem Mat.test_mem {Q : V → Prop} {t : Ts} {f : Fc} {env e : List V} (h : Mat.test t f env = some e) (hf : ∀ x ∈ f.s, Q x) (he : ∀ x ∈ env, Q x) : ∀ x ∈ e, Q x := by
 unfold Mat.test at h
 split at h
 · rename_i hc
   have hx : Q (f.s.getD t.slot.toNat V.zero) := by
    rw [List.getD_eq_getElem?_getD, List.getElem?_eq_getElem q_o]
    exact hf _ (List.getElem_mem _)
   repeat' split at h
   all_goals first | (cases h; done) | (cases h; exact he) | skip
   cases h
   intro x hm
   rcases List.mem_or_eq_of_mem_set hm with hm | rfl
   · exact he x hm
   · exact hx
 · cases h
theorem Mat.tests_len {f : Fc} : ∀ {l : List Ts} {env e : List V}, Mat.tests f l env = some e → e.length = env.length
 | [], _, _, h => by cases h; rfl
 | t :: l, env, e, h => by
  rw [Mat.tests] at h
  cases ht : Mat.test t f env with
  | none => rw [ht] at h; cases h
  | some e' => rw [ht] at h; rw [Mat.tests_len h, Mat.test_len ht]
theorem Mat.tests_mem {Q : V → Prop} {f : Fc} (hf : ∀ x ∈ f.s, Q x) : ∀ {l : List Ts} {env e : List V}, Mat.tests f l env = some e → (∀ x ∈ env, Q x) → ∀ x ∈ e, Q x
 | [], _, _, h, he => by cases h; exact he
 | t :: l, env, e, h, he => by
  rw [Mat.tests] at h
  cases ht : Mat.test t f env with
  | none => rw [ht] at h; cases h
  | some e' => rw [ht] at h; exact Mat.tests_mem hf h (Mat.test_mem ht hf he)
theorem Mat.pass_len {p : Pt} {f : Fc} {env e : List V} (h : Mat.pass p f env = some e) : e.length = 8 := by
 unfold Mat.pass at h
 split at h
 · rename_i hc
   rw [Mat.tests_len h, hc.2]
 · cases h
theorem Mat.pass_mem {Q : V → Prop} {p : Pt} {f : Fc} {env e : List V} (h : Mat.pass p f env = some e) (hf : ∀ x ∈ f.s, Q x) (he : ∀ x ∈ env, Q x) : ∀ x ∈ e, Q x := by
 unfold Mat.pass at h
 split at h
 · exact Mat.tests_mem hf h he
 · cases h
theorem matPassRawF (p : Pt) (f : Fc) (env : List V) (hp : ∀ t ∈ p.tests, t.val.Bg) (hpl : p.tests.length ≤ 1000000) (hf : FK f) (he : ∀ v ∈ env, v.Bg) (hel : env.length ≤ 1000000) (R : Option (List V)) (hR : Mat.pass p f env = R) (o : Own) (st : St) : TrF Tryz.prog 17 [.agg p.cells, .agg f.cells, .sl o (env.map V.cells)] st (PassRaw R st) := by
 have hm : (env.map V.cells).length = env.length := List.length_map ..
 have hT := fun (t : Ts) (e : List V) (ht : t ∈ p.tests) (he : ∀ v ∈ e, v.Bg) (hl : e.length = 8) (g cap : Nat) (zs : List D) (hz : (rowC e ++ zs).length = cap * 4) => matTestF t f e (hp t ht) hf he hl g cap zs hz
 have hN := fun (t : Ts) (e e' : List V) (h : Mat.test t f e = some e') (he : ∀ v ∈ e, v.Bg) => And.intro (Mat.test_len h) (Mat.test_mem h (fun x hx => (hf.v x hx).1.bg) he)
 have hC := cloneVF o env
 unfold Mat.pass at hR
 unfold PassRaw
 by_cases hok : p.tmpl = f.tmpl ∧ env.length = 8
 · rw [if_pos hok] at hR
   obtain ⟨hpf, hl8⟩ := hok
   rw [hl8] at hC hm
   have hC2 := hC (fun h => by rw [h] at hl8; cases hl8) q_o
   clear hC
   obtain ⟨zs0, hzs0⟩ : ∃ zs, (rowC env ++ zs).length = 8 * 4 := ⟨[], by rw [List.append_nil, rowC_len, hl8]⟩
   have hE : Hid (∀ st : St, ∃ (d : D) (st' : St) (g cap : Nat) (zs : List D), (rowC env ++ zs).length = cap * 4 ∧ d = .ar g 0 8 cap ∧ st' = .box g 30 (rowC env ++ zs) :: st) := fun st => ⟨_, _, 0, 8, zs0, hzs0, rfl, rfl⟩
   cases p with
   | mk tmpl neg tests =>
   have HD : Hid (∃ L, L = tests ∧ Mat.tests f (L.drop 0) env = R) := ⟨_, rfl, hR⟩
   have hpm : (tests.map Ts.cells).length = tests.length := List.length_map ..
   have hpc := hMp Ts.cells tests
   have hT2 := Lib.hid hT
   have hN2 := Lib.hid hN
   have he2 := Lib.hid he
   clear hT hN he hp hR hzs0 hf
   unfold Pt.cells
   dsimp only at *
   have hfc : f.cells = [.i f.id, .i f.time, .i f.tmpl, .i f.ver, .sl .shared (f.s.map V.cells)] := rfl
   have hT3 : Hid (∀ (t : Ts) (e : List V), t ∈ tests → (∀ v ∈ e, v.Bg) → e.length = 8 → ∀ (g cap : Nat) (zs : List D), (rowC e ++ zs).length = cap * 4 → ∀ st, TrF Tryz.prog 53 [.agg t.cells, .agg [.i f.id, .i f.time, .i f.tmpl, .i f.ver, .sl .shared (f.s.map V.cells)], .ar g 0 8 cap] (.box g 30 (rowC e ++ zs) :: st) fun d st' => d = .b (Mat.test t f e).isSome ∧ st' = .box g 30 (rowC ((Mat.test t f e).getD e) ++ zs) :: st) := by rw [← hfc]; exact hT2.out
   rw [hfc]
   clear hT2 hfc
   rw [hpf]
   clear hpf
   generalize f.id = f0 at *
   generalize f.time = f1 at *
   generalize f.tmpl = f2 at *
   generalize f.ver = f3 at *
   generalize f.s.map V.cells = FS at *
   generalize tests.map Ts.cells = TS at *
   replace hC2 := Lib.hid hC2
   generalize hEC : env.map V.cells = EC at *
   refine Qin [6,7] Tryz.func17 Tryz.results17 Tryz.ntmps17 ?_
   repeat' (first | refine QX ?_ | (refine QB ?_; intro b) | (refine QP ?_; intro o' ho') | (with_reducible refine QZ ?_ <;> (try constructor) <;> intro hb <;> try intro hb1) | ((with_reducible apply (ck_gen Tryz.call52)); (focus exact List.Perm.refl _); (focus exact hC2.out _); (focus exact LEL.refl _); (focus exact hE.out _); (rintro d st' ⟨g, cap, zs, hz, rfl, rfl⟩)) | fail)
   refine tr_loopd (ι := Nat) (fun i A st' => i ≤ tests.length ∧ A.df = [] ∧ A.e 4 = .ip [.i f0, .i f1, .i f2, .i f3, .sl .shared FS] ∧ A.e 8 = .ar g 0 8 cap ∧ A.e 24 = .sl .shared TS ∧ A.e 25 = .i tests.length ∧ A.e 26 = .i i ∧ ∃ e : List V, Hid (Mat.tests f (tests.drop i) e = R) ∧ Hid (e.length = 8) ∧ Hid (∀ v ∈ e, v.Bg) ∧ (rowC e ++ zs).length = cap * 4 ∧ st' = .box g 30 (rowC e ++ zs) :: st) (fun i => tests.length - i) 0 ⟨Nat.zero_le _, Qf, Qf, Qf, Qf, Qf, Qf, env, ?_, hl8, he2.out, hz, rfl⟩ ?_
   · obtain ⟨L, rfl, h⟩ := HD.out
     exact h
   rintro i A st' ⟨hi, hdf, e4, e8, e24, e25, e26, e, HT, hel8, heB, hz', rfl⟩
   clear HD hC2 hE hz
   by_cases hlt : i < tests.length
   · obtain ⟨t, ht⟩ := gEx hlt
     have htc := hpc.out i t ht
     have hTT := hT3.out t e (List.mem_of_getElem? ht) heB.out hel8.out g cap zs hz'
     have HE := HT.out
     rw [Mat.tests_drop ht] at HE
     have hNN := hN2.out t e
     clear HT hT3 hN2 hpc ht
     cases hq : Mat.test t f e with
     | none =>
      rw [hq] at HE hTT
      dsimp only [Option.isSome, Option.getD] at hTT HE
      subst HE
      clear hNN hq
      cases t with
      | mk kind slot var val =>
      cases val with
      | mk k n s l =>
      rw [Ts.cells_mk] at *
      generalize l.map V.cells = VL at *
      generalize rowC e ++ zs = RR at *
      replace hTT := Lib.hid hTT
      repeat' (first | refine QX ?_ | (refine QB ?_; intro b) | (refine QP ?_; intro o' ho') | (with_reducible refine QZ ?_ <;> (try constructor) <;> intro hb <;> try intro hb1) | fail)
      all_goals exact retA_mk (by simp) q_y q_t (LE.of_eq q_v) (.inl ⟨rfl, rfl, rfl⟩)
     | some e' =>
      rw [hq] at HE hTT
      dsimp only [Option.isSome, Option.getD] at hTT HE
      obtain ⟨q1, q2⟩ := hNN e' hq heB.out
      have hz2 : (rowC e' ++ zs).length = cap * 4 := by
       rw [List.length_append, rowC_len, q1, ← rowC_len, ← List.length_append]; exact hz'
      have hl2 : Hid (e'.length = 8) := q1.trans hel8.out
      replace q2 := Lib.hid q2
      replace HE := Lib.hid HE
      clear hNN hq q1 heB hel8
      cases t with
      | mk kind slot var val =>
      cases val with
      | mk k n s l =>
      rw [Ts.cells_mk] at *
      generalize l.map V.cells = VL at *
      generalize hR2 : rowC e' ++ zs = RR2 at *
      generalize rowC e ++ zs = RR at *
      replace hTT := Lib.hid hTT
      repeat' (first | refine QX ?_ | (refine QB ?_; intro b) | (refine QP ?_; intro o' ho') | (with_reducible refine QZ ?_ <;> (try constructor) <;> intro hb <;> try intro hb1) | fail)
      refine ⟨i + 1, .box g 30 RR2 :: st, q_t, ⟨hlt, ?_, ?_, ?_, ?_, ?_, ?_, e', HE, hl2, q2, by rw [hR2]; exact hz2, by rw [hR2]⟩, by omega⟩
      all_goals exact Qf
   · have HE := HT.out
     rw [List.drop_of_length_le q_o, Mat.tests] at HE
     subst HE
     clear HT hT3 hN2 hpc
     generalize hR2 : rowC e ++ zs = RR at *
     repeat' (first | refine QX ?_ | (refine QB ?_; intro b) | (refine QP ?_; intro o' ho') | (with_reducible refine QZ ?_ <;> (try constructor) <;> intro hb <;> try intro hb1) | fail)
     all_goals exact retA_mk (by simp) q_y (List.Sublist.refl _) (LE.refl _) (.inr ⟨e, g, cap, zs, rfl, by rw [hel8.out]; (try simp (disch := omega) only [push_cast, simprocAttr, *]); (try exact rfl); done, by rw [hR2]⟩)
 · rw [if_neg hok] at hR
   subst hR
   clear hT hN hC hp hf he
   have hmm : (p.tests.map Ts.cells).length = p.tests.length := List.length_map ..
   unfold Pt.cells Fc.cells
   generalize p.tests.map Ts.cells = TS at *
   generalize f.s.map V.cells = FS at *
   generalize env.map V.cells = EC at *
   generalize p.tmpl = a at *
   generalize f.tmpl = b at *
   generalize env.length = n at *
   by_cases hab : a = b
   · have hn : ¬ (n : Int) = 8 := fun h => hok ⟨hab, by omega⟩
     refine Qin [6,7] Tryz.func17 Tryz.results17 Tryz.ntmps17 ?_
     repeat' (first | refine QX ?_ | (refine QB ?_; intro b) | (refine QP ?_; intro o' ho') | (with_reducible refine QZ ?_ <;> (try constructor) <;> intro hb <;> try intro hb1) | fail)
     all_goals exact retA_mk (by simp) q_y q_t (LE.of_eq q_v) (.inl ⟨rfl, rfl, rfl⟩)
   · refine Qin [6,7] Tryz.func17 Tryz.results17 Tryz.ntmps17 ?_
     repeat' (first | refine QX ?_ | (refine QB ?_; intro b) | (refine QP ?_; intro o' ho') | (with_reducible refine QZ ?_ <;> (try constructor) <;> intro hb <;> try intro hb1) | fail)
     all_goals exact retA_mk (by simp) q_y q_t (LE.of_eq q_v) (.inl ⟨rfl, rfl, rfl⟩)
end
section
attribute [local push_cast] encB encI encC V.cells_mk V.cells_len Nat.mul_one Int.sub_zero List.map_nil beq_self_eq_true bne_self_eq_false List.head?_cons Bool.not_true Bool.not_false Nat.zero_add
set_option maxHeartbeats 16000000
theorem refPass18RawF (p : Pt) (f : Fc) (env : List V) (hpl : p.tests.length ≤ 1000000) (hf : FK f) (hel : env.length ≤ 1000000) (R : Option (List V)) (hR : Mat.pass p f env = R) (o : Own) (st : St) : TrF Tryz.prog 18 [.agg p.cells, .agg f.cells, .sl o (env.map V.cells)] st (PassRaw R st) := by
 have hm : (env.map V.cells).length = env.length := List.length_map ..
 have hH := fun (k : Int) (x y : V) (hx : x ∈ f.s) => refHolds18F k x y (hf.v x hx).1
 have hfl := hf.l
 have h4 := rowC_each env
 have hflat : (env.map V.cells).flatten = rowC env := rfl
 unfold Mat.pass at hR
 unfold PassRaw
 by_cases hok : p.tmpl = f.tmpl ∧ env.length = 8
 · rw [if_pos hok] at hR
   obtain ⟨hpf, hl8⟩ := hok
   rw [hl8] at hm
   have hfm : (f.s.map V.cells).length = f.s.length := List.length_map ..
   have hfx := hMp V.cells f.s
   cases p with
   | mk tmpl neg tests =>
   have HD : Hid (∃ L, L = tests ∧ Mat.tests f (L.drop 0) env = R) := ⟨_, rfl, hR⟩
   have hpm : (tests.map Ts.cells).length = tests.length := List.length_map ..
   have hpc := hMp Ts.cells tests
   have hH2 := Lib.hid hH
   clear hH hR hf
   unfold Pt.cells
   dsimp only at *
   rw [show f.cells = [.i f.id, .i f.time, .i f.tmpl, .i f.ver, .sl .shared (f.s.map V.cells)] from rfl, hpf]
   clear hpf
   generalize f.id = f0 at *
   generalize f.time = f1 at *
   generalize f.tmpl = f2 at *
   generalize f.ver = f3 at *
   generalize f.s.map V.cells = FS at *
   generalize tests.map Ts.cells = TS at *
   generalize env.map V.cells = EC at *
   refine Qin [6,7] Tryz.func18 Tryz.results18 Tryz.ntmps18 ?_
   repeat' (first | refine QV ?_ | with_reducible refine s_appN ?_ | with_reducible refine rn_go ?_ | ((with_reducible apply rn2_go); (focus omega); (focus exact h4); (focus omega); (focus omega); intro g cap zs hc hz) | refine QY ?_ | (refine QB ?_; intro b) | (refine QP ?_; intro o' ho') | (with_reducible refine QZ ?_ <;> (try constructor) <;> intro hb <;> try intro hb1) | fail)
   rw [hflat] at *
   refine tr_loopd (ι := Nat) (fun i A st' => i ≤ tests.length ∧ A.df = [] ∧ A.e 3 = .ip [.i f2, .b neg, .sl .shared TS] ∧ A.e 4 = .ip [.i f0, .i f1, .i f2, .i f3, .sl .shared FS] ∧ A.e 8 = .ar g 0 8 cap ∧ A.e 9 = .i i ∧ ∃ e : List V, Hid (Mat.tests f (tests.drop i) e = R) ∧ e.length = 8 ∧ (rowC e ++ zs).length = cap * 4 ∧ st' = .box g 30 (rowC e ++ zs) :: st) (fun i => tests.length - i) 0 ⟨Nat.zero_le _, Qf, Qf, Qf, Qf, Qf, env, ?_, hl8, hz, by rw [hflat]⟩ ?_
   · obtain ⟨L, rfl, h⟩ := HD.out
     exact h
   rintro i A st' ⟨hi, hdf, e3, e4, e8, e9, e, HT, hel8, hz', rfl⟩
   clear HD hz h4 hflat hl8
   by_cases hlt : i < tests.length
   · obtain ⟨t, ht⟩ := gEx hlt
     have htc := hpc.out i t ht
     have HE := HT.out
     rw [Mat.tests_drop ht] at HE
     clear HT hpc ht
     by_cases hok : 0 ≤ t.slot ∧ t.slot < f.s.length ∧ 0 ≤ t.var ∧ t.var < e.length ∧ 1 ≤ t.kind ∧ t.kind ≤ 9
     · obtain ⟨h1, h2, h3, h4, h5, h6⟩ := hok
       obtain ⟨si, hsi⟩ : ∃ i : Nat, t.slot = i := ⟨t.slot.toNat, by omega⟩
       obtain ⟨v, hv⟩ : ∃ v : Nat, t.var = v := ⟨t.var.toNat, by omega⟩
       obtain ⟨x, hx⟩ := gEx (l := f.s) (i := si) q_o
       obtain ⟨y, hy⟩ := gEx (l := e) (i := v) q_o
       rw [Mat.test_good hsi hv hx hy h5 h6] at HE
       have hxc := hfx.out si x hx
       have hil := (List.getElem?_eq_some_iff.1 hx).1
       have hvl : v < 8 := by omega
       have hrd := rowC_at zs hy
       have hset := rowC_set (u := x) zs (show v < e.length by omega)
       have hdl : 4 ≤ (List.drop (v * 4) (rowC e ++ zs)).length := by
        rw [List.length_drop, List.length_append, rowC_len]; omega
       have hcap : v * 4 + 4 ≤ (rowC e ++ zs).length := by rw [List.length_append, rowC_len]; omega
       have hz2 : (rowC (e.set v x) ++ zs).length = cap * 4 := by
        rw [List.length_append, rowC_len, List.length_set, ← rowC_len, ← List.length_append]; exact hz'
       have hl2 : (e.set v x).length = 8 := by rw [List.length_set]; exact hel8
       have hH3 := hH2.out t.kind x t.val (List.mem_of_getElem? hx)
       have hH4 := hH2.out (t.kind - 5) x y (List.mem_of_getElem? hx)
       clear hH2 hfx hx hy h1 h2 h3 h4
       cases t with
       | mk kind slot var val =>
       dsimp only at *
       subst hsi hv
       generalize Mat.holds kind x val = q1 at *
       generalize Mat.holds (kind - 5) x y = q2 at *
       generalize e.set v x = e' at *
       cases val with
       | mk k3 n3 s3 l3 =>
       cases x with
       | mk k1 n1 s1 l1 =>
       cases y with
       | mk k2 n2 s2 l2 =>
       rw [Ts.cells_mk] at *
       simp only [V.cells_mk] at *
       generalize l1.map V.cells = L1 at *
       generalize l2.map V.cells = L2 at *
       generalize l3.map V.cells = L3 at *
       by_cases e5 : kind = 5
       · subst e5
         rw [if_pos rfl] at HE
         dsimp only at HE
         replace HE := Lib.hid HE
         clear hH3 hH4
         generalize hR2 : rowC e' ++ zs = R2 at *
         generalize rowC e ++ zs = RR at *
         repeat' (first | with_reducible refine s_boxP ?_ | refine QX ?_ | (refine QB ?_; intro b) | (refine QP ?_; intro o' ho') | (with_reducible refine QZ ?_ <;> (try constructor) <;> intro hb <;> try intro hb1) | fail)
         refine ⟨i + 1, .box g 30 R2 :: st, q_t, ⟨hlt, ?_, ?_, ?_, ?_, ?_, e', HE, hl2, by rw [hR2]; exact hz2, by rw [hR2]⟩, by omega⟩
         all_goals exact Qf
       · rw [if_neg e5] at HE
         clear hset hz2 hl2
         by_cases e4' : kind < 5
         · rw [if_pos e4'] at HE
           replace hH3 := Lib.hid hH3
           clear hH4 hrd
           cases q1 with
           | false =>
            rw [if_neg Bool.false_ne_true] at HE
            dsimp only at HE
            subst HE
            generalize rowC e ++ zs = RR at *
            repeat' (first | refine QV ?_ | with_reducible refine s_boxP ?_ | ((with_reducible refine QW ?_); intro hne; simp only [nes, ne1, and_assoc] at hne; repeat (have hq := hne.1; replace hne := hne.2)) | refine QY ?_ | (refine QB ?_; intro b) | (refine QP ?_; intro o' ho') | (with_reducible refine QZ ?_ <;> (try constructor) <;> intro hb <;> try intro hb1) | refine Qc Tryz.call54 ((hH3.out _)) ?_ | fail)
            all_goals exact retA_mk (by simp) q_y q_t (LE.of_eq q_v) (.inl ⟨rfl, rfl, rfl⟩)
           | true =>
            rw [if_pos rfl] at HE
            dsimp only at HE
            replace HE := Lib.hid HE
            generalize hR2 : rowC e ++ zs = RR at *
            repeat' (first | refine QV ?_ | with_reducible refine s_boxP ?_ | ((with_reducible refine QW ?_); intro hne; simp only [nes, ne1, and_assoc] at hne; repeat (have hq := hne.1; replace hne := hne.2)) | refine QY ?_ | (refine QB ?_; intro b) | (refine QP ?_; intro o' ho') | (with_reducible refine QZ ?_ <;> (try constructor) <;> intro hb <;> try intro hb1) | refine Qc Tryz.call54 ((hH3.out _)) ?_ | fail)
            refine ⟨i + 1, .box g 30 RR :: st, q_t, ⟨hlt, ?_, ?_, ?_, ?_, ?_, e, HE, hel8, by rw [hR2]; exact hz', by rw [hR2]⟩, by omega⟩
            all_goals exact Qf
         · rw [if_neg e4'] at HE
           replace hH4 := Lib.hid hH4
           clear hH3
           cases q2 with
           | false =>
            rw [if_neg Bool.false_ne_true] at HE
            dsimp only at HE
            subst HE
            generalize rowC e ++ zs = RR at *
            repeat' (first | refine QV ?_ | with_reducible refine s_boxP ?_ | ((with_reducible refine QW ?_); intro hne; simp only [nes, ne1, and_assoc] at hne; repeat (have hq := hne.1; replace hne := hne.2)) | refine QY ?_ | (refine QB ?_; intro b) | (refine QP ?_; intro o' ho') | (with_reducible refine QZ ?_ <;> (try constructor) <;> intro hb <;> try intro hb1) | refine Qc Tryz.call54 ((hH4.out _)) ?_ | fail)
            all_goals exact retA_mk (by simp) q_y q_t (LE.of_eq q_v) (.inl ⟨rfl, rfl, rfl⟩)
           | true =>
            rw [if_pos rfl] at HE
            dsimp only at HE
            replace HE := Lib.hid HE
            generalize hR2 : rowC e ++ zs = RR at *
            repeat' (first | refine QV ?_ | with_reducible refine s_boxP ?_ | ((with_reducible refine QW ?_); intro hne; simp only [nes, ne1, and_assoc] at hne; repeat (have hq := hne.1; replace hne := hne.2)) | refine QY ?_ | (refine QB ?_; intro b) | (refine QP ?_; intro o' ho') | (with_reducible refine QZ ?_ <;> (try constructor) <;> intro hb <;> try intro hb1) | refine Qc Tryz.call54 ((hH4.out _)) ?_ | fail)
            refine ⟨i + 1, .box g 30 RR :: st, q_t, ⟨hlt, ?_, ?_, ?_, ?_, ?_, e, HE, hel8, by rw [hR2]; exact hz', by rw [hR2]⟩, by omega⟩
            all_goals exact Qf
     · rw [Mat.test_bad hok] at HE
       dsimp only at HE
       subst HE
       clear hH2 hfx
       rw [hel8] at hok
       cases t with
       | mk kind slot var val =>
       cases val with
       | mk k3 n3 s3 l3 =>
       dsimp only at hok
       rw [Ts.cells_mk] at *
       generalize l3.map V.cells = L3 at *
       generalize rowC e ++ zs = RR at *
       repeat' (first | with_reducible refine s_boxP ?_ | refine QX ?_ | (refine QB ?_; intro b) | (refine QP ?_; intro o' ho') | (with_reducible refine QZ ?_ <;> (try constructor) <;> intro hb <;> try intro hb1) | fail)
       all_goals exact retA_mk (by simp) q_y q_t (LE.of_eq q_v) (.inl ⟨rfl, rfl, rfl⟩)
   · have HE := HT.out
     rw [List.drop_of_length_le q_o, Mat.tests] at HE
     subst HE
     clear HT hH2 hpc hfx
     generalize hR2 : rowC e ++ zs = RR at *
     repeat' (first | refine QX ?_ | (refine QB ?_; intro b) | (refine QP ?_; intro o' ho') | (with_reducible refine QZ ?_ <;> (try constructor) <;> intro hb <;> try intro hb1) | fail)
     all_goals exact retA_mk (by simp) q_y (List.Sublist.refl _) (LE.refl _) (.inr ⟨e, g, cap, zs, rfl, by rw [hel8]; (try simp (disch := omega) only [push_cast, simprocAttr, *]); (try exact rfl); done, by rw [hR2]⟩)
 · rw [if_neg hok] at hR
   subst hR
   clear hH hf h4 hflat
   have hmm : (p.tests.map Ts.cells).length = p.tests.length := List.length_map ..
   unfold Pt.cells Fc.cells
   generalize p.tests.map Ts.cells = TS at *
   generalize f.s.map V.cells = FS at *
   generalize env.map V.cells = EC at *
   generalize p.tmpl = a at *
   generalize f.tmpl = b at *
   generalize env.length = n at *
   by_cases hab : a = b
   · have hn : ¬ (n : Int) = 8 := fun h => hok ⟨hab, by omega⟩
     refine Qin [6,7] Tryz.func18 Tryz.results18 Tryz.ntmps18 ?_
     repeat' (first | refine QX ?_ | (refine QB ?_; intro b) | (refine QP ?_; intro o' ho') | (with_reducible refine QZ ?_ <;> (try constructor) <;> intro hb <;> try intro hb1) | fail)
     all_goals exact retA_mk (by simp) q_y q_t (LE.of_eq q_v) (.inl ⟨rfl, rfl, rfl⟩)
   · have hab2 : ¬ b = a := fun h => hab h.symm
     refine Qin [6,7] Tryz.func18 Tryz.results18 Tryz.ntmps18 ?_
     repeat' (first | refine QX ?_ | (refine QB ?_; intro b) | (refine QP ?_; intro o' ho') | (with_reducible refine QZ ?_ <;> (try constructor) <;> intro hb <;> try intro hb1) | fail)
     all_goals exact retA_mk (by simp) q_y q_t (LE.of_eq q_v) (.inl ⟨rfl, rfl, rfl⟩)
def passD : Option (List V) → D
 | some e => .tup [.sl .shared (e.map V.cells), .b true]
 | none => .tup [.sl .tight [], .b false]
theorem passRest {fn : FuncId} {args : List D} {R : Option (List V)} {st : St} (h : TrF Tryz.prog fn args st (PassRaw R st)) : TrF Tryz.prog fn args st fun d st' => d = passD R ∧ st' = st := by
 unfold PassRaw at h
 cases R with
 | none =>
  refine h.mono fun d st' h => ?_
  rcases h with ⟨-, h1, h2⟩ | ⟨e, g, cap, zs, h, -⟩
  · exact ⟨h1, h2⟩
  · cases h
 | some F =>
  have h' := TrF.rest (ι := Nat × Nat × List D) (el := 30) (p := fun i : Nat × Nat × List D => True) (g := fun i => i.1) (n := fun _ => F.length) (cap := fun i => i.2.1) (es := fun _ => F.map V.cells) (F := fun i => .tup [.ar i.1 0 F.length i.2.1, .b true]) (zs := fun i => i.2.2) (S := fun _ => st) (F' := fun _ => .tup [.sl .shared (F.map V.cells), .b true]) (sz := 4) (by decide) (fun i _ => ⟨rowC_each F, List.length_map ..⟩) (fun i => .tup _ _ (.cons _ _ _ _ .ar (.cons _ _ _ _ (.same _) .nil))) (h.mono fun d st' h => by
   rcases h with ⟨h, -⟩ | ⟨e, g, cap, zs, h, h2, h3⟩
   · cases h
   · cases h
     exact ⟨(g, cap, zs), trivial, h2, h3⟩)
  exact h'.mono fun d st' ⟨i, k1, k2, k3⟩ => ⟨k2, k3⟩
theorem matPassF (p : Pt) (f : Fc) (env : List V) (hp : ∀ t ∈ p.tests, t.val.Bg) (hpl : p.tests.length ≤ 1000000) (hf : FK f) (he : ∀ v ∈ env, v.Bg) (hel : env.length ≤ 1000000) (o : Own) (st : St) : TrF Tryz.prog 17 [.agg p.cells, .agg f.cells, .sl o (env.map V.cells)] st fun d st' => d = passD (Mat.pass p f env) ∧ st' = st := passRest (matPassRawF p f env hp hpl hf he hel _ rfl o st)
theorem refPass18F (p : Pt) (f : Fc) (env : List V) (hpl : p.tests.length ≤ 1000000) (hf : FK f) (hel : env.length ≤ 1000000) (o : Own) (st : St) : TrF Tryz.prog 18 [.agg p.cells, .agg f.cells, .sl o (env.map V.cells)] st fun d st' => d = passD (Mat.pass p f env) ∧ st' = st := passRest (refPass18RawF p f env hpl hf hel _ rfl o st)
end
section
attribute [local push_cast] encB encI encC V.cells_mk V.cells_len Nat.mul_one Int.sub_zero List.map_nil beq_self_eq_true bne_self_eq_false List.head?_cons Bool.not_true Bool.not_false Nat.zero_add
def encP (x : Int × List V) : List D := [.i x.1, .sl .shared (x.2.map V.cells)]
structure FKs (F : List Fc) : Prop where
 f : ∀ f ∈ F, FK f
 l : F.length ≤ 1000000
structure PK (p : Pt) : Prop where
 v : ∀ t ∈ p.tests, t.val.Bg
 l : p.tests.length ≤ 1000000
structure EK (e : List V) : Prop where
 v : ∀ v ∈ e, v.Bg
 l : e.length ≤ 1000000
def passCaps (p : Pt) (F : List Fc) (env : List V) : List D := [.ip [.sl .shared (F.map Fc.cells)], .ip p.cells, .ip [.sl .shared (env.map V.cells)]]
theorem matPassingF (p : Pt) (F : List Fc) (env : List V) (st : St) : TrF Tryz.prog 91 [.agg p.cells, .sl .shared (F.map Fc.cells), .sl .shared (env.map V.cells)] st fun d st' => d = .fn (.func 128) [] (passCaps p F env) ∧ st' = st := by
 unfold passCaps Pt.cells
 generalize p.tests.map Ts.cells = TS at *
 generalize F.map Fc.cells = FS at *
 generalize env.map V.cells = EC at *
 refine Qin [6] Tryz.func91 Tryz.results91 Tryz.ntmps91 ?_
 exact WR
theorem Mat.passL_drop {p : Pt} {F : List Fc} {env : List V} {i : Nat} {f : Fc} (h : F[i]? = some f) : Mat.passL p (F.drop i) env = match Mat.pass p f env with | some e => (f.id, e) :: Mat.passL p (F.drop (i + 1)) env | none => Mat.passL p (F.drop (i + 1)) env := by
 rw [V.drop_cons h]
 unfold Mat.passL
 cases hp : Mat.pass p f env with
 | none => rw [List.filterMap_cons_none (by rw [hp]; rfl)]
 | some e => rw [List.filterMap_cons_some (by rw [hp]; rfl)]
theorem passIter (p : Pt) (F : List Fc) (env : List V) (hp : PK p) (hF : FKs F) (he : EK env) : IterC Tryz.prog 128 (passCaps p F env) encP (Mat.passL p F env) [] (fun K => K = []) (fun _ K => K = []) := by
 intro l C J Jx hY hJ
 have hP := fun (f : Fc) (hf : f ∈ F) => matPassF p f env hp.v hp.l (hF.f f hf) he.v he.l .shared
 have hfl := hF.l
 have hFm : (F.map Fc.cells).length = F.length := List.length_map ..
 have hFc := hMp Fc.cells F
 obtain ⟨L, hL⟩ : ∃ L, Mat.passL p F env = L := ⟨_, rfl⟩
 have HD : Hid (Mat.passL p (F.drop 0) env = L.drop 0) := hL
 rw [hL] at hY ⊢
 have HY := Lib.hid hY
 have HJ := Lib.hid hJ
 have hP2 := Lib.hid hP
 clear hY hJ hL hP hp hF he
 obtain ⟨R, hR⟩ : ∃ R : Fc → Option (List V), R = fun f => Mat.pass p f env := ⟨_, rfl⟩
 have hdrop : Hid (∀ (i j : Nat) (f : Fc), F[i]? = some f → Mat.passL p (F.drop i) env = L.drop j → match R f with | some e => (f.id, e) :: Mat.passL p (F.drop (i + 1)) env = L.drop j | none => Mat.passL p (F.drop (i + 1)) env = L.drop j) := fun i j f h1 h2 => by
  rw [Mat.passL_drop h1] at h2
  rw [hR]
  dsimp only
  cases hq : Mat.pass p f env <;> rw [hq] at h2 <;> exact h2
 have hP3 : Hid (∀ (f : Fc), f ∈ F → ∀ st, TrF Tryz.prog 17 [.agg p.cells, .agg f.cells, .sl .shared (env.map V.cells)] st fun d st' => d = passD (R f) ∧ st' = st) := fun f hf st => by rw [hR]; exact hP2.out f hf st
 obtain ⟨PL, hPL⟩ : ∃ PL : Nat → List (Int × List V), PL = fun i => Mat.passL p (F.drop i) env := ⟨_, rfl⟩
 have HD2 : Hid (PL 0 = L.drop 0) := by rw [hPL]; exact HD.out
 have hdrop2 : Hid (∀ (i j : Nat) (f : Fc), F[i]? = some f → PL i = L.drop j → match R f with | some e => (f.id, e) :: PL (i + 1) = L.drop j | none => PL (i + 1) = L.drop j) := by rw [hPL]; exact hdrop.out
 have hend : Hid (PL F.length = []) := by rw [hPL]; dsimp only; rw [List.drop_length]; rfl
 clear hP2 HD hdrop hPL hR
 unfold passCaps Pt.cells at *
 generalize p.tests.map Ts.cells = TS at *
 generalize F.map Fc.cells = FS at *
 generalize env.map V.cells = EC at *
 generalize p.tmpl = p0 at *
 generalize p.neg = p1 at *
 refine Qin [] Tryz.func128 Tryz.results128 Tryz.ntmps128 ?_
 refine tr_perm (st' := C) (.refl _) ?_
 repeat' (first | refine QX ?_ | (refine QB ?_; intro b) | (with_reducible refine QZ ?_ <;> (try constructor) <;> intro hb <;> try intro hb1) | fail)
 refine tr_loopd (ι := Nat) (fun i A st' => ∃ j C', i ≤ F.length ∧ Hid (PL i = L.drop j) ∧ j ≤ L.length ∧ Hid (J j C') ∧ A.df = [] ∧ A.e 0 = .fn (.yield l) [] [] ∧ A.e 2 = .ip [.i p0, .b p1, .sl .shared TS] ∧ A.e 3 = .ip [.sl .shared EC] ∧ A.e 9 = .sl .shared FS ∧ A.e 10 = .i F.length ∧ A.e 11 = .i i ∧ st' = C') (fun i => F.length - i) 0 ⟨0, C, Nat.zero_le _, HD2, Nat.zero_le _, HJ, Qf, Qf, Qf, Qf, Qf, Qf, Qf, rfl⟩ ?_
 clear HJ HD2
 rintro i A st' ⟨j, C', hi, HT, hj, HJ, hdf, e0, e2, e3, e9, e10, e11, rfl⟩
 by_cases hlt : i < F.length
 · obtain ⟨f, hf⟩ := gEx hlt
   have hfc := hFc.out i f hf
   have hPf := hP3.out f (List.mem_of_getElem? hf)
   have hd := hdrop2.out i j f hf HT.out
   clear hP3 hdrop2 hFc hf HT
   rw [show f.cells = [.i f.id, .i f.time, .i f.tmpl, .i f.ver, .sl .shared (f.s.map V.cells)] from rfl] at *
   generalize f.id = f0 at *
   generalize f.time = f1 at *
   generalize f.tmpl = f2 at *
   generalize f.ver = f3 at *
   generalize f.s.map V.cells = VS at *
   cases hq : R f with
   | none =>
    rw [hq] at hPf hd
    dsimp only [passD] at hPf hd
    replace hPf := Lib.hid hPf
    replace hd := Lib.hid hd
    clear hq
    repeat' (first | with_reducible refine s_boxP ?_ | refine QX ?_ | (refine QB ?_; intro b) | (with_reducible refine QZ ?_ <;> (try constructor) <;> intro hb <;> try intro hb1) | fail)
    refine ⟨i + 1, st', q_t, ⟨j, st', hlt, hd, hj, HJ, ?_, ?_, ?_, ?_, ?_, ?_, ?_, rfl⟩, by omega⟩
    all_goals exact Qf
   | some e =>
    rw [hq] at hPf hd
    dsimp only [passD] at hPf hd
    have hx : L[j]? = some (f0, e) := by
     have h1 : (L.drop j)[0]? = some (f0, e) := by rw [← hd]; rfl
     rwa [List.getElem?_drop, Nat.add_zero] at h1
    have hd2 : Hid (PL (i + 1) = L.drop (j + 1)) := by
     rw [← List.drop_drop, ← hd]; rfl
    have hj2 := (List.getElem?_eq_some_iff.1 hx).1
    replace hPf := Lib.hid hPf
    have hxc : encP (f0, e) = [.i f0, .sl .shared (e.map V.cells)] := rfl
    clear hq hd
    repeat' (first | refine QV ?_ | with_reducible refine s_boxP ?_ | ((with_reducible apply (s_yield HY.out HJ.out hx)); (focus exact q_v); (focus exact q_v); (focus exact q_l); (focus (repeat (first | exact tl_nil | apply tl_cons)); done); all_goals (intro C' hC')) | refine QY ?_ | (refine QB ?_; intro b) | (with_reducible refine QZ ?_ <;> (try constructor) <;> intro hb <;> try intro hb1) | fail)
    rotate_left
    · exact retA_mk q_x q_y q_u (LE.refl _) ⟨[], C', rfl, .inr ⟨_, rfl, hC'⟩⟩
    refine ⟨i + 1, C', q_t, ⟨j + 1, C', hlt, hd2, hj2, Lib.hid hC', ?_, ?_, ?_, ?_, ?_, ?_, ?_, rfl⟩, by omega⟩
    all_goals exact Qf
 · have hil : i = F.length := by omega
   subst hil
   have hjL : L.drop j = [] := by rw [← HT.out]; exact hend.out
   have hj3 : j = L.length := by
    have := congrArg List.length hjL
    rw [List.length_drop] at this
    simp at this; omega
   subst hj3
   clear HY hP3 hdrop2 hFc HT hjL hend
   repeat' (first | refine QX ?_ | (refine QB ?_; intro b) | (with_reducible refine QZ ?_ <;> (try constructor) <;> intro hb <;> try intro hb1) | fail)
   exact retA_mk q_x q_y q_u (LE.refl _) ⟨[], st', rfl, .inl ⟨rfl, HJ.out⟩⟩
end
section
attribute [local push_cast] encB encI encC Nat.mul_one Int.sub_zero List.map_nil beq_self_eq_true bne_self_eq_false List.head?_cons Bool.not_true Bool.not_false Nat.zero_add
namespace Mat
theorem cmpI_drop {a b : List Int} {i : Nat} {x y : Int} (h1 : a[i]? = some x) (h2 : b[i]? = some y) : cmpI (a.drop i) (b.drop i) = if V.sgn x y ≠ 0 then V.sgn x y else cmpI (a.drop (i + 1)) (b.drop (i + 1)) := by
 rw [V.drop_cons h1, V.drop_cons h2, cmpI]
theorem cmpI_right {a b : List Int} {i : Nat} {x : Int} (h1 : a[i]? = some x) (h2 : b.length ≤ i) : cmpI (a.drop i) (b.drop i) = 1 := by
 rw [V.drop_cons h1, List.drop_of_length_le h2]; rfl
theorem cmpI_left {a b : List Int} {i : Nat} {y : Int} (h1 : a.length ≤ i) (h2 : b[i]? = some y) : cmpI (a.drop i) (b.drop i) = -1 := by
 rw [List.drop_of_length_le h1, V.drop_cons h2]; rfl
theorem cmpI_both {a b : List Int} {i : Nat} (h1 : a.length ≤ i) (h2 : b.length ≤ i) : cmpI (a.drop i) (b.drop i) = 0 := by
 rw [List.drop_of_length_le h1, List.drop_of_length_le h2]; rfl
theorem ord_ors (a b : Mt) : ord a b = V.ors [V.sgn a.rule b.rule, cmpI a.ids b.ids] := by
 unfold ord
 by_cases h : V.sgn a.rule b.rule = 0
 · rw [if_neg (by simpa using h), h, V.ors_zero, V.ors_one]
 · rw [if_pos h, V.ors_cons h]
end Mat
theorem slicesCmpF (o o' : Own) (a b : List Int) (ha : a.length ≤ 1000000) (hb0 : b.length ≤ 1000000) (st : St) : TrF Tryz.prog 95 [.sl o (a.map encI), .sl o' (b.map encI)] st fun d st' => d = .i (Mat.cmpI a b) ∧ st' = st := by
 have hma : (a.map encI).length = a.length := List.length_map ..
 have hmb : (b.map encI).length = b.length := List.length_map ..
 have hca : Hid (∀ (i : Nat) (v : Int), a[i]? = some v → (a.map encI)[i]? = some [.i v]) := fun i v h => by rw [List.getElem?_map, h]; rfl
 have hcb : Hid (∀ (i : Nat) (v : Int), b[i]? = some v → (b.map encI)[i]? = some [.i v]) := fun i v h => by rw [List.getElem?_map, h]; rfl
 obtain ⟨R, hR⟩ : ∃ R, Mat.cmpI a b = R := ⟨_, rfl⟩
 have HR : Hid (Mat.cmpI (a.drop 0) (b.drop 0) = R) := hR
 rw [hR]
 clear hR
 generalize a.map encI = AC at *
 generalize b.map encI = BC at *
 refine Qin [4] Tryz.func95 Tryz.results95 Tryz.ntmps95 ?_
 repeat' (first | refine QX ?_ | (refine QB ?_; intro b) | (refine QP ?_; intro o' ho') | (with_reducible refine QZ ?_ <;> (try constructor) <;> intro hb <;> try intro hb1) | fail)
 refine tr_loop (ι := Nat) (fun i A st' => i ≤ a.length ∧ i ≤ b.length ∧ Hid (Mat.cmpI (a.drop i) (b.drop i) = R) ∧ A.df = [] ∧ A.e 0 = .sl o AC ∧ A.e 1 = .sl o' BC ∧ A.e 9 = .sl o AC ∧ A.e 10 = .i a.length ∧ A.e 11 = .i i ∧ st = st') (fun i => a.length - i) 0 ⟨Nat.zero_le _, Nat.zero_le _, HR, Qf, Qf, Qf, Qf, Qf, Qf, rfl⟩ ?_
 clear HR
 rintro i A st' ⟨hi, hi2, HT, hdf, e0, e1, e9, e10, e11, rfl⟩
 by_cases hlt : i < a.length
 · obtain ⟨x, hx⟩ := gEx hlt
   have hcx := hca.out i x hx
   by_cases hlt2 : i < b.length
   · obtain ⟨y, hy⟩ := gEx hlt2
     have hcy := hcb.out i y hy
     have hC := cmpIF x y
     have HE := HT.out
     rw [Mat.cmpI_drop hx hy] at HE
     generalize V.sgn x y = c at *
     replace hC := Lib.hid hC
     clear HT hca hcb hx hy
     by_cases h0 : c = 0
     · rw [if_neg (by simpa using h0)] at HE
       replace HE := Lib.hid HE
       repeat' (first | refine QX ?_ | (refine QB ?_; intro b) | (refine QP ?_; intro o' ho') | (with_reducible refine QZ ?_ <;> (try constructor) <;> intro hb <;> try intro hb1) | fail)
       refine ⟨i + 1, ⟨hlt, hlt2, HE, ?_, ?_, ?_, ?_, ?_, ?_, rfl⟩, ?_⟩
       all_goals exact Qf
     · rw [if_pos h0] at HE
       subst HE
       exact WRa
   · have HE := HT.out
     rw [Mat.cmpI_right hx q_o] at HE
     subst HE
     clear HT hca hcb hx
     exact WRa
 · by_cases hlt2 : i < b.length
   · obtain ⟨y, hy⟩ := gEx hlt2
     have HE := HT.out
     rw [Mat.cmpI_left q_o hy] at HE
     subst HE
     clear HT hca hcb hy
     exact WRa
   · have HE := HT.out
     rw [Mat.cmpI_both q_o q_o] at HE
     subst HE
     clear HT hca hcb
     exact WRa
theorem matOrderF (a b : Mt) (ha : a.ids.length ≤ 1000000) (hb0 : b.ids.length ≤ 1000000) (st : St) : TrF Tryz.prog 58 [.agg a.cells, .agg b.cells] st fun d st' => d = .i (Mat.ord a b) ∧ st' = st := by
 have hS := slicesCmpF .shared .shared a.ids b.ids ha hb0
 have hC := cmpIF a.rule b.rule
 have hO := fun o => orF o [V.sgn a.rule b.rule, Mat.cmpI a.ids b.ids] (by simp)
 rw [Mat.ord_ors]
 unfold Mt.cells
 generalize V.ors [V.sgn a.rule b.rule, Mat.cmpI a.ids b.ids] = R at *
 rw [List.map_cons, List.map_cons, List.map_nil] at hO
 unfold encI at hO
 generalize V.sgn a.rule b.rule = c1 at *
 generalize Mat.cmpI a.ids b.ids = c2 at *
 generalize a.ids.map encI = AC at *
 generalize b.ids.map encI = BC at *
 generalize a.rule = r1 at *
 generalize b.rule = r2 at *
 clear ha hb0
 replace hS := Lib.hid hS
 replace hC := Lib.hid hC
 replace hO := Lib.hid hO
 refine Qin [4] Tryz.func58 Tryz.results58 Tryz.ntmps58 ?_
 repeat' (first | refine QV ?_ | ((with_reducible refine QW ?_); intro hne; simp only [nes, ne1, and_assoc] at hne; repeat (have hq := hne.1; replace hne := hne.2)) | refine QY ?_ | (refine QB ?_; intro b) | (with_reducible refine QZ ?_ <;> (try constructor) <;> intro hb <;> try intro hb1) | refine Qc Tryz.call95 ((hS.out _)) ?_ | refine Qc Tryz.call75 ((hC.out _)) ?_ | refine Qc Tryz.call94 ((hO.out _ _)) ?_ | fail)
 all_goals exact Qret
theorem matLessF (a b : Mt) (ha : a.ids.length ≤ 1000000) (hb0 : b.ids.length ≤ 1000000) (st : St) : TrF Tryz.prog 25 [.agg a.cells, .agg b.cells] st fun d st' => d = .b (Mat.less a b) ∧ st' = st := by
 have hO := matOrderF a b ha hb0
 unfold Mat.less
 generalize Mat.ord a b = R at *
 unfold Mt.cells at *
 generalize a.ids.map encI = AC at *
 generalize b.ids.map encI = BC at *
 generalize a.rule = r1 at *
 generalize b.rule = r2 at *
 clear ha hb0
 replace hO := Lib.hid hO
 refine Qin [4] Tryz.func25 Tryz.results25 Tryz.ntmps25 ?_
 exact WR
namespace Mat
theorem less_rule {a b : Mt} (h : a.rule ≠ b.rule) : less a b = decide (a.rule < b.rule) := by
 unfold less ord
 rw [if_pos (fun h2 => h (V.sgn_zero.1 h2))]
 exact decide_eq_decide.2 sgn_neg
theorem less_ids {a b : Mt} (h : a.rule = b.rule) : less a b = decide (cmpI a.ids b.ids < 0) := by
 unfold less ord
 rw [h, V.sgn_self, if_neg (by simp)]
theorem sgn_lt0 {x y : Int} : decide (V.sgn x y < 0) = decide (x < y) := decide_eq_decide.2 sgn_neg
end Mat
theorem refLess18F (a b : Mt) (ha : a.ids.length ≤ 1000000) (hb0 : b.ids.length ≤ 1000000) (st : St) : TrF Tryz.prog 26 [.agg a.cells, .agg b.cells] st fun d st' => d = .b (Mat.less a b) ∧ st' = st := by
 cases a with
 | mk r1 a =>
 cases b with
 | mk r2 b =>
 dsimp only at *
 have hma : (a.map encI).length = a.length := List.length_map ..
 have hmb : (b.map encI).length = b.length := List.length_map ..
 have hca : Hid (∀ (i : Nat) (v : Int), a[i]? = some v → (a.map encI)[i]? = some [.i v]) := fun i v h => by rw [List.getElem?_map, h]; rfl
 have hcb : Hid (∀ (i : Nat) (v : Int), b[i]? = some v → (b.map encI)[i]? = some [.i v]) := fun i v h => by rw [List.getElem?_map, h]; rfl
 unfold Mt.cells
 dsimp only
 by_cases hr : r1 = r2
 · rw [Mat.less_ids hr]
   dsimp only
   obtain ⟨R, hR⟩ : ∃ R, decide (Mat.cmpI a b < 0) = R := ⟨_, rfl⟩
   have HR : Hid (decide (Mat.cmpI (a.drop 0) (b.drop 0) < 0) = R) := hR
   rw [hR]
   clear hR
   generalize a.map encI = AC at *
   generalize b.map encI = BC at *
   refine Qin [4] Tryz.func26 Tryz.results26 Tryz.ntmps26 ?_
   repeat' (first | refine QX ?_ | (refine QB ?_; intro b) | (with_reducible refine QZ ?_ <;> (try constructor) <;> intro hb <;> try intro hb1) | fail)
   refine tr_loop (ι := Nat) (fun i A st' => i ≤ a.length ∧ i ≤ b.length ∧ Hid (decide (Mat.cmpI (a.drop i) (b.drop i) < 0) = R) ∧ A.df = [] ∧ A.e 2 = .ip [.i r1, .sl .shared AC] ∧ A.e 3 = .ip [.i r2, .sl .shared BC] ∧ A.e 5 = .i i ∧ st = st') (fun i => a.length - i) 0 ⟨Nat.zero_le _, Nat.zero_le _, HR, Qf, Qf, Qf, Qf, rfl⟩ ?_
   clear HR
   rintro i A st' ⟨hi, hi2, HT, hdf, e2, e3, e5, rfl⟩
   by_cases hlt : i < a.length
   · obtain ⟨x, hx⟩ := gEx hlt
     have hcx := hca.out i x hx
     by_cases hlt2 : i < b.length
     · obtain ⟨y, hy⟩ := gEx hlt2
       have hcy := hcb.out i y hy
       have HE := HT.out
       rw [Mat.cmpI_drop hx hy] at HE
       clear HT hca hcb hx hy
       by_cases h0 : x = y
       · rw [if_neg (by simpa using V.sgn_zero.2 h0)] at HE
         replace HE := Lib.hid HE
         repeat' (first | refine QV ?_ | ((with_reducible refine QW ?_); intro hne; simp only [nes, ne1, and_assoc] at hne; repeat (have hq := hne.1; replace hne := hne.2)) | refine QY ?_ | (refine QB ?_; intro b) | (with_reducible refine QZ ?_ <;> (try constructor) <;> intro hb <;> try intro hb1) | fail)
         refine ⟨i + 1, ⟨hlt, hlt2, HE, ?_, ?_, ?_, ?_, rfl⟩, ?_⟩
         all_goals exact Qf
       · rw [if_pos (fun h => h0 (V.sgn_zero.1 h)), Mat.sgn_lt0] at HE
         subst HE
         repeat' (first | refine QV ?_ | ((with_reducible refine QW ?_); intro hne; simp only [nes, ne1, and_assoc] at hne; repeat (have hq := hne.1; replace hne := hne.2)) | refine QY ?_ | (refine QB ?_; intro b) | (with_reducible refine QZ ?_ <;> (try constructor) <;> intro hb <;> try intro hb1) | fail)
         all_goals exact Qret
     · have HE := HT.out
       rw [Mat.cmpI_right hx q_o, show decide ((1 : Int) < 0) = decide ((a.length : Int) < b.length) from decide_eq_decide.2 q_o] at HE
       subst HE
       clear HT hca hcb hx
       exact WR
   · have HE := HT.out
     have hv : decide (Mat.cmpI (a.drop i) (b.drop i) < 0) = decide ((a.length : Int) < b.length) := by
      by_cases hlt2 : i < b.length
      · obtain ⟨y, hy⟩ := gEx hlt2
        rw [Mat.cmpI_left q_o hy]
        exact decide_eq_decide.2 q_o
      · rw [Mat.cmpI_both q_o q_o]
        exact decide_eq_decide.2 q_o
     rw [hv] at HE
     subst HE
     clear HT hca hcb hv
     exact WR
 · rw [Mat.less_rule hr]
   dsimp only
   generalize a.map encI = AC at *
   generalize b.map encI = BC at *
   clear hca hcb
   refine Qin [4] Tryz.func26 Tryz.results26 Tryz.ntmps26 ?_
   exact WR
end
section
attribute [local push_cast] encB encI encC V.cells_mk V.cells_len Nat.mul_one Int.sub_zero List.map_nil beq_self_eq_true bne_self_eq_false List.head?_cons Bool.not_true Bool.not_false Nat.zero_add
theorem matNoneF (p : Pt) (F : List Fc) (env : List V) (hp : PK p) (hF : FKs F) (he : EK env) (st : St) : TrF Tryz.prog 90 [.agg p.cells, .sl .shared (F.map Fc.cells), .sl .shared (env.map V.cells)] st fun d st' => d = .b (decide (Mat.passL p F env = [])) ∧ st' = st := by
 have hPa := Lib.hid (matPassingF p F env)
 have hIt := Lib.hid (passIter p F env hp hF he)
 clear hp hF he
 generalize Mat.passL p F env = L at *
 generalize passCaps p F env = caps at *
 unfold Pt.cells at *
 generalize p.tests.map Ts.cells = TS at *
 generalize F.map Fc.cells = FS at *
 generalize env.map V.cells = EC at *
 refine trF_enterG (G := cellA 6 4 Tryz.prog) Tryz.func90 rfl (by rw [Tryz.ntmps90]; exact Nat.le_of_ble_eq_true rfl) (fun h1 h2 h3 => res_cell rfl h1 h2 h3) ?_
 simp only [Tryz.ntmps90]
 repeat' (first | refine QX ?_ | (refine QB ?_; intro b) | (with_reducible refine QZ ?_ <;> (try constructor) <;> intro hb <;> try intro hb1) | refine Qc Tryz.call91 ((hPa.out _)) ?_ | fail)
 refine tr_perm (st' := [] ++ (.box b 4 [.b false] :: st)) (.refl _) ?_
 refine tr_rangeS hIt.out Tryz.call128 q_v (fun _ => rfl) rfl (fun i C => i = 0 ∧ C = .box b 4 [.b false] :: st) (fun c i C => c = .ret ∧ L ≠ [] ∧ C = .box b 4 [.b false] :: st) ⟨rfl, rfl⟩ (fun i x C hx hJ => .inr ⟨.ret, _, rfl, (show L ≠ [] from fun h => by rw [h] at hx; cases hx), rfl⟩) ?_ ?_ ?_
 · rintro l i ⟨y, v⟩ C K hx ⟨rfl, rfl⟩
   have hne : L ≠ [] := fun h => by rw [h] at hx; cases hx
   clear hIt hPa hx
   refine (?_ : Tr _ _ _ _ (AA.put (AA.put ⟨_, []⟩ (some 11) (.i y)) (some 12) (.sl .shared (v.map V.cells))) (.box b 4 [.b false] :: (st ++ K)) _)
   repeat' (first | refine QX ?_ | (refine QB ?_; intro b) | (with_reducible refine QZ ?_ <;> (try constructor) <;> intro hb <;> try intro hb1) | fail)
   refine ⟨.box b 4 [.b false] :: st, List.Sublist.refl _, fun K' => ?_⟩
   refine (?_ : Tr _ _ _ _ _ (.box b 4 [.b false] :: (st ++ K')) _)
   repeat' (first | refine QX ?_ | (refine QB ?_; intro b) | (with_reducible refine QZ ?_ <;> (try constructor) <;> intro hb <;> try intro hb1) | fail)
   exact ⟨_, List.Sublist.refl _, rfl, hne, rfl⟩
 · rintro d K1 C' rfl ⟨hl, rfl⟩
   have hL : decide (L = []) = true := decide_eq_true (List.eq_nil_of_length_eq_zero hl)
   rw [hL]
   clear hIt hPa hL hl
   change Tr _ _ _ _ _ _ _
   refine tr_perm (st' := markR d :: .box b 4 [.b false] :: st) (.refl _) ?_
   repeat' (first | refine QX ?_ | (refine QB ?_; intro b) | (with_reducible refine QZ ?_ <;> (try constructor) <;> intro hb <;> try intro hb1) | fail)
   exact retG_mk (rs := [d]) (by simp) q_y (by repeat (first | exact out_here | apply out_there)) (cell_mk q_v q_m q_v q_v) q_t (LE.refl _) ⟨rfl, rfl⟩
 · rintro c d i K1 C' rfl ⟨rfl, hne, rfl⟩
   have hL : decide (L = []) = false := decide_eq_false hne
   rw [hL]
   clear hIt hPa hL hne
   change Tr _ _ _ _ _ _ _
   refine tr_perm (st' := markR d :: .box b 4 [.b false] :: st) (.refl _) ?_
   repeat' (first | refine QX ?_ | (refine QB ?_; intro b) | (with_reducible refine QZ ?_ <;> (try constructor) <;> intro hb <;> try intro hb1) | fail)
   exact retG_mk (rs := [d]) (by simp) q_y (by repeat (first | exact out_here | apply out_there)) (cell_mk q_v q_m q_v q_v) q_t (LE.refl _) ⟨rfl, rfl⟩
end
end Go.Proofs.YtoeidpmjifjplaaGreat
