/- Texts put together: SchJ, SchK, SchTw, RegA, Bin06a, Bin06d, Bin06e, Bin06b, Bin06c, Bin06f, Bin06g, Bin06h, Bin06i, Bin06j, RegB, RegC, RegD, RegE, Nodes4, RegF, RegG, BinLaw, BinLaw2, SchO, RefRight. No statement is proved here. -/
import Derived.Laws.BitsAllLaws
import Derived.Test.YtgcienlfpnpbgaaGreatZ4
set_option linter.all false
section
namespace Go.Proofs.YtgcienlfpnpbgaaGreat
set_option linter.unusedSimpArgs false
attribute [local push_cast] encB encI encC V.cells_mk V.cells_len Nat.mul_one Int.sub_zero List.map_nil beq_self_eq_true List.head?_cons
open Go.RowKit
set_option maxRecDepth 10000
set_option maxHeartbeats 4000000
def doTab : List D := [.s .nilFunc, .fn (.func 215) [] [], .fn (.func 216) [] [], .fn (.func 217) [] [], .fn (.func 218) [] [], .fn (.func 219) [] []]
theorem stepR_of {F G : Vr → Stp → Option Vr} {x : Vr} {stp : Stp} {bx : Nat} {s : St} (h : F x stp = G x stp) : StepR F x stp bx s = StepR G x stp bx s := by
  unfold StepR; rw [h]
theorem doTabF (x : Vr) (stp : Stp) (hx : VW x) (hc1 : 1 ≤ x.cols.length) (hs : stp.Ok) (hk : 1 ≤ stp.kind ∧ stp.kind ≤ 5) : ∃ (n : Nat) (f : FuncId), stp.kind = n ∧ n ≤ 5 ∧ (∃ tl, doTab.drop n = .fn (.func f) [] [] :: tl) ∧ (∀ args w, (callFunc f args).run Tryz.prog w = .ok (.enter f args) w) ∧
    ∀ (bx gs cS gc cC : Nat) (zS zC : List D), VL cS zS cC zC x → ∀ s, TrF Tryz.prog f [.ptr bx 0, .agg stp.cells] (VB bx gs cS zS gc cC zC x s) (StepR Sch.stepV x stp bx s) := by
  have hk' : stp.kind = 1 ∨ stp.kind = 2 ∨ stp.kind = 3 ∨ stp.kind = 4 ∨ stp.kind = 5 := by omega
  rcases hk' with h | h | h | h | h
  · exact ⟨1, _, h, by decide, ⟨_, rfl⟩, Tryz.call215, fun bx gs cS gc cC zS zC hz s => stepR_of (G := Sch.stepV) (by unfold Sch.stepV; rw [if_pos h]) ▸ schAddF bx gs cS gc cC zS zC x stp hx hs hz s⟩
  · exact ⟨2, _, h, by decide, ⟨_, rfl⟩, Tryz.call216, fun bx gs cS gc cC zS zC hz s => stepR_of (G := Sch.stepV) (by unfold Sch.stepV; rw [if_neg (show ¬ stp.kind = 1 by omega), if_pos h]) ▸ schLoseF bx gs cS gc cC zS zC x stp hx hs hz s⟩
  · exact ⟨3, _, h, by decide, ⟨_, rfl⟩, Tryz.call217, fun bx gs cS gc cC zS zC hz s => stepR_of (G := Sch.stepV) (by unfold Sch.stepV; rw [if_neg (show ¬ stp.kind = 1 by omega), if_neg (show ¬ stp.kind = 2 by omega), if_pos h]) ▸ schRenameF bx gs cS gc cC zS zC x stp hx hs hz s⟩
  · exact ⟨4, _, h, by decide, ⟨_, rfl⟩, Tryz.call218, fun bx gs cS gc cC zS zC hz s => stepR_of (G := Sch.stepV) (by unfold Sch.stepV; rw [if_neg (show ¬ stp.kind = 1 by omega), if_neg (show ¬ stp.kind = 2 by omega), if_neg (show ¬ stp.kind = 3 by omega), if_pos h]) ▸ schWidenF bx gs cS gc cC zS zC x stp hx hs hz s⟩
  · exact ⟨5, _, h, by decide, ⟨_, rfl⟩, Tryz.call219, fun bx gs cS gc cC zS zC hz s => stepR_of (G := Sch.stepV) (by unfold Sch.stepV; rw [if_neg (show ¬ stp.kind = 1 by omega), if_neg (show ¬ stp.kind = 2 by omega), if_neg (show ¬ stp.kind = 3 by omega), if_neg (show ¬ stp.kind = 4 by omega), if_pos h]) ▸ schReorderF bx gs cS gc cC zS zC x stp hx hc1 hs hz s⟩
theorem firstR_ex (t : Tm) (st : St) : ∃ d st', FirstR t st d st' := by
  unfold FirstR
  cases h : Sch.firstV t with
  | none => exact ⟨_, _, .inl ⟨rfl, .inl rfl, rfl⟩⟩
  | some x => exact ⟨_, _, .inr ⟨x, 0, x.slots.length, [], 0, x.cols.length, [], rfl, ⟨by rw [List.append_nil, slotC_len], by rw [List.append_nil, colC_len]⟩, rfl, rfl⟩⟩
theorem stepR_ex (x : Vr) (stp : Stp) (bx : Nat) (s : St) : ∃ d st', StepR Sch.stepV x stp bx s d st' := by
  unfold StepR
  cases h : Sch.stepV x stp with
  | none => exact ⟨_, _, .inl ⟨rfl, rfl, rfl⟩⟩
  | some y => exact ⟨_, _, .inr ⟨y, 0, y.slots.length, [], 0, y.cols.length, [], rfl, ⟨by rw [List.append_nil, slotC_len], by rw [List.append_nil, colC_len]⟩, rfl, rfl⟩⟩
def verD (p : Vr × Nat) : List D := [.i p.2, .agg p.1.cells]
theorem versF (t : Tm) (st : St) : TrF Tryz.prog 161 [.agg t.cells] st fun d st' => ∃ tb, d = .fn (.func 191) [] [.ptr tb 0] ∧ st' = .box tb 36 t.cells :: st := by
  unfold Tm.cells
  generalize t.slots.map Sl.cells = SL
  generalize t.steps.map Stp.cells = TL
  refine Qin [2] Tryz.func161 Tryz.results161 Tryz.ntmps161 ?_
  repeat' (with_reducible first | refine Q1 ?_ | refine Qe ?_ | refine s_boxP ?_ | refine Ql ?_ | refine Q2 ?_ | refine Qs ?_ | refine Q4 ?_ | (refine al_go ?_; intro b) | refine Q5 ?_ | (refine Q3a ?_; intro hb; try intro hb1) | (refine Q3b ?_; intro hb; try intro hb1) | (refine Q3 ?_ ?_ <;> intro hb <;> try intro hb1) | fail)
  all_goals exact retA_mk (by first | exact .inl rfl | exact .inr rfl) rfl (by (repeat (first | exact List.Sublist.refl _ | apply List.Sublist.cons))) (LE.of_eq (by (try simp (disch := omega) only [push_cast, simprocAttr, *]); (try exact rfl); done)) ⟨_, rfl, rfl⟩
theorem versIter (tb : Nat) (t : Tm) (ht : TOk t) : IterC Tryz.prog 191 [.ptr tb 0] verD ((Sch.vers t).zipIdx 1) [.box tb 36 t.cells] (fun K => K = [.box tb 36 t.cells]) (fun _ K => K = [.box tb 36 t.cells]) := by
  intro l C J Jx hY hJ
  have HY := Lib.hid hY
  have HJ := Lib.hid hJ
  clear hY hJ
  have hFi := Lib.hid (schFirstF t ht.os ht.ls ht.lt)
  have hot := Lib.hid ht.ot
  have hcells : Hid (t.cells = [.str t.name, .sl .shared (t.slots.map Sl.cells), .sl .shared (t.steps.map Stp.cells)]) := rfl
  obtain ⟨Vs, hVs⟩ : ∃ Vs, Sch.vers t = Vs := ⟨_, rfl⟩
  have hV : Hid (Vs = match Sch.firstV t with | none => [] | some x => x :: Sch.versL x t.steps) := hVs.symm
  have hvi : Hid (∀ y ∈ Vs, Sch.VI 16 y) := Lib.hid (by rw [← hVs]; exact fun y => Sch.vers_vi)
  rw [hVs] at HY ⊢
  clear hVs
  have hLl : (Vs.zipIdx 1).length = Vs.length := List.length_zipIdx
  have hget : Hid (∀ i x, Vs[i]? = some x → (Vs.zipIdx 1)[i]? = some (x, 1 + i)) := fun i x h => by rw [List.getElem?_zipIdx, h]; rfl
  generalize Vs.zipIdx 1 = L at *
  unfold FirstR at hFi
  have hex := Lib.hid (firstR_ex t)
  unfold FirstR at hex
  generalize hTC : t.cells = TC at *
  have hTC2 := hcells.out
  subst hTC2
  generalize t.slots.map Sl.cells = SL at *
  generalize hSt : t.steps.map Stp.cells = TL at *
  replace hSt := Lib.hid hSt
  replace hTC := Lib.hid hTC
  refine Qin [] Tryz.func191 Tryz.results191 Tryz.ntmps191 ?_
  refine tr_perm (st' := .box tb 36 [.str t.name, .sl .shared SL, .sl .shared TL] :: C) (.refl _) ?_
  repeat' (first | (with_reducible first | refine Q1 ?_ | refine Qe ?_ | refine Ql ?_ | refine Q2 ?_ | refine Qs ?_ | refine Q4 ?_ | (refine al_go ?_; intro b) | fail) | ((with_reducible apply (ck_gen Tryz.call192)); (focus exact List.Perm.refl _); (focus exact hFi.out _); (focus exact LEL.refl _); (focus exact hex.out _); (rintro d st' (⟨hn, rfl | ⟨gs, n1, cS, gc, n2, cC, rfl⟩, rfl⟩ | ⟨x, gs, cS, zS, gc, cC, zC, hx, hz, rfl, rfl⟩))) | (with_reducible first | refine Q5 ?_ | (refine Q3a ?_; intro hb; try intro hb1) | (refine Q3b ?_; intro hb; try intro hb1) | (refine Q3 ?_ ?_ <;> intro hb <;> try intro hb1) | fail) | fail)
  · have hL0 : L.length = 0 := by rw [hLl, hV.out, hn]; rfl
    exact retA_mk (by first | exact .inl rfl | exact .inr rfl) rfl (by (repeat (first | exact List.Sublist.refl _ | apply List.Sublist.cons))) (LE.refl _) ⟨[_], C, rfl, .inl ⟨rfl, by rw [hL0]; exact HJ.out⟩⟩
  · have hL0 : L.length = 0 := by rw [hLl, hV.out, hn]; rfl
    exact retA_mk (by first | exact .inl rfl | exact .inr rfl) rfl (by (repeat (first | exact List.Sublist.refl _ | apply List.Sublist.cons))) (LE.refl _) ⟨[_], C, rfl, .inl ⟨rfl, by rw [hL0]; exact HJ.out⟩⟩
  have hV1 : Vs = x :: Sch.versL x t.steps := by rw [hV.out, hx]
  have hx0 : Vs[0]? = some x := by rw [hV1]; rfl
  have hT0 : Hid (Sch.versL x (t.steps.drop 0) = Vs.drop 1) := Lib.hid (by rw [hV1]; rfl)
  have hVx := hvi.out x (List.mem_of_getElem? hx0)
  have hg0 := hget.out 0 x hx0
  replace hx0 := Lib.hid hx0
  have hdoF := schDoersF
  have hLl2 := Lib.hid hLl
  clear hV hV1 hex hFi hx hLl
  obtain ⟨b3, rfl⟩ : ∃ q, q = b := ⟨_, rfl⟩
  have hcp := Lib.hid (schCopiedF gs cS gc cC zS zC x (fun h => by have := hVx.lp; rw [h] at this; simp at this) (fun h => by have := hVx.cp; rw [h] at this; simp at this) (hVx.vw (by omega)))
  obtain ⟨TB, hTB⟩ : ∃ TB, TB = doTab := ⟨_, rfl⟩
  have hdo : Hid (∀ st, TrF Tryz.prog 194 [] st fun d st' => d = .agg TB ∧ st' = st) := by rw [hTB]; exact hdoF
  have hTBl : TB.length = 6 := by rw [hTB]; rfl
  have hTBa : TB.all D.leaf = true := by rw [hTB]; rfl
  replace hTB := Lib.hid hTB
  clear hdoF
  repeat' (first | (with_reducible first | refine Q1 ?_ | refine Qe ?_ | fail) | ((with_reducible apply (s_yield HY.out HJ.out hg0)); (focus ((try simp (disch := omega) only [push_cast, simprocAttr, *]); (try exact rfl); done)); (focus ((try simp (disch := omega) only [push_cast, simprocAttr, *]); (try exact rfl); done)); (focus first | exact LEL.refl _ | ((repeat' (first | exact LEL.nil | refine LEL.cons ?_ ?_ | exact LE.refl _ | exact LE.sl _ _ | refine LE.agg ?_)); done)); (focus (repeat (first | exact tl_nil | apply tl_cons)); done); all_goals (intro C' hC')) | (with_reducible first | refine Ql ?_ | refine Q2 ?_ | refine Qs ?_ | refine Q4 ?_ | (refine al_go ?_; intro b) | fail) | refine Qc Tryz.call193 (hcp.out _ (by repeat (first | exact mm_h | apply mm_t)) (by repeat (first | exact mm_h | apply mm_t))) ?_ | refine Qc Tryz.call194 (hdo.out _) ?_ | (with_reducible first | refine Q5 ?_ | (refine Q3a ?_; intro hb; try intro hb1) | (refine Q3b ?_; intro hb; try intro hb1) | (refine Q3 ?_ ?_ <;> intro hb <;> try intro hb1) | fail) | fail)
  rotate_left
  · exact retA_mk (by first | exact .inl rfl | exact .inr rfl) (by first | rfl | assumption) (by (repeat (first | exact List.Sublist.refl _ | apply List.Sublist.cons))) (LE.refl _) ⟨[_], C', rfl, .inr ⟨_, rfl, hC'⟩⟩
  obtain ⟨b5, rfl⟩ : ∃ q, q = b := ⟨_, rfl⟩
  refine tr_perm (st' := .box b3 141 [.ar gs 0 x.slots.length cS, .ar gc 0 x.cols.length cC] :: .box gs 75 (slotC x.slots ++ zS) :: .box gc 3 (colC x.cols ++ zC) :: .box b5 216 TB :: .box tb 36 [.str t.name, .sl .shared SL, .sl .shared TL] :: C') (by (repeat (first | exact List.Perm.refl _ | refine perm_cons_out (by repeat (first | exact out_here | apply out_there)) ?_))) ?_
  have hJ0 := Lib.hid hC'
  have hTl : TL.length = t.steps.length := by rw [← hSt.out, List.length_map]
  have hms := ht.lt
  clear hg0 hcp
  refine tr_loopd (ι := Nat) (fun i A st' => ∃ x gs cS zS gc cC zC C', i ≤ TL.length ∧ VL cS zS cC zC x ∧ Hid (Vs[i]? = some x) ∧ Hid (Sch.versL x (t.steps.drop i) = Vs.drop (i + 1)) ∧ Hid (J (i + 1) C') ∧ A.df = [] ∧ A.e 0 = .fn (.yield l) [] [] ∧ A.e 1 = .ptr tb 0 ∧ A.e 3 = .ptr b3 0 ∧ A.e 5 = .ptr b5 0 ∧ A.e 24 = .sl .shared TL ∧ A.e 25 = .i TL.length ∧ A.e 26 = .i i ∧
    st' = .box b3 141 [.ar gs 0 x.slots.length cS, .ar gc 0 x.cols.length cC] :: .box gs 75 (slotC x.slots ++ zS) :: .box gc 3 (colC x.cols ++ zC) :: .box b5 216 TB :: .box tb 36 [.str t.name, .sl .shared SL, .sl .shared TL] :: C') (fun i => TL.length - i) 0 ⟨x, gs, cS, zS, gc, cC, zC, C', Nat.zero_le _, hz, hx0, hT0, hJ0, Qf, Qf, Qf, Qf, Qf, Qf, Qf, Qf, rfl⟩ ?_
  clear hx0 hT0 hJ0 hz hVx hC' HJ
  rintro i A st' ⟨x, gs, cS, zS, gc, cC, zC, C', hi, hz, hxi, hTi, hJi, hdf, e0, e1, e3, e5, e24, e25, e26, rfl⟩
  have hVx := hvi.out x (List.mem_of_getElem? hxi.out)
  by_cases hlt : i < TL.length
  · obtain ⟨stp, hstp⟩ : ∃ s, t.steps[i]? = some s := ⟨_, List.getElem?_eq_getElem (by omega)⟩
    have hso := hot.out stp (List.mem_of_getElem? hstp)
    have hTd := hTi.out
    rw [Sch.versL_drop hstp] at hTd
    have hcl : TL[i]? = some stp.cells := by rw [← hSt.out, List.getElem?_map, hstp]; rfl
    have hin : i < Vs.length := (List.getElem?_eq_some_iff.1 hxi.out).1
    by_cases hk : 1 ≤ stp.kind ∧ stp.kind ≤ 5
    · obtain ⟨nk, f, hkn, hn5, ⟨tl, htl⟩, hent, hTr⟩ := doTabF x stp (hVx.vw (by omega)) hVx.cp hso hk
      have hTr2 := Lib.hid (hTr b3 gs cS gc cC zS zC hz)
      have hSR := Lib.hid (stepR_ex x stp b3)
      obtain ⟨hk1, hk2⟩ := hk
      clear hTr hTi
      rw [← hTB.out] at htl
      unfold StepR VB at hTr2 hSR
      have hvw : Hid (∀ y, Sch.stepV x stp = some y → Vs[i + 1]? = some y ∧ Sch.versL y (t.steps.drop (i + 1)) = Vs.drop (i + 1 + 1)) := fun y hy => by
        rw [hy] at hTd
        have h1 : Vs[i + 1]? = some y := by
          have : (Vs.drop (i + 1))[0]? = some y := by rw [← hTd]; rfl
          rwa [List.getElem?_drop, Nat.add_zero] at this
        refine ⟨h1, ?_⟩
        rw [V.drop_cons h1] at hTd
        exact (List.cons.inj hTd).2
      have hvn : Hid (Sch.stepV x stp = none → Vs.length = i + 1) := fun h => by
        rw [h] at hTd
        have := congrArg List.length hTd
        rw [List.length_drop, List.length_nil] at this
        omega
      obtain ⟨n2, hn2⟩ : ∃ n2 : Nat, 1 + (i + 1) = n2 := ⟨_, rfl⟩
      have hn3 : (i : Int) + 2 = (n2 : Int) := by omega
      have hgY : Hid (∀ y, Sch.stepV x stp = some y → L[i + 1]? = some (y, n2)) := fun y hy => by rw [← hn2]; exact hget.out _ _ (hvw.out y hy).1
      have hcp : Hid (∀ y, Sch.stepV x stp = some y → ∀ (gs cS gc cC : Nat) (zS zC : List D) (st : St), Res.box gs 75 (slotC y.slots ++ zS) ∈ st → Res.box gc 3 (colC y.cols ++ zC) ∈ st → TrF Tryz.prog 193 [.agg [.ar gs 0 y.slots.length cS, .ar gc 0 y.cols.length cC]] st fun d st' => d = .agg y.cells ∧ st' = st) := fun y hy gs cS gc cC zS zC st m1 m2 => by
        have hVy := hvi.out y (List.mem_of_getElem? (hvw.out y hy).1)
        exact schCopiedF gs cS gc cC zS zC y (fun h => by have := hVy.lp; rw [h] at this; simp at this) (fun h => by have := hVy.cp; rw [h] at this; simp at this) (hVy.vw (by omega)) st m1 m2
      have hn2b : n2 ≤ 2000 ∧ i ≤ 2000 ∧ TL.length ≤ 2000 := by omega
      obtain ⟨hb1, hb2, hb3⟩ := hn2b
      replace hn2 := Lib.hid hn2
      clear hTd hstp hxi hVx
      generalize Sch.stepV x stp = F at *
      cases stp with
      | mk kd col slot order =>
      cases slot with
      | mk nm ty rq dv =>
      cases dv with
      | mk k n sv lv =>
      unfold Stp.cells at hcl hTr2
      rw [Sl.cells_mk] at hcl hTr2
      dsimp only [List.cons_append, List.nil_append] at hcl hTr2 hkn hk1 hk2
      subst hkn
      replace hcl := hcl
      have hentH := Lib.hid hent
      clear hent
      replace hin := Lib.hid hin
      replace hLl2 := Lib.hid hLl2
      replace hTl := Lib.hid hTl
      repeat' (first | (with_reducible first | refine Q1 ?_ | refine Qe ?_ | fail) | ((with_reducible apply (s_yield HY.out hJi.out hgy.out)); (focus ((try simp (disch := omega) only [push_cast, simprocAttr, *]); (try exact rfl); done)); (focus ((try simp (disch := omega) only [push_cast, simprocAttr, *]); (try exact rfl); done)); (focus first | exact LEL.refl _ | ((repeat' (first | exact LEL.nil | refine LEL.cons ?_ ?_ | exact LE.refl _ | exact LE.sl _ _ | refine LE.agg ?_)); done)); (focus (repeat (first | exact tl_nil | apply tl_cons)); done); all_goals (intro C' hC')) | ((with_reducible apply (w_drawQ [(b5, TB), (b, [.i nk, .i col, .str nm, .i ty, .b rq, .i k, .i n, .str sv, .sl .shared (lv.map V.cells), .sl .shared (order.map encI)])] 14)); (iterate 4 (focus kernel_rfl)); (focus (simp only [List.take_succ_cons, List.take_zero]; exact rfl)); (focus (simp only [List.drop_succ_cons, List.drop_zero]; exact rfl)); (focus ((repeat (first | exact keep_nil | refine keep_more (by (repeat (first | exact mm_h | apply mm_t)); done) ?_)); done)); intro hne; simp only [nes, ne1, and_assoc] at hne; repeat (have hq := hne.1; replace hne := hne.2)) | ((with_reducible refine Exists.intro [(b3, [.ar gs1 0 y.slots.length cS1, .ar gc1 0 y.cols.length cC1])] ?_); (with_reducible refine And.intro ?_ ?_); (focus ((repeat (first | exact keep_nil | refine keep_more (by (repeat (first | exact mm_h | apply mm_t)); done) ?_)); done))) | ((with_reducible refine And.intro ?_ ?_); (focus ((repeat (first | exact keep_nil | refine keep_more (by (repeat (first | exact mm_h | apply mm_t)); done) ?_)); done))) | ((with_reducible refine Exists.intro [] ?_); (with_reducible refine And.intro ?_ ?_); (focus exact keep_nil)) | (with_reducible first | refine Ql ?_ | refine Q2 ?_ | refine Qs ?_ | refine Q4 ?_ | (refine al_go ?_; intro b) | fail) | ((with_reducible apply (ck_gen hentH.out)); (focus (show List.Perm _ (VB b3 gs cS zS gc cC zC x (.box b 79 [.i nk, .i col, .str nm, .i ty, .b rq, .i k, .i n, .str sv, .sl .shared (lv.map V.cells), .sl .shared (order.map encI)] :: .box b5 216 TB :: .box tb 36 [.str t.name, .sl .shared SL, .sl .shared TL] :: C')); (repeat (first | exact List.Perm.refl _ | refine perm_cons_out (by repeat (first | exact out_here | apply out_there)) ?_)); done)); (focus exact hTr2.out _); (focus exact LEL.refl _); (focus exact hSR.out _); (rintro d st' (⟨hn1, rfl, rfl⟩ | ⟨y, gs1, cS1, zS1, gc1, cC1, zC1, hy, hz1, rfl, rfl⟩) <;> (try (have hgy := Lib.hid (hgY.out y hy); have hcy := Lib.hid (hcp.out y hy gs1 cS1 gc1 cC1 zS1 zC1); replace hy := Lib.hid hy)))) | refine Qc Tryz.call193 (hcy.out _ (by repeat (first | exact mm_h | apply mm_t)) (by repeat (first | exact mm_h | apply mm_t))) ?_ | (with_reducible first | refine Q5 ?_ | (refine Q3a ?_; intro hb; try intro hb1) | (refine Q3b ?_; intro hb; try intro hb1) | (refine Q3 ?_ ?_ <;> intro hb <;> try intro hb1) | fail) | fail)
      · have hL1 : L.length = i + 1 := by rw [hLl2.out.out, hvn.out hn1]
        exact retA_mk (by first | exact .inl rfl | exact .inr rfl) (by first | rfl | assumption) (by (repeat (first | exact List.Sublist.refl _ | with_reducible apply List.Sublist.cons_cons | apply List.Sublist.cons))) (LE.refl _) ⟨[_], C', rfl, .inl ⟨rfl, by rw [hL1]; exact hJi.out⟩⟩
      · obtain ⟨q1, q2⟩ := hvw.out y hy.out
        refine ⟨i + 1, .box b3 141 [.ar gs1 0 y.slots.length cS1, .ar gc1 0 y.cols.length cC1] :: .box gs1 75 (slotC y.slots ++ zS1) :: .box gc1 3 (colC y.cols ++ zC1) :: .box b5 216 TB :: .box tb 36 [.str t.name, .sl .shared SL, .sl .shared TL] :: C', ?_, ⟨y, gs1, cS1, zS1, gc1, cC1, zC1, C', hlt, hz1, q1, q2, hC', ?_, ?_, ?_, ?_, ?_, ?_, ?_, ?_, rfl⟩, ?_⟩
        · (repeat (first | exact List.Sublist.refl _ | with_reducible apply List.Sublist.cons_cons | apply List.Sublist.cons))
        iterate 8 (focus exact Qf)
        · omega
      · exact retA_mk (by first | exact .inl rfl | exact .inr rfl) (by first | rfl | assumption) (by (repeat (first | exact List.Sublist.refl _ | with_reducible apply List.Sublist.cons_cons | apply List.Sublist.cons))) (LE.refl _) ⟨[_], C', rfl, .inr ⟨_, rfl, hC'⟩⟩
    · have hn1 : Sch.stepV x stp = none := by
        unfold Sch.stepV
        rw [if_neg (by omega), if_neg (by omega), if_neg (by omega), if_neg (by omega), if_neg (by omega)]
      rw [hn1] at hTd
      have hL1 : L.length = i + 1 := by
        rw [hLl2.out]
        have := congrArg List.length hTd
        rw [List.length_drop, List.length_nil] at this
        omega
      have hk' : stp.kind < 1 ∨ (1 ≤ stp.kind ∧ 5 < stp.kind) := by omega
      clear hTd hstp hk hn1 hTi hxi
      replace hL1 := Lib.hid hL1
      cases stp with
      | mk kd col slot order =>
      cases slot with
      | mk nm ty rq dv =>
      cases dv with
      | mk k n sv lv =>
      unfold Stp.cells at hcl
      rw [Sl.cells_mk] at hcl
      dsimp only [List.cons_append, List.nil_append] at hcl hk'
      have hb3 : TL.length ≤ 2000 ∧ i ≤ 2000 := by omega
      obtain ⟨hb3, hb4⟩ := hb3
      replace hTl := Lib.hid hTl
      replace hLl2 := Lib.hid hLl2
      replace hin := Lib.hid hin
      rcases hk' with hk1 | ⟨hk1, hk2⟩
      all_goals skip
      all_goals (
        repeat' (first | (with_reducible first | refine Q1 ?_ | refine Qe ?_ | fail) | ((with_reducible apply (w_drawN [(b, [.i kd, .i col, .str nm, .i ty, .b rq, .i k, .i n, .str sv, .sl .shared (lv.map V.cells), .sl .shared (order.map encI)])])); (iterate 3 (focus kernel_rfl)); (focus ((repeat (first | exact keep_nil | refine keep_more (by (repeat (first | exact mm_h | apply mm_t)); done) ?_)); done)); intro hne; simp only [nes, ne1, and_assoc] at hne; repeat (have hq := hne.1; replace hne := hne.2)) | ((with_reducible refine And.intro ?_ ?_); (focus ((repeat (first | exact keep_nil | refine keep_more (by (repeat (first | exact mm_h | apply mm_t)); done) ?_)); done))) | (with_reducible first | refine Ql ?_ | refine Q2 ?_ | refine Qs ?_ | refine Q4 ?_ | (refine al_go ?_; intro b) | refine Q5 ?_ | (refine Q3a ?_; intro hb; try intro hb1) | (refine Q3b ?_; intro hb; try intro hb1) | (refine Q3 ?_ ?_ <;> intro hb <;> try intro hb1) | fail) | fail)
        all_goals exact retA_mk (by first | exact .inl rfl | exact .inr rfl) (by first | rfl | assumption) (by (repeat (first | exact List.Sublist.refl _ | with_reducible apply List.Sublist.cons_cons | apply List.Sublist.cons))) (LE.refl _) ⟨[_], C', rfl, .inl ⟨rfl, by rw [hL1.out]; exact hJi.out⟩⟩)
  · have hL1 : L.length = i + 1 := by
      have h1 := hTi.out
      rw [List.drop_of_length_le (by omega), Sch.versL] at h1
      have := congrArg List.length h1
      rw [List.length_drop, List.length_nil] at this
      have hin : i < Vs.length := (List.getElem?_eq_some_iff.1 hxi.out).1
      rw [hLl2.out]; omega
    replace hL1 := Lib.hid hL1
    replace hTl := Lib.hid hTl
    replace hLl2 := Lib.hid hLl2
    repeat' (with_reducible first | refine Q1 ?_ | refine Qe ?_ | refine Ql ?_ | refine Q2 ?_ | refine Qs ?_ | refine Q4 ?_ | (refine al_go ?_; intro b) | refine Q5 ?_ | (refine Q3a ?_; intro hb; try intro hb1) | (refine Q3b ?_; intro hb; try intro hb1) | (refine Q3 ?_ ?_ <;> intro hb <;> try intro hb1) | fail)
    all_goals exact retA_mk (by first | exact .inl rfl | exact .inr rfl) (by first | rfl | assumption) (by (repeat (first | exact List.Sublist.refl _ | with_reducible apply List.Sublist.cons_cons | apply List.Sublist.cons))) (LE.refl _) ⟨[_], C', rfl, .inl ⟨rfl, by rw [hL1.out]; exact hJi.out⟩⟩
end Go.Proofs.YtgcienlfpnpbgaaGreat
end

section
namespace Go.Proofs.YtgcienlfpnpbgaaGreat
set_option linter.unusedSimpArgs false
attribute [local push_cast] encB encI encC V.cells_mk V.cells_len Nat.mul_one Int.sub_zero List.map_nil beq_self_eq_true List.head?_cons
open Go.RowKit
set_option maxRecDepth 10000
set_option maxHeartbeats 4000000
theorem versF' (t : Tm) (st : St) : TrF Tryz.prog 161 [.agg t.cells] st fun d st' => ∃ tb : Nat, True ∧ d = .fn (.func 191) [] [.ptr tb 0] ∧ st' = .box tb 36 t.cells :: st :=
  (versF t st).mono fun _ _ ⟨tb, h1, h2⟩ => ⟨tb, trivial, h1, h2⟩
theorem schLastF (t : Tm) (ht : TOk t) (st : St) : TrF Tryz.prog 113 [.agg t.cells] st fun d st' => d = .i (Sch.last t) ∧ st' = st := by
  have hVF := Lib.hid (versF' t)
  have hIt := Lib.hid fun tb => versIter tb t ht
  have hLl : Hid (((Sch.vers t).zipIdx 1).length = (Sch.vers t).length) := Lib.hid List.length_zipIdx
  have hget : Hid (∀ i x, ((Sch.vers t).zipIdx 1)[i]? = some x → x.2 = i + 1) := fun i x h => by
    rw [List.getElem?_zipIdx] at h
    cases hv : (Sch.vers t)[i]? with
    | none => rw [hv] at h; cases h
    | some y => rw [hv] at h; cases h; exact Nat.add_comm 1 i
  have hlast : Hid (Sch.last t = if (Sch.vers t).length = t.steps.length + 1 then t.steps.length + 1 else 0) := rfl
  have hvl := (Sch.vers_len t).1
  have hms := ht.lt
  generalize Sch.last t = LT at *
  generalize (Sch.vers t).zipIdx 1 = L at *
  generalize (Sch.vers t).length = vl at *
  have hTL : (t.steps.map Stp.cells).length = t.steps.length := List.length_map ..
  unfold Tm.cells at hVF hIt ⊢
  generalize t.slots.map Sl.cells = SL at *
  generalize t.steps.map Stp.cells = TL at *
  generalize t.steps.length = ms at *
  generalize t.name = nm at *
  refine Qin [2] Tryz.func113 Tryz.results113 Tryz.ntmps113 ?_
  repeat' (first | (with_reducible first | refine Q1 ?_ | refine Qe ?_ | refine s_boxP ?_ | refine Ql ?_ | refine Q2 ?_ | refine Qs ?_ | refine Q4 ?_ | (refine al_go ?_; intro b) | fail) | ((with_reducible apply (ck_ex Tryz.call161)); (focus exact LEL.refl _); (focus exact hVF.out _); (focus exact ⟨0, trivial⟩); intro tb htb) | (with_reducible first | refine Q5 ?_ | (refine Q3a ?_; intro hb; try intro hb1) | (refine Q3b ?_; intro hb; try intro hb1) | (refine Q3 ?_ ?_ <;> intro hb <;> try intro hb1) | fail) | fail)
  rename_i b1
  refine tr_perm (st' := [.box tb 36 [.str nm, .sl .shared SL, .sl .shared TL]] ++ (.box b 3 [.i 0] :: .box b1 36 [.str nm, .sl .shared SL, .sl .shared TL] :: st)) (.refl _) ?_
  refine tr_range (hIt.out tb) Tryz.call191 (by (try simp (disch := omega) only [push_cast, simprocAttr, *]); (try exact rfl); done) (fun _ => rfl) rfl (fun i C => C = .box b 3 [.i i] :: .box b1 36 [.str nm, .sl .shared SL, .sl .shared TL] :: st) (fun _ _ _ => False) rfl (fun i _ => ⟨_, rfl⟩) ?_ ?_ (fun _ _ _ _ _ _ h => h.elim)
  · rintro l i ⟨y, v⟩ C K hx rfl
    have hv : v = i + 1 := hget.out i _ hx
    subst hv
    have hil : i < L.length := (List.getElem?_eq_some_iff.1 hx).1
    have hib : i ≤ 2000 := by have := hLl.out; omega
    clear hx hil
    refine (?_ : Tr _ _ _ _ (AA.put (AA.put ⟨_, []⟩ (some 7) (.i ((i + 1 : Nat) : Int))) (some 8) (.agg y.cells)) (.box b 3 [.i i] :: .box b1 36 [.str nm, .sl .shared SL, .sl .shared TL] :: (st ++ K)) _)
    repeat' (with_reducible first | refine Q1 ?_ | refine Qe ?_ | refine Ql ?_ | refine Q2 ?_ | refine Qs ?_ | refine Q4 ?_ | (refine al_go ?_; intro b) | refine Q5 ?_ | (refine Q3a ?_; intro hb; try intro hb1) | (refine Q3b ?_; intro hb; try intro hb1) | (refine Q3 ?_ ?_ <;> intro hb <;> try intro hb1) | fail)
    refine ⟨.box b 3 [.i i] :: .box b1 36 [.str nm, .sl .shared SL, .sl .shared TL] :: st, List.Sublist.refl _, fun K' => ?_⟩
    refine (?_ : Tr _ _ _ _ _ (.box b 3 [.i i] :: .box b1 36 [.str nm, .sl .shared SL, .sl .shared TL] :: (st ++ K')) _)
    repeat' (with_reducible first | refine Q1 ?_ | refine Qe ?_ | refine Ql ?_ | refine Q2 ?_ | refine Qs ?_ | refine Q4 ?_ | (refine al_go ?_; intro b) | refine Q5 ?_ | (refine Q3a ?_; intro hb; try intro hb1) | (refine Q3b ?_; intro hb; try intro hb1) | (refine Q3 ?_ ?_ <;> intro hb <;> try intro hb1) | fail)
    exact ⟨_, List.Sublist.refl _, rfl⟩
  · rintro d K1 C' rfl rfl
    rw [hLl.out]
    clear hIt
    change Tr _ _ _ _ _ _ _
    by_cases hc : vl = ms + 1
    · have hL2 : LT = vl := by rw [hlast.out, if_pos hc, hc]
      clear hlast
      have hc2 : (vl : Int) = (ms : Int) + 1 := by omega
      clear hc
      refine tr_perm (st' := .box b 3 [.i vl] :: .box b1 36 [.str nm, .sl .shared SL, .sl .shared TL] :: markR d :: .box tb 36 [.str nm, .sl .shared SL, .sl .shared TL] :: st) (by show List.Perm (markR d :: .box tb 36 [.str nm, .sl .shared SL, .sl .shared TL] :: .box b 3 [.i vl] :: .box b1 36 [.str nm, .sl .shared SL, .sl .shared TL] :: st) _; (repeat (first | exact List.Perm.refl _ | refine perm_cons_out (by repeat (first | exact out_here | apply out_there)) ?_))) ?_
      repeat' (with_reducible first | refine Q1 ?_ | refine Qe ?_ | refine Ql ?_ | refine Q2 ?_ | refine Qs ?_ | refine Q4 ?_ | (refine al_go ?_; intro b) | refine Q5 ?_ | (refine Q3a ?_; intro hb; try intro hb1) | (refine Q3b ?_; intro hb; try intro hb1) | (refine Q3 ?_ ?_ <;> intro hb <;> try intro hb1) | fail)
      all_goals (refine retA_mark (by simp) (by first | rfl | assumption) (by repeat (first | exact out_here | apply out_there)) (by (repeat (first | exact List.Sublist.refl _ | apply List.Sublist.cons))) ?_ ⟨rfl, rfl⟩; (try simp (disch := omega) only [push_cast, simprocAttr, *]); try (first | exact LE.refl _ | exact LE.sl _ _ | ((first | refine LE.tup ?_ | refine LE.agg ?_); (repeat' (first | exact LEL.nil | refine LEL.cons ?_ ?_ | exact LE.refl _ | exact LE.sl _ _ | refine LE.agg ?_)); done) | refine LE.of_eq ?_))
    · have hL2 : LT = 0 := by rw [hlast.out, if_neg hc]
      clear hlast
      have hc2 : ¬ (vl : Int) = (ms : Int) + 1 := by omega
      clear hc
      refine tr_perm (st' := .box b 3 [.i vl] :: .box b1 36 [.str nm, .sl .shared SL, .sl .shared TL] :: markR d :: .box tb 36 [.str nm, .sl .shared SL, .sl .shared TL] :: st) (by show List.Perm (markR d :: .box tb 36 [.str nm, .sl .shared SL, .sl .shared TL] :: .box b 3 [.i vl] :: .box b1 36 [.str nm, .sl .shared SL, .sl .shared TL] :: st) _; (repeat (first | exact List.Perm.refl _ | refine perm_cons_out (by repeat (first | exact out_here | apply out_there)) ?_))) ?_
      repeat' (with_reducible first | refine Q1 ?_ | refine Qe ?_ | refine Ql ?_ | refine Q2 ?_ | refine Qs ?_ | refine Q4 ?_ | (refine al_go ?_; intro b) | refine Q5 ?_ | (refine Q3a ?_; intro hb; try intro hb1) | (refine Q3b ?_; intro hb; try intro hb1) | (refine Q3 ?_ ?_ <;> intro hb <;> try intro hb1) | fail)
      all_goals (refine retA_mark (by simp) (by first | rfl | assumption) (by repeat (first | exact out_here | apply out_there)) (by (repeat (first | exact List.Sublist.refl _ | apply List.Sublist.cons))) ?_ ⟨rfl, rfl⟩; (try simp (disch := omega) only [push_cast, simprocAttr, *]); try (first | exact LE.refl _ | exact LE.sl _ _ | ((first | refine LE.tup ?_ | refine LE.agg ?_); (repeat' (first | exact LEL.nil | refine LEL.cons ?_ ?_ | exact LE.refl _ | exact LE.sl _ _ | refine LE.agg ?_)); done) | refine LE.of_eq ?_))
theorem schRightF (t : Tm) (ht : TOk t) (st : St) : TrF Tryz.prog 50 [.agg t.cells] st fun d st' => d = .b (decide (0 < Sch.last t)) ∧ st' = st := by
  have hL := Lib.hid (schLastF t ht)
  generalize Sch.last t = n at *
  unfold Tm.cells at *
  generalize t.slots.map Sl.cells = SL at *
  generalize t.steps.map Stp.cells = TL at *
  refine Qin [2] Tryz.func50 Tryz.results50 Tryz.ntmps50 ?_
  repeat' (first | (with_reducible first | refine Q1 ?_ | refine Qe ?_ | refine s_boxP ?_ | refine Ql ?_ | refine Q2 ?_ | refine Qs ?_ | refine Q4 ?_ | (refine al_go ?_; intro b) | fail) | refine Qc Tryz.call113 (hL.out _) ?_ | (with_reducible first | refine Q5 ?_ | (refine Q3a ?_; intro hb; try intro hb1) | (refine Q3b ?_; intro hb; try intro hb1) | (refine Q3 ?_ ?_ <;> intro hb <;> try intro hb1) | fail) | fail)
  all_goals (refine Qret (hd := ?_); (try simp (disch := omega) only [push_cast, simprocAttr, *]); try (first | exact LE.refl _ | exact LE.sl _ _ | ((first | refine LE.tup ?_ | refine LE.agg ?_); (repeat' (first | exact LEL.nil | refine LEL.cons ?_ ?_ | exact LE.refl _ | exact LE.sl _ _ | refine LE.agg ?_)); done) | refine LE.of_eq ?_))
  all_goals (refine congrArg D.b (decide_eq_decide.2 ?_); omega)
def Sch.verX (t : Tm) (v : Int) : Vr := (Sch.ver t v).getD ⟨[], []⟩
def Sch.verB (t : Tm) (v : Int) : Bool := (Sch.ver t v).isSome
end Go.Proofs.YtgcienlfpnpbgaaGreat
end

section
namespace Go.Proofs.YtgcienlfpnpbgaaGreat
set_option linter.unusedSimpArgs false
attribute [local push_cast] encB encI encC V.cells_mk V.cells_len Nat.mul_one Int.sub_zero List.map_nil beq_self_eq_true List.head?_cons
open Go.RowKit
set_option maxRecDepth 10000
set_option maxHeartbeats 4000000
def twoT : Tm := ⟨⟨#[116]⟩, [⟨⟨#[97]⟩, 4, false, .mk 2 0 ⟨#[]⟩ []⟩, ⟨⟨#[98]⟩, 4, true, .mk 2 0 ⟨#[]⟩ []⟩], [⟨2, 0, ⟨⟨#[]⟩, 0, false, .mk 0 0 ⟨#[]⟩ []⟩, []⟩, ⟨1, 0, ⟨⟨#[99]⟩, 5, false, .mk 0 0 ⟨#[]⟩ []⟩, []⟩]⟩
theorem twoC : twoT.cells = [.str ⟨#[116]⟩, .sl .shared [[.str ⟨#[97]⟩, .i 4, .b false, .i 2, .i 0, .str ⟨#[]⟩, .sl .shared []], [.str ⟨#[98]⟩, .i 4, .b true, .i 2, .i 0, .str ⟨#[]⟩, .sl .shared []]],
    .sl .shared [[.i 2, .i 0, .str ⟨#[]⟩, .i 0, .b false, .i 0, .i 0, .str ⟨#[]⟩, .sl .shared [], .sl .shared []], [.i 1, .i 0, .str ⟨#[99]⟩, .i 5, .b false, .i 0, .i 0, .str ⟨#[]⟩, .sl .shared [], .sl .shared []]]] := by
  unfold twoT Tm.cells
  simp only [List.map_cons, List.map_nil, Stp.cells, Sl.cells_mk, List.cons_append, List.nil_append]
theorem refInt10F (n : Int) (st : St) : TrF Tryz.prog 132 [.i n] st fun x st' => x = .agg (V.mk 2 n ⟨#[]⟩ []).cells ∧ st' = st := by
  refine QinC 2 73 Tryz.func132 Tryz.ntmps132 ?_
  repeat' (with_reducible first | refine Q1 ?_ | refine Qe ?_ | refine Ql ?_ | refine Q2 ?_ | refine Qs ?_ | refine Q4 ?_ | (refine al_go ?_; intro b) | refine Q5 ?_ | (refine Q3a ?_; intro hb; try intro hb1) | (refine Q3b ?_; intro hb; try intro hb1) | (refine Q3 ?_ ?_ <;> intro hb <;> try intro hb1) | fail)
  all_goals exact QretC
theorem twoOk : TOk twoT := by
  refine ⟨by decide, by decide, ?_, ?_⟩
  · intro s hs
    simp only [twoT, List.mem_cons, List.not_mem_nil, or_false] at hs
    rcases hs with rfl | rfl <;> decide
  · intro s hs
    have hb : ∀ k n : Int, (V.mk k n ⟨#[]⟩ []).Bg := fun _ _ => .mk (Nat.zero_le _) (Nat.zero_le _) fun x h => by cases h
    simp only [twoT, List.mem_cons, List.not_mem_nil, or_false] at hs
    rcases hs with rfl | rfl <;> exact ⟨by decide, hb _ _, by decide⟩
theorem twoL : Sch.last twoT = 3 := by kernel_rfl
abbrev sA : List D := [.str ⟨#[97]⟩, .i 4, .b false, .i 2, .i 0, .str ⟨#[]⟩, .sl .shared []]
abbrev sB : List D := [.str ⟨#[98]⟩, .i 4, .b true, .i 2, .i 0, .str ⟨#[]⟩, .sl .shared []]
abbrev sC : List D := [.str ⟨#[99]⟩, .i 5, .b false, .i 0, .i 0, .str ⟨#[]⟩, .sl .shared []]
theorem twoF (st : St) : TrF Tryz.prog 48 [] st fun d st' => d = .agg twoT.cells ∧ st' = st := by
  have hI := refInt10F 0
  rw [V.cells_mk] at hI
  rw [twoC]
  replace hI := Lib.hid hI
  refine QinC 0 36 Tryz.func48 Tryz.ntmps48 ?_
  repeat' (first | (with_reducible first | refine Q1 ?_ | refine Qe ?_ | refine Ql ?_ | refine Q2 ?_ | refine Qs ?_ | refine Q4 ?_ | (refine al_go ?_; intro b) | fail) | refine Qc Tryz.call132 (hI.out _) ?_ | (with_reducible first | refine Q5 ?_ | (refine Q3a ?_; intro hb; try intro hb1) | (refine Q3b ?_; intro hb; try intro hb1) | (refine Q3 ?_ ?_ <;> intro hb <;> try intro hb1) | fail) | fail)
  all_goals exact QretC
end Go.Proofs.YtgcienlfpnpbgaaGreat
end

section
namespace Go.Proofs.YtgcienlfpnpbgaaGreat
set_option linter.unusedSimpArgs false
attribute [local push_cast] encB encI encC V.cells_mk V.cells_len Nat.mul_one Int.sub_zero List.map_nil beq_self_eq_true bne_self_eq_false List.head?_cons
open Go.RowKit
set_option maxRecDepth 10000
set_option maxHeartbeats 8000000
namespace Reg
def findL (nm : ByteArray) : List Tm → Nat → Int
  | [], _ => -1
  | t :: l, i => if t.name.toList == nm.toList then i else findL nm l (i + 1)
def find (L : List Tm) (nm : ByteArray) : Int := findL nm L 0
theorem findL_drop {L : List Tm} {nm : ByteArray} {i : Nat} {t : Tm} (h : L[i]? = some t) : findL nm (L.drop i) i = if t.name.toList == nm.toList then (i : Int) else findL nm (L.drop (i + 1)) (i + 1) := by
  obtain ⟨h1, rfl⟩ := List.getElem?_eq_some_iff.1 h
  rw [List.drop_eq_getElem_cons h1, findL]
def rightL (L : List Tm) : List Tm → Nat → Bool
  | [], _ => true
  | t :: l, i => decide (i < 6) && (decide (0 < Sch.last t) && ((find L t.name == (i : Int)) && rightL L l (i + 1)))
def right (L : List Tm) : Bool := rightL L L 0
theorem rightL_drop {L l : List Tm} {i : Nat} {t : Tm} (h : l[i]? = some t) : rightL L (l.drop i) i = (decide (i < 6) && (decide (0 < Sch.last t) && ((find L t.name == (i : Int)) && rightL L (l.drop (i + 1)) (i + 1)))) := by
  obtain ⟨h1, rfl⟩ := List.getElem?_eq_some_iff.1 h
  rw [List.drop_eq_getElem_cons h1, rightL]
end Reg
theorem regFind1F (t : Tm) (nm : ByteArray) (st : St) : TrF Tryz.prog 64 [.agg t.cells, .ip [.str nm]] st fun d st' => d = .b (t.name.toList == nm.toList) ∧ st' = st := by
  unfold Tm.cells
  generalize t.slots.map Sl.cells = SL at *
  generalize t.steps.map Stp.cells = TL at *
  generalize t.name = n at *
  refine Qin [3] Tryz.func64 Tryz.results64 Tryz.ntmps64 ?_
  repeat' (with_reducible first | refine Q1 ?_ | refine Qe ?_ | refine Ql ?_ | refine Q2 ?_ | refine Qs ?_ | refine Q4 ?_ | (refine al_go ?_; intro b) | refine Q5 ?_ | (refine Q3a ?_; intro hb; try intro hb1) | (refine Q3b ?_; intro hb; try intro hb1) | (refine Q3 ?_ ?_ <;> intro hb <;> try intro hb1) | fail)
  all_goals exact Qret
theorem regIndexF (L : List Tm) (nm : ByteArray) (hl : L.length ≤ 1000000) (st : St) : TrF Tryz.prog 63 [.sl .shared (L.map Tm.cells), .fn (.func 64) [] [.ip [.str nm]]] st fun d st' => d = .i (Reg.find L nm) ∧ st' = st := by
  unfold Reg.find
  obtain ⟨F, hF⟩ : ∃ F, Reg.findL nm L 0 = F := ⟨_, rfl⟩
  rw [hF]
  have HF : Hid (Reg.findL nm (L.drop 0) 0 = F) := hF
  have hm : (L.map Tm.cells).length = L.length := List.length_map ..
  have hc : Hid (∀ (i : Nat) (t : Tm), L[i]? = some t → (L.map Tm.cells)[i]? = some t.cells) := fun i t h => by rw [List.getElem?_map, h]; rfl
  clear hF
  generalize L.map Tm.cells = LS at *
  refine Qin [4] Tryz.func63 Tryz.results63 Tryz.ntmps63 ?_
  repeat' (with_reducible first | refine Q1 ?_ | refine Qe ?_ | refine Ql ?_ | refine Q2 ?_ | refine Qs ?_ | refine Q4 ?_ | (refine al_go ?_; intro b) | refine Q5 ?_ | (refine Q3a ?_; intro hb; try intro hb1) | (refine Q3b ?_; intro hb; try intro hb1) | (refine Q3 ?_ ?_ <;> intro hb <;> try intro hb1) | fail)
  refine tr_loopd (ι := Nat) (fun i A st' => i ≤ L.length ∧ Hid (Reg.findL nm (L.drop i) i = F) ∧ A.df = [] ∧ A.e 0 = .sl .shared LS ∧ A.e 1 = .fn (.func 64) [] [.ip [.str nm]] ∧ A.e 7 = .i L.length ∧ A.e 8 = .i i ∧ st = st') (fun i => L.length - i) 0 ⟨Nat.zero_le _, HF, Qf, Qf, Qf, Qf, Qf, rfl⟩ ?_
  rintro i A st' ⟨hi, HT, hdf, e0, e1, e7, e8, rfl⟩
  clear HF
  by_cases hlt : i < L.length
  · obtain ⟨t, ht⟩ : ∃ t, L[i]? = some t := ⟨_, List.getElem?_eq_getElem hlt⟩
    have h1 := hc.out i t ht
    have HE := HT.out
    rw [Reg.findL_drop ht] at HE
    have hG := regFind1F t nm
    clear HT ht
    generalize (t.name.toList == nm.toList) = q at *
    unfold Tm.cells at h1 hG
    generalize t.slots.map Sl.cells = SL at *
    generalize t.steps.map Stp.cells = TL at *
    replace hG := Lib.hid hG
    cases q with
    | true =>
      rw [if_pos rfl] at HE
      subst HE
      repeat' (first | (with_reducible first | refine Q1 ?_ | refine Qe ?_ | refine Ql ?_ | refine Q2 ?_ | refine Qs ?_ | refine Q4 ?_ | (refine al_go ?_; intro b) | fail) | refine Qc Tryz.call64 (hG.out _) ?_ | (with_reducible first | refine Q5 ?_ | (refine Q3a ?_; intro hb; try intro hb1) | (refine Q3b ?_; intro hb; try intro hb1) | (refine Q3 ?_ ?_ <;> intro hb <;> try intro hb1) | fail) | fail)
      all_goals exact Qret
    | false =>
      rw [if_neg Bool.false_ne_true] at HE
      replace HE := Lib.hid HE
      repeat' (first | (with_reducible first | refine Q1 ?_ | refine Qe ?_ | refine Ql ?_ | refine Q2 ?_ | refine Qs ?_ | refine Q4 ?_ | (refine al_go ?_; intro b) | fail) | refine Qc Tryz.call64 (hG.out _) ?_ | (with_reducible first | refine Q5 ?_ | (refine Q3a ?_; intro hb; try intro hb1) | (refine Q3b ?_; intro hb; try intro hb1) | (refine Q3 ?_ ?_ <;> intro hb <;> try intro hb1) | fail) | fail)
      refine ⟨i + 1, st, (by (repeat (first | exact List.Sublist.refl _ | apply List.Sublist.cons))), ⟨hlt, HE, ?_, ?_, ?_, ?_, ?_, rfl⟩, by omega⟩
      all_goals exact Qf
  · have HE := HT.out
    rw [List.drop_of_length_le (by omega), Reg.findL] at HE
    subst HE
    clear HT
    repeat' (with_reducible first | refine Q1 ?_ | refine Qe ?_ | refine Ql ?_ | refine Q2 ?_ | refine Qs ?_ | refine Q4 ?_ | (refine al_go ?_; intro b) | refine Q5 ?_ | (refine Q3a ?_; intro hb; try intro hb1) | (refine Q3b ?_; intro hb; try intro hb1) | (refine Q3 ?_ ?_ <;> intro hb <;> try intro hb1) | fail)
    all_goals exact Qret
theorem regFindF (L : List Tm) (nm : ByteArray) (hl : L.length ≤ 1000000) (st : St) : TrF Tryz.prog 21 [.sl .shared (L.map Tm.cells), .str nm] st fun d st' => d = .i (Reg.find L nm) ∧ st' = st := by
  have hI := regIndexF L nm hl
  generalize Reg.find L nm = q at *
  generalize L.map Tm.cells = LS at *
  replace hI := Lib.hid hI
  refine Qin [4] Tryz.func21 Tryz.results21 Tryz.ntmps21 ?_
  repeat' (first | (with_reducible first | refine Q1 ?_ | refine Qe ?_ | refine Ql ?_ | refine Q2 ?_ | refine Qs ?_ | refine Q4 ?_ | (refine al_go ?_; intro b) | fail) | refine Qc Tryz.call63 (hI.out _) ?_ | (with_reducible first | refine Q5 ?_ | (refine Q3a ?_; intro hb; try intro hb1) | (refine Q3b ?_; intro hb; try intro hb1) | (refine Q3 ?_ ?_ <;> intro hb <;> try intro hb1) | fail) | fail)
  all_goals exact Qret
theorem regRightF (L : List Tm) (hL : ∀ t ∈ L, TOk t) (hl : L.length ≤ 1000000) (st : St) : TrF Tryz.prog 16 [.sl .shared (L.map Tm.cells)] st fun d st' => d = .b (Reg.right L) ∧ st' = st := by
  unfold Reg.right
  obtain ⟨F, hF⟩ : ∃ F, Reg.rightL L L 0 = F := ⟨_, rfl⟩
  rw [hF]
  have HF : Hid (Reg.rightL L (L.drop 0) 0 = F) := hF
  have hm : (L.map Tm.cells).length = L.length := List.length_map ..
  have hc : Hid (∀ (i : Nat) (t : Tm), L[i]? = some t → (L.map Tm.cells)[i]? = some t.cells) := fun i t h => by rw [List.getElem?_map, h]; rfl
  have hFi := Lib.hid fun (nm : ByteArray) => regFindF L nm hl
  have hL2 := Lib.hid hL
  clear hF hL
  obtain ⟨LS, hLS⟩ : ∃ LS, L.map Tm.cells = LS := ⟨_, rfl⟩
  rw [hLS] at hm hc hFi ⊢
  clear hLS
  refine Qin [2] Tryz.func16 Tryz.results16 Tryz.ntmps16 ?_
  repeat' (with_reducible first | refine Q1 ?_ | refine Qe ?_ | refine Ql ?_ | refine Q2 ?_ | refine Qs ?_ | refine Q4 ?_ | (refine al_go ?_; intro b) | refine Q5 ?_ | (refine Q3a ?_; intro hb; try intro hb1) | (refine Q3b ?_; intro hb; try intro hb1) | (refine Q3 ?_ ?_ <;> intro hb <;> try intro hb1) | fail)
  refine tr_loopd (ι := Nat) (fun i A st' => i ≤ L.length ∧ Hid (Reg.rightL L (L.drop i) i = F) ∧ A.df = [] ∧ A.e 0 = .sl .shared LS ∧ A.e 5 = .sl .shared LS ∧ A.e 6 = .i L.length ∧ A.e 7 = .i i ∧ st = st') (fun i => L.length - i) 0 ⟨Nat.zero_le _, HF, Qf, Qf, Qf, Qf, Qf, rfl⟩ ?_
  rintro i A st' ⟨hi, HT, hdf, e0, e5, e6, e7, rfl⟩
  clear HF
  by_cases hlt : i < L.length
  · obtain ⟨t, ht⟩ : ∃ t, L[i]? = some t := ⟨_, List.getElem?_eq_getElem hlt⟩
    have h1 := hc.out i t ht
    have HE := HT.out
    rw [Reg.rightL_drop ht] at HE
    have hR := schRightF t (hL2.out t (List.mem_of_getElem? ht))
    have hG := hFi.out t.name
    clear HT ht
    obtain ⟨G, hGG⟩ : ∃ G, Reg.rightL L (L.drop (i + 1)) (i + 1) = G := ⟨_, rfl⟩
    rw [hGG] at HE
    replace hGG := Lib.hid hGG
    obtain ⟨q2, hq2⟩ : ∃ q, decide (0 < Sch.last t) = q := ⟨_, rfl⟩
    rw [hq2] at HE hR
    generalize Reg.find L t.name = fi at *
    clear hq2
    unfold Tm.cells at h1 hR
    generalize t.slots.map Sl.cells = SL at *
    generalize t.steps.map Stp.cells = TL at *
    generalize t.name = nm at *
    replace hR := Lib.hid hR
    replace hG := Lib.hid hG
    by_cases hi6 : i < 6
    · rw [decide_eq_true hi6, Bool.true_and] at HE
      cases q2 with
      | false =>
        rw [Bool.false_and] at HE
        subst HE
        repeat' (first | (with_reducible first | refine Q1 ?_ | refine Qe ?_ | refine Ql ?_ | refine Q2 ?_ | refine Qs ?_ | refine Q4 ?_ | (refine al_go ?_; intro b) | fail) | refine Qc Tryz.call50 (hR.out _) ?_ | refine Qc Tryz.call21 (hG.out _) ?_ | (with_reducible first | refine Q5 ?_ | (refine Q3a ?_; intro hb; try intro hb1) | (refine Q3b ?_; intro hb; try intro hb1) | (refine Q3 ?_ ?_ <;> intro hb <;> try intro hb1) | fail) | fail)
        all_goals exact Qret
      | true =>
        rw [Bool.true_and] at HE
        by_cases hf : fi = (i : Int)
        · rw [beq_iff_eq.2 hf, Bool.true_and] at HE
          subst hf
          replace HE := Lib.hid (hGG.out.trans HE)
          clear hGG
          repeat' (first | (with_reducible first | refine Q1 ?_ | refine Qe ?_ | refine Ql ?_ | refine Q2 ?_ | refine Qs ?_ | refine Q4 ?_ | (refine al_go ?_; intro b) | fail) | refine Qc Tryz.call50 (hR.out _) ?_ | refine Qc Tryz.call21 (hG.out _) ?_ | (with_reducible first | refine Q5 ?_ | (refine Q3a ?_; intro hb; try intro hb1) | (refine Q3b ?_; intro hb; try intro hb1) | (refine Q3 ?_ ?_ <;> intro hb <;> try intro hb1) | fail) | fail)
          refine ⟨i + 1, st, (by (repeat (first | exact List.Sublist.refl _ | apply List.Sublist.cons))), ⟨hlt, HE, ?_, ?_, ?_, ?_, ?_, rfl⟩, by omega⟩
          all_goals exact Qf
        · rw [beq_eq_false_iff_ne.2 hf, Bool.false_and] at HE
          subst HE
          repeat' (first | (with_reducible first | refine Q1 ?_ | refine Qe ?_ | refine Ql ?_ | refine Q2 ?_ | refine Qs ?_ | refine Q4 ?_ | (refine al_go ?_; intro b) | fail) | refine Qc Tryz.call50 (hR.out _) ?_ | refine Qc Tryz.call21 (hG.out _) ?_ | (with_reducible first | refine Q5 ?_ | (refine Q3a ?_; intro hb; try intro hb1) | (refine Q3b ?_; intro hb; try intro hb1) | (refine Q3 ?_ ?_ <;> intro hb <;> try intro hb1) | fail) | fail)
          all_goals exact Qret
    · rw [decide_eq_false hi6, Bool.false_and] at HE
      subst HE
      repeat' (first | (with_reducible first | refine Q1 ?_ | refine Qe ?_ | refine Ql ?_ | refine Q2 ?_ | refine Qs ?_ | refine Q4 ?_ | (refine al_go ?_; intro b) | fail) | refine Qc Tryz.call50 (hR.out _) ?_ | refine Qc Tryz.call21 (hG.out _) ?_ | (with_reducible first | refine Q5 ?_ | (refine Q3a ?_; intro hb; try intro hb1) | (refine Q3b ?_; intro hb; try intro hb1) | (refine Q3 ?_ ?_ <;> intro hb <;> try intro hb1) | fail) | fail)
      all_goals exact Qret
  · have HE := HT.out
    rw [List.drop_of_length_le (by omega), Reg.rightL] at HE
    subst HE
    clear HT
    repeat' (with_reducible first | refine Q1 ?_ | refine Qe ?_ | refine Ql ?_ | refine Q2 ?_ | refine Qs ?_ | refine Q4 ?_ | (refine al_go ?_; intro b) | refine Q5 ?_ | (refine Q3a ?_; intro hb; try intro hb1) | (refine Q3b ?_; intro hb; try intro hb1) | (refine Q3 ?_ ?_ <;> intro hb <;> try intro hb1) | fail)
    all_goals exact Qret
end Go.Proofs.YtgcienlfpnpbgaaGreat
end

section
namespace Go.Proofs.YtgcienlfpnpbgaaGreat
set_option linter.unusedSimpArgs false
attribute [local push_cast] encB encI Nat.mul_one
open Go.RowKit
set_option maxRecDepth 10000
set_option maxHeartbeats 4000000
namespace B
def be : Nat → Nat → List UInt8
  | 0, _ => []
  | m + 1, x => UInt8.ofNat (x / 256 ^ m) :: be m x
theorem be_len : ∀ m x, (be m x).length = m
  | 0, _ => rfl
  | m + 1, x => by rw [be, List.length_cons, be_len m x]
end B
theorem u8_wrap (n : Nat) : IntKind.u8.wrap (n : Int) = ((UInt8.ofNat n).toNat : Int) := by
  rw [UInt8.toNat_ofNat']
  simp [IntKind.wrap, IntKind.bits, IntKind.signed]
theorem chop1_map (l : List UInt8) : chop 1 l.length (l.map D.y) = l.map encB := by
  induction l with
  | nil => rfl
  | cons b l ih => rw [List.length_cons, chop, List.map_cons, List.map_cons, List.take_succ_cons, List.take_zero, List.drop_succ_cons, List.drop_zero, ih]; rfl
open B in
theorem binRowF (x m : Nat) (hm : m ≤ 1000) (st : St) : TrF Tryz.prog 159 [.s (.int .u64 x), .i m] st fun d st' => d = .sl .tight ((be m x).map encB) ∧ st' = st := by
  refine Qin [4] Tryz.func159 Tryz.results159 Tryz.ntmps159 ?_
  repeat' (first | (with_reducible first | refine Q1 ?_ | refine Qe ?_ | refine Ql ?_ | refine Q2 ?_ | refine Qs ?_ | refine Q4 ?_ | (refine al_go ?_; intro b) | fail) | with_reducible refine s_make ?_ | with_reducible refine mk_go ?_ | ((with_reducible apply mk2_go); (focus omega); (focus omega); (focus exact rfl); intro g) | (with_reducible first | refine Q5 ?_ | (refine Q3a ?_; intro hb; try intro hb1) | (refine Q3b ?_; intro hb; try intro hb1) | (refine Q3 ?_ ?_ <;> intro hb <;> try intro hb1) | fail) | fail)
  refine tr_loop (ι := Nat) (fun q A st' => q ≤ m ∧ A.df = [] ∧ A.e 5 = .ar g 0 m m ∧ A.e 6 = .i ((q : Int) - 1) ∧ A.e 0 = .s (.int .u64 ((x / 256 ^ (m - q) : Nat) : Int)) ∧ ∃ L, st' = .box g 5 L :: st ∧ L.length = m ∧ Hid (L = List.replicate q (.y 0) ++ (be (m - q) x).map D.y)) (fun q => q) m ⟨Nat.le_refl _, rfl, Qf, Qf, by rw [Nat.sub_self, Nat.pow_zero, Nat.div_one]; rfl, _, rfl, List.length_replicate, by rw [Nat.sub_self]; show List.replicate m _ = List.replicate m _ ++ []; rw [List.append_nil]; rfl⟩ ?_
  rintro q A st' ⟨hq, hdf, e5, e6, e0, L, rfl, hL, HL⟩
  cases q with
  | zero =>
    have hLe := HL.out
    rw [Nat.sub_zero, List.replicate_zero, List.nil_append] at hLe
    have hfin := chop1_map (be m x)
    rw [be_len, ← hLe] at hfin
    refine tr_freezeA .tight (.inr rfl) (n := m) (off := 0) (cap := m) [5] 1 (.refl _) (by omega) (by rw [hL]; omega) (fun _ => rfl) (fun t ht => by rw [List.mem_singleton.1 ht]; exact e5) fun A' hdf' h1 h2 => ?_
    have e5' := h1 5 (List.mem_singleton.2 rfl)
    have e6' := h2 6 rfl
    rw [e6] at e6'
    rw [List.drop_zero, hfin] at e5'
    rw [hdf] at hdf'
    clear h1 h2 e5 e6 e0 hLe hfin HL hL hdf
    repeat' (with_reducible first | refine Q1 ?_ | refine Qe ?_ | refine Ql ?_ | refine Q2 ?_ | refine Qs ?_ | refine Q4 ?_ | (refine al_go ?_; intro b) | refine Q5 ?_ | (refine Q3a ?_; intro hb; try intro hb1) | (refine Q3b ?_; intro hb; try intro hb1) | (refine Q3 ?_ ?_ <;> intro hb <;> try intro hb1) | fail)
    all_goals exact Qret
  | succ i =>
    replace e6 : A.e 6 = .i i := by rw [e6]; congr 2; omega
    have hLe := HL.out
    have ht : L.take i = List.replicate i (.y 0) := by
      rw [hLe, List.take_append_of_le_length (by simp), List.take_replicate, Nat.min_eq_left (by omega)]
    have hd : L.drop (i + 1) = (be (m - (i + 1)) x).map D.y := by
      rw [hLe, List.drop_left' (by simp)]
    have hX : ((x / 256 ^ (m - (i + 1)) : Nat) : Int) / 256 = ((x / 256 ^ (m - i) : Nat) : Int) := by
      rw [show m - i = (m - (i + 1)) + 1 by omega, Nat.pow_succ, ← Nat.div_div_eq_div_mul]; rfl
    have hB : be (m - i) x = UInt8.ofNat (x / 256 ^ (m - (i + 1))) :: be (m - (i + 1)) x := by
      rw [show m - i = (m - (i + 1)) + 1 by omega, be]
    have hW := u8_wrap (x / 256 ^ (m - (i + 1)))
    generalize x / 256 ^ (m - (i + 1)) = X at *
    have hNew : Hid (List.replicate i (.y 0) ++ [D.y (UInt8.ofNat X)] ++ (be (m - (i + 1)) x).map D.y = List.replicate i (.y 0) ++ (be (m - i) x).map D.y) := by
      show _ = _
      rw [hB]; simp
    have hTl : ((be (m - (i + 1)) x).map D.y).length = m - (i + 1) := by rw [List.length_map, be_len]
    clear hLe HL hB
    generalize (be (m - (i + 1)) x).map D.y = T at *
    repeat' (with_reducible first | refine Q1 ?_ | refine Qe ?_ | refine Ql ?_ | refine Q2 ?_ | refine Qs ?_ | refine Q4 ?_ | (refine al_go ?_; intro b) | refine Q5 ?_ | (refine Q3a ?_; intro hb; try intro hb1) | (refine Q3b ?_; intro hb; try intro hb1) | (refine Q3 ?_ ?_ <;> intro hb <;> try intro hb1) | fail)
    refine ⟨i, ⟨by omega, ?_, ?_, ?_, ?_, _, rfl, by simp; omega, hNew⟩, ?_⟩
    all_goals exact Qf
open B in
theorem binNumF (n : Int) (st : St) : TrF Tryz.prog 134 [.i n] st fun d st' => d = .sl .tight ((if 0 ≤ n ∧ n ≤ 2147483647 then be 4 n.toNat else []).map encB) ∧ st' = st := by
  refine Qin [2] Tryz.func134 Tryz.results134 Tryz.ntmps134 ?_
  by_cases h : 0 ≤ n ∧ n ≤ 2147483647
  · rw [if_pos h]
    obtain ⟨m, rfl⟩ : ∃ m : Nat, n = m := ⟨n.toNat, by omega⟩
    obtain ⟨h1, h2⟩ := h
    have hW : IntKind.u64.wrap (m : Int) = m := by simp [IntKind.wrap, IntKind.bits, IntKind.signed]; omega
    rw [Int.toNat_natCast]
    repeat' (first | (with_reducible first | refine Q1 ?_ | refine Qe ?_ | refine Ql ?_ | refine Q2 ?_ | refine Qs ?_ | refine Q4 ?_ | (refine al_go ?_; intro b) | fail) | refine Qc Tryz.call159 (binRowF m 4 (by omega) _) ?_ | (with_reducible first | refine Q5 ?_ | (refine Q3a ?_; intro hb; try intro hb1) | (refine Q3b ?_; intro hb; try intro hb1) | (refine Q3 ?_ ?_ <;> intro hb <;> try intro hb1) | fail) | fail)
    all_goals exact Qret
  · rw [if_neg h]
    repeat' (with_reducible first | refine Q1 ?_ | refine Qe ?_ | refine Ql ?_ | refine Q2 ?_ | refine Qs ?_ | refine Q4 ?_ | (refine al_go ?_; intro b) | refine Q5 ?_ | (refine Q3a ?_; intro hb; try intro hb1) | (refine Q3b ?_; intro hb; try intro hb1) | (refine Q3 ?_ ?_ <;> intro hb <;> try intro hb1) | fail)
    all_goals exact Qret
open B in
theorem binLongF (n : Int) (hn : -9223372036854775808 ≤ n ∧ n ≤ 9223372036854775807) (st : St) : TrF Tryz.prog 94 [.i n] st fun d st' => d = .sl .tight ((be 8 (IntKind.u64.wrap n).toNat).map encB) ∧ st' = st := by
  refine Qin [2] Tryz.func94 Tryz.results94 Tryz.ntmps94 ?_
  obtain ⟨m, hm⟩ : ∃ m : Nat, IntKind.u64.wrap n = m := ⟨(IntKind.u64.wrap n).toNat, by
    have : 0 ≤ IntKind.u64.wrap n := by simp [IntKind.wrap, IntKind.bits, IntKind.signed]; omega
    omega⟩
  rw [hm, Int.toNat_natCast]
  repeat' (first | (with_reducible first | refine Q1 ?_ | refine Qe ?_ | refine Ql ?_ | refine Q2 ?_ | refine Qs ?_ | refine Q4 ?_ | (refine al_go ?_; intro b) | fail) | refine Qc Tryz.call159 (binRowF m 8 (by omega) _) ?_ | (with_reducible first | refine Q5 ?_ | (refine Q3a ?_; intro hb; try intro hb1) | (refine Q3b ?_; intro hb; try intro hb1) | (refine Q3 ?_ ?_ <;> intro hb <;> try intro hb1) | fail) | fail)
  all_goals exact Qret
open B in
theorem binByteF (n : Int) (st : St) : TrF Tryz.prog 136 [.i n] st fun d st' => d = .sl .tight ((if 0 ≤ n ∧ n ≤ 255 then [UInt8.ofNat n.toNat] else []).map encB) ∧ st' = st := by
  refine Qin [2] Tryz.func136 Tryz.results136 Tryz.ntmps136 ?_
  by_cases h : 0 ≤ n ∧ n ≤ 255
  · rw [if_pos h]
    obtain ⟨m, rfl⟩ : ∃ m : Nat, n = m := ⟨n.toNat, by omega⟩
    obtain ⟨h1, h2⟩ := h
    have hW := u8_wrap m
    rw [Int.toNat_natCast]
    repeat' (with_reducible first | refine Q1 ?_ | refine Qe ?_ | refine Ql ?_ | refine Q2 ?_ | refine Qs ?_ | refine Q4 ?_ | (refine al_go ?_; intro b) | refine Q5 ?_ | (refine Q3a ?_; intro hb; try intro hb1) | (refine Q3b ?_; intro hb; try intro hb1) | (refine Q3 ?_ ?_ <;> intro hb <;> try intro hb1) | fail)
    all_goals exact Qret
  · rw [if_neg h]
    repeat' (with_reducible first | refine Q1 ?_ | refine Qe ?_ | refine Ql ?_ | refine Q2 ?_ | refine Qs ?_ | refine Q4 ?_ | (refine al_go ?_; intro b) | refine Q5 ?_ | (refine Q3a ?_; intro hb; try intro hb1) | (refine Q3b ?_; intro hb; try intro hb1) | (refine Q3 ?_ ?_ <;> intro hb <;> try intro hb1) | fail)
    all_goals exact Qret
namespace B
def tx (l : List UInt8) : List UInt8 := be 4 l.length ++ l
end B
open B in
theorem binTextF (s : ByteArray) (hs : s.size ≤ 1000000) (st : St) : TrF Tryz.prog 55 [.str s] st fun d st' => d = .sl .shared ((tx s.data.toList).map encB) ∧ st' = st := by
  have hN := binNumF s.size
  rw [if_pos (by omega), Int.toNat_natCast] at hN
  have hN := Lib.hid hN
  have h4 : (be 4 s.size).length = 4 := be_len _ _
  have ht : tx s.data.toList = be 4 s.size ++ s.data.toList := by unfold tx; congr 1
  rw [ht]
  clear ht
  generalize be 4 s.size = hd at *
  refine Qin [2] Tryz.func55 Tryz.results55 Tryz.ntmps55 ?_
  refine tr_room 5 1 4 ?_
  have h4 : (hd.map encB).length = 4 := by rw [List.length_map]; exact h4
  rw [← h4]
  repeat' (first | (with_reducible first | refine Q1 ?_ | refine Qe ?_ | refine Ql ?_ | refine Q2 ?_ | refine Qs ?_ | refine Q4 ?_ | (refine al_go ?_; intro b) | fail) | refine Qc Tryz.call134 (hN.out _) ?_ | (with_reducible first | (refine Qa ?_; intro o' ho') | (refine Qp ?_; intro o' ho') | refine Q5 ?_ | (refine Q3a ?_; intro hb; try intro hb1) | (refine Q3b ?_; intro hb; try intro hb1) | (refine Q3 ?_ ?_ <;> intro hb <;> try intro hb1) | fail) | fail)
  all_goals exact Qret
end Go.Proofs.YtgcienlfpnpbgaaGreat
end

section
namespace Go.Proofs.YtgcienlfpnpbgaaGreat
set_option linter.unusedSimpArgs false
attribute [local push_cast] encB encI Nat.mul_one
open Go.RowKit B
set_option maxRecDepth 10000
set_option maxHeartbeats 4000000
structure RS where
  o : Own
  l : List UInt8
  bad : Bool
namespace RS
def cells (s : RS) : List D := [.sl s.o (s.l.map encB), .b s.bad]
attribute [local push_cast] RS.cells
def fail : RS := ⟨.tight, [], true⟩
attribute [local push_cast] RS.fail
def cut (s : RS) (n : Nat) : RS := ⟨.shared, s.l.drop n, s.bad⟩
attribute [local push_cast] RS.cut
end RS
attribute [local push_cast] RS.cells RS.fail RS.cut
abbrev rdR (b : Nat) (s : RS) : Res := .box b 92 s.cells
theorem rdFailF (b : Nat) (s : RS) (st : St) : TrF Tryz.prog 169 [.ptr b 0] (rdR b s :: st) fun x st' => x = .tup [] ∧ st' = rdR b .fail :: st := by
  refine Qin [] Tryz.func169 Tryz.results169 Tryz.ntmps169 ?_
  repeat' (with_reducible first | refine Q1 ?_ | refine Qe ?_ | refine Ql ?_ | refine Q2 ?_ | refine Qs ?_ | refine Q4 ?_ | (refine al_go ?_; intro b) | refine Q5 ?_ | (refine Q3a ?_; intro hb; try intro hb1) | (refine Q3b ?_; intro hb; try intro hb1) | (refine Q3 ?_ ?_ <;> intro hb <;> try intro hb1) | fail)
  all_goals exact Qret
theorem rdBadF (b : Nat) (s : RS) (st : St) : TrF Tryz.prog 80 [.ptr b 0] (rdR b s :: st) fun x st' => x = .b s.bad ∧ st' = rdR b s :: st := by
  refine Qin [2] Tryz.func80 Tryz.results80 Tryz.ntmps80 ?_
  repeat' (with_reducible first | refine Q1 ?_ | refine Qe ?_ | refine Ql ?_ | refine Q2 ?_ | refine Qs ?_ | refine Q4 ?_ | (refine al_go ?_; intro b) | refine Q5 ?_ | (refine Q3a ?_; intro hb; try intro hb1) | (refine Q3b ?_; intro hb; try intro hb1) | (refine Q3 ?_ ?_ <;> intro hb <;> try intro hb1) | fail)
  all_goals exact Qret
theorem rdDoneF (b : Nat) (s : RS) (st : St) : TrF Tryz.prog 45 [.ptr b 0] (rdR b s :: st) fun x st' => x = .b (!s.bad && decide (s.l.length = 0)) ∧ st' = rdR b s :: st := by
  have hB := Lib.hid (rdBadF b s)
  cases hb : s.bad
  · rw [hb] at hB
    refine Qin [2] Tryz.func45 Tryz.results45 Tryz.ntmps45 ?_
    repeat' (first | (with_reducible first | refine Q1 ?_ | refine Qe ?_ | refine Ql ?_ | refine Q2 ?_ | refine Qs ?_ | refine Q4 ?_ | (refine al_go ?_; intro b) | fail) | refine Qc Tryz.call80 (hB.out _) ?_ | (with_reducible first | refine Q5 ?_ | (refine Q3a ?_; intro hb; try intro hb1) | (refine Q3b ?_; intro hb; try intro hb1) | (refine Q3 ?_ ?_ <;> intro hb <;> try intro hb1) | fail) | fail)
    all_goals (refine Qret (hd := ?_); (try simp (disch := omega) only [push_cast, simprocAttr, *]); try (first | exact LE.refl _ | exact LE.sl _ _ | ((first | refine LE.tup ?_ | refine LE.agg ?_); (repeat' (first | exact LEL.nil | refine LEL.cons ?_ ?_ | exact LE.refl _ | exact LE.sl _ _ | refine LE.agg ?_)); done) | refine LE.of_eq ?_))
    all_goals (first | rfl | (refine congrArg D.b ?_; rw [Bool.eq_iff_iff]; simp only [Bool.true_and, Bool.false_and, Bool.and_true, Bool.and_false, Bool.or_false, Bool.or_true, Bool.true_or, Bool.false_or, true_and, and_true, Bool.not_eq_true', Bool.not_eq_false', decide_eq_true_eq, decide_eq_false_iff_not, beq_iff_eq, beq_eq_false_iff_ne, bne_iff_ne, ne_eq, reduceCtorEq, iff_true, true_iff, iff_false, false_iff, Bool.and_eq_true, Bool.or_eq_true, Bool.false_eq_true, Bool.true_eq_false]; first | done | omega))
  · rw [hb] at hB
    refine Qin [2] Tryz.func45 Tryz.results45 Tryz.ntmps45 ?_
    repeat' (first | (with_reducible first | refine Q1 ?_ | refine Qe ?_ | refine Ql ?_ | refine Q2 ?_ | refine Qs ?_ | refine Q4 ?_ | (refine al_go ?_; intro b) | fail) | refine Qc Tryz.call80 (hB.out _) ?_ | (with_reducible first | refine Q5 ?_ | (refine Q3a ?_; intro hb; try intro hb1) | (refine Q3b ?_; intro hb; try intro hb1) | (refine Q3 ?_ ?_ <;> intro hb <;> try intro hb1) | fail) | fail)
    all_goals exact Qret
def B.num (l : List UInt8) : Nat := l.foldl (fun n c => n * 256 + c.toNat) 0
theorem B.num_snoc (l : List UInt8) (c : UInt8) : num (l ++ [c]) = num l * 256 + c.toNat := by unfold num; rw [List.foldl_append]; rfl
theorem B.fold_lt : ∀ (l : List UInt8) (a k : Nat), a < 256 ^ k → l.foldl (fun n c => n * 256 + c.toNat) a < 256 ^ (k + l.length)
  | [], a, k, h => h
  | c :: l, a, k, h => by
    rw [List.foldl_cons, List.length_cons, show k + (l.length + 1) = (k + 1) + l.length by omega]
    refine B.fold_lt l _ _ ?_
    have := c.toNat_lt
    rw [Nat.pow_succ]; omega
theorem B.num_lt (l : List UInt8) : num l < 256 ^ l.length := by
  have := B.fold_lt l 0 0 (by decide)
  rwa [Nat.zero_add] at this
theorem or_byte (n c : Nat) (hn : n < 72057594037927936) (hc : c < 256) : bits .or .u64 ((n * 256 : Nat) : Int) (c : Int) = ((n * 256 + c : Nat) : Int) := by
  rw [u64_or_nat _ _ (by omega) (by omega)]
  have := Nat.shiftLeft_add_eq_or_of_lt (i := 8) (b := c) (by omega) n
  rw [Nat.shiftLeft_eq] at this
  rw [← this]
theorem binNumberF (o : Own) (l : List UInt8) (hl : l.length ≤ 8) (st : St) : TrF Tryz.prog 172 [.sl o (l.map encB)] st fun x st' => x = .s (.int .u64 (num l : Nat)) ∧ st' = st := by
  refine Qin [2] Tryz.func172 Tryz.results172 Tryz.ntmps172 ?_
  repeat' (with_reducible first | refine Q1 ?_ | refine Qe ?_ | refine Ql ?_ | refine Q2 ?_ | refine Qs ?_ | refine Q4 ?_ | (refine al_go ?_; intro b) | (refine Qa ?_; intro o' ho') | (refine Qp ?_; intro o' ho') | refine Q5 ?_ | (refine Q3a ?_; intro hb; try intro hb1) | (refine Q3b ?_; intro hb; try intro hb1) | (refine Q3 ?_ ?_ <;> intro hb <;> try intro hb1) | fail)
  refine tr_loop (ι := Nat) (fun i A st' => i ≤ l.length ∧ A.df = [] ∧ A.e 3 = .s (.int .u64 (num (l.take i) : Nat)) ∧ A.e 6 = .sl o (l.map encB) ∧ A.e 7 = .i l.length ∧ A.e 8 = .i i ∧ st = st') (fun i => l.length - i) 0 ⟨Nat.zero_le _, Qf, Qf, Qf, Qf, Qf, rfl⟩ ?_
  rintro i A st' ⟨hi, hdf, e3, e6, e7, e8, rfl⟩
  by_cases hlt : i < l.length
  · obtain ⟨x, hx⟩ : ∃ x, l[i]? = some x := ⟨_, List.getElem?_eq_getElem hlt⟩
    have hs : num (l.take (i + 1)) = num (l.take i) * 256 + x.toNat := by rw [List.take_succ, hx]; exact num_snoc _ _
    have hn : num (l.take i) < 72057594037927936 := by
      have h1 := num_lt (l.take i)
      rw [List.length_take, Nat.min_eq_left hi] at h1
      exact Nat.lt_of_lt_of_le h1 (Nat.pow_le_pow_right (by omega) (show i ≤ 7 by omega))
    have hx2 := x.toNat_lt
    have hor := or_byte (num (l.take i)) x.toNat hn hx2
    have hw1 : IntKind.u64.wrap (((num (l.take i) : Nat) : Int) * 256) = ((num (l.take i) * 256 : Nat) : Int) := by
      simp [IntKind.wrap, IntKind.bits, IntKind.signed]; omega
    have hw2 : IntKind.u64.wrap (x.toNat : Int) = x.toNat := by
      simp [IntKind.wrap, IntKind.bits, IntKind.signed]; omega
    rw [← hs, Int.natCast_mul] at hor
    rw [Int.natCast_mul] at hw1
    replace hor : bits .or .u64 ((num (l.take i) : Int) * 256) (x.toNat : Int) = (num (l.take (i + 1)) : Nat) := hor
    replace hw1 : IntKind.u64.wrap (((num (l.take i) : Nat) : Int) * 256) = ((num (l.take i) : Nat) : Int) * 256 := hw1
    clear hs
    generalize num (l.take i) = q0 at *
    repeat' (with_reducible first | refine Q1 ?_ | refine Qe ?_ | refine Ql ?_ | refine Q2 ?_ | refine Qs ?_ | refine Q4 ?_ | (refine al_go ?_; intro b) | (refine Qa ?_; intro o' ho') | (refine Qp ?_; intro o' ho') | refine Q5 ?_ | (refine Q3a ?_; intro hb; try intro hb1) | (refine Q3b ?_; intro hb; try intro hb1) | (refine Q3 ?_ ?_ <;> intro hb <;> try intro hb1) | fail)
    refine ⟨i + 1, ⟨hlt, ?_, ?_, ?_, ?_, ?_, rfl⟩, ?_⟩
    all_goals exact Qf
  · rw [List.take_of_length_le (by omega)] at e3
    repeat' (with_reducible first | refine Q1 ?_ | refine Qe ?_ | refine Ql ?_ | refine Q2 ?_ | refine Qs ?_ | refine Q4 ?_ | (refine al_go ?_; intro b) | (refine Qa ?_; intro o' ho') | (refine Qp ?_; intro o' ho') | refine Q5 ?_ | (refine Q3a ?_; intro hb; try intro hb1) | (refine Q3b ?_; intro hb; try intro hb1) | (refine Q3 ?_ ?_ <;> intro hb <;> try intro hb1) | fail)
    all_goals exact Qret
theorem rdByte1F (o : Own) (c : UInt8) (l : List UInt8) (st : St) : TrF Tryz.prog 166 [.sl o ((c :: l).map encB)] st fun x st' => x = .tup [.i c.toNat, .b true] ∧ st' = st := by
  have hw := c.toNat_lt
  refine Qin [2,3] Tryz.func166 Tryz.results166 Tryz.ntmps166 ?_
  repeat' (with_reducible first | refine Q1 ?_ | refine Qe ?_ | refine Ql ?_ | refine Q2 ?_ | refine Qs ?_ | refine Q4 ?_ | (refine al_go ?_; intro b) | (refine Qa ?_; intro o' ho') | (refine Qp ?_; intro o' ho') | refine Q5 ?_ | (refine Q3a ?_; intro hb; try intro hb1) | (refine Q3b ?_; intro hb; try intro hb1) | (refine Q3 ?_ ?_ <;> intro hb <;> try intro hb1) | fail)
  all_goals exact Qret
theorem rdNum1F (o : Own) (l : List UInt8) (hl : l.length = 4) (st : St) : TrF Tryz.prog 179 [.sl o (l.map encB)] st fun x st' => x = .tup [.i (num l), .b (decide ((num l : Int) ≤ 2147483647))] ∧ st' = st := by
  have h1 : num l < 4294967296 := by
    have := num_lt l
    rw [hl] at this; exact this
  have hN := Lib.hid (binNumberF o l (by omega))
  generalize num l = q at *
  clear hl
  refine Qin [2,3] Tryz.func179 Tryz.results179 Tryz.ntmps179 ?_
  repeat' (first | (with_reducible first | refine Q1 ?_ | refine Qe ?_ | refine Ql ?_ | refine Q2 ?_ | refine Qs ?_ | refine Q4 ?_ | (refine al_go ?_; intro b) | fail) | refine Qc Tryz.call172 (hN.out _) ?_ | (with_reducible first | (refine Qa ?_; intro o' ho') | (refine Qp ?_; intro o' ho') | refine Q5 ?_ | (refine Q3a ?_; intro hb; try intro hb1) | (refine Q3b ?_; intro hb; try intro hb1) | (refine Q3 ?_ ?_ <;> intro hb <;> try intro hb1) | fail) | fail)
  all_goals (refine Qret (hd := ?_); (try simp (disch := omega) only [push_cast, simprocAttr, *]); try (first | exact LE.refl _ | exact LE.sl _ _ | ((first | refine LE.tup ?_ | refine LE.agg ?_); (repeat' (first | exact LEL.nil | refine LEL.cons ?_ ?_ | exact LE.refl _ | exact LE.sl _ _ | refine LE.agg ?_)); done) | refine LE.of_eq ?_))
  all_goals exact Qf
theorem rdLong1F (o : Own) (l : List UInt8) (hl : l.length = 8) (st : St) : TrF Tryz.prog 171 [.sl o (l.map encB)] st fun x st' => x = .tup [.i (IntKind.i64.wrap (num l)), .b true] ∧ st' = st := by
  have hN := Lib.hid (binNumberF o l (by omega))
  generalize num l = q at *
  clear hl
  refine Qin [2,3] Tryz.func171 Tryz.results171 Tryz.ntmps171 ?_
  repeat' (first | (with_reducible first | refine Q1 ?_ | refine Qe ?_ | refine Ql ?_ | refine Q2 ?_ | refine Qs ?_ | refine Q4 ?_ | (refine al_go ?_; intro b) | fail) | refine Qc Tryz.call172 (hN.out _) ?_ | (with_reducible first | (refine Qa ?_; intro o' ho') | (refine Qp ?_; intro o' ho') | refine Q5 ?_ | (refine Q3a ?_; intro hb; try intro hb1) | (refine Q3b ?_; intro hb; try intro hb1) | (refine Q3 ?_ ?_ <;> intro hb <;> try intro hb1) | fail) | fail)
  all_goals exact Qret
theorem rdText1F (o : Own) (l : List UInt8) (st : St) : TrF Tryz.prog 144 [.sl o (l.map encB)] st fun x st' => x = .tup [.str ⟨l.toArray⟩, .b true] ∧ st' = st := by
  refine Qin [2,3] Tryz.func144 Tryz.results144 Tryz.ntmps144 ?_
  repeat' (with_reducible first | refine Q1 ?_ | refine Qe ?_ | refine Ql ?_ | refine Q2 ?_ | refine Qs ?_ | refine Q4 ?_ | (refine al_go ?_; intro b) | (refine Qa ?_; intro o' ho') | (refine Qp ?_; intro o' ho') | refine Q5 ?_ | (refine Q3a ?_; intro hb; try intro hb1) | (refine Q3b ?_; intro hb; try intro hb1) | (refine Q3 ?_ ?_ <;> intro hb <;> try intro hb1) | fail)
  all_goals exact Qret
end Go.Proofs.YtgcienlfpnpbgaaGreat
end

section
namespace Go.Proofs.YtgcienlfpnpbgaaGreat
set_option linter.unusedSimpArgs false
attribute [local push_cast] encB encI RS.cells RS.fail RS.cut Nat.mul_one
open Go.RowKit B
set_option maxRecDepth 10000
set_option maxHeartbeats 4000000
namespace RS
def byte (s : RS) : Int × RS := if s.bad = true then (0, fail) else match s.l with
  | [] => (0, fail)
  | c :: _ => (c.toNat, s.cut 1)
def rnum (s : RS) : Int × RS := if s.bad = true ∨ s.l.length < 4 then (0, fail) else if num (s.l.take 4) ≤ 2147483647 then (num (s.l.take 4), s.cut 4) else (0, fail)
def long (s : RS) : Int × RS := if s.bad = true ∨ s.l.length < 8 then (0, fail) else (IntKind.i64.wrap (num (s.l.take 8)), s.cut 8)
def textN (s : RS) (n : Int) : ByteArray × RS := if s.bad = true ∨ n < 0 ∨ s.l.length < n then (⟨#[]⟩, fail) else (⟨(s.l.take n.toNat).toArray⟩, s.cut n.toNat)
def text (s : RS) : ByteArray × RS := s.rnum.2.textN s.rnum.1
end RS
theorem takeByteF (b : Nat) (s : RS) (st : St) : TrF Tryz.prog 165 [.ptr b 0, .i 1, .fn (.func 166) [] []] (rdR b s :: st) fun x st' => x = .i s.byte.1 ∧ st' = rdR b s.byte.2 :: st := by
  obtain ⟨o, l, bad⟩ := s
  have hB := Lib.hid (rdBadF b ⟨o, l, bad⟩)
  have hF := Lib.hid (rdFailF b ⟨o, l, bad⟩)
  cases bad with
  | true =>
    show TrF _ _ _ _ fun x st' => x = .i 0 ∧ st' = rdR b .fail :: st
    refine Qin [6] Tryz.func165 Tryz.results165 Tryz.ntmps165 ?_
    repeat' (first | (with_reducible first | refine Q1 ?_ | refine Qe ?_ | refine Ql ?_ | refine Q2 ?_ | refine Qs ?_ | refine Q4 ?_ | (refine al_go ?_; intro b) | fail) | refine Qc Tryz.call80 (hB.out _) ?_ | refine Qc Tryz.call169 (hF.out _) ?_ | (with_reducible first | refine Q5 ?_ | (refine Q3a ?_; intro hb; try intro hb1) | (refine Q3b ?_; intro hb; try intro hb1) | (refine Q3 ?_ ?_ <;> intro hb <;> try intro hb1) | fail) | fail)
    all_goals exact Qret
  | false =>
    cases l with
    | nil =>
      show TrF _ _ _ _ fun x st' => x = .i 0 ∧ st' = rdR b .fail :: st
      refine Qin [6] Tryz.func165 Tryz.results165 Tryz.ntmps165 ?_
      repeat' (first | (with_reducible first | refine Q1 ?_ | refine Qe ?_ | refine Ql ?_ | refine Q2 ?_ | refine Qs ?_ | refine Q4 ?_ | (refine al_go ?_; intro b) | fail) | refine Qc Tryz.call80 (hB.out _) ?_ | refine Qc Tryz.call169 (hF.out _) ?_ | (with_reducible first | refine Q5 ?_ | (refine Q3a ?_; intro hb; try intro hb1) | (refine Q3b ?_; intro hb; try intro hb1) | (refine Q3 ?_ ?_ <;> intro hb <;> try intro hb1) | fail) | fail)
      all_goals exact Qret
    | cons c t =>
      show TrF _ _ _ _ fun x st' => x = .i c.toNat ∧ st' = rdR b ⟨.shared, t, false⟩ :: st
      have hlt : ¬ ((t.length : Int) + 1 < 1) := by omega
      have htk : List.take t.length (List.map encB t) = List.map encB t := List.take_of_length_le (by simp)
      refine Qin [6] Tryz.func165 Tryz.results165 Tryz.ntmps165 ?_
      repeat' (first | (with_reducible first | refine Q1 ?_ | refine Qe ?_ | refine Ql ?_ | refine Q2 ?_ | refine Qs ?_ | refine Q4 ?_ | (refine al_go ?_; intro b) | fail) | refine Qc Tryz.call80 (hB.out _) ?_ | refine Qc Tryz.call169 (hF.out _) ?_ | refine Qc Tryz.call166 (rdByte1F _ c [] _) ?_ | (with_reducible first | refine Q5 ?_ | (refine Q3a ?_; intro hb; try intro hb1) | (refine Q3b ?_; intro hb; try intro hb1) | (refine Q3 ?_ ?_ <;> intro hb <;> try intro hb1) | fail) | fail)
      all_goals exact Qret

theorem takeNumF (b : Nat) (o : Own) (l p t : List UInt8) (hl : p ++ t = l) (hp : p.length = 4) (hx : num p ≤ 2147483647) (st : St) : TrF Tryz.prog 165 [.ptr b 0, .i 4, .fn (.func 179) [] []] (rdR b ⟨o, l, false⟩ :: st) fun x st' => x = .i (num p) ∧ st' = rdR b ⟨.shared, t, false⟩ :: st := by
  have hB := Lib.hid (rdBadF b ⟨o, l, false⟩)
  have hC := fun o => rdNum1F o p hp
  have hx : ((num p : Nat) : Int) ≤ 2147483647 := by omega
  have hln : l.length = 4 + t.length := by rw [← hl, List.length_append, hp]
  have hT : List.take 4 (List.map encB l) = List.map encB p := by rw [← List.map_take, ← hl, ← hp, List.take_left]
  have hD : List.drop 4 (List.map encB l) = List.map encB t := by rw [← List.map_drop, ← hl, ← hp, List.drop_left]
  have hTT : List.take t.length (List.map encB t) = List.map encB t := List.take_of_length_le (by simp)
  replace hC := Lib.hid hC
  clear hl
  generalize num p = q at *
  refine Qin [6] Tryz.func165 Tryz.results165 Tryz.ntmps165 ?_
  repeat' (first | (with_reducible first | refine Q1 ?_ | refine Qe ?_ | refine Ql ?_ | refine Q2 ?_ | refine Qs ?_ | refine Q4 ?_ | (refine al_go ?_; intro b) | fail) | refine Qc Tryz.call80 (hB.out _) ?_ | refine Qc Tryz.call179 (hC.out _ _) ?_ | (with_reducible first | (refine Qa ?_; intro o' ho') | (refine Qp ?_; intro o' ho') | refine Q5 ?_ | (refine Q3a ?_; intro hb; try intro hb1) | (refine Q3b ?_; intro hb; try intro hb1) | (refine Q3 ?_ ?_ <;> intro hb <;> try intro hb1) | fail) | fail)
  all_goals exact Qret

theorem takeLongF (b : Nat) (o : Own) (l p t : List UInt8) (hl : p ++ t = l) (hp : p.length = 8) (st : St) : TrF Tryz.prog 170 [.ptr b 0, .i 8, .fn (.func 171) [] []] (rdR b ⟨o, l, false⟩ :: st) fun x st' => x = .i (IntKind.i64.wrap (num p)) ∧ st' = rdR b ⟨.shared, t, false⟩ :: st := by
  have hB := Lib.hid (rdBadF b ⟨o, l, false⟩)
  have hC := fun o => rdLong1F o p hp
  skip
  have hln : l.length = 8 + t.length := by rw [← hl, List.length_append, hp]
  have hT : List.take 8 (List.map encB l) = List.map encB p := by rw [← List.map_take, ← hl, ← hp, List.take_left]
  have hD : List.drop 8 (List.map encB l) = List.map encB t := by rw [← List.map_drop, ← hl, ← hp, List.drop_left]
  have hTT : List.take t.length (List.map encB t) = List.map encB t := List.take_of_length_le (by simp)
  replace hC := Lib.hid hC
  clear hl
  generalize num p = q at *
  refine Qin [6] Tryz.func170 Tryz.results170 Tryz.ntmps170 ?_
  repeat' (first | (with_reducible first | refine Q1 ?_ | refine Qe ?_ | refine Ql ?_ | refine Q2 ?_ | refine Qs ?_ | refine Q4 ?_ | (refine al_go ?_; intro b) | fail) | refine Qc Tryz.call80 (hB.out _) ?_ | refine Qc Tryz.call171 (hC.out _ _) ?_ | (with_reducible first | (refine Qa ?_; intro o' ho') | (refine Qp ?_; intro o' ho') | refine Q5 ?_ | (refine Q3a ?_; intro hb; try intro hb1) | (refine Q3b ?_; intro hb; try intro hb1) | (refine Q3 ?_ ?_ <;> intro hb <;> try intro hb1) | fail) | fail)
  all_goals exact Qret

theorem takeTextF (b : Nat) (o : Own) (l p t : List UInt8) (n : Nat) (hl : p ++ t = l) (hp : p.length = n) (st : St) : TrF Tryz.prog 143 [.ptr b 0, .i n, .fn (.func 144) [] []] (rdR b ⟨o, l, false⟩ :: st) fun x st' => x = .str ⟨p.toArray⟩ ∧ st' = rdR b ⟨.shared, t, false⟩ :: st := by
  have hB := Lib.hid (rdBadF b ⟨o, l, false⟩)
  have hC := Lib.hid fun o => rdText1F o p
  have hln : l.length = n + t.length := by rw [← hl, List.length_append, hp]
  have hT : List.take n (List.map encB l) = List.map encB p := by rw [← List.map_take, ← hl, ← hp, List.take_left]
  have hD : List.drop n (List.map encB l) = List.map encB t := by rw [← List.map_drop, ← hl, ← hp, List.drop_left]
  have hTT : List.take t.length (List.map encB t) = List.map encB t := List.take_of_length_le (by simp)
  clear hl
  refine Qin [6] Tryz.func143 Tryz.results143 Tryz.ntmps143 ?_
  repeat' (first | (with_reducible first | refine Q1 ?_ | refine Qe ?_ | refine Ql ?_ | refine Q2 ?_ | refine Qs ?_ | refine Q4 ?_ | (refine al_go ?_; intro b) | fail) | refine Qc Tryz.call80 (hB.out _) ?_ | refine Qc Tryz.call144 (hC.out _ _) ?_ | (with_reducible first | (refine Qa ?_; intro o' ho') | (refine Qp ?_; intro o' ho') | refine Q5 ?_ | (refine Q3a ?_; intro hb; try intro hb1) | (refine Q3b ?_; intro hb; try intro hb1) | (refine Q3 ?_ ?_ <;> intro hb <;> try intro hb1) | fail) | fail)
  all_goals exact Qret

theorem takeNum0F (b : Nat) (s : RS) (h : s.bad = true ∨ (s.l.length : Int) < 4) (st : St) : TrF Tryz.prog 165 [.ptr b 0, .i 4, .fn (.func 179) [] []] (rdR b s :: st) fun x st' => x = .i 0 ∧ st' = rdR b .fail :: st := by
  obtain ⟨o, l, bad⟩ := s
  have hB := Lib.hid (rdBadF b ⟨o, l, bad⟩)
  have hF := Lib.hid (rdFailF b ⟨o, l, bad⟩)
  cases bad with
  | true =>
    clear h
    refine Qin [6] Tryz.func165 Tryz.results165 Tryz.ntmps165 ?_
    repeat' (first | (with_reducible first | refine Q1 ?_ | refine Qe ?_ | refine Ql ?_ | refine Q2 ?_ | refine Qs ?_ | refine Q4 ?_ | (refine al_go ?_; intro b) | fail) | refine Qc Tryz.call80 (hB.out _) ?_ | refine Qc Tryz.call169 (hF.out _) ?_ | (with_reducible first | refine Q5 ?_ | (refine Q3a ?_; intro hb; try intro hb1) | (refine Q3b ?_; intro hb; try intro hb1) | (refine Q3 ?_ ?_ <;> intro hb <;> try intro hb1) | fail) | fail)
    all_goals exact Qret
  | false =>
    have h := h.resolve_left Bool.false_ne_true
    dsimp only at h
    refine Qin [6] Tryz.func165 Tryz.results165 Tryz.ntmps165 ?_
    repeat' (first | (with_reducible first | refine Q1 ?_ | refine Qe ?_ | refine Ql ?_ | refine Q2 ?_ | refine Qs ?_ | refine Q4 ?_ | (refine al_go ?_; intro b) | fail) | refine Qc Tryz.call80 (hB.out _) ?_ | refine Qc Tryz.call169 (hF.out _) ?_ | (with_reducible first | refine Q5 ?_ | (refine Q3a ?_; intro hb; try intro hb1) | (refine Q3b ?_; intro hb; try intro hb1) | (refine Q3 ?_ ?_ <;> intro hb <;> try intro hb1) | fail) | fail)
    all_goals exact Qret

theorem takeLong0F (b : Nat) (s : RS) (h : s.bad = true ∨ (s.l.length : Int) < 8) (st : St) : TrF Tryz.prog 170 [.ptr b 0, .i 8, .fn (.func 171) [] []] (rdR b s :: st) fun x st' => x = .i 0 ∧ st' = rdR b .fail :: st := by
  obtain ⟨o, l, bad⟩ := s
  have hB := Lib.hid (rdBadF b ⟨o, l, bad⟩)
  have hF := Lib.hid (rdFailF b ⟨o, l, bad⟩)
  cases bad with
  | true =>
    clear h
    refine Qin [6] Tryz.func170 Tryz.results170 Tryz.ntmps170 ?_
    repeat' (first | (with_reducible first | refine Q1 ?_ | refine Qe ?_ | refine Ql ?_ | refine Q2 ?_ | refine Qs ?_ | refine Q4 ?_ | (refine al_go ?_; intro b) | fail) | refine Qc Tryz.call80 (hB.out _) ?_ | refine Qc Tryz.call169 (hF.out _) ?_ | (with_reducible first | refine Q5 ?_ | (refine Q3a ?_; intro hb; try intro hb1) | (refine Q3b ?_; intro hb; try intro hb1) | (refine Q3 ?_ ?_ <;> intro hb <;> try intro hb1) | fail) | fail)
    all_goals exact Qret
  | false =>
    have h := h.resolve_left Bool.false_ne_true
    dsimp only at h
    refine Qin [6] Tryz.func170 Tryz.results170 Tryz.ntmps170 ?_
    repeat' (first | (with_reducible first | refine Q1 ?_ | refine Qe ?_ | refine Ql ?_ | refine Q2 ?_ | refine Qs ?_ | refine Q4 ?_ | (refine al_go ?_; intro b) | fail) | refine Qc Tryz.call80 (hB.out _) ?_ | refine Qc Tryz.call169 (hF.out _) ?_ | (with_reducible first | refine Q5 ?_ | (refine Q3a ?_; intro hb; try intro hb1) | (refine Q3b ?_; intro hb; try intro hb1) | (refine Q3 ?_ ?_ <;> intro hb <;> try intro hb1) | fail) | fail)
    all_goals exact Qret

theorem takeText0F (b : Nat) (s : RS) (n : Int) (h : s.bad = true ∨ n < 0 ∨ (s.l.length : Int) < n) (st : St) : TrF Tryz.prog 143 [.ptr b 0, .i n, .fn (.func 144) [] []] (rdR b s :: st) fun x st' => x = .str ⟨#[]⟩ ∧ st' = rdR b .fail :: st := by
  obtain ⟨o, l, bad⟩ := s
  have hB := Lib.hid (rdBadF b ⟨o, l, bad⟩)
  have hF := Lib.hid (rdFailF b ⟨o, l, bad⟩)
  cases bad with
  | true =>
    clear h
    refine Qin [6] Tryz.func143 Tryz.results143 Tryz.ntmps143 ?_
    repeat' (first | (with_reducible first | refine Q1 ?_ | refine Qe ?_ | refine Ql ?_ | refine Q2 ?_ | refine Qs ?_ | refine Q4 ?_ | (refine al_go ?_; intro b) | fail) | refine Qc Tryz.call80 (hB.out _) ?_ | refine Qc Tryz.call169 (hF.out _) ?_ | (with_reducible first | refine Q5 ?_ | (refine Q3a ?_; intro hb; try intro hb1) | (refine Q3b ?_; intro hb; try intro hb1) | (refine Q3 ?_ ?_ <;> intro hb <;> try intro hb1) | fail) | fail)
    all_goals exact Qret
  | false =>
    have h := h.resolve_left Bool.false_ne_true
    dsimp only at h
    refine Qin [6] Tryz.func143 Tryz.results143 Tryz.ntmps143 ?_
    repeat' (first | (with_reducible first | refine Q1 ?_ | refine Qe ?_ | refine Ql ?_ | refine Q2 ?_ | refine Qs ?_ | refine Q4 ?_ | (refine al_go ?_; intro b) | fail) | refine Qc Tryz.call80 (hB.out _) ?_ | refine Qc Tryz.call169 (hF.out _) ?_ | (with_reducible first | refine Q5 ?_ | (refine Q3a ?_; intro hb; try intro hb1) | (refine Q3b ?_; intro hb; try intro hb1) | (refine Q3 ?_ ?_ <;> intro hb <;> try intro hb1) | fail) | fail)
    all_goals exact Qret

theorem takeNum1F (b : Nat) (o : Own) (l p t : List UInt8) (hl : p ++ t = l) (hp : p.length = 4) (hx : ¬ num p ≤ 2147483647) (st : St) : TrF Tryz.prog 165 [.ptr b 0, .i 4, .fn (.func 179) [] []] (rdR b ⟨o, l, false⟩ :: st) fun x st' => x = .i 0 ∧ st' = rdR b .fail :: st := by
  have hB := Lib.hid (rdBadF b ⟨o, l, false⟩)
  have hF := Lib.hid (rdFailF b ⟨o, l, false⟩)
  have hC := Lib.hid fun o => rdNum1F o p hp
  have hx : ¬ ((num p : Nat) : Int) ≤ 2147483647 := by omega
  have hln : l.length = 4 + t.length := by rw [← hl, List.length_append, hp]
  have hT : List.take 4 (List.map encB l) = List.map encB p := by rw [← List.map_take, ← hl, ← hp, List.take_left]
  clear hl
  generalize num p = q at *
  refine Qin [6] Tryz.func165 Tryz.results165 Tryz.ntmps165 ?_
  repeat' (first | (with_reducible first | refine Q1 ?_ | refine Qe ?_ | refine Ql ?_ | refine Q2 ?_ | refine Qs ?_ | refine Q4 ?_ | (refine al_go ?_; intro b) | fail) | refine Qc Tryz.call80 (hB.out _) ?_ | refine Qc Tryz.call169 (hF.out _) ?_ | refine Qc Tryz.call179 (hC.out _ _) ?_ | (with_reducible first | (refine Qa ?_; intro o' ho') | (refine Qp ?_; intro o' ho') | refine Q5 ?_ | (refine Q3a ?_; intro hb; try intro hb1) | (refine Q3b ?_; intro hb; try intro hb1) | (refine Q3 ?_ ?_ <;> intro hb <;> try intro hb1) | fail) | fail)
  all_goals exact Qret
end Go.Proofs.YtgcienlfpnpbgaaGreat
end

section
namespace Go.Proofs.YtgcienlfpnpbgaaGreat
set_option linter.unusedSimpArgs false
attribute [local push_cast] encB encI V.cells_mk V.cells_take V.cells_len Nat.mul_one
open Go.RowKit B
set_option maxRecDepth 10000
set_option maxHeartbeats 4000000
namespace V
mutual
def put : V → List UInt8
  | .mk k n s l => UInt8.ofNat k.toNat :: (if k = 1 then [UInt8.ofNat n.toNat] else if k = 2 then be 8 (IntKind.u64.wrap n).toNat else if k = 3 ∨ k = 4 then tx s.data.toList else if k = 5 then be 4 l.length ++ putL l else [])
def putL : List V → List UInt8
  | [] => []
  | x :: l => x.put ++ putL l
end
theorem sgl_facts {k n : Int} {s : ByteArray} {len : Nat} (h : sgl k n s len = true) : 0 ≤ k ∧ k ≤ 5 ∧ (k ≠ 2 → 0 ≤ n ∧ n ≤ 1) ∧ s.size ≤ 200 ∧ (k ≠ 3 ∧ k ≠ 4 → s.size = 0) ∧ (k = 5 → len ≤ 20) := by
  unfold sgl at h
  by_cases k0 : k = 0
  · subst k0; simp at h; obtain ⟨h1, h2⟩ := h; subst h2; simp; omega
  by_cases k1 : k = 1
  · subst k1; simp at h; obtain ⟨h1, h2⟩ := h; subst h2; simp; omega
  by_cases k2 : k = 2
  · subst k2; simp at h; subst h; simp
  by_cases k3 : k = 3
  · subst k3
    simp at h
    have := h.2
    unfold isName at this
    simp at this
    simp; omega
  by_cases k4 : k = 4
  · subst k4; simp at h; simp; omega
  by_cases k5 : k = 5
  · subst k5; simp at h; obtain ⟨h1, h2, h3⟩ := h; subst h2; simp; omega
  simp [k0, k1, k2, k3, k4, k5] at h
theorem parts_facts {k n : Int} {s : ByteArray} {l : List V} (h : (V.mk k n s l).parts = true) : sgl k n s l.length = true ∧ (k = 5 ∨ l = []) ∧ ∀ x ∈ l, x.parts = true := by
  rw [parts] at h
  simp only [Bool.and_eq_true, Bool.or_eq_true, decide_eq_true_eq] at h
  obtain ⟨⟨h1, h2⟩, h3⟩ := h
  refine ⟨h1, h2.imp id List.eq_nil_of_length_eq_zero, ?_⟩
  rw [partsL_all] at h3
  exact List.all_eq_true.1 h3
mutual
theorem put_le : ∀ v : V, v.parts = true → v.put.length ≤ 205 * v.nodes
  | .mk k n s l, h => by
    obtain ⟨h1, h2, h3⟩ := parts_facts h
    obtain ⟨f1, f2, f3, f4, f5, f6⟩ := sgl_facts h1
    have h4 := putL_le l h3
    have h5 : (tx s.data.toList).length = 4 + s.size := by unfold tx; rw [List.length_append, be_len]; simp
    rw [put, nodes, List.length_cons]
    split
    · simp; omega
    split
    · rw [be_len]; omega
    split
    · rw [h5]; omega
    split
    · rw [List.length_append, be_len]; omega
    · simp; omega
theorem putL_le : ∀ l : List V, (∀ x ∈ l, x.parts = true) → (putL l).length ≤ 205 * nodesL l
  | [], _ => by simp [putL]
  | x :: l, h => by
    have := put_le x (h x (List.mem_cons_self ..))
    have := putL_le l fun y hy => h y (List.mem_cons_of_mem _ hy)
    rw [putL, nodesL, List.length_append]; omega
end
theorem putL_app (a b : List V) : putL (a ++ b) = putL a ++ putL b := by
  induction a with
  | nil => rw [List.nil_append, putL, List.nil_append]
  | cons x a ih => rw [List.cons_append, putL, putL, ih, List.append_assoc]
theorem right_in {k n : Int} {s : ByteArray} {l : List V} (h : (V.mk k n s l).right = true) {x : V} (hx : x ∈ l) : x.right = true := by
  rw [right_iff] at h ⊢
  obtain ⟨h1, h2, h3⟩ := h
  refine ⟨(parts_facts h1).2.2 x hx, ?_, ?_⟩
  · have : x.deep ≤ deepL l := by
      clear h1 h2 h3
      induction l with
      | nil => cases hx
      | cons y l ih =>
        rw [deepL]
        rcases List.mem_cons.1 hx with rfl | hx
        · omega
        · have := ih hx; omega
    rw [deep] at h2
    split at h2
    · omega
    · rename_i hc
      have : l ≠ [] := List.ne_nil_of_mem hx
      exact absurd (.inr this) hc
  · have := nodes_lt (k := k) (n := n) (s := s) hx
    omega
end V
end Go.Proofs.YtgcienlfpnpbgaaGreat
end

section
namespace Go.Proofs.YtgcienlfpnpbgaaGreat
set_option linter.unusedSimpArgs false
attribute [local push_cast] encB encI V.cells_mk V.cells_take V.cells_len Nat.mul_one
open Go.RowKit B
set_option maxRecDepth 10000
set_option maxHeartbeats 4000000
namespace V
def bin (v : V) : List UInt8 := if v.right = true then v.put else []
end V
open V in
theorem binValueF : ∀ (N : Nat) (v : V), v.nodes ≤ N → v.nodes ≤ 4611686018427387904 → v.Ok → ∀ st, TrF Tryz.prog 138 [.agg v.cells] st fun d st' => ∃ o', o' ≠ .shared ∧ d = .sl o' (v.bin.map encB) ∧ st' = .room o' 5 1 (v.bin.map encB).length :: st
  | 0, v, h, _, _ => by have := v.nodes_pos; omega
  | N + 1, .mk k n s l, hN, hB, hok => by
    intro st
    obtain ⟨-, hkn, -, -, hall⟩ := hok
    have hR := Lib.hid (valRightF (.mk k n s l) hB)
    have IH := Lib.hid fun x (hx : x ∈ l) => binValueF N x (by have := nodes_lt (k := k) (n := n) (s := s) hx; omega) (by have := nodes_lt (k := k) (n := n) (s := s) hx; omega) (hall x hx)
    clear hN hB hall
    unfold V.bin
    by_cases hr : (V.mk k n s l).right = true
    case neg =>
      rw [if_neg hr]
      have hr' : (V.mk k n s l).right = false := by simpa using hr
      rw [V.cells_mk, hr'] at hR
      rw [V.cells_mk]
      clear hr IH
      refine Qin [2] Tryz.func138 Tryz.results138 Tryz.ntmps138 ?_
      refine tr_room 5 1 0 ?_
      repeat' (first | (with_reducible first | refine Q1 ?_ | refine Qe ?_ | refine Ql ?_ | refine Q2 ?_ | refine Qs ?_ | refine Q4 ?_ | (refine al_go ?_; intro b) | fail) | refine Qc Tryz.call168 (hR.out _) ?_ | (with_reducible first | (refine Qa ?_; intro o' ho') | (refine Qp ?_; intro o' ho') | refine Q5 ?_ | (refine Q3a ?_; intro hb; try intro hb1) | (refine Q3b ?_; intro hb; try intro hb1) | (refine Q3 ?_ ?_ <;> intro hb <;> try intro hb1) | fail) | fail)
      all_goals ((apply ret_own (by simp) (by first | rfl | assumption)); (focus ((try simp (disch := omega) only [push_cast, simprocAttr, *]); (try exact rfl); done)); (focus (first | assumption | (intro h; cases h))); (focus ((repeat (first | exact List.Sublist.refl _ | apply List.Sublist.cons)); done)))
      all_goals rfl
    rw [if_pos hr]
    have hrin := Lib.hid fun x (hx : x ∈ l) => right_in hr hx
    obtain ⟨hpa, -, hnn⟩ := right_iff.1 hr
    obtain ⟨h1, h2, h3⟩ := parts_facts hpa
    obtain ⟨f1, f2, f3, f4, f5, f6⟩ := sgl_facts h1
    have hpl := putL_le l h3
    rw [nodes] at hnn
    rw [V.cells_mk, hr] at hR
    rw [V.cells_mk]
    have hput : (V.mk k n s l).put = UInt8.ofNat k.toNat :: (if k = 1 then [UInt8.ofNat n.toNat] else if k = 2 then be 8 (IntKind.u64.wrap n).toNat else if k = 3 ∨ k = 4 then tx s.data.toList else if k = 5 then be 4 l.length ++ putL l else []) := put.eq_1 ..
    rw [hput]
    have hKb := binByteF k
    rw [if_pos (by omega)] at hKb
    replace hKb := Lib.hid hKb
    have hT := Lib.hid (binTextF s (by omega))
    have hT5 : (tx s.data.toList).length = 4 + s.size := by unfold tx; rw [List.length_append, be_len]; simp
    clear hput hr h1 h3 hpa
    refine Qin [2] Tryz.func138 Tryz.results138 Tryz.ntmps138 ?_
    refine tr_room 5 1 1 ?_
    by_cases k1 : k = 1
    · subst k1
      obtain ⟨m, rfl⟩ : ∃ m : Nat, n = m := ⟨n.toNat, by have := f3 (by omega); omega⟩
      have hW := u8_wrap m
      clear f3 f5 f6 hT IH hrin
      rw [if_pos rfl, Int.toNat_natCast]
      repeat' (first | (with_reducible first | refine Q1 ?_ | refine Qe ?_ | refine Ql ?_ | refine Q2 ?_ | refine Qs ?_ | refine Q4 ?_ | (refine al_go ?_; intro b) | fail) | refine Qc Tryz.call168 (hR.out _) ?_ | refine Qc Tryz.call136 (hKb.out _) ?_ | (with_reducible first | (refine Qa ?_; intro o' ho') | (refine Qp ?_; intro o' ho') | refine Q5 ?_ | (refine Q3a ?_; intro hb; try intro hb1) | (refine Q3b ?_; intro hb; try intro hb1) | (refine Q3 ?_ ?_ <;> intro hb <;> try intro hb1) | fail) | fail)
      all_goals ((apply ret_own (by simp) (by first | rfl | assumption)); (focus ((try simp (disch := omega) only [push_cast, simprocAttr, *]); (try exact rfl); done)); (focus (first | assumption | (intro h; cases h))); (focus ((repeat (first | exact List.Sublist.refl _ | apply List.Sublist.cons)); done)))
      all_goals rfl
    rw [if_neg k1]
    have b1 : (k == 1) = false := by simpa using k1
    by_cases k2 : k = 2
    · subst k2
      have hL := Lib.hid (binLongF n hkn)
      have h8 := be_len 8 (IntKind.u64.wrap n).toNat
      clear f3 f5 f6 hT IH hrin
      rw [if_pos rfl]
      generalize be 8 (IntKind.u64.wrap n).toNat = bs at *
      repeat' (first | (with_reducible first | refine Q1 ?_ | refine Qe ?_ | refine Ql ?_ | refine Q2 ?_ | refine Qs ?_ | refine Q4 ?_ | (refine al_go ?_; intro b) | fail) | refine Qc Tryz.call168 (hR.out _) ?_ | refine Qc Tryz.call136 (hKb.out _) ?_ | refine Qc Tryz.call94 (hL.out _) ?_ | (with_reducible first | (refine Qa ?_; intro o' ho') | (refine Qp ?_; intro o' ho') | refine Q5 ?_ | (refine Q3a ?_; intro hb; try intro hb1) | (refine Q3b ?_; intro hb; try intro hb1) | (refine Q3 ?_ ?_ <;> intro hb <;> try intro hb1) | fail) | fail)
      all_goals ((apply ret_own (by simp) (by first | rfl | assumption)); (focus ((try simp (disch := omega) only [push_cast, simprocAttr, *]); (try exact rfl); done)); (focus (first | assumption | (intro h; cases h))); (focus ((repeat (first | exact List.Sublist.refl _ | apply List.Sublist.cons)); done)))
      all_goals rfl
    rw [if_neg k2]
    have b2 : (k == 2) = false := by simpa using k2
    by_cases k3 : k = 3 ∨ k = 4
    · rw [if_pos k3]
      have b34 : k = 3 ∨ k = 4 := k3
      clear f3 f5 f6 IH hrin h2
      generalize tx s.data.toList = bs at *
      rcases k3 with rfl | rfl
      · repeat' (first | (with_reducible first | refine Q1 ?_ | refine Qe ?_ | refine Ql ?_ | refine Q2 ?_ | refine Qs ?_ | refine Q4 ?_ | (refine al_go ?_; intro b) | fail) | refine Qc Tryz.call168 (hR.out _) ?_ | refine Qc Tryz.call136 (hKb.out _) ?_ | refine Qc Tryz.call55 (hT.out _) ?_ | (with_reducible first | (refine Qa ?_; intro o' ho') | (refine Qp ?_; intro o' ho') | refine Q5 ?_ | (refine Q3a ?_; intro hb; try intro hb1) | (refine Q3b ?_; intro hb; try intro hb1) | (refine Q3 ?_ ?_ <;> intro hb <;> try intro hb1) | fail) | fail)
        all_goals ((apply ret_own (by simp) (by first | rfl | assumption)); (focus ((try simp (disch := omega) only [push_cast, simprocAttr, *]); (try exact rfl); done)); (focus (first | assumption | (intro h; cases h))); (focus ((repeat (first | exact List.Sublist.refl _ | apply List.Sublist.cons)); done)))
        all_goals rfl
      · repeat' (first | (with_reducible first | refine Q1 ?_ | refine Qe ?_ | refine Ql ?_ | refine Q2 ?_ | refine Qs ?_ | refine Q4 ?_ | (refine al_go ?_; intro b) | fail) | refine Qc Tryz.call168 (hR.out _) ?_ | refine Qc Tryz.call136 (hKb.out _) ?_ | refine Qc Tryz.call55 (hT.out _) ?_ | (with_reducible first | (refine Qa ?_; intro o' ho') | (refine Qp ?_; intro o' ho') | refine Q5 ?_ | (refine Q3a ?_; intro hb; try intro hb1) | (refine Q3b ?_; intro hb; try intro hb1) | (refine Q3 ?_ ?_ <;> intro hb <;> try intro hb1) | fail) | fail)
        all_goals ((apply ret_own (by simp) (by first | rfl | assumption)); (focus ((try simp (disch := omega) only [push_cast, simprocAttr, *]); (try exact rfl); done)); (focus (first | assumption | (intro h; cases h))); (focus ((repeat (first | exact List.Sublist.refl _ | apply List.Sublist.cons)); done)))
        all_goals rfl
    rw [if_neg k3]
    have b3 : (k == 3) = false := by simp; omega
    have b4 : (k == 4) = false := by simp; omega
    by_cases k5 : k = 5
    case neg =>
      rw [if_neg k5]
      have b5 : (k == 5) = false := by simpa using k5
      clear f3 f5 f6 hT IH hrin
      repeat' (first | (with_reducible first | refine Q1 ?_ | refine Qe ?_ | refine Ql ?_ | refine Q2 ?_ | refine Qs ?_ | refine Q4 ?_ | (refine al_go ?_; intro b) | fail) | refine Qc Tryz.call168 (hR.out _) ?_ | refine Qc Tryz.call136 (hKb.out _) ?_ | (with_reducible first | (refine Qa ?_; intro o' ho') | (refine Qp ?_; intro o' ho') | refine Q5 ?_ | (refine Q3a ?_; intro hb; try intro hb1) | (refine Q3b ?_; intro hb; try intro hb1) | (refine Q3 ?_ ?_ <;> intro hb <;> try intro hb1) | fail) | fail)
      all_goals ((apply ret_own (by simp) (by first | rfl | assumption)); (focus ((try simp (disch := omega) only [push_cast, simprocAttr, *]); (try exact rfl); done)); (focus (first | assumption | (intro h; cases h))); (focus ((repeat (first | exact List.Sublist.refl _ | apply List.Sublist.cons)); done)))
      all_goals rfl
    subst k5
    rw [if_pos rfl]
    have hN := binNumF l.length
    have hl20 := f6 rfl
    rw [if_pos (by omega), Int.toNat_natCast] at hN
    replace hN := Lib.hid hN
    have h4 := be_len 4 l.length
    clear f3 f5 f6 hT h2 k1 k2 k3 b1 b2 b3 b4
    generalize be 4 l.length = hd at *
    repeat' (first | (with_reducible first | refine Q1 ?_ | refine Qe ?_ | refine Ql ?_ | refine Q2 ?_ | refine Qs ?_ | refine Q4 ?_ | (refine al_go ?_; intro b) | fail) | refine Qc Tryz.call168 (hR.out _) ?_ | refine Qc Tryz.call136 (hKb.out _) ?_ | refine Qc Tryz.call134 (hN.out _) ?_ | (with_reducible first | (refine Qa ?_; intro o' ho') | (refine Qp ?_; intro o' ho') | refine Q5 ?_ | (refine Q3a ?_; intro hb; try intro hb1) | (refine Q3b ?_; intro hb; try intro hb1) | (refine Q3 ?_ ?_ <;> intro hb <;> try intro hb1) | fail) | fail)
    clear hN hKb hR hT5
    refine tr_loopd (ι := Nat) (fun i A st' => i ≤ l.length ∧ A.df = [] ∧ A.e 46 = .sl .shared (l.map V.cells) ∧ A.e 47 = .i l.length ∧ A.e 48 = .i i ∧ ∃ o', o' ≠ .shared ∧ ∃ B : List UInt8, Hid (B = UInt8.ofNat (Int.toNat 5) :: (hd ++ putL (l.take i))) ∧ B.length = 5 + (putL (l.take i)).length ∧ A.e 3 = .sl o' (B.map encB) ∧ st' = .room o' 5 1 (B.map encB).length :: st) (fun i => l.length - i) 0 ⟨Nat.zero_le _, Qf, Qf, Qf, Qf, _, by assumption, UInt8.ofNat (Int.toNat 5) :: hd, by show _ = _; simp [putL], by simp [putL]; omega, Qf, rfl⟩ ?_
    clear o' ho' h4
    rintro i A st' ⟨hi, hdf, e46, e47, e48, o', ho', B, HB, hBl, e3, rfl⟩
    by_cases hlt : i < l.length
    · obtain ⟨x, hx⟩ : ∃ x, l[i]? = some x := ⟨_, List.getElem?_eq_getElem hlt⟩
      have ih := IH.out x (mem_of hx)
      have hxr := hrin.out x (mem_of hx)
      unfold V.bin at ih
      rw [if_pos hxr] at ih
      have htk : putL (l.take (i + 1)) = putL (l.take i) ++ x.put := by
        rw [List.take_succ, hx, putL_app]; simp [putL]
      have hln : (putL (l.take i)).length + x.put.length ≤ (putL l).length := by
        have := congrArg List.length (congrArg putL (List.take_append_drop (i + 1) l))
        rw [putL_app, htk, List.length_append, List.length_append] at this
        omega
      have HB2 : Hid (B ++ x.put = UInt8.ofNat (Int.toNat 5) :: (hd ++ putL (l.take (i + 1)))) := by
        show _ = _
        rw [htk, HB.out]; simp
      have hBl2 : (B ++ x.put).length = 5 + (putL (l.take (i + 1))).length := by
        rw [htk, List.length_append, List.length_append]; omega
      clear IH hrin HB htk hxr
      cases x with
      | mk k1 n1 s1 l1 =>
        rw [V.cells_mk] at ih
        replace ih := Lib.hid ih
        generalize (V.mk k1 n1 s1 l1).put = bs at *
        obtain ⟨q1, hq1⟩ : ∃ q, (putL (l.take (i + 1))).length = q := ⟨_, rfl⟩
        rw [hq1] at hBl2
        replace hq1 := Lib.hid hq1
        generalize (putL (l.take i)).length = q0 at *
        repeat' (first | (with_reducible first | refine Q1 ?_ | refine Qe ?_ | refine Ql ?_ | refine Q2 ?_ | refine Qs ?_ | refine Q4 ?_ | (refine al_go ?_; intro b) | fail) | (refine QE Tryz.call138 (ih.out _) ?_; intro o1 ho1) | (with_reducible first | (refine Qa ?_; intro o' ho') | (refine Qp ?_; intro o' ho') | refine Q5 ?_ | (refine Q3a ?_; intro hb; try intro hb1) | (refine Q3b ?_; intro hb; try intro hb1) | (refine Q3 ?_ ?_ <;> intro hb <;> try intro hb1) | fail) | fail)
        refine ⟨i + 1, .room o' 5 1 ((B ++ bs).map encB).length :: st, ?_, ⟨hlt, ?_, ?_, ?_, ?_, o', ho', B ++ bs, HB2, hBl2.trans (by rw [hq1.out]), ?_, rfl⟩, ?_⟩
        · rw [List.map_append]; (repeat (first | exact List.Sublist.refl _ | apply List.Sublist.cons))
        all_goals exact Qf
    · have hBe : B = UInt8.ofNat (Int.toNat 5) :: (hd ++ putL l) := by
        rw [HB.out, List.take_of_length_le (by omega)]
      rw [← hBe]
      clear hBe HB IH hrin
      repeat' (with_reducible first | refine Q1 ?_ | refine Qe ?_ | refine Ql ?_ | refine Q2 ?_ | refine Qs ?_ | refine Q4 ?_ | (refine al_go ?_; intro b) | (refine Qa ?_; intro o' ho') | (refine Qp ?_; intro o' ho') | refine Q5 ?_ | (refine Q3a ?_; intro hb; try intro hb1) | (refine Q3b ?_; intro hb; try intro hb1) | (refine Q3 ?_ ?_ <;> intro hb <;> try intro hb1) | fail)
      all_goals ((apply ret_own (by simp) (by first | rfl | assumption)); (focus ((try simp (disch := omega) only [push_cast, simprocAttr, *]); (try exact rfl); done)); (focus (first | assumption | (intro h; cases h))); (focus ((repeat (first | exact List.Sublist.refl _ | apply List.Sublist.cons)); done)))
      all_goals rfl
end Go.Proofs.YtgcienlfpnpbgaaGreat
end

section
namespace Go.Proofs.YtgcienlfpnpbgaaGreat
set_option linter.unusedSimpArgs false
attribute [local push_cast] encB encI V.cells_mk V.cells_take V.cells_len Nat.mul_one
open Go.RowKit B
set_option maxRecDepth 10000
set_option maxHeartbeats 4000000
theorem rdByteF (b : Nat) (s : RS) (st : St) : TrF Tryz.prog 116 [.ptr b 0] (rdR b s :: st) fun x st' => x = .i s.byte.1 ∧ st' = rdR b s.byte.2 :: st := by
  have hC := Lib.hid (takeByteF b s)
  generalize s.byte = q at *
  refine Qin [2] Tryz.func116 Tryz.results116 Tryz.ntmps116 ?_
  repeat' (first | (with_reducible first | refine Q1 ?_ | refine Qe ?_ | refine Ql ?_ | refine Q2 ?_ | refine Qs ?_ | refine Q4 ?_ | (refine al_go ?_; intro b) | fail) | refine Qc Tryz.call165 (hC.out _) ?_ | (with_reducible first | refine Q5 ?_ | (refine Q3a ?_; intro hb; try intro hb1) | (refine Q3b ?_; intro hb; try intro hb1) | (refine Q3 ?_ ?_ <;> intro hb <;> try intro hb1) | fail) | fail)
  all_goals exact Qret
theorem take_split (l : List UInt8) (n : Nat) (h : n ≤ l.length) : l.take n ++ l.drop n = l ∧ (l.take n).length = n := ⟨List.take_append_drop n l, by rw [List.length_take]; omega⟩
theorem rdNumF (b : Nat) (s : RS) (st : St) : TrF Tryz.prog 142 [.ptr b 0] (rdR b s :: st) fun x st' => x = .i s.rnum.1 ∧ st' = rdR b s.rnum.2 :: st := by
  have hC : ∀ st, TrF Tryz.prog 165 [.ptr b 0, .i 4, .fn (.func 179) [] []] (rdR b s :: st) fun x st' => x = .i s.rnum.1 ∧ st' = rdR b s.rnum.2 :: st := by
    unfold RS.rnum
    by_cases h : s.bad = true ∨ s.l.length < 4
    · rw [if_pos h]
      exact takeNum0F b s (h.imp id fun h => by omega)
    · rw [if_neg h]
      obtain ⟨o, l, bad⟩ := s
      dsimp only at h ⊢
      cases bad with
      | true => exact absurd (.inl rfl) h
      | false =>
        obtain ⟨h1, h2⟩ := take_split l 4 (by omega)
        split
        · rename_i hx; exact takeNumF b o l _ _ h1 h2 hx
        · rename_i hx; exact takeNum1F b o l _ _ h1 h2 hx
  replace hC := Lib.hid hC
  generalize s.rnum = q at *
  refine Qin [2] Tryz.func142 Tryz.results142 Tryz.ntmps142 ?_
  repeat' (first | (with_reducible first | refine Q1 ?_ | refine Qe ?_ | refine Ql ?_ | refine Q2 ?_ | refine Qs ?_ | refine Q4 ?_ | (refine al_go ?_; intro b) | fail) | refine Qc Tryz.call165 (hC.out _) ?_ | (with_reducible first | refine Q5 ?_ | (refine Q3a ?_; intro hb; try intro hb1) | (refine Q3b ?_; intro hb; try intro hb1) | (refine Q3 ?_ ?_ <;> intro hb <;> try intro hb1) | fail) | fail)
  all_goals exact Qret
theorem rdLongF (b : Nat) (s : RS) (st : St) : TrF Tryz.prog 126 [.ptr b 0] (rdR b s :: st) fun x st' => x = .i s.long.1 ∧ st' = rdR b s.long.2 :: st := by
  have hC : ∀ st, TrF Tryz.prog 170 [.ptr b 0, .i 8, .fn (.func 171) [] []] (rdR b s :: st) fun x st' => x = .i s.long.1 ∧ st' = rdR b s.long.2 :: st := by
    unfold RS.long
    by_cases h : s.bad = true ∨ s.l.length < 8
    · rw [if_pos h]
      exact takeLong0F b s (h.imp id fun h => by omega)
    · rw [if_neg h]
      obtain ⟨o, l, bad⟩ := s
      dsimp only at h ⊢
      cases bad with
      | true => exact absurd (.inl rfl) h
      | false =>
        obtain ⟨h1, h2⟩ := take_split l 8 (by omega)
        exact takeLongF b o l _ _ h1 h2
  replace hC := Lib.hid hC
  generalize s.long = q at *
  refine Qin [2] Tryz.func126 Tryz.results126 Tryz.ntmps126 ?_
  repeat' (first | (with_reducible first | refine Q1 ?_ | refine Qe ?_ | refine Ql ?_ | refine Q2 ?_ | refine Qs ?_ | refine Q4 ?_ | (refine al_go ?_; intro b) | fail) | refine Qc Tryz.call170 (hC.out _) ?_ | (with_reducible first | refine Q5 ?_ | (refine Q3a ?_; intro hb; try intro hb1) | (refine Q3b ?_; intro hb; try intro hb1) | (refine Q3 ?_ ?_ <;> intro hb <;> try intro hb1) | fail) | fail)
  all_goals exact Qret
theorem rdTextF (b : Nat) (s : RS) (st : St) : TrF Tryz.prog 75 [.ptr b 0] (rdR b s :: st) fun x st' => x = .str s.text.1 ∧ st' = rdR b s.text.2 :: st := by
  have hN := Lib.hid (rdNumF b s)
  have hC : ∀ st, TrF Tryz.prog 143 [.ptr b 0, .i s.rnum.1, .fn (.func 144) [] []] (rdR b s.rnum.2 :: st) fun x st' => x = .str s.text.1 ∧ st' = rdR b s.text.2 :: st := by
    unfold RS.text RS.textN
    generalize s.rnum = q
    obtain ⟨n, s1⟩ := q
    dsimp only
    by_cases h : s1.bad = true ∨ n < 0 ∨ s1.l.length < n
    · rw [if_pos h]
      exact takeText0F b s1 n h
    · rw [if_neg h]
      obtain ⟨o, l, bad⟩ := s1
      dsimp only at h ⊢
      cases bad with
      | true => exact absurd (.inl rfl) h
      | false =>
        obtain ⟨m, rfl⟩ : ∃ m : Nat, n = m := ⟨n.toNat, by omega⟩
        obtain ⟨h1, h2⟩ := take_split l m (by omega)
        exact takeTextF b o l _ _ m h1 h2
  replace hC := Lib.hid hC
  generalize s.rnum = q at *
  generalize s.text = q' at *
  refine Qin [2] Tryz.func75 Tryz.results75 Tryz.ntmps75 ?_
  repeat' (first | (with_reducible first | refine Q1 ?_ | refine Qe ?_ | refine Ql ?_ | refine Q2 ?_ | refine Qs ?_ | refine Q4 ?_ | (refine al_go ?_; intro b) | fail) | refine Qc Tryz.call142 (hN.out _) ?_ | refine Qc Tryz.call143 (hC.out _) ?_ | (with_reducible first | refine Q5 ?_ | (refine Q3a ?_; intro hb; try intro hb1) | (refine Q3b ?_; intro hb; try intro hb1) | (refine Q3 ?_ ?_ <;> intro hb <;> try intro hb1) | fail) | fail)
  all_goals exact Qret
namespace RS
def vals (f : RS → V × RS) : Nat → RS → List V × RS
  | 0, s => ([], s)
  | n + 1, s => if s.bad = true then ([], s) else ((f s).1 :: (vals f n (f s).2).1, (vals f n (f s).2).2)
def list5 (f : Option (RS → V × RS)) (n : Int) (s : RS) : V × RS :=
  match f with
  | none => (.mk 5 0 ⟨#[]⟩ [], fail)
  | some f => if 20 < n then (.mk 5 0 ⟨#[]⟩ [], fail) else (.mk 5 0 ⟨#[]⟩ (vals f n.toNat s).1, (vals f n.toNat s).2)
def body (f : Option (RS → V × RS)) (s : RS) : V × RS :=
  if s.byte.1 = 1 then (.mk 1 s.byte.2.byte.1 ⟨#[]⟩ [], s.byte.2.byte.2)
  else if s.byte.1 = 2 then (.mk 2 s.byte.2.long.1 ⟨#[]⟩ [], s.byte.2.long.2)
  else if s.byte.1 = 3 ∨ s.byte.1 = 4 then (.mk s.byte.1 0 s.byte.2.text.1 [], s.byte.2.text.2)
  else if s.byte.1 = 5 then list5 f s.byte.2.rnum.1 s.byte.2.rnum.2
  else (.mk s.byte.1 0 ⟨#[]⟩ [], s.byte.2)
def value : Nat → RS → V × RS
  | 0 => body none
  | d + 1 => body (some (value d))
theorem rnum_pos (s : RS) : 0 ≤ s.rnum.1 := by
  unfold rnum; split
  · exact Int.le_refl _
  · split
    · exact Int.natCast_nonneg _
    · exact Int.le_refl _
end RS
end Go.Proofs.YtgcienlfpnpbgaaGreat
end

section
namespace Go.Proofs.YtgcienlfpnpbgaaGreat
set_option linter.unusedSimpArgs false
attribute [local push_cast] encB encI V.cells_mk V.cells_take V.cells_len Nat.mul_one
open Go.RowKit B
set_option maxRecDepth 10000
set_option maxHeartbeats 4000000
theorem tr_once {P : Program} {N : Nat} {r : Option Nat} {A : AA} {st : St} {Q : Exit → AA → St → Prop} {c : Code} (h : Tr P N r c A st (thenA (fun _ _ => False) Q)) : Tr P N r (.loop c) A st Q :=
  tr_loop (fun (_ : Unit) A' st' => A' = A ∧ st' = st) (fun _ => 0) () ⟨rfl, rfl⟩ fun _ A' st' ⟨e1, e2⟩ => by
    subst e1 e2
    exact tr_mono h fun ex A s hq => by cases ex <;> first | exact hq.elim | exact hq
theorem keep_one {b : Nat} {ty : TypeId} {cs : List D} {st : St} (h : Res.box b ty cs ∈ st) : Keep (some [(b, cs)]) st := fun b' cs' hl => by
  rw [List.lookup_cons] at hl
  split at hl
  · rename_i he
    cases hl
    have : b' = b := eq_of_beq he
    subst this
    exact ⟨ty, h⟩
  · cases hl
namespace RS
def sub : Nat → Option (RS → V × RS)
  | 0 => none
  | e + 1 => some (value e)
theorem value_eq (d : Nat) (s : RS) : value d s = body (sub d) s := by cases d <;> rfl
end RS
open RS in
theorem rdValueF : ∀ (d : Nat), d ≤ 4 → ∀ (rb : Nat) (s : RS) (st : St), TrF Tryz.prog 167 [.ptr rb 0, .i d] (rdR rb s :: st) fun x st' => x = .agg (RS.value d s).1.cells ∧ st' = rdR rb (RS.value d s).2 :: st := fun d => by
  induction d using Nat.strongRecOn with
  | _ d IHd =>
  intro hd4 rb s st
  have IH : ∀ f, sub d = some f → ∀ b s st, TrF Tryz.prog 167 [.ptr b 0, .i ((d : Int) - 1)] (rdR b s :: st) fun x st' => x = .agg (f s).1.cells ∧ st' = rdR b (f s).2 :: st := by
    intro f hf
    cases d with
    | zero => cases hf
    | succ e =>
      cases hf
      intro b s st
      have := IHd e (by omega) (by omega) b s st
      rwa [show (((e + 1 : Nat) : Int) - 1) = (e : Int) by omega]
  have hd0 : d = 0 ↔ sub d = none := by cases d <;> simp [sub]
  rw [value_eq]
  clear IHd
  generalize sub d = f? at *
  have hB := Lib.hid (rdByteF rb s)
  unfold body
  generalize s.byte = q at *
  obtain ⟨k, s1⟩ := q
  dsimp only at *
  refine QinC 4 73 Tryz.func167 Tryz.ntmps167 ?_
  refine tr_room 73 4 0 ?_
  by_cases k1 : k = 1
  · subst k1
    rw [if_pos rfl]
    have hB2 := Lib.hid (rdByteF rb s1)
    generalize s1.byte = q2 at *
    clear IH hd0
    repeat' (first | (with_reducible first | refine Q1 ?_ | refine Qe ?_ | refine Ql ?_ | refine Q2 ?_ | refine Qs ?_ | refine Q4 ?_ | (refine al_go ?_; intro b) | fail) | refine QR Tryz.call116 hB.out ?_ | refine QR Tryz.call116 hB2.out ?_ | (with_reducible first | (refine Qa ?_; intro o' ho') | (refine Qp ?_; intro o' ho') | refine Q5 ?_ | (refine Q3a ?_; intro hb; try intro hb1) | (refine Q3b ?_; intro hb; try intro hb1) | (refine Q3 ?_ ?_ <;> intro hb <;> try intro hb1) | fail) | fail)
    all_goals exact QretC
  rw [if_neg k1]
  have b1 : (k == 1) = false := by simpa using k1
  by_cases k2 : k = 2
  · subst k2
    rw [if_pos rfl]
    have hB2 := Lib.hid (rdLongF rb s1)
    generalize s1.long = q2 at *
    clear IH hd0
    repeat' (first | (with_reducible first | refine Q1 ?_ | refine Qe ?_ | refine Ql ?_ | refine Q2 ?_ | refine Qs ?_ | refine Q4 ?_ | (refine al_go ?_; intro b) | fail) | refine QR Tryz.call116 hB.out ?_ | refine QR Tryz.call126 hB2.out ?_ | (with_reducible first | (refine Qa ?_; intro o' ho') | (refine Qp ?_; intro o' ho') | refine Q5 ?_ | (refine Q3a ?_; intro hb; try intro hb1) | (refine Q3b ?_; intro hb; try intro hb1) | (refine Q3 ?_ ?_ <;> intro hb <;> try intro hb1) | fail) | fail)
    all_goals exact QretC
  rw [if_neg k2]
  have b2 : (k == 2) = false := by simpa using k2
  by_cases k3 : k = 3 ∨ k = 4
  · rw [if_pos k3]
    have hB2 := Lib.hid (rdTextF rb s1)
    generalize s1.text = q2 at *
    clear IH hd0 b1 b2 k1 k2
    rcases k3 with rfl | rfl
    · repeat' (first | (with_reducible first | refine Q1 ?_ | refine Qe ?_ | refine Ql ?_ | refine Q2 ?_ | refine Qs ?_ | refine Q4 ?_ | (refine al_go ?_; intro b) | fail) | refine QR Tryz.call116 hB.out ?_ | refine QR Tryz.call75 hB2.out ?_ | (with_reducible first | (refine Qa ?_; intro o' ho') | (refine Qp ?_; intro o' ho') | refine Q5 ?_ | (refine Q3a ?_; intro hb; try intro hb1) | (refine Q3b ?_; intro hb; try intro hb1) | (refine Q3 ?_ ?_ <;> intro hb <;> try intro hb1) | fail) | fail)
      all_goals exact QretC
    · repeat' (first | (with_reducible first | refine Q1 ?_ | refine Qe ?_ | refine Ql ?_ | refine Q2 ?_ | refine Qs ?_ | refine Q4 ?_ | (refine al_go ?_; intro b) | fail) | refine QR Tryz.call116 hB.out ?_ | refine QR Tryz.call75 hB2.out ?_ | (with_reducible first | (refine Qa ?_; intro o' ho') | (refine Qp ?_; intro o' ho') | refine Q5 ?_ | (refine Q3a ?_; intro hb; try intro hb1) | (refine Q3b ?_; intro hb; try intro hb1) | (refine Q3 ?_ ?_ <;> intro hb <;> try intro hb1) | fail) | fail)
      all_goals exact QretC
  rw [if_neg k3]
  have b3 : (k == 3) = false := by simp; omega
  have b4 : (k == 4) = false := by simp; omega
  by_cases k5 : k = 5
  case neg =>
    rw [if_neg k5]
    have b5 : (k == 5) = false := by simpa using k5
    clear IH hd0
    repeat' (first | (with_reducible first | refine Q1 ?_ | refine Qe ?_ | refine Ql ?_ | refine Q2 ?_ | refine Qs ?_ | refine Q4 ?_ | (refine al_go ?_; intro b) | fail) | refine QR Tryz.call116 hB.out ?_ | (with_reducible first | (refine Qa ?_; intro o' ho') | (refine Qp ?_; intro o' ho') | refine Q5 ?_ | (refine Q3a ?_; intro hb; try intro hb1) | (refine Q3b ?_; intro hb; try intro hb1) | (refine Q3 ?_ ?_ <;> intro hb <;> try intro hb1) | fail) | fail)
    all_goals exact QretC
  subst k5
  rw [if_pos rfl]
  have hN := Lib.hid (rdNumF rb s1)
  have hnp := rnum_pos s1
  clear k1 k2 k3 b1 b2 b3 b4
  generalize s1.rnum = q2 at *
  obtain ⟨n, s2⟩ := q2
  dsimp only at *
  have hF := Lib.hid (rdFailF rb s2)
  have hBad := Lib.hid (rdBadF rb)
  by_cases hbad : d = 0 ∨ 20 < n
  · have hres : list5 f? n s2 = (V.mk 5 0 ⟨#[]⟩ [], fail) := by
      unfold list5
      cases f? with
      | none => rfl
      | some f =>
        have : d ≠ 0 := fun h => by have := hd0.1 h; cases this
        exact if_pos (by omega)
    rw [hres]
    clear hres hd0 IH
    have hbad' : (d : Int) = 0 ∨ 20 < n := by omega
    clear hbad
    repeat' (first | (with_reducible first | refine Q1 ?_ | refine Qe ?_ | refine Ql ?_ | refine Q2 ?_ | refine Qs ?_ | refine Q4 ?_ | (refine al_go ?_; intro b) | fail) | refine QR Tryz.call116 hB.out ?_ | refine QR Tryz.call142 hN.out ?_ | refine QR Tryz.call169 hF.out ?_ | (with_reducible first | (refine Qa ?_; intro o' ho') | (refine Qp ?_; intro o' ho') | refine Q5 ?_ | (refine Q3a ?_; intro hb; try intro hb1) | (refine Q3b ?_; intro hb; try intro hb1) | (refine Q3 ?_ ?_ <;> intro hb <;> try intro hb1) | fail) | fail)
    all_goals
      refine tr_once ?_
      by_cases hn0 : 0 < n
      · repeat' (first | (with_reducible first | refine Q1 ?_ | refine Qe ?_ | refine Ql ?_ | refine Q2 ?_ | refine Qs ?_ | refine Q4 ?_ | (refine al_go ?_; intro b) | fail) | refine QR Tryz.call80 (hBad.out fail) ?_ | (with_reducible first | (refine Qa ?_; intro o' ho') | (refine Qp ?_; intro o' ho') | refine Q5 ?_ | (refine Q3a ?_; intro hb; try intro hb1) | (refine Q3b ?_; intro hb; try intro hb1) | (refine Q3 ?_ ?_ <;> intro hb <;> try intro hb1) | fail) | fail)
        all_goals exact QretC
      · repeat' (with_reducible first | refine Q1 ?_ | refine Qe ?_ | refine Ql ?_ | refine Q2 ?_ | refine Qs ?_ | refine Q4 ?_ | (refine al_go ?_; intro b) | (refine Qa ?_; intro o' ho') | (refine Qp ?_; intro o' ho') | refine Q5 ?_ | (refine Q3a ?_; intro hb; try intro hb1) | (refine Q3b ?_; intro hb; try intro hb1) | (refine Q3 ?_ ?_ <;> intro hb <;> try intro hb1) | fail)
        all_goals exact QretC
  obtain ⟨f, rfl⟩ : ∃ f, f? = some f := by
    cases f? with
    | none => exact absurd (.inl (hd0.2 rfl)) hbad
    | some f => exact ⟨f, rfl⟩
  have hI := Lib.hid (IH f rfl rb)
  obtain ⟨m, rfl⟩ : ∃ m : Nat, n = m := ⟨n.toNat, by omega⟩
  rw [show list5 (some f) m s2 = (V.mk 5 0 ⟨#[]⟩ (vals f m s2).1, (vals f m s2).2) from if_neg (by omega)]
  have hd1 : ¬ (d : Int) = 0 := by omega
  have hm20 : m ≤ 20 := by omega
  obtain ⟨res, hres⟩ : ∃ r, vals f m s2 = r := ⟨_, rfl⟩
  have hE : Hid ([] ++ (vals f (m - 0) s2).1 = res.1 ∧ (vals f (m - 0) s2).2 = res.2) := by
    show _ ∧ _
    rw [Nat.sub_zero, hres]
    exact ⟨rfl, rfl⟩
  rw [hres]
  clear hres
  clear IH hd0 hbad hF
  repeat' (first | (with_reducible first | refine Q1 ?_ | refine Qe ?_ | refine Ql ?_ | refine Q2 ?_ | refine Qs ?_ | refine Q4 ?_ | (refine al_go ?_; intro b) | fail) | refine QR Tryz.call116 hB.out ?_ | refine QR Tryz.call142 hN.out ?_ | (with_reducible first | (refine Qa ?_; intro o' ho') | (refine Qp ?_; intro o' ho') | refine Q5 ?_ | (refine Q3a ?_; intro hb; try intro hb1) | (refine Q3b ?_; intro hb; try intro hb1) | (refine Q3 ?_ ?_ <;> intro hb <;> try intro hb1) | fail) | fail)
  rename_i b4 _
  clear hB hN
  refine tr_loopd (ι := Nat) (fun i A st' => i ≤ m ∧ A.df = [] ∧ A.e 0 = .ptr rb 0 ∧ A.e 1 = .i d ∧ A.e 4 = .ptr b4 0 ∧ A.e 5 = .ptr b 0 ∧ A.e 40 = .i m ∧ A.e 41 = .i i ∧ ∃ o' L s' zs, o' ≠ .shared ∧ L.length ≤ i ∧ zs.length = 4 ∧ Hid (L ++ (vals f (m - i) s').1 = res.1 ∧ (vals f (m - i) s').2 = res.2) ∧ st' = .box b 73 [.i 5, .i 0, .str ⟨#[]⟩, .sl o' (L.map V.cells)] :: .box b4 73 zs :: .room o' 73 4 (L.map V.cells).length :: rdR rb s' :: st) (fun i => m - i) 0 ⟨Nat.zero_le _, Qf, Qf, Qf, Qf, Qf, Qf, Qf, .tight, [], s2, _, by simp, Nat.le_refl _, rfl, hE, rfl⟩ ?_
  clear hE hnp
  rintro i A st' ⟨hi, hdf, e0, e1, e4, e5, e40, e41, o', L, s', zs, ho', hLi, hzs, hE, rfl⟩
  have hLc : (L.map V.cells).length = L.length := List.length_map _
  by_cases hlt : i < m
  · have hHE := hE.out
    rw [show m - i = (m - (i + 1)) + 1 by omega, vals] at hHE
    cases hsb : s'.bad with
    | true =>
      rw [hsb, if_pos rfl] at hHE
      obtain ⟨r1, r2⟩ := res
      obtain ⟨hr1, hr2⟩ := hHE
      dsimp only at hr1 hr2
      rw [List.append_nil] at hr1
      subst hr1 hr2
      have hBs := hBad.out s'
      rw [hsb] at hBs
      replace hBs := Lib.hid hBs
      clear hE hI hBad
      repeat' (first | (with_reducible first | refine Q1 ?_ | refine Qe ?_ | refine Ql ?_ | refine Q2 ?_ | refine Qs ?_ | refine Q4 ?_ | (refine al_go ?_; intro b) | fail) | refine QR Tryz.call80 hBs.out ?_ | (with_reducible first | (refine Qa ?_; intro o' ho') | (refine Qp ?_; intro o' ho') | refine Q5 ?_ | (refine Q3a ?_; intro hb; try intro hb1) | (refine Q3b ?_; intro hb; try intro hb1) | (refine Q3 ?_ ?_ <;> intro hb <;> try intro hb1) | fail) | fail)
      all_goals exact QretC
    | false =>
      rw [hsb, if_neg Bool.false_ne_true] at hHE
      have hIs := hI.out s'
      have hBs := hBad.out s'
      rw [hsb] at hBs
      generalize f s' = x3 at *
      obtain ⟨⟨k1, n1, t1, l1⟩, s3⟩ := x3
      dsimp only at hHE hIs
      rw [V.cells_mk] at hIs
      have hE2 : Hid ((L ++ [V.mk k1 n1 t1 l1]) ++ (vals f (m - (i + 1)) s3).1 = res.1 ∧ (vals f (m - (i + 1)) s3).2 = res.2) := by
        show _ ∧ _
        rw [List.append_assoc]
        exact hHE
      replace hBs := Lib.hid hBs
      replace hIs := Lib.hid hIs
      clear hE hI hBad hHE
      have hL4 : ∀ a ∈ L.map V.cells, a.length = 4 := fun a ha => by
        obtain ⟨x, -, rfl⟩ := List.mem_map.1 ha
        exact V.cells_len x
      repeat' (first | (with_reducible first | refine Q1 ?_ | refine Qe ?_ | fail) | ((with_reducible refine w_draw [(b, [.i 5, .i 0, .str ⟨#[]⟩, .sl o' (L.map V.cells)])] ?_ ?_ ?_ ?_ ?_); (focus kernel_rfl); (focus kernel_rfl); (focus kernel_rfl); (focus exact keep_one (List.Mem.head _))) | ((with_reducible refine And.intro ?_ ?_); (focus exact keep_one (by repeat (first | exact mm_h | apply mm_t)))) | ((with_reducible apply (a2_go ho')); (focus (intro o'; repeat (first | exact ra_h | apply ra_t))); (focus exact hL4); (focus exact len_one rfl); (focus (simp only [List.length_map, List.length_cons, List.length_nil]; omega)); (focus (simp only [List.length_map, List.length_cons, List.length_nil]; omega)); intro o' ho') | (with_reducible first | refine Ql ?_ | refine Q2 ?_ | refine Qs ?_ | refine Q4 ?_ | (refine al_go ?_; intro b) | fail) | refine QR Tryz.call80 hBs.out ?_ | refine QR Tryz.call167 hIs.out ?_ | (with_reducible first | (refine Qa ?_; intro o' ho') | (refine Qp ?_; intro o' ho') | refine Q5 ?_ | (refine Q3a ?_; intro hb; try intro hb1) | (refine Q3b ?_; intro hb; try intro hb1) | (refine Q3 ?_ ?_ <;> intro hb <;> try intro hb1) | fail) | fail)
      refine ⟨i + 1, .box b 73 [.i 5, .i 0, .str ⟨#[]⟩, .sl o' ((L ++ [V.mk k1 n1 t1 l1]).map V.cells)] :: .box b4 73 zs :: .room o' 73 4 ((L ++ [V.mk k1 n1 t1 l1]).map V.cells).length :: rdR rb s3 :: st, ?_, ⟨hlt, ?_, ?_, ?_, ?_, ?_, ?_, ?_, o', L ++ [V.mk k1 n1 t1 l1], s3, zs, ho', ?_, hzs, hE2, rfl⟩, ?_⟩
      · simp only [List.map_append, List.map_cons, List.map_nil, V.cells_mk]; (repeat (first | exact List.Sublist.refl _ | apply List.Sublist.cons))
      · exact Qf
      · exact Qf
      · exact Qf
      · exact Qf
      · exact Qf
      · exact Qf
      · exact Qf
      · rw [List.length_append, List.length_singleton]; omega
      · omega
  · have hHE := hE.out
    rw [show m - i = 0 by omega, vals] at hHE
    obtain ⟨r1, r2⟩ := res
    obtain ⟨hr1, hr2⟩ := hHE
    dsimp only at hr1 hr2
    rw [List.append_nil] at hr1
    subst hr1 hr2
    clear hE hI hBad
    repeat' (with_reducible first | refine Q1 ?_ | refine Qe ?_ | refine Ql ?_ | refine Q2 ?_ | refine Qs ?_ | refine Q4 ?_ | (refine al_go ?_; intro b) | (refine Qa ?_; intro o' ho') | (refine Qp ?_; intro o' ho') | refine Q5 ?_ | (refine Q3a ?_; intro hb; try intro hb1) | (refine Q3b ?_; intro hb; try intro hb1) | (refine Q3 ?_ ?_ <;> intro hb <;> try intro hb1) | fail)
    all_goals exact QretC
end Go.Proofs.YtgcienlfpnpbgaaGreat
end

section
namespace Go.Proofs.YtgcienlfpnpbgaaGreat
set_option linter.unusedSimpArgs false
attribute [local push_cast] encB encI V.cells_mk V.cells_take V.cells_len Nat.mul_one
open Go.RowKit B
set_option maxRecDepth 10000
set_option maxHeartbeats 4000000
def V.zero : V := .mk 0 0 ⟨#[]⟩ []
def RS.val (s : RS) : V × RS := if s.bad = true then (V.zero, s) else if (RS.value 4 s).2.bad = true ∨ (RS.value 4 s).1.right = false then (V.zero, RS.fail) else RS.value 4 s
theorem rdValF (b : Nat) (s : RS) (hn : (RS.value 4 s).1.nodes ≤ 4611686018427387904) (st : St) : TrF Tryz.prog 118 [.ptr b 0] (rdR b s :: st) fun x st' => x = .agg s.val.1.cells ∧ st' = rdR b s.val.2 :: st := by
  have hBad := Lib.hid (rdBadF b s)
  have hV := Lib.hid (rdValueF 4 (Nat.le_refl _) b s)
  have hR := Lib.hid (valRightF (RS.value 4 s).1 hn)
  unfold RS.val
  cases hsb : s.bad with
  | true =>
    rw [if_pos rfl]
    rw [hsb] at hBad
    refine QinC 2 73 Tryz.func118 Tryz.ntmps118 ?_
    repeat' (first | (with_reducible first | refine Q1 ?_ | refine Qe ?_ | refine Ql ?_ | refine Q2 ?_ | refine Qs ?_ | refine Q4 ?_ | (refine al_go ?_; intro b) | fail) | refine QR Tryz.call80 hBad.out ?_ | (with_reducible first | refine Q5 ?_ | (refine Q3a ?_; intro hb; try intro hb1) | (refine Q3b ?_; intro hb; try intro hb1) | (refine Q3 ?_ ?_ <;> intro hb <;> try intro hb1) | fail) | fail)
    all_goals exact QretC
  | false =>
    rw [if_neg Bool.false_ne_true]
    rw [hsb] at hBad
    generalize RS.value 4 s = q at *
    obtain ⟨⟨k, n, t, l⟩, s2⟩ := q
    dsimp only at *
    rw [V.cells_mk] at *
    generalize hr : (V.mk k n t l).right = r at *
    have hBad2 := Lib.hid (rdBadF b s2)
    have hF := Lib.hid (rdFailF b s2)
    cases hsb2 : s2.bad with
    | true =>
      rw [if_pos (.inl rfl)]
      rw [hsb2] at hBad2
      refine QinC 2 73 Tryz.func118 Tryz.ntmps118 ?_
      repeat' (first | (with_reducible first | refine Q1 ?_ | refine Qe ?_ | refine Ql ?_ | refine Q2 ?_ | refine Qs ?_ | refine Q4 ?_ | (refine al_go ?_; intro b) | fail) | refine QR Tryz.call80 hBad.out ?_ | refine QR Tryz.call80 hBad2.out ?_ | refine QR Tryz.call167 hV.out ?_ | refine QR Tryz.call169 hF.out ?_ | (with_reducible first | refine Q5 ?_ | (refine Q3a ?_; intro hb; try intro hb1) | (refine Q3b ?_; intro hb; try intro hb1) | (refine Q3 ?_ ?_ <;> intro hb <;> try intro hb1) | fail) | fail)
      all_goals exact QretC
    | false =>
      rw [hsb2] at hBad2
      cases r with
      | false =>
        rw [if_pos (.inr rfl)]
        refine QinC 2 73 Tryz.func118 Tryz.ntmps118 ?_
        repeat' (first | (with_reducible first | refine Q1 ?_ | refine Qe ?_ | refine Ql ?_ | refine Q2 ?_ | refine Qs ?_ | refine Q4 ?_ | (refine al_go ?_; intro b) | fail) | refine QR Tryz.call80 hBad.out ?_ | refine QR Tryz.call80 hBad2.out ?_ | refine QR Tryz.call167 hV.out ?_ | refine QR Tryz.call169 hF.out ?_ | refine Qc Tryz.call168 (hR.out _) ?_ | (with_reducible first | refine Q5 ?_ | (refine Q3a ?_; intro hb; try intro hb1) | (refine Q3b ?_; intro hb; try intro hb1) | (refine Q3 ?_ ?_ <;> intro hb <;> try intro hb1) | fail) | fail)
        all_goals exact QretC
      | true =>
        rw [if_neg (by simp)]
        refine QinC 2 73 Tryz.func118 Tryz.ntmps118 ?_
        repeat' (first | (with_reducible first | refine Q1 ?_ | refine Qe ?_ | refine Ql ?_ | refine Q2 ?_ | refine Qs ?_ | refine Q4 ?_ | (refine al_go ?_; intro b) | fail) | refine QR Tryz.call80 hBad.out ?_ | refine QR Tryz.call80 hBad2.out ?_ | refine QR Tryz.call167 hV.out ?_ | refine QR Tryz.call169 hF.out ?_ | refine Qc Tryz.call168 (hR.out _) ?_ | (with_reducible first | refine Q5 ?_ | (refine Q3a ?_; intro hb; try intro hb1) | (refine Q3b ?_; intro hb; try intro hb1) | (refine Q3 ?_ ?_ <;> intro hb <;> try intro hb1) | fail) | fail)
        all_goals exact QretC
end Go.Proofs.YtgcienlfpnpbgaaGreat
end

section
namespace Go.Proofs.YtgcienlfpnpbgaaGreat
set_option linter.unusedSimpArgs false
attribute [local push_cast] encB encI Nat.mul_one Int.sub_zero
open Go.RowKit
set_option maxRecDepth 10000
set_option maxHeartbeats 4000000
def encBs (b : List UInt8) : List D := [.sl .shared (b.map encB)]
attribute [local push_cast] encBs
theorem growBF (n : Nat) (hn : n ≤ 1000000) (st : St) : TrF Tryz.prog 176 [.sl .tight [], .i n] st fun d st' => ∃ o', o' ≠ .shared ∧ d = .sl o' [] ∧ st' = .room o' 5 1 ([] : List (List D)).length :: st := by
  refine Qin [4] Tryz.func176 Tryz.results176 Tryz.ntmps176 ?_
  by_cases h0 : n = 0
  · subst h0
    refine tr_room 5 1 0 ?_
    repeat' (with_reducible first | refine Q1 ?_ | refine Qe ?_ | refine Ql ?_ | refine Q2 ?_ | refine Qs ?_ | refine Q4 ?_ | (refine al_go ?_; intro b) | (refine Qa ?_; intro o' ho') | (refine Qp ?_; intro o' ho') | refine Q5 ?_ | (refine Q3a ?_; intro hb; try intro hb1) | (refine Q3b ?_; intro hb; try intro hb1) | (refine Q3 ?_ ?_ <;> intro hb <;> try intro hb1) | fail)
    all_goals ((apply ret_own (by simp) (by first | rfl | assumption)); (focus ((try simp (disch := omega) only [push_cast, simprocAttr, *]); (try exact rfl); done)); (focus (first | assumption | (intro h; cases h))); (focus ((repeat (first | exact List.Sublist.refl _ | apply List.Sublist.cons)); done)))
    all_goals rfl
  · have h1 : (0 : Int) < n := by omega
    have h2 : 0 < n := by omega
    repeat' (first | (with_reducible first | refine Q1 ?_ | refine Qe ?_ | fail) | (refine tr_cutB 6 (fun A' st' => ∃ (g cap : Nat) (cs : List D), A'.df = [] ∧ A'.e 0 = .ar g 0 0 cap ∧ cs.length = cap * 1 ∧ st' = .box g 5 cs :: st) ?_ ?_) | ((with_reducible apply s_sliceT); (focus ((try simp (disch := omega) only [push_cast, simprocAttr, *]); (try exact rfl); done)); (focus ((try simp (disch := omega) only [push_cast, simprocAttr, *]); (try exact rfl); done)); (focus ((try simp (disch := omega) only [push_cast, simprocAttr, *]); (try exact rfl); done))) | with_reducible refine s_zeros ?_ | with_reducible refine zr_go ?_ | ((with_reducible apply zr2_go); (focus omega); (focus omega); (focus omega); (focus exact rfl); intro g cap hgc) | (with_reducible first | refine Ql ?_ | refine Q2 ?_ | refine Qs ?_ | refine Q4 ?_ | (refine al_go ?_; intro b) | (refine Qa ?_; intro o' ho') | (refine Qp ?_; intro o' ho') | refine Q5 ?_ | (refine Q3a ?_; intro hb; try intro hb1) | (refine Q3b ?_; intro hb; try intro hb1) | (refine Q3 ?_ ?_ <;> intro hb <;> try intro hb1) | fail) | fail)
    · refine ⟨g, cap, _, Qf, Qf, ?_, rfl⟩
      rw [List.length_replicate, Nat.mul_one]
    · rintro A' st' ⟨g, cap, cs, hdf, e0, hcl, rfl⟩
      refine tr_reroomA [0] 1 (.refl _) (by omega) hcl (fun t ht => by rw [List.mem_singleton.1 ht]; exact e0) fun A2 hdf2 q1 q2 => ?_
      have e0' := q1 0 (List.mem_singleton.2 rfl)
      rw [hdf] at hdf2
      clear q1 q2 e0 hdf
      repeat' (with_reducible first | refine Q1 ?_ | refine Qe ?_ | refine Ql ?_ | refine Q2 ?_ | refine Qs ?_ | refine Q4 ?_ | (refine al_go ?_; intro b) | (refine Qa ?_; intro o' ho') | (refine Qp ?_; intro o' ho') | refine Q5 ?_ | (refine Q3a ?_; intro hb; try intro hb1) | (refine Q3b ?_; intro hb; try intro hb1) | (refine Q3 ?_ ?_ <;> intro hb <;> try intro hb1) | fail)
      all_goals ((apply ret_own (by simp) (by first | rfl | assumption)); (focus ((try simp (disch := omega) only [push_cast, simprocAttr, *]); (try exact rfl); done)); (focus (first | assumption | (intro h; cases h))); (focus ((repeat (first | exact List.Sublist.refl _ | apply List.Sublist.cons)); done)))
      all_goals rfl
theorem concatBF (o : Own) (bs : List (List UInt8)) (hl : bs.flatten.length ≤ 1000000) (hb : bs.length ≤ 1000000) (st : St) : TrF Tryz.prog 135 [.sl o (bs.map encBs)] st fun d st' => ∃ o', o' ≠ .shared ∧ d = .sl o' (bs.flatten.map encB) ∧ st' = .room o' 5 1 (bs.flatten.map encB).length :: st := by
  have hF : ∀ i x, bs[i]? = some x → (bs.take (i + 1)).flatten = (bs.take i).flatten ++ x ∧ (bs.take (i + 1)).flatten.length ≤ 1000000 := fun i x hx => by
    have h1 : (bs.take (i + 1)).flatten = (bs.take i).flatten ++ x := by rw [List.take_succ, hx]; simp
    refine ⟨h1, ?_⟩
    have h2 := congrArg List.length (congrArg List.flatten (List.take_append_drop (i + 1) bs))
    rw [List.flatten_append, List.length_append] at h2
    omega
  refine Qin [2] Tryz.func135 Tryz.results135 Tryz.ntmps135 ?_
  repeat' (with_reducible first | refine Q1 ?_ | refine Qe ?_ | refine Ql ?_ | refine Q2 ?_ | refine Qs ?_ | refine Q4 ?_ | (refine al_go ?_; intro b) | (refine Qa ?_; intro o' ho') | (refine Qp ?_; intro o' ho') | refine Q5 ?_ | (refine Q3a ?_; intro hb; try intro hb1) | (refine Q3b ?_; intro hb; try intro hb1) | (refine Q3 ?_ ?_ <;> intro hb <;> try intro hb1) | fail)
  refine tr_loop (ι := Nat) (fun i A st' => i ≤ bs.length ∧ A.df = [] ∧ A.e 0 = .sl o (bs.map encBs) ∧ A.e 9 = .sl o (bs.map encBs) ∧ A.e 10 = .i bs.length ∧ A.e 11 = .i i ∧ A.e 3 = .i (bs.take i).flatten.length ∧ st = st') (fun i => bs.length - i) 0 ⟨Nat.zero_le _, Qf, Qf, Qf, Qf, Qf, Qf, rfl⟩ ?_
  rintro i A st' ⟨hi, hdf, e0, e9, e10, e11, e3, rfl⟩
  by_cases hlt : i < bs.length
  · obtain ⟨x, hx⟩ : ∃ x, bs[i]? = some x := ⟨_, List.getElem?_eq_getElem hlt⟩
    obtain ⟨hf, hfl⟩ := hF i x hx
    have hfl2 : ((bs.take (i + 1)).flatten.length : Int) = (bs.take i).flatten.length + x.length := by rw [hf, List.length_append]; omega
    clear hF hf
    obtain ⟨q1, hq1⟩ : ∃ q, (bs.take (i + 1)).flatten.length = q := ⟨_, rfl⟩
    rw [hq1] at hfl hfl2
    generalize (bs.take i).flatten.length = q0 at *
    repeat' (with_reducible first | refine Q1 ?_ | refine Qe ?_ | refine Ql ?_ | refine Q2 ?_ | refine Qs ?_ | refine Q4 ?_ | (refine al_go ?_; intro b) | (refine Qa ?_; intro o' ho') | (refine Qp ?_; intro o' ho') | refine Q5 ?_ | (refine Q3a ?_; intro hb; try intro hb1) | (refine Q3b ?_; intro hb; try intro hb1) | (refine Q3 ?_ ?_ <;> intro hb <;> try intro hb1) | fail)
    refine ⟨i + 1, ⟨hlt, ?_, ?_, ?_, ?_, ?_, ?_, rfl⟩, ?_⟩
    all_goals exact Qf
  · rw [List.take_of_length_le (by omega)] at e3
    have hG := fun st => growBF bs.flatten.length hl st
    replace hF := Lib.hid hF
    replace hG := Lib.hid hG
    repeat' (first | (with_reducible first | refine Q1 ?_ | refine Qe ?_ | refine Ql ?_ | refine Q2 ?_ | refine Qs ?_ | refine Q4 ?_ | (refine al_go ?_; intro b) | fail) | (refine QE Tryz.call176 (hG.out _) ?_; intro o1 ho1) | (with_reducible first | (refine Qa ?_; intro o' ho') | (refine Qp ?_; intro o' ho') | refine Q5 ?_ | (refine Q3a ?_; intro hb; try intro hb1) | (refine Q3b ?_; intro hb; try intro hb1) | (refine Q3 ?_ ?_ <;> intro hb <;> try intro hb1) | fail) | fail)
    refine tr_loopd (ι := Nat) (fun i A st' => i ≤ bs.length ∧ A.df = [] ∧ A.e 25 = .sl o (bs.map encBs) ∧ A.e 26 = .i bs.length ∧ A.e 27 = .i i ∧ ∃ o' B, o' ≠ .shared ∧ Hid (B = (bs.take i).flatten) ∧ B.length = (bs.take i).flatten.length ∧ A.e 6 = .sl o' (B.map encB) ∧ st' = .room o' 5 1 (B.map encB).length :: st) (fun i => bs.length - i) 0 ⟨Nat.zero_le _, Qf, Qf, Qf, Qf, o1, [], ho1, rfl, rfl, Qf, rfl⟩ ?_
    clear hlt hi e0 e3 e9 e10 e11 hdf A i hG o1 ho1
    rintro i A st' ⟨hi, hdf, e25, e26, e27, o', B, ho', HB, hBl, e6, rfl⟩
    by_cases hlt : i < bs.length
    · obtain ⟨x, hx⟩ : ∃ x, bs[i]? = some x := ⟨_, List.getElem?_eq_getElem hlt⟩
      obtain ⟨hf, hfl⟩ := hF.out i x hx
      have HB2 : Hid (B ++ x = (bs.take (i + 1)).flatten) := by show _ = _; rw [hf, HB.out]
      have hBl2 : (B ++ x).length = (bs.take (i + 1)).flatten.length := by rw [hf, List.length_append, List.length_append, hBl]
      have hBx : B.length + x.length ≤ 1000000 := by
        have := hBl2
        rw [List.length_append] at this; omega
      replace hBl2 := Lib.hid hBl2
      clear hF hf HB hfl hBl
      repeat' (with_reducible first | refine Q1 ?_ | refine Qe ?_ | refine Ql ?_ | refine Q2 ?_ | refine Qs ?_ | refine Q4 ?_ | (refine al_go ?_; intro b) | (refine Qa ?_; intro o' ho') | (refine Qp ?_; intro o' ho') | refine Q5 ?_ | (refine Q3a ?_; intro hb; try intro hb1) | (refine Q3b ?_; intro hb; try intro hb1) | (refine Q3 ?_ ?_ <;> intro hb <;> try intro hb1) | fail)
      refine ⟨i + 1, .room o' 5 1 ((B ++ x).map encB).length :: st, ?_, ⟨hlt, ?_, ?_, ?_, ?_, o', B ++ x, ho', HB2, hBl2.out, ?_, rfl⟩, ?_⟩
      · rw [List.map_append]; (repeat (first | exact List.Sublist.refl _ | apply List.Sublist.cons))
      all_goals exact Qf
    · have hBe := HB.out
      rw [List.take_of_length_le (by omega)] at hBe
      rw [← hBe]
      clear hBe HB hBl hF
      repeat' (with_reducible first | refine Q1 ?_ | refine Qe ?_ | refine Ql ?_ | refine Q2 ?_ | refine Qs ?_ | refine Q4 ?_ | (refine al_go ?_; intro b) | (refine Qa ?_; intro o' ho') | (refine Qp ?_; intro o' ho') | refine Q5 ?_ | (refine Q3a ?_; intro hb; try intro hb1) | (refine Q3b ?_; intro hb; try intro hb1) | (refine Q3 ?_ ?_ <;> intro hb <;> try intro hb1) | fail)
      all_goals ((apply ret_own (by simp) (by first | rfl | assumption)); (focus ((try simp (disch := omega) only [push_cast, simprocAttr, *]); (try exact rfl); done)); (focus (first | assumption | (intro h; cases h))); (focus ((repeat (first | exact List.Sublist.refl _ | apply List.Sublist.cons)); done)))
      all_goals rfl
end Go.Proofs.YtgcienlfpnpbgaaGreat
end

section
namespace Go.Proofs.YtgcienlfpnpbgaaGreat
set_option linter.unusedSimpArgs false
attribute [local push_cast] encB encI encBs V.cells_mk V.cells_take V.cells_len Nat.mul_one Int.sub_zero
open Go.RowKit B
set_option maxRecDepth 10000
set_option maxHeartbeats 4000000
theorem bytesF (o o' : Own) (a b : List UInt8) (st : St) : TrF Tryz.prog 18 [.sl o (a.map encB), .sl o' (b.map encB)] st fun d st' => d = .b (decide (a = b)) ∧ st' = st :=
  trF_pure fun vs w hv => by
    obtain ⟨v, v', rfl, h1, h2⟩ := args2 hv
    exact ⟨_, fun _ _ => .s _ rfl, (bytes_any v v' a b w (sees_bytes h1) (sees_bytes h2)).mono fun _ _ ⟨h, n, e⟩ => ⟨h, by subst e; exact ⟨rfl, rfl, rfl, Nat.le_refl _, fun _ _ => rfl⟩⟩⟩
theorem binAllF (o : Own) (bs : List (List UInt8)) (hl : bs.flatten.length ≤ 1000000) (hb : bs.length ≤ 1000000) (st : St) : TrF Tryz.prog 54 [.sl o (bs.map encBs)] st fun d st' => ∃ o', o' ≠ .shared ∧ d = .sl o' (bs.flatten.map encB) ∧ st' = .room o' 5 1 (bs.flatten.map encB).length :: st := by
  have hC := Lib.hid (concatBF o bs hl hb)
  generalize bs.flatten = l at *
  refine Qin [2] Tryz.func54 Tryz.results54 Tryz.ntmps54 ?_
  repeat' (first | (with_reducible first | refine Q1 ?_ | refine Qe ?_ | refine Ql ?_ | refine Q2 ?_ | refine Qs ?_ | refine Q4 ?_ | (refine al_go ?_; intro b) | fail) | (refine QE Tryz.call135 (hC.out _) ?_; intro o1 ho1) | (with_reducible first | (refine Qa ?_; intro o' ho') | (refine Qp ?_; intro o' ho') | refine Q5 ?_ | (refine Q3a ?_; intro hb; try intro hb1) | (refine Q3b ?_; intro hb; try intro hb1) | (refine Q3 ?_ ?_ <;> intro hb <;> try intro hb1) | fail) | fail)
  all_goals ((apply ret_own (by simp) (by first | rfl | assumption)); (focus ((try simp (disch := omega) only [push_cast, simprocAttr, *]); (try exact rfl); done)); (focus (first | assumption | (intro h; cases h))); (focus ((repeat (first | exact List.Sublist.refl _ | apply List.Sublist.cons)); done)))
  all_goals rfl
end Go.Proofs.YtgcienlfpnpbgaaGreat
end

section
namespace Go.Proofs.YtgcienlfpnpbgaaGreat
set_option linter.unusedSimpArgs false
attribute [local push_cast] encB encI encC encBs V.cells_mk V.cells_len Nat.mul_one Int.sub_zero List.map_nil beq_self_eq_true bne_self_eq_false List.head?_cons
open Go.RowKit B
set_option maxRecDepth 10000
set_option maxHeartbeats 8000000
namespace Reg
def byteB (n : Int) : List UInt8 := if 0 ≤ n ∧ n ≤ 255 then [UInt8.ofNat n.toNat] else []
def slotP (s : Sl) : List (List UInt8) := [tx s.name.data.toList, byteB s.types, byteB (if s.req then 1 else 0), s.dv.bin]
def slotB (s : Sl) : List UInt8 := (slotP s).flatten
theorem byteB_len (n : Int) : (byteB n).length ≤ 1 := by
  unfold byteB
  split <;> simp
theorem bin_len (v : V) : v.bin.length ≤ 20500 := by
  unfold V.bin
  split
  · rename_i h
    obtain ⟨hp, -, hn⟩ := V.right_iff.1 h
    have := V.put_le v hp
    omega
  · exact Nat.zero_le _
theorem slotB_len (s : Sl) (hs : s.name.size ≤ 300) : (slotB s).length ≤ 21000 := by
  unfold slotB slotP tx
  have h1 := byteB_len s.types
  have h2 := byteB_len (if s.req then 1 else 0)
  have h3 := bin_len s.dv
  have h4 : s.name.data.toList.length = s.name.size := by simp
  simp only [List.flatten_cons, List.flatten_nil, List.length_append, List.length_nil, be_len]
  omega
end Reg
theorem regBitF (b : Bool) (st : St) : TrF Tryz.prog 137 [.b b] st fun d st' => d = .i (if b then 1 else 0) ∧ st' = st := by
  cases b
  all_goals (
    refine Qin [2] Tryz.func137 Tryz.results137 Tryz.ntmps137 ?_
    repeat' (with_reducible first | refine Q1 ?_ | refine Qe ?_ | refine Ql ?_ | refine Q2 ?_ | refine Qs ?_ | refine Q4 ?_ | (refine al_go ?_; intro b) | refine Q5 ?_ | (refine Q3a ?_; intro hb; try intro hb1) | (refine Q3b ?_; intro hb; try intro hb1) | (refine Q3 ?_ ?_ <;> intro hb <;> try intro hb1) | fail)
    all_goals exact Qret)
theorem regPutSlotF (s : Sl) (hs : s.name.size ≤ 300) (hn : s.dv.nodes ≤ 1000) (hok : s.dv.Ok) (st : St) : TrF Tryz.prog 57 [.agg s.cells] st fun d st' => d = .sl .shared ((Reg.slotB s).map encB) ∧ st' = st := by
  have hT := binTextF s.name (by omega)
  have hB := binByteF s.types
  have hR := binByteF (if s.req then 1 else 0)
  have hBi := regBitF s.req
  have hV := binValueF s.dv.nodes s.dv (Nat.le_refl _) (by omega) hok
  have hA := binAllF .tight (Reg.slotP s) (by have := Reg.slotB_len s hs; unfold Reg.slotB at this; omega) (by show 4 ≤ 1000000; omega)
  unfold Reg.slotB
  generalize (Reg.slotP s).flatten = F at *
  unfold Reg.slotP Reg.byteB at hA
  cases s with
  | mk snm ty rq dv =>
  dsimp only at *
  generalize tx snm.data.toList = b1 at *
  generalize (if 0 ≤ ty ∧ ty ≤ 255 then [UInt8.ofNat ty.toNat] else []) = b2 at *
  generalize (if rq = true then (1 : Int) else 0) = ri at *
  generalize (if 0 ≤ ri ∧ ri ≤ 255 then [UInt8.ofNat ri.toNat] else []) = b3 at *
  generalize dv.bin = b4 at *
  clear hs hn hok
  cases dv with
  | mk k n sv lv =>
  rw [Sl.cells_mk]
  rw [V.cells_mk] at hV
  simp only [List.map_cons, List.map_nil, encBs] at hA
  replace hT := Lib.hid hT
  replace hB := Lib.hid hB
  replace hR := Lib.hid hR
  replace hBi := Lib.hid hBi
  replace hV := Lib.hid hV
  replace hA := Lib.hid hA
  refine Qin [2] Tryz.func57 Tryz.results57 Tryz.ntmps57 ?_
  repeat' (first | (with_reducible first | refine Q1 ?_ | refine Qe ?_ | refine Ql ?_ | refine Q2 ?_ | refine Qs ?_ | refine Q4 ?_ | (refine al_go ?_; intro b) | fail) | refine Qc Tryz.call55 (hT.out _) ?_ | refine Qc Tryz.call136 (hB.out _) ?_ | refine Qc Tryz.call136 (hR.out _) ?_ | refine Qc Tryz.call137 (hBi.out _) ?_ | (refine QE Tryz.call138 (hV.out _) ?_; intro o1 ho1) | (refine QE Tryz.call54 (hA.out _) ?_; intro o2 ho2) | (with_reducible first | (refine Qa ?_; intro o' ho') | (refine Qp ?_; intro o' ho') | refine Q5 ?_ | (refine Q3a ?_; intro hb; try intro hb1) | (refine Q3b ?_; intro hb; try intro hb1) | (refine Q3 ?_ ?_ <;> intro hb <;> try intro hb1) | fail) | fail)
  all_goals exact Qret
end Go.Proofs.YtgcienlfpnpbgaaGreat
end

section
namespace Go.Proofs.YtgcienlfpnpbgaaGreat
set_option linter.unusedSimpArgs false
attribute [local push_cast] encB encI encC encBs V.cells_mk V.cells_len Nat.mul_one Int.sub_zero List.map_nil beq_self_eq_true bne_self_eq_false List.head?_cons
open Go.RowKit B
set_option maxRecDepth 10000
set_option maxHeartbeats 8000000
namespace Reg
def b8 (n : Int) : UInt8 := UInt8.ofNat (n % 256).toNat
def stepA (p : Stp) : List UInt8 :=
  if p.kind = 1 then [byteB p.kind, slotB p.slot].flatten
  else if p.kind = 2 ∨ p.kind = 3 ∨ p.kind = 4 then [byteB p.kind, byteB p.col].flatten
  else if p.kind = 5 then [byteB p.kind, be 4 p.order.length].flatten ++ p.order.map b8
  else byteB p.kind
def stepB (p : Stp) : List UInt8 :=
  if p.kind = 3 then [stepA p, tx p.slot.name.data.toList].flatten
  else if p.kind = 4 then [stepA p, byteB p.slot.types].flatten
  else stepA p
end Reg
theorem u8_wrapI (n : Int) : IntKind.u8.wrap n = ((Reg.b8 n).toNat : Int) := by
  have h1 : 0 ≤ n % 256 := Int.emod_nonneg _ (by decide)
  have h2 : n % 256 < 256 := Int.emod_lt_of_pos _ (by decide)
  have h3 : IntKind.u8.wrap n = IntKind.u8.wrap ((n % 256).toNat : Int) := by
    rw [Int.toNat_of_nonneg h1]
    unfold IntKind.wrap
    have e : (2 : Int) ^ IntKind.u8.bits = 256 := by decide
    rw [e, Int.emod_emod_of_dvd n (Int.dvd_refl 256)]
  rw [h3, u8_wrap]; rfl
theorem regPutStepF (p : Stp) (hs : p.slot.name.size ≤ 300) (hn : p.slot.dv.nodes ≤ 1000) (hok : p.slot.dv.Ok) (ho : p.order.length ≤ 1000) (st : St) : TrF Tryz.prog 59 [.agg p.cells] st fun d st' => d = .sl .shared ((Reg.stepB p).map encB) ∧ st' = st := by
  have hB1 := binByteF p.kind
  have hBc := binByteF p.col
  have hBt := binByteF p.slot.types
  have hT := binTextF p.slot.name (by omega)
  have hPS := regPutSlotF p.slot hs hn hok
  have l1 := Reg.byteB_len p.kind
  have l2 := Reg.byteB_len p.col
  have l3 := Reg.byteB_len p.slot.types
  have l4 := Reg.slotB_len p.slot hs
  have l5 : (tx p.slot.name.data.toList).length ≤ 304 := by
    unfold tx
    have : p.slot.name.data.toList.length = p.slot.name.size := by simp
    rw [List.length_append, be_len]
    omega
  have all2 := fun (a b : List UInt8) (h : a.length + b.length ≤ 100000) => binAllF .tight [a, b] (by simp only [List.flatten_cons, List.flatten_nil, List.length_append, List.length_nil]; omega) (by show 2 ≤ 1000000; omega)
  have fl2 : ∀ a b : List UInt8, [a, b].flatten.length = a.length + b.length := fun a b => by simp
  simp only [List.map_cons, List.map_nil, encBs] at all2
  unfold Reg.stepB Reg.stepA
  unfold Reg.byteB at *
  cases p with
  | mk kind col slot order =>
  cases slot with
  | mk snm ty rq dv =>
  cases dv with
  | mk k n sv lv =>
  unfold Stp.cells
  rw [Sl.cells_mk] at *
  dsimp only [List.cons_append, List.nil_append] at *
  generalize tx snm.data.toList = bt at *
  generalize Reg.slotB _ = bs at *
  generalize (if 0 ≤ ty ∧ ty ≤ 255 then [UInt8.ofNat ty.toNat] else []) = by3 at *
  generalize (if 0 ≤ col ∧ col ≤ 255 then [UInt8.ofNat col.toNat] else []) = by2 at *
  generalize (if 0 ≤ kind ∧ kind ≤ 255 then [UInt8.ofNat kind.toNat] else []) = by1 at *
  clear hs hn hok
  by_cases hk1 : kind = 1
  · subst hk1
    have hA1 := all2 by1 bs (by omega)
    rw [if_neg (by decide), if_neg (by decide), if_pos rfl]
    generalize [by1, bs].flatten = f1 at *
    clear all2 fl2 hBc hBt hT l1 l2 l3 l4 l5
    replace hB1 := Lib.hid hB1
    replace hPS := Lib.hid hPS
    replace hA1 := Lib.hid hA1
    refine Qin [2] Tryz.func59 Tryz.results59 Tryz.ntmps59 ?_
    repeat' (first | (with_reducible first | refine Q1 ?_ | refine Qe ?_ | refine Ql ?_ | refine Q2 ?_ | refine Qs ?_ | refine Q4 ?_ | (refine al_go ?_; intro b) | fail) | refine Qc Tryz.call136 (hB1.out _) ?_ | refine Qc Tryz.call57 (hPS.out _) ?_ | (refine QE Tryz.call54 (hA1.out _) ?_; intro o1 ho1) | (with_reducible first | (refine Qa ?_; intro o' ho') | (refine Qp ?_; intro o' ho') | refine Q5 ?_ | (refine Q3a ?_; intro hb; try intro hb1) | (refine Q3b ?_; intro hb; try intro hb1) | (refine Q3 ?_ ?_ <;> intro hb <;> try intro hb1) | fail) | fail)
    all_goals exact Qret
  by_cases hk2 : kind = 2
  · subst hk2
    have hA1 := all2 by1 by2 (by omega)
    rw [if_neg (by decide), if_neg (by decide), if_neg (by decide), if_pos (by decide)]
    generalize [by1, by2].flatten = f1 at *
    clear all2 fl2 hBt hT hPS l1 l2 l3 l4 l5
    replace hB1 := Lib.hid hB1
    replace hBc := Lib.hid hBc
    replace hA1 := Lib.hid hA1
    refine Qin [2] Tryz.func59 Tryz.results59 Tryz.ntmps59 ?_
    repeat' (first | (with_reducible first | refine Q1 ?_ | refine Qe ?_ | refine Ql ?_ | refine Q2 ?_ | refine Qs ?_ | refine Q4 ?_ | (refine al_go ?_; intro b) | fail) | refine Qc Tryz.call136 (hB1.out _) ?_ | refine Qc Tryz.call136 (hBc.out _) ?_ | (refine QE Tryz.call54 (hA1.out _) ?_; intro o1 ho1) | (with_reducible first | (refine Qa ?_; intro o' ho') | (refine Qp ?_; intro o' ho') | refine Q5 ?_ | (refine Q3a ?_; intro hb; try intro hb1) | (refine Q3b ?_; intro hb; try intro hb1) | (refine Q3 ?_ ?_ <;> intro hb <;> try intro hb1) | fail) | fail)
    all_goals exact Qret
  by_cases hk3 : kind = 3
  · subst hk3
    have hA1 := all2 by1 by2 (by omega)
    have hA2 := all2 [by1, by2].flatten bt (by rw [fl2]; omega)
    rw [if_pos rfl, if_neg (by decide), if_pos (by decide)]
    generalize [by1, by2].flatten = f1 at *
    generalize [f1, bt].flatten = f2 at *
    clear all2 fl2 hBt hPS l1 l2 l3 l4 l5
    replace hB1 := Lib.hid hB1
    replace hBc := Lib.hid hBc
    replace hT := Lib.hid hT
    replace hA1 := Lib.hid hA1
    replace hA2 := Lib.hid hA2
    refine Qin [2] Tryz.func59 Tryz.results59 Tryz.ntmps59 ?_
    repeat' (first | (with_reducible first | refine Q1 ?_ | refine Qe ?_ | refine Ql ?_ | refine Q2 ?_ | refine Qs ?_ | refine Q4 ?_ | (refine al_go ?_; intro b) | fail) | refine Qc Tryz.call136 (hB1.out _) ?_ | refine Qc Tryz.call136 (hBc.out _) ?_ | refine Qc Tryz.call55 (hT.out _) ?_ | (refine QE Tryz.call54 (hA1.out _) ?_; intro o1 ho1) | (refine QE Tryz.call54 (hA2.out _) ?_; intro o2 ho2) | (with_reducible first | (refine Qa ?_; intro o' ho') | (refine Qp ?_; intro o' ho') | refine Q5 ?_ | (refine Q3a ?_; intro hb; try intro hb1) | (refine Q3b ?_; intro hb; try intro hb1) | (refine Q3 ?_ ?_ <;> intro hb <;> try intro hb1) | fail) | fail)
    all_goals exact Qret
  by_cases hk4 : kind = 4
  · subst hk4
    have hA1 := all2 by1 by2 (by omega)
    have hA2 := all2 [by1, by2].flatten by3 (by rw [fl2]; omega)
    rw [if_neg (by decide), if_pos rfl, if_neg (by decide), if_pos (by decide)]
    generalize [by1, by2].flatten = f1 at *
    generalize [f1, by3].flatten = f2 at *
    clear all2 fl2 hT hPS l1 l2 l3 l4 l5
    replace hB1 := Lib.hid hB1
    replace hBc := Lib.hid hBc
    replace hBt := Lib.hid hBt
    replace hA1 := Lib.hid hA1
    replace hA2 := Lib.hid hA2
    refine Qin [2] Tryz.func59 Tryz.results59 Tryz.ntmps59 ?_
    repeat' (first | (with_reducible first | refine Q1 ?_ | refine Qe ?_ | refine Ql ?_ | refine Q2 ?_ | refine Qs ?_ | refine Q4 ?_ | (refine al_go ?_; intro b) | fail) | refine Qc Tryz.call136 (hB1.out _) ?_ | refine Qc Tryz.call136 (hBc.out _) ?_ | refine Qc Tryz.call136 (hBt.out _) ?_ | (refine QE Tryz.call54 (hA1.out _) ?_; intro o1 ho1) | (refine QE Tryz.call54 (hA2.out _) ?_; intro o2 ho2) | (with_reducible first | (refine Qa ?_; intro o' ho') | (refine Qp ?_; intro o' ho') | refine Q5 ?_ | (refine Q3a ?_; intro hb; try intro hb1) | (refine Q3b ?_; intro hb; try intro hb1) | (refine Q3 ?_ ?_ <;> intro hb <;> try intro hb1) | fail) | fail)
    all_goals exact Qret
  rw [if_neg hk3, if_neg hk4, if_neg hk1, if_neg (by omega)]
  by_cases hk5 : kind = 5
  · subst hk5
    rw [if_pos rfl]
    have hN := binNumF order.length
    rw [if_pos (by omega), Int.toNat_natCast] at hN
    have hA1 := all2 by1 (be 4 order.length) (by rw [be_len]; omega)
    have hb4 : (be 4 order.length).length = 4 := be_len ..
    generalize be 4 order.length = bn at *
    generalize hf1 : [by1, bn].flatten = f1 at *
    have hm : (order.map encI).length = order.length := List.length_map ..
    have hc : Hid (∀ (i : Nat) (n : Int), order[i]? = some n → (order.map encI)[i]? = some [.i n]) := fun i n h => by rw [List.getElem?_map, h]; rfl
    have hT2 : Hid (∀ (i : Nat) (n : Int), order[i]? = some n → f1 ++ (order.take (i + 1)).map Reg.b8 = (f1 ++ (order.take i).map Reg.b8) ++ [Reg.b8 n]) := fun i n h => by
      rw [List.take_add_one, h, Option.toList_some, List.map_append, ← List.append_assoc]; rfl
    have hfl : f1.length ≤ 100000 := by rw [← hf1, fl2]; omega
    clear all2 fl2 hBc hBt hT hPS l1 l2 l3 l4 l5 hf1 hb4
    generalize order.map encI = OS at *
    replace hB1 := Lib.hid hB1
    replace hN := Lib.hid hN
    replace hA1 := Lib.hid hA1
    refine Qin [2] Tryz.func59 Tryz.results59 Tryz.ntmps59 ?_
    repeat' (first | (with_reducible first | refine Q1 ?_ | refine Qe ?_ | refine Ql ?_ | refine Q2 ?_ | refine Qs ?_ | refine Q4 ?_ | (refine al_go ?_; intro b) | fail) | refine Qc Tryz.call136 (hB1.out _) ?_ | refine Qc Tryz.call134 (hN.out _) ?_ | (refine QE Tryz.call54 (hA1.out _) ?_; intro o1 ho1) | (with_reducible first | (refine Qa ?_; intro o' ho') | (refine Qp ?_; intro o' ho') | refine Q5 ?_ | (refine Q3a ?_; intro hb; try intro hb1) | (refine Q3b ?_; intro hb; try intro hb1) | (refine Q3 ?_ ?_ <;> intro hb <;> try intro hb1) | fail) | fail)
    refine tr_loopd (ι := Nat) (fun i A st' => i ≤ order.length ∧ A.df = [] ∧ A.e 39 = .sl .shared OS ∧ A.e 40 = .i order.length ∧ A.e 41 = .i i ∧ A.e 1 = .ip [.i 5, .i col, .str snm, .i ty, .b rq, .i k, .i n, .str sv, .sl .shared (lv.map V.cells), .sl .shared OS] ∧ ∃ o' B, o' ≠ .shared ∧ Hid (B = f1 ++ (order.take i).map Reg.b8) ∧ B.length = f1.length + i ∧ A.e 3 = .sl o' (B.map encB) ∧ st' = .room o' 5 1 (B.map encB).length :: st) (fun i => order.length - i) 0 ⟨Nat.zero_le _, Qf, Qf, Qf, Qf, Qf, o1, f1, ho1, Lib.hid (by rw [List.take_zero, List.map_nil, List.append_nil]), rfl, Qf, rfl⟩ ?_
    rintro i A st' ⟨hi, hdf, e39, e40, e41, e1, o', B, ho', HB, hBl, e3, rfl⟩
    by_cases hlt : i < order.length
    · obtain ⟨m, hm2⟩ : ∃ m, order[i]? = some m := ⟨_, List.getElem?_eq_getElem hlt⟩
      have h1 := hc.out i m hm2
      have HB2 : Hid (B ++ [Reg.b8 m] = f1 ++ (order.take (i + 1)).map Reg.b8) := by show _ = _; rw [hT2.out i m hm2, HB.out]
      have hw := u8_wrapI m
      clear hm2 hT2 HB
      generalize Reg.b8 m = w at *
      have hBx : B.length + 1 ≤ 1000000 := by omega
      have hBl2 : Hid ((B ++ [w]).length = f1.length + (i + 1)) := Lib.hid (by rw [List.length_append, hBl]; rfl)
      clear hBl
      repeat' (with_reducible first | refine Q1 ?_ | refine Qe ?_ | refine Ql ?_ | refine Q2 ?_ | refine Qs ?_ | refine Q4 ?_ | (refine al_go ?_; intro b) | (refine Qa ?_; intro o' ho') | (refine Qp ?_; intro o' ho') | refine Q5 ?_ | (refine Q3a ?_; intro hb; try intro hb1) | (refine Q3b ?_; intro hb; try intro hb1) | (refine Q3 ?_ ?_ <;> intro hb <;> try intro hb1) | fail)
      refine ⟨i + 1, .room o' 5 1 ((B ++ [w]).map encB).length :: st, ?_, ⟨hlt, ?_, ?_, ?_, ?_, ?_, o', B ++ [w], ho', HB2, hBl2.out, ?_, rfl⟩, ?_⟩
      · rw [List.map_append]; (repeat (first | exact List.Sublist.refl _ | apply List.Sublist.cons))
      all_goals exact Qf
    · have hBe := HB.out
      rw [List.take_of_length_le (by omega)] at hBe
      rw [← hBe]
      clear hBe HB hBl hT2
      repeat' (with_reducible first | refine Q1 ?_ | refine Qe ?_ | refine Ql ?_ | refine Q2 ?_ | refine Qs ?_ | refine Q4 ?_ | (refine al_go ?_; intro b) | (refine Qa ?_; intro o' ho') | (refine Qp ?_; intro o' ho') | refine Q5 ?_ | (refine Q3a ?_; intro hb; try intro hb1) | (refine Q3b ?_; intro hb; try intro hb1) | (refine Q3 ?_ ?_ <;> intro hb <;> try intro hb1) | fail)
      all_goals exact Qret
  · rw [if_neg hk5]
    clear all2 fl2 hBc hBt hT hPS l1 l2 l3 l4 l5
    replace hB1 := Lib.hid hB1
    refine Qin [2] Tryz.func59 Tryz.results59 Tryz.ntmps59 ?_
    repeat' (first | (with_reducible first | refine Q1 ?_ | refine Qe ?_ | refine Ql ?_ | refine Q2 ?_ | refine Qs ?_ | refine Q4 ?_ | (refine al_go ?_; intro b) | fail) | refine Qc Tryz.call136 (hB1.out _) ?_ | (with_reducible first | (refine Qa ?_; intro o' ho') | (refine Qp ?_; intro o' ho') | refine Q5 ?_ | (refine Q3a ?_; intro hb; try intro hb1) | (refine Q3b ?_; intro hb; try intro hb1) | (refine Q3 ?_ ?_ <;> intro hb <;> try intro hb1) | fail) | fail)
    all_goals exact Qret
end Go.Proofs.YtgcienlfpnpbgaaGreat
end

section
namespace Go.Proofs.YtgcienlfpnpbgaaGreat
set_option linter.unusedSimpArgs false
attribute [local push_cast] encB encI encC encBs V.cells_mk V.cells_len Nat.mul_one Int.sub_zero List.map_nil beq_self_eq_true bne_self_eq_false List.head?_cons
open Go.RowKit B
set_option maxRecDepth 10000
set_option maxHeartbeats 8000000
namespace Reg
def SlP (s : Sl) : Prop := s.name.size ≤ 300 ∧ s.dv.nodes ≤ 1000 ∧ s.dv.Ok
def StP (p : Stp) : Prop := SlP p.slot ∧ p.order.length ≤ 1000
structure TmP (t : Tm) : Prop where
  nm : t.name.size ≤ 300
  ls : t.slots.length ≤ 8
  lt : t.steps.length ≤ 8
  os : ∀ s ∈ t.slots, SlP s
  ot : ∀ s ∈ t.steps, StP s
theorem stepB_len (p : Stp) (h : StP p) : (stepB p).length ≤ 22000 := by
  obtain ⟨⟨h1, -⟩, h2⟩ := h
  have hs := slotB_len p.slot h1
  have e1 := byteB_len p.kind
  have e2 := byteB_len p.col
  have e3 := byteB_len p.slot.types
  have h4 : p.slot.name.data.toList.length = p.slot.name.size := by simp
  have hA : (stepA p).length ≤ 21100 := by
    unfold stepA
    repeat' split
    all_goals (first | omega | (simp only [List.flatten_cons, List.flatten_nil, List.length_append, List.length_nil, be_len, List.length_map]; omega))
  unfold stepB
  repeat' split
  all_goals (first | (simp only [List.flatten_cons, List.flatten_nil, List.length_append, List.length_nil, tx, be_len]; omega) | omega)
def listB {α : Type} (f : α → List UInt8) (l : List α) : List UInt8 := be 4 l.length ++ (l.map f).flatten
theorem listB_len {α : Type} (f : α → List UInt8) (k : Nat) : ∀ (l : List α), (∀ x ∈ l, (f x).length ≤ k) → (listB f l).length ≤ 4 + l.length * k := fun l h => by
  unfold listB
  rw [List.length_append, be_len]
  have : ∀ l : List α, (∀ x ∈ l, (f x).length ≤ k) → (l.map f).flatten.length ≤ l.length * k := fun l => by
    induction l with
    | nil => intro _; simp
    | cons a l ih =>
      intro h
      have h1 := ih fun x hx => h x (List.mem_cons_of_mem _ hx)
      have h2 := h a (List.mem_cons_self ..)
      rw [List.map_cons, List.flatten_cons, List.length_append, List.length_cons, Nat.add_mul]
      omega
  have := this l h
  omega
def tmP (t : Tm) : List (List UInt8) := [tx t.name.data.toList, listB slotB t.slots, listB stepB t.steps]
def tmB (t : Tm) : List UInt8 := (tmP t).flatten
theorem tmB_len (t : Tm) (h : TmP t) : (tmB t).length ≤ 350000 := by
  unfold tmB tmP
  have h1 := listB_len slotB 21000 t.slots fun s hs => slotB_len s (h.os s hs).1
  have h2 := listB_len stepB 22000 t.steps fun s hs => stepB_len s (h.ot s hs)
  have h3 : t.name.data.toList.length = t.name.size := by simp
  have := h.nm
  have := h.ls
  have := h.lt
  simp only [List.flatten_cons, List.flatten_nil, List.length_append, List.length_nil, tx, be_len]
  omega
def put (L : List Tm) : List UInt8 := if right L = true then listB tmB L else []
end Reg
theorem regListSlotFL (s : Sl) (h : Reg.SlP s) : (Reg.slotB s).length ≤ 21000 := Reg.slotB_len s h.1
theorem regListSlotF (l : List Sl) (h : ∀ s ∈ l, Reg.SlP s) (hl : l.length ≤ 40) (st : St) : TrF Tryz.prog 56 [.sl .shared (l.map Sl.cells), .fn (.func 57) [] []] st fun d st' => d = .sl .shared ((Reg.listB Reg.slotB l).map encB) ∧ st' = st := by
  have hN := binNumF l.length
  rw [if_pos (by omega), Int.toNat_natCast] at hN
  have hm : (l.map Sl.cells).length = l.length := List.length_map ..
  have hc : Hid (∀ (i : Nat) (s : Sl), l[i]? = some s → (l.map Sl.cells)[i]? = some (Sl.cells s)) := fun i s h => by rw [List.getElem?_map, h]; rfl
  obtain ⟨BF, hBF⟩ : ∃ BF : Nat → List UInt8, (fun i : Nat => be 4 l.length ++ ((l.take i).map Reg.slotB).flatten) = BF := ⟨_, rfl⟩
  have hBi : ∀ i, be 4 l.length ++ ((l.take i).map Reg.slotB).flatten = BF i := fun i => by rw [← hBF]
  have hB0 : Hid (BF 0 = be 4 l.length) := Lib.hid (by rw [← hBi]; show _ ++ [] = _; rw [List.append_nil])
  have hBn : Hid (Reg.listB Reg.slotB l = BF l.length) := Lib.hid (by rw [← hBi, List.take_length]; rfl)
  have hBs : Hid (∀ (i : Nat) (s : Sl), l[i]? = some s → BF (i + 1) = BF i ++ Reg.slotB s) := fun i s h => by
    rw [← hBi, ← hBi, List.take_add_one, h, Option.toList_some, List.map_append, List.flatten_append, List.append_assoc]
    congr 2
    show [Reg.slotB s].flatten = _
    rw [List.flatten_cons, List.flatten_nil, List.append_nil]
  have hBl : Hid (∀ (i : Nat), i ≤ l.length → (BF i).length ≤ 4 + i * 21000) := fun i => by
    induction i with
    | zero => intro _; rw [hB0.out, be_len]; omega
    | succ i ih =>
      intro hi
      obtain ⟨s, hs⟩ : ∃ s, l[i]? = some s := ⟨_, List.getElem?_eq_getElem (by omega)⟩
      have h1 := ih (by omega)
      have h2 := regListSlotFL s (h s (List.mem_of_getElem? hs))
      rw [hBs.out i s hs, List.length_append, Nat.add_mul]
      omega
  have hG := Lib.hid fun (s : Sl) (hs : s ∈ l) => (fun s (h : Reg.SlP s) => regPutSlotF s h.1 h.2.1 h.2.2) s (h s hs)
  rw [hBn.out]
  rw [← hB0.out] at hN
  have hN4 : ((BF 0).map encB).length = 4 := by rw [hB0.out, List.length_map, be_len]
  clear hBi hBF h hB0 hBn
  generalize l.map Sl.cells = LS at *
  replace hN := Lib.hid hN
  refine Qin [4] Tryz.func56 Tryz.results56 Tryz.ntmps56 ?_
  refine tr_room 5 1 ((BF 0).map encB).length ?_
  repeat' (first | (with_reducible first | refine Q1 ?_ | refine Qe ?_ | refine Ql ?_ | refine Q2 ?_ | refine Qs ?_ | refine Q4 ?_ | (refine al_go ?_; intro b) | fail) | refine Qc Tryz.call134 (hN.out _) ?_ | (with_reducible first | (refine Qa ?_; intro o' ho') | (refine Qp ?_; intro o' ho') | refine Q5 ?_ | (refine Q3a ?_; intro hb; try intro hb1) | (refine Q3b ?_; intro hb; try intro hb1) | (refine Q3 ?_ ?_ <;> intro hb <;> try intro hb1) | fail) | fail)
  refine tr_loopd (ι := Nat) (fun i A st' => i ≤ l.length ∧ A.df = [] ∧ A.e 1 = .fn (.func 57) [] [] ∧ A.e 11 = .sl .shared LS ∧ A.e 12 = .i l.length ∧ A.e 13 = .i i ∧ ∃ o', o' ≠ .shared ∧ A.e 5 = .sl o' ((BF i).map encB) ∧ st' = .room o' 5 1 ((BF i).map encB).length :: st) (fun i => l.length - i) 0 ⟨Nat.zero_le _, Qf, Qf, Qf, Qf, Qf, .tight, by decide, Qf, rfl⟩ ?_
  clear hN hN4
  rintro i A st' ⟨hi, hdf, e1, e11, e12, e13, o', ho', e5, rfl⟩
  by_cases hlt : i < l.length
  · obtain ⟨s, hs⟩ : ∃ s, l[i]? = some s := ⟨_, List.getElem?_eq_getElem hlt⟩
    have h1 := hc.out i s hs
    have hP := hG.out s (List.mem_of_getElem? hs)
    have hB := hBs.out i s hs
    have hBx : (BF i).length + (Reg.slotB s).length ≤ 1000000 * 1 := by
      have := hBl.out (i + 1) hlt
      rw [hB, List.length_append] at this
      omega
    clear hs hBs hBl hG hc
    generalize BF i = X1 at *
    generalize Reg.slotB s = X2 at *
    cases s with
    | mk nm ty rq dv =>
    cases dv with
    | mk k n sv lv =>
    rw [Sl.cells_mk] at *
    replace hP := Lib.hid hP
    replace hB := Lib.hid hB
    repeat' (first | (with_reducible first | refine Q1 ?_ | refine Qe ?_ | refine Ql ?_ | refine Q2 ?_ | refine Qs ?_ | refine Q4 ?_ | (refine al_go ?_; intro b) | fail) | refine Qc Tryz.call57 (hP.out _) ?_ | (with_reducible first | (refine Qa ?_; intro o' ho') | (refine Qp ?_; intro o' ho') | refine Q5 ?_ | (refine Q3a ?_; intro hb; try intro hb1) | (refine Q3b ?_; intro hb; try intro hb1) | (refine Q3 ?_ ?_ <;> intro hb <;> try intro hb1) | fail) | fail)
    refine ⟨i + 1, .room o' 5 1 ((X1 ++ X2).map encB).length :: st, ?_, ⟨hlt, ?_, ?_, ?_, ?_, ?_, o', ho', ?_, ?_⟩, ?_⟩
    · rw [List.map_append]; (repeat (first | exact List.Sublist.refl _ | apply List.Sublist.cons))
    rotate_right 3
    · rw [hB.out, List.map_append]; exact Qf
    · rw [hB.out]
    all_goals exact Qf
  · obtain rfl : i = l.length := by omega
    repeat' (with_reducible first | refine Q1 ?_ | refine Qe ?_ | refine Ql ?_ | refine Q2 ?_ | refine Qs ?_ | refine Q4 ?_ | (refine al_go ?_; intro b) | (refine Qa ?_; intro o' ho') | (refine Qp ?_; intro o' ho') | refine Q5 ?_ | (refine Q3a ?_; intro hb; try intro hb1) | (refine Q3b ?_; intro hb; try intro hb1) | (refine Q3 ?_ ?_ <;> intro hb <;> try intro hb1) | fail)
    all_goals exact Qret
theorem regListStepFL (s : Stp) (h : Reg.StP s) : (Reg.stepB s).length ≤ 22000 := Reg.stepB_len s h
theorem regListStepF (l : List Stp) (h : ∀ s ∈ l, Reg.StP s) (hl : l.length ≤ 40) (st : St) : TrF Tryz.prog 58 [.sl .shared (l.map Stp.cells), .fn (.func 59) [] []] st fun d st' => d = .sl .shared ((Reg.listB Reg.stepB l).map encB) ∧ st' = st := by
  have hN := binNumF l.length
  rw [if_pos (by omega), Int.toNat_natCast] at hN
  have hm : (l.map Stp.cells).length = l.length := List.length_map ..
  have hc : Hid (∀ (i : Nat) (s : Stp), l[i]? = some s → (l.map Stp.cells)[i]? = some (Stp.cells s)) := fun i s h => by rw [List.getElem?_map, h]; rfl
  obtain ⟨BF, hBF⟩ : ∃ BF : Nat → List UInt8, (fun i : Nat => be 4 l.length ++ ((l.take i).map Reg.stepB).flatten) = BF := ⟨_, rfl⟩
  have hBi : ∀ i, be 4 l.length ++ ((l.take i).map Reg.stepB).flatten = BF i := fun i => by rw [← hBF]
  have hB0 : Hid (BF 0 = be 4 l.length) := Lib.hid (by rw [← hBi]; show _ ++ [] = _; rw [List.append_nil])
  have hBn : Hid (Reg.listB Reg.stepB l = BF l.length) := Lib.hid (by rw [← hBi, List.take_length]; rfl)
  have hBs : Hid (∀ (i : Nat) (s : Stp), l[i]? = some s → BF (i + 1) = BF i ++ Reg.stepB s) := fun i s h => by
    rw [← hBi, ← hBi, List.take_add_one, h, Option.toList_some, List.map_append, List.flatten_append, List.append_assoc]
    congr 2
    show [Reg.stepB s].flatten = _
    rw [List.flatten_cons, List.flatten_nil, List.append_nil]
  have hBl : Hid (∀ (i : Nat), i ≤ l.length → (BF i).length ≤ 4 + i * 22000) := fun i => by
    induction i with
    | zero => intro _; rw [hB0.out, be_len]; omega
    | succ i ih =>
      intro hi
      obtain ⟨s, hs⟩ : ∃ s, l[i]? = some s := ⟨_, List.getElem?_eq_getElem (by omega)⟩
      have h1 := ih (by omega)
      have h2 := regListStepFL s (h s (List.mem_of_getElem? hs))
      rw [hBs.out i s hs, List.length_append, Nat.add_mul]
      omega
  have hG := Lib.hid fun (s : Stp) (hs : s ∈ l) => (fun s (h : Reg.StP s) => regPutStepF s h.1.1 h.1.2.1 h.1.2.2 h.2) s (h s hs)
  rw [hBn.out]
  rw [← hB0.out] at hN
  have hN4 : ((BF 0).map encB).length = 4 := by rw [hB0.out, List.length_map, be_len]
  clear hBi hBF h hB0 hBn
  generalize l.map Stp.cells = LS at *
  replace hN := Lib.hid hN
  refine Qin [4] Tryz.func58 Tryz.results58 Tryz.ntmps58 ?_
  refine tr_room 5 1 ((BF 0).map encB).length ?_
  repeat' (first | (with_reducible first | refine Q1 ?_ | refine Qe ?_ | refine Ql ?_ | refine Q2 ?_ | refine Qs ?_ | refine Q4 ?_ | (refine al_go ?_; intro b) | fail) | refine Qc Tryz.call134 (hN.out _) ?_ | (with_reducible first | (refine Qa ?_; intro o' ho') | (refine Qp ?_; intro o' ho') | refine Q5 ?_ | (refine Q3a ?_; intro hb; try intro hb1) | (refine Q3b ?_; intro hb; try intro hb1) | (refine Q3 ?_ ?_ <;> intro hb <;> try intro hb1) | fail) | fail)
  refine tr_loopd (ι := Nat) (fun i A st' => i ≤ l.length ∧ A.df = [] ∧ A.e 1 = .fn (.func 59) [] [] ∧ A.e 11 = .sl .shared LS ∧ A.e 12 = .i l.length ∧ A.e 13 = .i i ∧ ∃ o', o' ≠ .shared ∧ A.e 5 = .sl o' ((BF i).map encB) ∧ st' = .room o' 5 1 ((BF i).map encB).length :: st) (fun i => l.length - i) 0 ⟨Nat.zero_le _, Qf, Qf, Qf, Qf, Qf, .tight, by decide, Qf, rfl⟩ ?_
  clear hN hN4
  rintro i A st' ⟨hi, hdf, e1, e11, e12, e13, o', ho', e5, rfl⟩
  by_cases hlt : i < l.length
  · obtain ⟨s, hs⟩ : ∃ s, l[i]? = some s := ⟨_, List.getElem?_eq_getElem hlt⟩
    have h1 := hc.out i s hs
    have hP := hG.out s (List.mem_of_getElem? hs)
    have hB := hBs.out i s hs
    have hBx : (BF i).length + (Reg.stepB s).length ≤ 1000000 * 1 := by
      have := hBl.out (i + 1) hlt
      rw [hB, List.length_append] at this
      omega
    clear hs hBs hBl hG hc
    generalize BF i = X1 at *
    generalize Reg.stepB s = X2 at *
    cases s with
    | mk kind col slot order =>
    cases slot with
    | mk nm ty rq dv =>
    cases dv with
    | mk k n sv lv =>
    unfold Stp.cells at h1 hP
    rw [Sl.cells_mk] at *
    dsimp only [List.cons_append, List.nil_append] at *
    generalize order.map encI = OS at *
    replace hP := Lib.hid hP
    replace hB := Lib.hid hB
    repeat' (first | (with_reducible first | refine Q1 ?_ | refine Qe ?_ | refine Ql ?_ | refine Q2 ?_ | refine Qs ?_ | refine Q4 ?_ | (refine al_go ?_; intro b) | fail) | refine Qc Tryz.call59 (hP.out _) ?_ | (with_reducible first | (refine Qa ?_; intro o' ho') | (refine Qp ?_; intro o' ho') | refine Q5 ?_ | (refine Q3a ?_; intro hb; try intro hb1) | (refine Q3b ?_; intro hb; try intro hb1) | (refine Q3 ?_ ?_ <;> intro hb <;> try intro hb1) | fail) | fail)
    refine ⟨i + 1, .room o' 5 1 ((X1 ++ X2).map encB).length :: st, ?_, ⟨hlt, ?_, ?_, ?_, ?_, ?_, o', ho', ?_, ?_⟩, ?_⟩
    · rw [List.map_append]; (repeat (first | exact List.Sublist.refl _ | apply List.Sublist.cons))
    rotate_right 3
    · rw [hB.out, List.map_append]; exact Qf
    · rw [hB.out]
    all_goals exact Qf
  · obtain rfl : i = l.length := by omega
    repeat' (with_reducible first | refine Q1 ?_ | refine Qe ?_ | refine Ql ?_ | refine Q2 ?_ | refine Qs ?_ | refine Q4 ?_ | (refine al_go ?_; intro b) | (refine Qa ?_; intro o' ho') | (refine Qp ?_; intro o' ho') | refine Q5 ?_ | (refine Q3a ?_; intro hb; try intro hb1) | (refine Q3b ?_; intro hb; try intro hb1) | (refine Q3 ?_ ?_ <;> intro hb <;> try intro hb1) | fail)
    all_goals exact Qret
theorem regPut1F (t : Tm) (h : Reg.TmP t) (st : St) : TrF Tryz.prog 53 [.agg t.cells] st fun d st' => d = .sl .shared ((Reg.tmB t).map encB) ∧ st' = st := by
  have hT := binTextF t.name (by have := h.nm; omega)
  have hS := regListSlotF t.slots h.os (by have := h.ls; omega)
  have hP := regListStepF t.steps h.ot (by have := h.lt; omega)
  have hA := binAllF .tight (Reg.tmP t) (by have := Reg.tmB_len t h; unfold Reg.tmB at this; omega) (by show 3 ≤ 1000000; omega)
  unfold Reg.tmB
  generalize (Reg.tmP t).flatten = F at *
  unfold Reg.tmP at hA
  simp only [List.map_cons, List.map_nil, encBs] at hA
  clear h
  unfold Tm.cells
  generalize tx t.name.data.toList = b1 at *
  generalize Reg.listB Reg.slotB t.slots = b2 at *
  generalize Reg.listB Reg.stepB t.steps = b3 at *
  generalize t.slots.map Sl.cells = SL at *
  generalize t.steps.map Stp.cells = TL at *
  generalize t.name = nm at *
  replace hT := Lib.hid hT
  replace hS := Lib.hid hS
  replace hP := Lib.hid hP
  replace hA := Lib.hid hA
  refine Qin [2] Tryz.func53 Tryz.results53 Tryz.ntmps53 ?_
  repeat' (first | (with_reducible first | refine Q1 ?_ | refine Qe ?_ | refine Ql ?_ | refine Q2 ?_ | refine Qs ?_ | refine Q4 ?_ | (refine al_go ?_; intro b) | fail) | refine Qc Tryz.call55 (hT.out _) ?_ | refine Qc Tryz.call56 (hS.out _) ?_ | refine Qc Tryz.call58 (hP.out _) ?_ | (refine QE Tryz.call54 (hA.out _) ?_; intro o2 ho2) | (with_reducible first | (refine Qa ?_; intro o' ho') | (refine Qp ?_; intro o' ho') | refine Q5 ?_ | (refine Q3a ?_; intro hb; try intro hb1) | (refine Q3b ?_; intro hb; try intro hb1) | (refine Q3 ?_ ?_ <;> intro hb <;> try intro hb1) | fail) | fail)
  all_goals exact Qret
theorem regListTmFL (s : Tm) (h : Reg.TmP s) : (Reg.tmB s).length ≤ 350000 := Reg.tmB_len s h
theorem regListTmF (l : List Tm) (h : ∀ s ∈ l, Reg.TmP s) (hl : l.length ≤ 6) (st : St) : TrF Tryz.prog 52 [.sl .shared (l.map Tm.cells), .fn (.func 53) [] []] st fun d st' => ∃ o', o' ≠ .shared ∧ d = .sl o' ((Reg.listB Reg.tmB l).map encB) ∧ st' = .room o' 5 1 ((Reg.listB Reg.tmB l).map encB).length :: st := by
  have hN := binNumF l.length
  rw [if_pos (by omega), Int.toNat_natCast] at hN
  have hm : (l.map Tm.cells).length = l.length := List.length_map ..
  have hc : Hid (∀ (i : Nat) (s : Tm), l[i]? = some s → (l.map Tm.cells)[i]? = some (Tm.cells s)) := fun i s h => by rw [List.getElem?_map, h]; rfl
  obtain ⟨BF, hBF⟩ : ∃ BF : Nat → List UInt8, (fun i : Nat => be 4 l.length ++ ((l.take i).map Reg.tmB).flatten) = BF := ⟨_, rfl⟩
  have hBi : ∀ i, be 4 l.length ++ ((l.take i).map Reg.tmB).flatten = BF i := fun i => by rw [← hBF]
  have hB0 : Hid (BF 0 = be 4 l.length) := Lib.hid (by rw [← hBi]; show _ ++ [] = _; rw [List.append_nil])
  have hBn : Hid (Reg.listB Reg.tmB l = BF l.length) := Lib.hid (by rw [← hBi, List.take_length]; rfl)
  have hBs : Hid (∀ (i : Nat) (s : Tm), l[i]? = some s → BF (i + 1) = BF i ++ Reg.tmB s) := fun i s h => by
    rw [← hBi, ← hBi, List.take_add_one, h, Option.toList_some, List.map_append, List.flatten_append, List.append_assoc]
    congr 2
    show [Reg.tmB s].flatten = _
    rw [List.flatten_cons, List.flatten_nil, List.append_nil]
  have hBl : Hid (∀ (i : Nat), i ≤ l.length → (BF i).length ≤ 4 + i * 350000) := fun i => by
    induction i with
    | zero => intro _; rw [hB0.out, be_len]; omega
    | succ i ih =>
      intro hi
      obtain ⟨s, hs⟩ : ∃ s, l[i]? = some s := ⟨_, List.getElem?_eq_getElem (by omega)⟩
      have h1 := ih (by omega)
      have h2 := regListTmFL s (h s (List.mem_of_getElem? hs))
      rw [hBs.out i s hs, List.length_append, Nat.add_mul]
      omega
  have hG := Lib.hid fun (s : Tm) (hs : s ∈ l) => (fun s (h : Reg.TmP s) => regPut1F s h) s (h s hs)
  rw [hBn.out]
  rw [← hB0.out] at hN
  have hN4 : ((BF 0).map encB).length = 4 := by rw [hB0.out, List.length_map, be_len]
  clear hBi hBF h hB0 hBn
  generalize l.map Tm.cells = LS at *
  replace hN := Lib.hid hN
  refine Qin [4] Tryz.func52 Tryz.results52 Tryz.ntmps52 ?_
  refine tr_room 5 1 ((BF 0).map encB).length ?_
  repeat' (first | (with_reducible first | refine Q1 ?_ | refine Qe ?_ | refine Ql ?_ | refine Q2 ?_ | refine Qs ?_ | refine Q4 ?_ | (refine al_go ?_; intro b) | fail) | refine Qc Tryz.call134 (hN.out _) ?_ | (with_reducible first | (refine Qa ?_; intro o' ho') | (refine Qp ?_; intro o' ho') | refine Q5 ?_ | (refine Q3a ?_; intro hb; try intro hb1) | (refine Q3b ?_; intro hb; try intro hb1) | (refine Q3 ?_ ?_ <;> intro hb <;> try intro hb1) | fail) | fail)
  refine tr_loopd (ι := Nat) (fun i A st' => i ≤ l.length ∧ A.df = [] ∧ A.e 1 = .fn (.func 53) [] [] ∧ A.e 11 = .sl .shared LS ∧ A.e 12 = .i l.length ∧ A.e 13 = .i i ∧ ∃ o', o' ≠ .shared ∧ A.e 5 = .sl o' ((BF i).map encB) ∧ st' = .room o' 5 1 ((BF i).map encB).length :: st) (fun i => l.length - i) 0 ⟨Nat.zero_le _, Qf, Qf, Qf, Qf, Qf, .tight, by decide, Qf, rfl⟩ ?_
  clear hN hN4
  rintro i A st' ⟨hi, hdf, e1, e11, e12, e13, o', ho', e5, rfl⟩
  by_cases hlt : i < l.length
  · obtain ⟨s, hs⟩ : ∃ s, l[i]? = some s := ⟨_, List.getElem?_eq_getElem hlt⟩
    have h1 := hc.out i s hs
    have hP := hG.out s (List.mem_of_getElem? hs)
    have hB := hBs.out i s hs
    have hBx : (BF i).length + (Reg.tmB s).length ≤ 1000000 * 10 := by
      have := hBl.out (i + 1) hlt
      rw [hB, List.length_append] at this
      omega
    clear hs hBs hBl hG hc
    generalize BF i = X1 at *
    generalize Reg.tmB s = X2 at *
    unfold Tm.cells at h1 hP
    generalize s.slots.map Sl.cells = SL at *
    generalize s.steps.map Stp.cells = TL at *
    generalize s.name = nm at *
    replace hP := Lib.hid hP
    replace hB := Lib.hid hB
    repeat' (first | (with_reducible first | refine Q1 ?_ | refine Qe ?_ | refine Ql ?_ | refine Q2 ?_ | refine Qs ?_ | refine Q4 ?_ | (refine al_go ?_; intro b) | fail) | refine Qc Tryz.call53 (hP.out _) ?_ | (with_reducible first | (refine Qa ?_; intro o' ho') | (refine Qp ?_; intro o' ho') | refine Q5 ?_ | (refine Q3a ?_; intro hb; try intro hb1) | (refine Q3b ?_; intro hb; try intro hb1) | (refine Q3 ?_ ?_ <;> intro hb <;> try intro hb1) | fail) | fail)
    refine ⟨i + 1, .room o' 5 1 ((X1 ++ X2).map encB).length :: st, ?_, ⟨hlt, ?_, ?_, ?_, ?_, ?_, o', ho', ?_, ?_⟩, ?_⟩
    · rw [List.map_append]; (repeat (first | exact List.Sublist.refl _ | apply List.Sublist.cons))
    rotate_right 3
    · rw [hB.out, List.map_append]; exact Qf
    · rw [hB.out]
    all_goals exact Qf
  · obtain rfl : i = l.length := by omega
    repeat' (with_reducible first | refine Q1 ?_ | refine Qe ?_ | refine Ql ?_ | refine Q2 ?_ | refine Qs ?_ | refine Q4 ?_ | (refine al_go ?_; intro b) | (refine Qa ?_; intro o' ho') | (refine Qp ?_; intro o' ho') | refine Q5 ?_ | (refine Q3a ?_; intro hb; try intro hb1) | (refine Q3b ?_; intro hb; try intro hb1) | (refine Q3 ?_ ?_ <;> intro hb <;> try intro hb1) | fail)
    all_goals ((apply ret_own (by simp) (by first | rfl | assumption)); (focus ((try simp (disch := omega) only [push_cast, simprocAttr, *]); (try exact rfl); done)); (focus (first | assumption | (intro h; cases h))); (focus ((repeat (first | exact List.Sublist.refl _ | apply List.Sublist.cons)); done)))
    all_goals rfl
theorem regPutF (L : List Tm) (hL : ∀ t ∈ L, TOk t) (hl : L.length ≤ 1000000) (hP : Reg.right L = true → L.length ≤ 6 ∧ ∀ t ∈ L, Reg.TmP t) (st : St) : TrF Tryz.prog 19 [.sl .shared (L.map Tm.cells)] st fun d st' => d = .sl .shared ((Reg.put L).map encB) ∧ st' = st := by
  have hR := regRightF L hL hl
  have hQ : Reg.right L = true → ∀ st : St, TrF Tryz.prog 52 [.sl .shared (L.map Tm.cells), .fn (.func 53) [] []] st fun d st' => ∃ o', o' ≠ .shared ∧ d = .sl o' ((Reg.put L).map encB) ∧ st' = .room o' 5 1 ((Reg.put L).map encB).length :: st := fun h st => by
    unfold Reg.put
    rw [if_pos h]
    exact regListTmF L (hP h).2 (hP h).1 st
  have h0 : Reg.right L = false → Reg.put L = [] := fun h => by unfold Reg.put; rw [if_neg (by rw [h]; exact Bool.false_ne_true)]
  clear hP hL
  generalize Reg.put L = B at *
  generalize L.map Tm.cells = LS at *
  generalize Reg.right L = q at *
  cases q with
  | false =>
    rw [h0 rfl]
    clear h0 hQ
    replace hR := Lib.hid hR
    refine Qin [2] Tryz.func19 Tryz.results19 Tryz.ntmps19 ?_
    repeat' (first | (with_reducible first | refine Q1 ?_ | refine Qe ?_ | refine Ql ?_ | refine Q2 ?_ | refine Qs ?_ | refine Q4 ?_ | (refine al_go ?_; intro b) | fail) | refine Qc Tryz.call16 (hR.out _) ?_ | (with_reducible first | (refine Qa ?_; intro o' ho') | (refine Qp ?_; intro o' ho') | refine Q5 ?_ | (refine Q3a ?_; intro hb; try intro hb1) | (refine Q3b ?_; intro hb; try intro hb1) | (refine Q3 ?_ ?_ <;> intro hb <;> try intro hb1) | fail) | fail)
    all_goals exact Qret
  | true =>
    have hQ2 := hQ rfl
    clear h0 hQ
    replace hR := Lib.hid hR
    replace hQ2 := Lib.hid hQ2
    refine Qin [2] Tryz.func19 Tryz.results19 Tryz.ntmps19 ?_
    repeat' (first | (with_reducible first | refine Q1 ?_ | refine Qe ?_ | refine Ql ?_ | refine Q2 ?_ | refine Qs ?_ | refine Q4 ?_ | (refine al_go ?_; intro b) | fail) | refine Qc Tryz.call16 (hR.out _) ?_ | (refine QE Tryz.call52 (hQ2.out _) ?_; intro o1 ho1) | (with_reducible first | (refine Qa ?_; intro o' ho') | (refine Qp ?_; intro o' ho') | refine Q5 ?_ | (refine Q3a ?_; intro hb; try intro hb1) | (refine Q3b ?_; intro hb; try intro hb1) | (refine Q3 ?_ ?_ <;> intro hb <;> try intro hb1) | fail) | fail)
    all_goals exact Qret
theorem regPutOF (L : List Tm) (hL : ∀ t ∈ L, TOk t) (hl : L.length ≤ 6) (hr : Reg.right L = true) (hP : ∀ t ∈ L, Reg.TmP t) (st : St) : TrF Tryz.prog 19 [.sl .shared (L.map Tm.cells)] st fun d st' => ∃ o', o' ≠ .shared ∧ d = .sl o' ((Reg.put L).map encB) ∧ st' = .room o' 5 1 ((Reg.put L).map encB).length :: st := by
  have hR := regRightF L hL (by omega)
  have hQ := regListTmF L hP hl
  unfold Reg.put
  rw [if_pos hr]
  rw [hr] at hR
  clear hP hL hr
  generalize Reg.listB Reg.tmB L = B at *
  generalize L.map Tm.cells = LS at *
  replace hR := Lib.hid hR
  replace hQ := Lib.hid hQ
  refine Qin [2] Tryz.func19 Tryz.results19 Tryz.ntmps19 ?_
  repeat' (first | (with_reducible first | refine Q1 ?_ | refine Qe ?_ | refine Ql ?_ | refine Q2 ?_ | refine Qs ?_ | refine Q4 ?_ | (refine al_go ?_; intro b) | fail) | refine Qc Tryz.call16 (hR.out _) ?_ | (refine QE Tryz.call52 (hQ.out _) ?_; intro o1 ho1) | (with_reducible first | (refine Qa ?_; intro o' ho') | (refine Qp ?_; intro o' ho') | refine Q5 ?_ | (refine Q3a ?_; intro hb; try intro hb1) | (refine Q3b ?_; intro hb; try intro hb1) | (refine Q3 ?_ ?_ <;> intro hb <;> try intro hb1) | fail) | fail)
  all_goals ((apply ret_own (by simp) (by first | rfl | assumption)); (focus ((try simp (disch := omega) only [push_cast, simprocAttr, *]); (try exact rfl); done)); (focus (first | assumption | (intro h; cases h))); (focus ((repeat (first | exact List.Sublist.refl _ | apply List.Sublist.cons)); done)))
  all_goals rfl
end Go.Proofs.YtgcienlfpnpbgaaGreat
end

section
namespace Go.Proofs.YtgcienlfpnpbgaaGreat
set_option linter.unusedSimpArgs false
attribute [local push_cast] encB encI encC V.cells_mk V.cells_len Nat.mul_one Int.sub_zero List.map_nil beq_self_eq_true bne_self_eq_false List.head?_cons
open Go.RowKit
set_option maxRecDepth 10000
set_option maxHeartbeats 8000000
namespace Reg
def all2 {α : Type} (f : α → α → Bool) : List α → List α → Bool
  | [], [] => true
  | a :: l, b :: m => f a b && all2 f l m
  | _, _ => false
theorem all2_len {α : Type} {f : α → α → Bool} : ∀ (a b : List α), all2 f a b = true → a.length = b.length
  | [], [], _ => rfl
  | s :: a, v :: b, h => by
    rw [all2, Bool.and_eq_true] at h
    rw [List.length_cons, List.length_cons, all2_len a b h.2]
  | [], _ :: _, h => by cases h
  | _ :: _, [], h => by cases h
theorem all2_drop {α : Type} {f : α → α → Bool} {a b : List α} {i : Nat} {s v : α} (h1 : a[i]? = some s) (h2 : b[i]? = some v) : all2 f (a.drop i) (b.drop i) = (f s v && all2 f (a.drop (i + 1)) (b.drop (i + 1))) := by
  obtain ⟨k1, rfl⟩ := List.getElem?_eq_some_iff.1 h1
  obtain ⟨k2, rfl⟩ := List.getElem?_eq_some_iff.1 h2
  rw [List.drop_eq_getElem_cons k1, List.drop_eq_getElem_cons k2, all2]
def slotS (a b : Sl) : Bool := (a.name.toList == b.name.toList) && ((a.types == b.types) && ((a.req == b.req) && (a.dv.cmp b.dv == 0)))
def stepS (a b : Stp) : Bool := (a.kind == b.kind) && ((a.col == b.col) && (slotS a.slot b.slot && all2 (· == ·) a.order b.order))
def tmS (a b : Tm) : Bool := (a.name.toList == b.name.toList) && (all2 slotS a.slots b.slots && all2 stepS a.steps b.steps)
def same (a b : List Tm) : Bool := all2 tmS a b
structure TmQ (t : Tm) : Prop where
  ls : t.slots.length ≤ 1000000
  lt : t.steps.length ≤ 1000000
  os : ∀ s ∈ t.slots, s.dv.Bg
  ot : ∀ s ∈ t.steps, s.slot.dv.Bg ∧ s.order.length ≤ 1000000
end Reg
theorem regSlotF (a b : Sl) (ha : a.dv.Bg) (hb : b.dv.Bg) (st : St) : TrF Tryz.prog 68 [.agg a.cells, .agg b.cells] st fun d st' => d = .b (Reg.slotS a b) ∧ st' = st := by
  have hV := valSameB a.dv b.dv ha hb
  clear ha hb
  cases a with
  | mk an at_ ar av =>
  cases b with
  | mk bn bt br bv =>
  unfold Reg.slotS
  dsimp only at *
  generalize (av.cmp bv == 0) = q4 at *
  generalize hq1 : (an.toList == bn.toList) = q1
  cases av with
  | mk k n s l =>
  cases bv with
  | mk k' n' s' l' =>
  rw [Sl.cells_mk, Sl.cells_mk]
  rw [V.cells_mk] at hV
  rw [V.cells_mk] at hV
  replace hV := Lib.hid hV
  cases q1 with
  | false =>
    rw [Bool.false_and]
    refine Qin [4] Tryz.func68 Tryz.results68 Tryz.ntmps68 ?_
    repeat' (first | (with_reducible first | refine Q1 ?_ | refine Qe ?_ | refine Ql ?_ | refine Q2 ?_ | refine Qs ?_ | refine Q4 ?_ | (refine al_go ?_; intro b) | fail) | refine Qc Tryz.call140 (hV.out _) ?_ | (with_reducible first | refine Q5 ?_ | (refine Q3a ?_; intro hb; try intro hb1) | (refine Q3b ?_; intro hb; try intro hb1) | (refine Q3 ?_ ?_ <;> intro hb <;> try intro hb1) | fail) | fail)
    all_goals exact Qret
  | true =>
    by_cases h2 : at_ = bt
    · subst h2
      rw [beq_self_eq_true, Bool.true_and, Bool.true_and]
      cases ar
      all_goals (
        cases br
        all_goals (
          simp only [beq_self_eq_true, Bool.true_and, show (true == false) = false from rfl, show (false == true) = false from rfl, Bool.false_and]
          refine Qin [4] Tryz.func68 Tryz.results68 Tryz.ntmps68 ?_
          repeat' (first | (with_reducible first | refine Q1 ?_ | refine Qe ?_ | refine Ql ?_ | refine Q2 ?_ | refine Qs ?_ | refine Q4 ?_ | (refine al_go ?_; intro b) | fail) | refine Qc Tryz.call140 (hV.out _) ?_ | (with_reducible first | refine Q5 ?_ | (refine Q3a ?_; intro hb; try intro hb1) | (refine Q3b ?_; intro hb; try intro hb1) | (refine Q3 ?_ ?_ <;> intro hb <;> try intro hb1) | fail) | fail)
          all_goals exact Qret))
    · rw [beq_eq_false_iff_ne.2 h2, Bool.false_and, Bool.and_false]
      refine Qin [4] Tryz.func68 Tryz.results68 Tryz.ntmps68 ?_
      repeat' (first | (with_reducible first | refine Q1 ?_ | refine Qe ?_ | refine Ql ?_ | refine Q2 ?_ | refine Qs ?_ | refine Q4 ?_ | (refine al_go ?_; intro b) | fail) | refine Qc Tryz.call140 (hV.out _) ?_ | (with_reducible first | refine Q5 ?_ | (refine Q3a ?_; intro hb; try intro hb1) | (refine Q3b ?_; intro hb; try intro hb1) | (refine Q3 ?_ ?_ <;> intro hb <;> try intro hb1) | fail) | fail)
      all_goals exact Qret
theorem intsEqF (a b : List Int) (hl : a.length ≤ 1000000) (hlb : b.length ≤ 1000000) (st : St) : TrF Tryz.prog 141 [.sl .shared (a.map encI), .sl .shared (b.map encI)] st fun d st' => d = .b (Reg.all2 (· == ·) a b) ∧ st' = st := by
  obtain ⟨B, hB⟩ : ∃ B, Reg.all2 (· == ·) a b = B := ⟨_, rfl⟩
  rw [hB]
  have hm1 : (a.map encI).length = a.length := List.length_map ..
  have hm2 : (b.map encI).length = b.length := List.length_map ..
  have hc1 : Hid (∀ (i : Nat) (v : Int), a[i]? = some v → (a.map encI)[i]? = some [.i v]) := fun i v h => by rw [List.getElem?_map, h]; rfl
  have hc2 : Hid (∀ (i : Nat) (v : Int), b[i]? = some v → (b.map encI)[i]? = some [.i v]) := fun i v h => by rw [List.getElem?_map, h]; rfl
  generalize a.map encI = AS at *
  generalize b.map encI = BS at *
  by_cases hlen : a.length = b.length
  · have HB : Hid (Reg.all2 (· == ·) (a.drop 0) (b.drop 0) = B) := hB
    clear hB
    refine Qin [4] Tryz.func141 Tryz.results141 Tryz.ntmps141 ?_
    repeat' (with_reducible first | refine Q1 ?_ | refine Qe ?_ | refine Ql ?_ | refine Q2 ?_ | refine Qs ?_ | refine Q4 ?_ | (refine al_go ?_; intro b) | refine Q5 ?_ | (refine Q3a ?_; intro hb; try intro hb1) | (refine Q3b ?_; intro hb; try intro hb1) | (refine Q3 ?_ ?_ <;> intro hb <;> try intro hb1) | fail)
    refine tr_loopd (ι := Nat) (fun i A st' => i ≤ a.length ∧ Hid (Reg.all2 (· == ·) (a.drop i) (b.drop i) = B) ∧ A.df = [] ∧ A.e 0 = .sl .shared AS ∧ A.e 1 = .sl .shared BS ∧ A.e 12 = .i a.length ∧ A.e 13 = .i i ∧ st = st') (fun i => a.length - i) 0 ⟨Nat.zero_le _, HB, Qf, Qf, Qf, Qf, Qf, rfl⟩ ?_
    rintro i A st' ⟨hi, HT, hdf, e0, e1, e12, e13, rfl⟩
    clear HB
    by_cases hlt : i < a.length
    · obtain ⟨s, hs⟩ : ∃ s, a[i]? = some s := ⟨_, List.getElem?_eq_getElem hlt⟩
      obtain ⟨v, hv⟩ : ∃ v, b[i]? = some v := ⟨_, List.getElem?_eq_getElem (by omega)⟩
      have HE := HT.out
      rw [Reg.all2_drop hs hv] at HE
      have h1 := hc1.out i s hs
      have h2 := hc2.out i v hv
      clear HT hs hv
      obtain ⟨G, hGG⟩ : ∃ G, Reg.all2 (· == ·) (a.drop (i + 1)) (b.drop (i + 1)) = G := ⟨_, rfl⟩
      rw [hGG] at HE
      replace hGG := Lib.hid hGG
      by_cases hq : s = v
      · subst hq
        rw [beq_self_eq_true, Bool.true_and] at HE
        replace HE := Lib.hid (hGG.out.trans HE)
        clear hGG
        repeat' (with_reducible first | refine Q1 ?_ | refine Qe ?_ | refine Ql ?_ | refine Q2 ?_ | refine Qs ?_ | refine Q4 ?_ | (refine al_go ?_; intro b) | refine Q5 ?_ | (refine Q3a ?_; intro hb; try intro hb1) | (refine Q3b ?_; intro hb; try intro hb1) | (refine Q3 ?_ ?_ <;> intro hb <;> try intro hb1) | fail)
        refine ⟨i + 1, st, (by (repeat (first | exact List.Sublist.refl _ | apply List.Sublist.cons))), ⟨hlt, HE, ?_, ?_, ?_, ?_, ?_, rfl⟩, by omega⟩
        all_goals exact Qf
      · rw [beq_eq_false_iff_ne.2 hq, Bool.false_and] at HE
        subst HE
        clear hGG
        repeat' (with_reducible first | refine Q1 ?_ | refine Qe ?_ | refine Ql ?_ | refine Q2 ?_ | refine Qs ?_ | refine Q4 ?_ | (refine al_go ?_; intro b) | refine Q5 ?_ | (refine Q3a ?_; intro hb; try intro hb1) | (refine Q3b ?_; intro hb; try intro hb1) | (refine Q3 ?_ ?_ <;> intro hb <;> try intro hb1) | fail)
        all_goals exact Qret
    · have HE := HT.out
      rw [List.drop_of_length_le (by omega), List.drop_of_length_le (by omega), Reg.all2] at HE
      subst HE
      clear HT
      repeat' (with_reducible first | refine Q1 ?_ | refine Qe ?_ | refine Ql ?_ | refine Q2 ?_ | refine Qs ?_ | refine Q4 ?_ | (refine al_go ?_; intro b) | refine Q5 ?_ | (refine Q3a ?_; intro hb; try intro hb1) | (refine Q3b ?_; intro hb; try intro hb1) | (refine Q3 ?_ ?_ <;> intro hb <;> try intro hb1) | fail)
      all_goals exact Qret
  · have hBf : B = false := by
      cases B with
      | false => rfl
      | true => exact absurd (Reg.all2_len _ _ hB) hlen
    subst hBf
    clear hB
    have hl2 : ¬ (a.length : Int) = (b.length : Int) := by omega
    clear hlen
    refine Qin [4] Tryz.func141 Tryz.results141 Tryz.ntmps141 ?_
    repeat' (with_reducible first | refine Q1 ?_ | refine Qe ?_ | refine Ql ?_ | refine Q2 ?_ | refine Qs ?_ | refine Q4 ?_ | (refine al_go ?_; intro b) | refine Q5 ?_ | (refine Q3a ?_; intro hb; try intro hb1) | (refine Q3b ?_; intro hb; try intro hb1) | (refine Q3 ?_ ?_ <;> intro hb <;> try intro hb1) | fail)
    all_goals exact Qret
theorem regEqSlF (a b : List Sl) (ha : ∀ s ∈ a, s.dv.Bg) (hb : ∀ s ∈ b, s.dv.Bg) (hl : a.length ≤ 1000000) (hlb : b.length ≤ 1000000) (st : St) : TrF Tryz.prog 67 [.sl .shared (a.map Sl.cells), .sl .shared (b.map Sl.cells), .fn (.func 68) [] []] st fun d st' => d = .b (Reg.all2 Reg.slotS a b) ∧ st' = st := by
  obtain ⟨B, hB⟩ : ∃ B, Reg.all2 Reg.slotS a b = B := ⟨_, rfl⟩
  rw [hB]
  have hm1 : (a.map Sl.cells).length = a.length := List.length_map ..
  have hm2 : (b.map Sl.cells).length = b.length := List.length_map ..
  have hc1 : Hid (∀ (i : Nat) (v : Sl), a[i]? = some v → (a.map Sl.cells)[i]? = some (Sl.cells v)) := fun i v h => by rw [List.getElem?_map, h]; rfl
  have hc2 : Hid (∀ (i : Nat) (v : Sl), b[i]? = some v → (b.map Sl.cells)[i]? = some (Sl.cells v)) := fun i v h => by rw [List.getElem?_map, h]; rfl
  have ha2 := Lib.hid ha
  have hb2 := Lib.hid hb
  clear ha hb
  generalize a.map Sl.cells = AS at *
  generalize b.map Sl.cells = BS at *
  by_cases hlen : a.length = b.length
  · have HB : Hid (Reg.all2 Reg.slotS (a.drop 0) (b.drop 0) = B) := hB
    clear hB
    refine Qin [6] Tryz.func67 Tryz.results67 Tryz.ntmps67 ?_
    repeat' (with_reducible first | refine Q1 ?_ | refine Qe ?_ | refine Ql ?_ | refine Q2 ?_ | refine Qs ?_ | refine Q4 ?_ | (refine al_go ?_; intro b) | refine Q5 ?_ | (refine Q3a ?_; intro hb; try intro hb1) | (refine Q3b ?_; intro hb; try intro hb1) | (refine Q3 ?_ ?_ <;> intro hb <;> try intro hb1) | fail)
    refine tr_loopd (ι := Nat) (fun i A st' => i ≤ a.length ∧ Hid (Reg.all2 Reg.slotS (a.drop i) (b.drop i) = B) ∧ A.df = [] ∧ A.e 1 = .sl .shared BS ∧ A.e 2 = .fn (.func 68) [] [] ∧ A.e 15 = .sl .shared AS ∧ A.e 16 = .i a.length ∧ A.e 17 = .i i ∧ st = st') (fun i => a.length - i) 0 ⟨Nat.zero_le _, HB, Qf, Qf, Qf, Qf, Qf, Qf, rfl⟩ ?_
    rintro i A st' ⟨hi, HT, hdf, e1, e2, e15, e16, e17, rfl⟩
    clear HB
    by_cases hlt : i < a.length
    · obtain ⟨s, hs⟩ : ∃ s, a[i]? = some s := ⟨_, List.getElem?_eq_getElem hlt⟩
      obtain ⟨v, hv⟩ : ∃ v, b[i]? = some v := ⟨_, List.getElem?_eq_getElem (by omega)⟩
      have HE := HT.out
      rw [Reg.all2_drop hs hv] at HE
      have h1 := hc1.out i s hs
      have h2 := hc2.out i v hv
      have hF := regSlotF s v (ha2.out s (List.mem_of_getElem? hs)) (hb2.out v (List.mem_of_getElem? hv))
      clear HT hs hv
      obtain ⟨G, hGG⟩ : ∃ G, Reg.all2 Reg.slotS (a.drop (i + 1)) (b.drop (i + 1)) = G := ⟨_, rfl⟩
      rw [hGG] at HE
      replace hGG := Lib.hid hGG
      generalize Reg.slotS s v = q at *
      cases s with
      | mk an at_ ar av =>
      cases v with
      | mk bn bt br bv =>
      cases av with
      | mk k n s l =>
      cases bv with
      | mk k' n' s' l' =>
      rw [Sl.cells_mk] at h1 hF
      rw [Sl.cells_mk] at h2 hF
      replace hF := Lib.hid hF
      cases q with
      | true =>
        rw [Bool.true_and] at HE
        replace HE := Lib.hid (hGG.out.trans HE)
        clear hGG
        repeat' (first | (with_reducible first | refine Q1 ?_ | refine Qe ?_ | refine Ql ?_ | refine Q2 ?_ | refine Qs ?_ | refine Q4 ?_ | (refine al_go ?_; intro b) | fail) | refine Qc Tryz.call68 (hF.out _) ?_ | (with_reducible first | refine Q5 ?_ | (refine Q3a ?_; intro hb; try intro hb1) | (refine Q3b ?_; intro hb; try intro hb1) | (refine Q3 ?_ ?_ <;> intro hb <;> try intro hb1) | fail) | fail)
        refine ⟨i + 1, st, (by (repeat (first | exact List.Sublist.refl _ | apply List.Sublist.cons))), ⟨hlt, HE, ?_, ?_, ?_, ?_, ?_, ?_, rfl⟩, by omega⟩
        all_goals exact Qf
      | false =>
        rw [Bool.false_and] at HE
        subst HE
        clear hGG
        repeat' (first | (with_reducible first | refine Q1 ?_ | refine Qe ?_ | refine Ql ?_ | refine Q2 ?_ | refine Qs ?_ | refine Q4 ?_ | (refine al_go ?_; intro b) | fail) | refine Qc Tryz.call68 (hF.out _) ?_ | (with_reducible first | refine Q5 ?_ | (refine Q3a ?_; intro hb; try intro hb1) | (refine Q3b ?_; intro hb; try intro hb1) | (refine Q3 ?_ ?_ <;> intro hb <;> try intro hb1) | fail) | fail)
        all_goals exact Qret
    · have HE := HT.out
      rw [List.drop_of_length_le (by omega), List.drop_of_length_le (by omega), Reg.all2] at HE
      subst HE
      clear HT
      repeat' (with_reducible first | refine Q1 ?_ | refine Qe ?_ | refine Ql ?_ | refine Q2 ?_ | refine Qs ?_ | refine Q4 ?_ | (refine al_go ?_; intro b) | refine Q5 ?_ | (refine Q3a ?_; intro hb; try intro hb1) | (refine Q3b ?_; intro hb; try intro hb1) | (refine Q3 ?_ ?_ <;> intro hb <;> try intro hb1) | fail)
      all_goals exact Qret
  · have hBf : B = false := by
      cases B with
      | false => rfl
      | true => exact absurd (Reg.all2_len _ _ hB) hlen
    subst hBf
    clear hB
    have hl2 : ¬ (a.length : Int) = (b.length : Int) := by omega
    clear hlen
    refine Qin [6] Tryz.func67 Tryz.results67 Tryz.ntmps67 ?_
    repeat' (with_reducible first | refine Q1 ?_ | refine Qe ?_ | refine Ql ?_ | refine Q2 ?_ | refine Qs ?_ | refine Q4 ?_ | (refine al_go ?_; intro b) | refine Q5 ?_ | (refine Q3a ?_; intro hb; try intro hb1) | (refine Q3b ?_; intro hb; try intro hb1) | (refine Q3 ?_ ?_ <;> intro hb <;> try intro hb1) | fail)
    all_goals exact Qret
theorem regStepSF (a b : Stp) (ha : a.slot.dv.Bg ∧ a.order.length ≤ 1000000) (hb : b.slot.dv.Bg ∧ b.order.length ≤ 1000000) (st : St) : TrF Tryz.prog 70 [.agg a.cells, .agg b.cells] st fun d st' => d = .b (Reg.stepS a b) ∧ st' = st := by
  have hS := regSlotF a.slot b.slot ha.1 hb.1
  have hI := intsEqF a.order b.order ha.2 hb.2
  clear ha hb
  unfold Reg.stepS
  generalize Reg.slotS a.slot b.slot = q3 at *
  generalize Reg.all2 (· == ·) a.order b.order = q4 at *
  cases a with
  | mk ak ac as_ ao =>
  cases b with
  | mk bk bc bs bo =>
  unfold Stp.cells
  dsimp only at *
  generalize ao.map encI = AO at *
  generalize bo.map encI = BO at *
  cases as_ with
  | mk an at_ ar av =>
  cases bs with
  | mk bn bt br bv =>
  cases av with
  | mk k n s l =>
  cases bv with
  | mk k' n' s' l' =>
  rw [Sl.cells_mk] at *
  rw [Sl.cells_mk] at *
  dsimp only [List.cons_append, List.nil_append] at *
  replace hS := Lib.hid hS
  replace hI := Lib.hid hI
  by_cases h1 : ak = bk
  · subst h1
    by_cases h2 : ac = bc
    · subst h2
      rw [beq_self_eq_true, beq_self_eq_true, Bool.true_and, Bool.true_and]
      cases q3
      all_goals (
        simp only [Bool.true_and, Bool.false_and]
        refine Qin [4] Tryz.func70 Tryz.results70 Tryz.ntmps70 ?_
        repeat' (first | (with_reducible first | refine Q1 ?_ | refine Qe ?_ | refine Ql ?_ | refine Q2 ?_ | refine Qs ?_ | refine Q4 ?_ | (refine al_go ?_; intro b) | fail) | refine Qc Tryz.call68 (hS.out _) ?_ | refine Qc Tryz.call141 (hI.out _) ?_ | (with_reducible first | refine Q5 ?_ | (refine Q3a ?_; intro hb; try intro hb1) | (refine Q3b ?_; intro hb; try intro hb1) | (refine Q3 ?_ ?_ <;> intro hb <;> try intro hb1) | fail) | fail)
        all_goals exact Qret)
    · rw [beq_eq_false_iff_ne.2 h2, Bool.false_and, Bool.and_false]
      refine Qin [4] Tryz.func70 Tryz.results70 Tryz.ntmps70 ?_
      repeat' (first | (with_reducible first | refine Q1 ?_ | refine Qe ?_ | refine Ql ?_ | refine Q2 ?_ | refine Qs ?_ | refine Q4 ?_ | (refine al_go ?_; intro b) | fail) | refine Qc Tryz.call68 (hS.out _) ?_ | refine Qc Tryz.call141 (hI.out _) ?_ | (with_reducible first | refine Q5 ?_ | (refine Q3a ?_; intro hb; try intro hb1) | (refine Q3b ?_; intro hb; try intro hb1) | (refine Q3 ?_ ?_ <;> intro hb <;> try intro hb1) | fail) | fail)
      all_goals exact Qret
  · rw [beq_eq_false_iff_ne.2 h1, Bool.false_and]
    refine Qin [4] Tryz.func70 Tryz.results70 Tryz.ntmps70 ?_
    repeat' (first | (with_reducible first | refine Q1 ?_ | refine Qe ?_ | refine Ql ?_ | refine Q2 ?_ | refine Qs ?_ | refine Q4 ?_ | (refine al_go ?_; intro b) | fail) | refine Qc Tryz.call68 (hS.out _) ?_ | refine Qc Tryz.call141 (hI.out _) ?_ | (with_reducible first | refine Q5 ?_ | (refine Q3a ?_; intro hb; try intro hb1) | (refine Q3b ?_; intro hb; try intro hb1) | (refine Q3 ?_ ?_ <;> intro hb <;> try intro hb1) | fail) | fail)
    all_goals exact Qret
theorem regEqStpF (a b : List Stp) (ha : ∀ s ∈ a, s.slot.dv.Bg ∧ s.order.length ≤ 1000000) (hb : ∀ s ∈ b, s.slot.dv.Bg ∧ s.order.length ≤ 1000000) (hl : a.length ≤ 1000000) (hlb : b.length ≤ 1000000) (st : St) : TrF Tryz.prog 69 [.sl .shared (a.map Stp.cells), .sl .shared (b.map Stp.cells), .fn (.func 70) [] []] st fun d st' => d = .b (Reg.all2 Reg.stepS a b) ∧ st' = st := by
  obtain ⟨B, hB⟩ : ∃ B, Reg.all2 Reg.stepS a b = B := ⟨_, rfl⟩
  rw [hB]
  have hm1 : (a.map Stp.cells).length = a.length := List.length_map ..
  have hm2 : (b.map Stp.cells).length = b.length := List.length_map ..
  have hc1 : Hid (∀ (i : Nat) (v : Stp), a[i]? = some v → (a.map Stp.cells)[i]? = some (Stp.cells v)) := fun i v h => by rw [List.getElem?_map, h]; rfl
  have hc2 : Hid (∀ (i : Nat) (v : Stp), b[i]? = some v → (b.map Stp.cells)[i]? = some (Stp.cells v)) := fun i v h => by rw [List.getElem?_map, h]; rfl
  have ha2 := Lib.hid ha
  have hb2 := Lib.hid hb
  clear ha hb
  generalize a.map Stp.cells = AS at *
  generalize b.map Stp.cells = BS at *
  by_cases hlen : a.length = b.length
  · have HB : Hid (Reg.all2 Reg.stepS (a.drop 0) (b.drop 0) = B) := hB
    clear hB
    refine Qin [6] Tryz.func69 Tryz.results69 Tryz.ntmps69 ?_
    repeat' (with_reducible first | refine Q1 ?_ | refine Qe ?_ | refine Ql ?_ | refine Q2 ?_ | refine Qs ?_ | refine Q4 ?_ | (refine al_go ?_; intro b) | refine Q5 ?_ | (refine Q3a ?_; intro hb; try intro hb1) | (refine Q3b ?_; intro hb; try intro hb1) | (refine Q3 ?_ ?_ <;> intro hb <;> try intro hb1) | fail)
    refine tr_loopd (ι := Nat) (fun i A st' => i ≤ a.length ∧ Hid (Reg.all2 Reg.stepS (a.drop i) (b.drop i) = B) ∧ A.df = [] ∧ A.e 1 = .sl .shared BS ∧ A.e 2 = .fn (.func 70) [] [] ∧ A.e 15 = .sl .shared AS ∧ A.e 16 = .i a.length ∧ A.e 17 = .i i ∧ st = st') (fun i => a.length - i) 0 ⟨Nat.zero_le _, HB, Qf, Qf, Qf, Qf, Qf, Qf, rfl⟩ ?_
    rintro i A st' ⟨hi, HT, hdf, e1, e2, e15, e16, e17, rfl⟩
    clear HB
    by_cases hlt : i < a.length
    · obtain ⟨s, hs⟩ : ∃ s, a[i]? = some s := ⟨_, List.getElem?_eq_getElem hlt⟩
      obtain ⟨v, hv⟩ : ∃ v, b[i]? = some v := ⟨_, List.getElem?_eq_getElem (by omega)⟩
      have HE := HT.out
      rw [Reg.all2_drop hs hv] at HE
      have h1 := hc1.out i s hs
      have h2 := hc2.out i v hv
      have hF := regStepSF s v (ha2.out s (List.mem_of_getElem? hs)) (hb2.out v (List.mem_of_getElem? hv))
      clear HT hs hv
      obtain ⟨G, hGG⟩ : ∃ G, Reg.all2 Reg.stepS (a.drop (i + 1)) (b.drop (i + 1)) = G := ⟨_, rfl⟩
      rw [hGG] at HE
      replace hGG := Lib.hid hGG
      generalize Reg.stepS s v = q at *
      cases s with
      | mk ak ac as_ ao =>
      cases v with
      | mk bk bc bs bo =>
      cases as_ with
      | mk an at_ ar av =>
      cases bs with
      | mk bn bt br bv =>
      cases av with
      | mk k n s l =>
      cases bv with
      | mk k' n' s' l' =>
      unfold Stp.cells at h1 h2 hF
      dsimp only at *
      rw [Sl.cells_mk] at h1 hF
      rw [Sl.cells_mk] at h2 hF
      dsimp only [List.cons_append, List.nil_append] at *
      generalize ao.map encI = AO at *
      generalize bo.map encI = BO at *
      replace hF := Lib.hid hF
      cases q with
      | true =>
        rw [Bool.true_and] at HE
        replace HE := Lib.hid (hGG.out.trans HE)
        clear hGG
        repeat' (first | (with_reducible first | refine Q1 ?_ | refine Qe ?_ | refine Ql ?_ | refine Q2 ?_ | refine Qs ?_ | refine Q4 ?_ | (refine al_go ?_; intro b) | fail) | refine Qc Tryz.call70 (hF.out _) ?_ | (with_reducible first | refine Q5 ?_ | (refine Q3a ?_; intro hb; try intro hb1) | (refine Q3b ?_; intro hb; try intro hb1) | (refine Q3 ?_ ?_ <;> intro hb <;> try intro hb1) | fail) | fail)
        refine ⟨i + 1, st, (by (repeat (first | exact List.Sublist.refl _ | apply List.Sublist.cons))), ⟨hlt, HE, ?_, ?_, ?_, ?_, ?_, ?_, rfl⟩, by omega⟩
        all_goals exact Qf
      | false =>
        rw [Bool.false_and] at HE
        subst HE
        clear hGG
        repeat' (first | (with_reducible first | refine Q1 ?_ | refine Qe ?_ | refine Ql ?_ | refine Q2 ?_ | refine Qs ?_ | refine Q4 ?_ | (refine al_go ?_; intro b) | fail) | refine Qc Tryz.call70 (hF.out _) ?_ | (with_reducible first | refine Q5 ?_ | (refine Q3a ?_; intro hb; try intro hb1) | (refine Q3b ?_; intro hb; try intro hb1) | (refine Q3 ?_ ?_ <;> intro hb <;> try intro hb1) | fail) | fail)
        all_goals exact Qret
    · have HE := HT.out
      rw [List.drop_of_length_le (by omega), List.drop_of_length_le (by omega), Reg.all2] at HE
      subst HE
      clear HT
      repeat' (with_reducible first | refine Q1 ?_ | refine Qe ?_ | refine Ql ?_ | refine Q2 ?_ | refine Qs ?_ | refine Q4 ?_ | (refine al_go ?_; intro b) | refine Q5 ?_ | (refine Q3a ?_; intro hb; try intro hb1) | (refine Q3b ?_; intro hb; try intro hb1) | (refine Q3 ?_ ?_ <;> intro hb <;> try intro hb1) | fail)
      all_goals exact Qret
  · have hBf : B = false := by
      cases B with
      | false => rfl
      | true => exact absurd (Reg.all2_len _ _ hB) hlen
    subst hBf
    clear hB
    have hl2 : ¬ (a.length : Int) = (b.length : Int) := by omega
    clear hlen
    refine Qin [6] Tryz.func69 Tryz.results69 Tryz.ntmps69 ?_
    repeat' (with_reducible first | refine Q1 ?_ | refine Qe ?_ | refine Ql ?_ | refine Q2 ?_ | refine Qs ?_ | refine Q4 ?_ | (refine al_go ?_; intro b) | refine Q5 ?_ | (refine Q3a ?_; intro hb; try intro hb1) | (refine Q3b ?_; intro hb; try intro hb1) | (refine Q3 ?_ ?_ <;> intro hb <;> try intro hb1) | fail)
    all_goals exact Qret
theorem regTmSF (a b : Tm) (ha : Reg.TmQ a) (hb : Reg.TmQ b) (st : St) : TrF Tryz.prog 66 [.agg a.cells, .agg b.cells] st fun d st' => d = .b (Reg.tmS a b) ∧ st' = st := by
  have hS := regEqSlF a.slots b.slots ha.os hb.os ha.ls hb.ls
  have hP := regEqStpF a.steps b.steps ha.ot hb.ot ha.lt hb.lt
  clear ha hb
  unfold Reg.tmS Tm.cells
  generalize Reg.all2 Reg.slotS a.slots b.slots = q2 at *
  generalize Reg.all2 Reg.stepS a.steps b.steps = q3 at *
  generalize a.slots.map Sl.cells = S1 at *
  generalize a.steps.map Stp.cells = T1 at *
  generalize a.name = n1 at *
  generalize b.slots.map Sl.cells = S2 at *
  generalize b.steps.map Stp.cells = T2 at *
  generalize b.name = n2 at *
  generalize hq1 : (n1.toList == n2.toList) = q1
  replace hS := Lib.hid hS
  replace hP := Lib.hid hP
  cases q1
  all_goals (
    cases q2
    all_goals (
      simp only [Bool.true_and, Bool.false_and]
      refine Qin [4] Tryz.func66 Tryz.results66 Tryz.ntmps66 ?_
      repeat' (first | (with_reducible first | refine Q1 ?_ | refine Qe ?_ | refine Ql ?_ | refine Q2 ?_ | refine Qs ?_ | refine Q4 ?_ | (refine al_go ?_; intro b) | fail) | refine Qc Tryz.call67 (hS.out _) ?_ | refine Qc Tryz.call69 (hP.out _) ?_ | (with_reducible first | refine Q5 ?_ | (refine Q3a ?_; intro hb; try intro hb1) | (refine Q3b ?_; intro hb; try intro hb1) | (refine Q3 ?_ ?_ <;> intro hb <;> try intro hb1) | fail) | fail)
      all_goals exact Qret))
theorem regEqTmF (a b : List Tm) (ha : ∀ s ∈ a, Reg.TmQ s) (hb : ∀ s ∈ b, Reg.TmQ s) (hl : a.length ≤ 1000000) (hlb : b.length ≤ 1000000) (st : St) : TrF Tryz.prog 65 [.sl .shared (a.map Tm.cells), .sl .shared (b.map Tm.cells), .fn (.func 66) [] []] st fun d st' => d = .b (Reg.all2 Reg.tmS a b) ∧ st' = st := by
  obtain ⟨B, hB⟩ : ∃ B, Reg.all2 Reg.tmS a b = B := ⟨_, rfl⟩
  rw [hB]
  have hm1 : (a.map Tm.cells).length = a.length := List.length_map ..
  have hm2 : (b.map Tm.cells).length = b.length := List.length_map ..
  have hc1 : Hid (∀ (i : Nat) (v : Tm), a[i]? = some v → (a.map Tm.cells)[i]? = some (Tm.cells v)) := fun i v h => by rw [List.getElem?_map, h]; rfl
  have hc2 : Hid (∀ (i : Nat) (v : Tm), b[i]? = some v → (b.map Tm.cells)[i]? = some (Tm.cells v)) := fun i v h => by rw [List.getElem?_map, h]; rfl
  have ha2 := Lib.hid ha
  have hb2 := Lib.hid hb
  clear ha hb
  generalize a.map Tm.cells = AS at *
  generalize b.map Tm.cells = BS at *
  by_cases hlen : a.length = b.length
  · have HB : Hid (Reg.all2 Reg.tmS (a.drop 0) (b.drop 0) = B) := hB
    clear hB
    refine Qin [6] Tryz.func65 Tryz.results65 Tryz.ntmps65 ?_
    repeat' (with_reducible first | refine Q1 ?_ | refine Qe ?_ | refine Ql ?_ | refine Q2 ?_ | refine Qs ?_ | refine Q4 ?_ | (refine al_go ?_; intro b) | refine Q5 ?_ | (refine Q3a ?_; intro hb; try intro hb1) | (refine Q3b ?_; intro hb; try intro hb1) | (refine Q3 ?_ ?_ <;> intro hb <;> try intro hb1) | fail)
    refine tr_loopd (ι := Nat) (fun i A st' => i ≤ a.length ∧ Hid (Reg.all2 Reg.tmS (a.drop i) (b.drop i) = B) ∧ A.df = [] ∧ A.e 1 = .sl .shared BS ∧ A.e 2 = .fn (.func 66) [] [] ∧ A.e 15 = .sl .shared AS ∧ A.e 16 = .i a.length ∧ A.e 17 = .i i ∧ st = st') (fun i => a.length - i) 0 ⟨Nat.zero_le _, HB, Qf, Qf, Qf, Qf, Qf, Qf, rfl⟩ ?_
    rintro i A st' ⟨hi, HT, hdf, e1, e2, e15, e16, e17, rfl⟩
    clear HB
    by_cases hlt : i < a.length
    · obtain ⟨s, hs⟩ : ∃ s, a[i]? = some s := ⟨_, List.getElem?_eq_getElem hlt⟩
      obtain ⟨v, hv⟩ : ∃ v, b[i]? = some v := ⟨_, List.getElem?_eq_getElem (by omega)⟩
      have HE := HT.out
      rw [Reg.all2_drop hs hv] at HE
      have h1 := hc1.out i s hs
      have h2 := hc2.out i v hv
      have hF := regTmSF s v (ha2.out s (List.mem_of_getElem? hs)) (hb2.out v (List.mem_of_getElem? hv))
      clear HT hs hv
      obtain ⟨G, hGG⟩ : ∃ G, Reg.all2 Reg.tmS (a.drop (i + 1)) (b.drop (i + 1)) = G := ⟨_, rfl⟩
      rw [hGG] at HE
      replace hGG := Lib.hid hGG
      generalize Reg.tmS s v = q at *
      unfold Tm.cells at h1 h2 hF
      generalize s.slots.map Sl.cells = S1 at *
      generalize s.steps.map Stp.cells = T1 at *
      generalize s.name = n1 at *
      generalize v.slots.map Sl.cells = S2 at *
      generalize v.steps.map Stp.cells = T2 at *
      generalize v.name = n2 at *
      replace hF := Lib.hid hF
      cases q with
      | true =>
        rw [Bool.true_and] at HE
        replace HE := Lib.hid (hGG.out.trans HE)
        clear hGG
        repeat' (first | (with_reducible first | refine Q1 ?_ | refine Qe ?_ | refine Ql ?_ | refine Q2 ?_ | refine Qs ?_ | refine Q4 ?_ | (refine al_go ?_; intro b) | fail) | refine Qc Tryz.call66 (hF.out _) ?_ | (with_reducible first | refine Q5 ?_ | (refine Q3a ?_; intro hb; try intro hb1) | (refine Q3b ?_; intro hb; try intro hb1) | (refine Q3 ?_ ?_ <;> intro hb <;> try intro hb1) | fail) | fail)
        refine ⟨i + 1, st, (by (repeat (first | exact List.Sublist.refl _ | apply List.Sublist.cons))), ⟨hlt, HE, ?_, ?_, ?_, ?_, ?_, ?_, rfl⟩, by omega⟩
        all_goals exact Qf
      | false =>
        rw [Bool.false_and] at HE
        subst HE
        clear hGG
        repeat' (first | (with_reducible first | refine Q1 ?_ | refine Qe ?_ | refine Ql ?_ | refine Q2 ?_ | refine Qs ?_ | refine Q4 ?_ | (refine al_go ?_; intro b) | fail) | refine Qc Tryz.call66 (hF.out _) ?_ | (with_reducible first | refine Q5 ?_ | (refine Q3a ?_; intro hb; try intro hb1) | (refine Q3b ?_; intro hb; try intro hb1) | (refine Q3 ?_ ?_ <;> intro hb <;> try intro hb1) | fail) | fail)
        all_goals exact Qret
    · have HE := HT.out
      rw [List.drop_of_length_le (by omega), List.drop_of_length_le (by omega), Reg.all2] at HE
      subst HE
      clear HT
      repeat' (with_reducible first | refine Q1 ?_ | refine Qe ?_ | refine Ql ?_ | refine Q2 ?_ | refine Qs ?_ | refine Q4 ?_ | (refine al_go ?_; intro b) | refine Q5 ?_ | (refine Q3a ?_; intro hb; try intro hb1) | (refine Q3b ?_; intro hb; try intro hb1) | (refine Q3 ?_ ?_ <;> intro hb <;> try intro hb1) | fail)
      all_goals exact Qret
  · have hBf : B = false := by
      cases B with
      | false => rfl
      | true => exact absurd (Reg.all2_len _ _ hB) hlen
    subst hBf
    clear hB
    have hl2 : ¬ (a.length : Int) = (b.length : Int) := by omega
    clear hlen
    refine Qin [6] Tryz.func65 Tryz.results65 Tryz.ntmps65 ?_
    repeat' (with_reducible first | refine Q1 ?_ | refine Qe ?_ | refine Ql ?_ | refine Q2 ?_ | refine Qs ?_ | refine Q4 ?_ | (refine al_go ?_; intro b) | refine Q5 ?_ | (refine Q3a ?_; intro hb; try intro hb1) | (refine Q3b ?_; intro hb; try intro hb1) | (refine Q3 ?_ ?_ <;> intro hb <;> try intro hb1) | fail)
    all_goals exact Qret
theorem regSameF (a b : List Tm) (ha : ∀ t ∈ a, Reg.TmQ t) (hb : ∀ t ∈ b, Reg.TmQ t) (hl : a.length ≤ 1000000) (hlb : b.length ≤ 1000000) (st : St) : TrF Tryz.prog 23 [.sl .shared (a.map Tm.cells), .sl .shared (b.map Tm.cells)] st fun d st' => d = .b (Reg.same a b) ∧ st' = st := by
  have hE := regEqTmF a b ha hb hl hlb
  unfold Reg.same
  generalize Reg.all2 Reg.tmS a b = q at *
  generalize a.map Tm.cells = AS at *
  generalize b.map Tm.cells = BS at *
  replace hE := Lib.hid hE
  clear ha hb
  refine Qin [4] Tryz.func23 Tryz.results23 Tryz.ntmps23 ?_
  repeat' (first | (with_reducible first | refine Q1 ?_ | refine Qe ?_ | refine Ql ?_ | refine Q2 ?_ | refine Qs ?_ | refine Q4 ?_ | (refine al_go ?_; intro b) | fail) | refine Qc Tryz.call65 (hE.out _) ?_ | (with_reducible first | refine Q5 ?_ | (refine Q3a ?_; intro hb; try intro hb1) | (refine Q3b ?_; intro hb; try intro hb1) | (refine Q3 ?_ ?_ <;> intro hb <;> try intro hb1) | fail) | fail)
  all_goals exact Qret
end Go.Proofs.YtgcienlfpnpbgaaGreat
end

section
namespace Go.Proofs.YtgcienlfpnpbgaaGreat
set_option linter.unusedSimpArgs false
open Go.RowKit
namespace RS
theorem vals_nodes {f : RS → V × RS} {B : Nat} (hf : ∀ s, (f s).1.nodes ≤ B) : ∀ n s, V.nodesL (vals f n s).1 ≤ n * B
  | 0, s => by rw [vals]; simp [V.nodesL]
  | n + 1, s => by
    rw [vals]
    split
    · simp [V.nodesL]
    · have h1 := vals_nodes hf n (f s).2
      have h2 := hf s
      dsimp only
      rw [V.nodesL, Nat.succ_mul]
      omega
theorem body_nodes {f : Option (RS → V × RS)} {B : Nat} (hf : ∀ g, f = some g → ∀ s, (g s).1.nodes ≤ B) (s : RS) : (body f s).1.nodes ≤ 1 + 20 * B := by
  unfold body
  split
  · simp [V.nodes, V.nodesL]
  split
  · simp [V.nodes, V.nodesL]
  split
  · simp [V.nodes, V.nodesL]
  split
  · unfold list5
    cases f with
    | none => simp [V.nodes, V.nodesL]
    | some g =>
      dsimp only
      split
      · simp [V.nodes, V.nodesL]
      · rename_i hn
        have h1 := vals_nodes (hf g rfl) s.byte.2.rnum.1.toNat s.byte.2.rnum.2
        have h2 : s.byte.2.rnum.1.toNat * B ≤ 20 * B := Nat.mul_le_mul_right _ (by omega)
        dsimp only
        rw [V.nodes]
        omega
  · simp [V.nodes, V.nodesL]
theorem value_nodes4 (s : RS) : (value 4 s).1.nodes ≤ 4611686018427387904 := by
  have h0 := fun s => body_nodes (f := none) (B := 0) (fun g h => by cases h) s
  have h1 := fun s => body_nodes (f := some (value 0)) (B := 1 + 20 * 0) (fun g h => by cases h; exact h0) s
  have h2 := fun s => body_nodes (f := some (value 1)) (B := 1 + 20 * (1 + 20 * 0)) (fun g h => by cases h; exact h1) s
  have h3 := fun s => body_nodes (f := some (value 2)) (B := 1 + 20 * (1 + 20 * (1 + 20 * 0))) (fun g h => by cases h; exact h2) s
  have h4 := body_nodes (f := some (value 3)) (B := 1 + 20 * (1 + 20 * (1 + 20 * (1 + 20 * 0)))) (fun g h => by cases h; exact h3) s
  exact Nat.le_trans h4 (by decide)
end RS
end Go.Proofs.YtgcienlfpnpbgaaGreat
end

section
namespace Go.Proofs.YtgcienlfpnpbgaaGreat
set_option linter.unusedSimpArgs false
attribute [local push_cast] encB encI RS.cells V.cells_mk V.cells_len Nat.mul_one Int.sub_zero List.map_nil beq_self_eq_true bne_self_eq_false List.head?_cons
open Go.RowKit B
set_option maxRecDepth 10000
set_option maxHeartbeats 8000000
namespace Reg
def rdL {α : Type} (f : RS → α × RS) : Nat → RS → List α × RS
  | 0, s => ([], s)
  | n + 1, s => if s.bad = true then ([], s) else ((f s).1 :: (rdL f n (f s).2).1, (rdL f n (f s).2).2)
def rlist {α : Type} (f : RS → α × RS) (k : Int) (s : RS) : List α × RS := rdL f (if k < s.rnum.1 then k else s.rnum.1).toNat s.rnum.2
def slot0 : Sl := ⟨⟨#[]⟩, 0, false, V.zero⟩
def getSlot (s : RS) : Sl × RS :=
  (⟨if 1 < s.text.2.byte.2.byte.1 then ⟨#[]⟩ else s.text.1, s.text.2.byte.1, s.text.2.byte.2.byte.1 == 1, s.text.2.byte.2.byte.2.val.1⟩, s.text.2.byte.2.byte.2.val.2)
def getStep (s : RS) : Stp × RS :=
  if s.byte.1 = 1 then (⟨1, 0, (getSlot s.byte.2).1, []⟩, (getSlot s.byte.2).2)
  else if s.byte.1 = 2 then (⟨2, s.byte.2.byte.1, slot0, []⟩, s.byte.2.byte.2)
  else if s.byte.1 = 3 then (⟨3, s.byte.2.byte.1, { slot0 with name := s.byte.2.byte.2.text.1 }, []⟩, s.byte.2.byte.2.text.2)
  else if s.byte.1 = 4 then (⟨4, s.byte.2.byte.1, { slot0 with types := s.byte.2.byte.2.byte.1 }, []⟩, s.byte.2.byte.2.byte.2)
  else if s.byte.1 = 5 then (⟨5, 0, slot0, (rlist RS.byte 9 s.byte.2).1⟩, (rlist RS.byte 9 s.byte.2).2)
  else (⟨s.byte.1, 0, slot0, []⟩, s.byte.2)
def getTm (s : RS) : Tm × RS :=
  (⟨s.text.1, (rlist getSlot 9 s.text.2).1, (rlist getStep 9 (rlist getSlot 9 s.text.2).2).1⟩, (rlist getStep 9 (rlist getSlot 9 s.text.2).2).2)
def read (s : RS) : Option (List Tm) × RS :=
  if (rlist getTm 7 s).2.bad = true ∨ right (rlist getTm 7 s).1 = false then (none, (rlist getTm 7 s).2) else (some (rlist getTm 7 s).1, (rlist getTm 7 s).2)
end Reg
theorem regGetSlotF (rb : Nat) (s : RS) (st : St) : TrF Tryz.prog 77 [.ptr rb 0] (rdR rb s :: st) fun x st' => x = .agg (Reg.getSlot s).1.cells ∧ st' = rdR rb (Reg.getSlot s).2 :: st := by
  have hT := rdTextF rb s
  unfold Reg.getSlot
  generalize s.text = q1 at *
  obtain ⟨nm, s1⟩ := q1
  dsimp only at *
  have hB1 := rdByteF rb s1
  generalize s1.byte = q2 at *
  obtain ⟨ty, s2⟩ := q2
  dsimp only at *
  have hB2 := rdByteF rb s2
  generalize s2.byte = q3 at *
  obtain ⟨rq, s3⟩ := q3
  dsimp only at *
  have hV := rdValF rb s3 (RS.value_nodes4 s3)
  generalize s3.val = q4 at *
  obtain ⟨⟨k, n, sv, lv⟩, s4⟩ := q4
  dsimp only at *
  rw [V.cells_mk] at hV
  rw [Sl.cells_mk]
  replace hT := Lib.hid hT
  replace hB1 := Lib.hid hB1
  replace hB2 := Lib.hid hB2
  replace hV := Lib.hid hV
  by_cases h1 : 1 < rq
  · rw [if_pos h1]
    refine QinC 2 75 Tryz.func77 Tryz.ntmps77 ?_
    repeat' (first | (with_reducible first | refine Q1 ?_ | refine Qe ?_ | refine Ql ?_ | refine Q2 ?_ | refine Qs ?_ | refine Q4 ?_ | (refine al_go ?_; intro b) | fail) | refine QR Tryz.call75 hT.out ?_ | refine QR Tryz.call116 hB1.out ?_ | refine QR Tryz.call116 hB2.out ?_ | refine QR Tryz.call118 hV.out ?_ | (with_reducible first | refine Q5 ?_ | (refine Q3a ?_; intro hb; try intro hb1) | (refine Q3b ?_; intro hb; try intro hb1) | (refine Q3 ?_ ?_ <;> intro hb <;> try intro hb1) | fail) | fail)
    all_goals exact QretC
  · rw [if_neg h1]
    refine QinC 2 75 Tryz.func77 Tryz.ntmps77 ?_
    repeat' (first | (with_reducible first | refine Q1 ?_ | refine Qe ?_ | refine Ql ?_ | refine Q2 ?_ | refine Qs ?_ | refine Q4 ?_ | (refine al_go ?_; intro b) | fail) | refine QR Tryz.call75 hT.out ?_ | refine QR Tryz.call116 hB1.out ?_ | refine QR Tryz.call116 hB2.out ?_ | refine QR Tryz.call118 hV.out ?_ | (with_reducible first | refine Q5 ?_ | (refine Q3a ?_; intro hb; try intro hb1) | (refine Q3b ?_; intro hb; try intro hb1) | (refine Q3 ?_ ?_ <;> intro hb <;> try intro hb1) | fail) | fail)
    all_goals exact QretC
theorem regGetByteF (rb : Nat) (s : RS) (st : St) : TrF Tryz.prog 146 [.ptr rb 0] (rdR rb s :: st) fun x st' => x = .i s.byte.1 ∧ st' = rdR rb s.byte.2 :: st := by
  have hB := rdByteF rb s
  generalize s.byte = q at *
  replace hB := Lib.hid hB
  refine Qin [2] Tryz.func146 Tryz.results146 Tryz.ntmps146 ?_
  repeat' (first | (with_reducible first | refine Q1 ?_ | refine Qe ?_ | refine Ql ?_ | refine Q2 ?_ | refine Qs ?_ | refine Q4 ?_ | (refine al_go ?_; intro b) | fail) | refine QR Tryz.call116 hB.out ?_ | (with_reducible first | refine Q5 ?_ | (refine Q3a ?_; intro hb; try intro hb1) | (refine Q3b ?_; intro hb; try intro hb1) | (refine Q3 ?_ ?_ <;> intro hb <;> try intro hb1) | fail) | fail)
  all_goals exact Qret
theorem regReadSlF (rb : Nat) (s : RS) (st : St) : TrF Tryz.prog 76 [.ptr rb 0, .i 8, .fn (.func 77) [] []] (rdR rb s :: st) fun x st' => x = .sl .shared ((Reg.rlist Reg.getSlot 9 s).1.map Sl.cells) ∧ st' = rdR rb (Reg.rlist Reg.getSlot 9 s).2 :: st := by
  have hN := Lib.hid (rdNumF rb s)
  have hnp := RS.rnum_pos s
  have hBad := Lib.hid (rdBadF rb)
  have hI := Lib.hid fun s st => regGetSlotF rb s st
  unfold Reg.rlist
  generalize s.rnum = q at *
  obtain ⟨n, s2⟩ := q
  dsimp only at *
  obtain ⟨m, hm⟩ : ∃ m : Nat, (if (9 : Int) < n then (9 : Int) else n) = m := ⟨(if (9 : Int) < n then (9 : Int) else n).toNat, by split <;> omega⟩
  have hm9 : m ≤ 9 := by split at hm <;> omega
  rw [hm, Int.toNat_natCast]
  obtain ⟨res, hres⟩ : ∃ r, Reg.rdL Reg.getSlot m s2 = r := ⟨_, rfl⟩
  have hE : Hid ([] ++ (Reg.rdL Reg.getSlot (m - 0) s2).1 = res.1 ∧ (Reg.rdL Reg.getSlot (m - 0) s2).2 = res.2) := by
    show _ ∧ _
    rw [Nat.sub_zero, hres]
    exact ⟨rfl, rfl⟩
  rw [hres]
  clear hres hnp
  refine Qin [6] Tryz.func76 Tryz.results76 Tryz.ntmps76 ?_
  refine tr_room 75 7 ([] : List (List D)).length ?_
  repeat' (first | (with_reducible first | refine Q1 ?_ | refine Qe ?_ | refine Ql ?_ | refine Q2 ?_ | refine Qs ?_ | refine Q4 ?_ | (refine al_go ?_; intro b) | fail) | refine QR Tryz.call142 hN.out ?_ | (with_reducible first | (refine Qa ?_; intro o' ho') | (refine Qp ?_; intro o' ho') | refine Q5 ?_ | (refine Q3a ?_; intro hb; try intro hb1) | (refine Q3b ?_; intro hb; try intro hb1) | (refine Q3 ?_ ?_ <;> intro hb <;> try intro hb1) | fail) | fail)
  clear hN
  refine tr_loopd (ι := Nat) (fun i A st' => i ≤ m ∧ A.df = [] ∧ A.e 0 = .ptr rb 0 ∧ A.e 2 = .fn (.func 77) [] [] ∧ A.e 14 = .i m ∧ A.e 15 = .i i ∧ ∃ o' L s', o' ≠ .shared ∧ L.length ≤ i ∧ Hid (L ++ (Reg.rdL Reg.getSlot (m - i) s').1 = res.1 ∧ (Reg.rdL Reg.getSlot (m - i) s').2 = res.2) ∧ A.e 8 = .sl o' (L.map Sl.cells) ∧ st' = .room o' 75 7 (L.map Sl.cells).length :: rdR rb s' :: st) (fun i => m - i) 0 ⟨Nat.zero_le _, Qf, Qf, Qf, Qf, Qf, .tight, [], s2, by decide, Nat.le_refl _, hE, Qf, rfl⟩ ?_
  clear hE hm
  rintro i A st' ⟨hi, hdf, e0, e2, e14, e15, o', L, s', ho', hLi, hE, e8, rfl⟩
  have hLc : (L.map Sl.cells).length = L.length := List.length_map ..
  by_cases hlt : i < m
  · have hHE := hE.out
    rw [show m - i = (m - (i + 1)) + 1 by omega, Reg.rdL] at hHE
    cases hsb : s'.bad with
    | true =>
      rw [hsb, if_pos rfl] at hHE
      obtain ⟨r1, r2⟩ := res
      obtain ⟨hr1, hr2⟩ := hHE
      dsimp only at hr1 hr2
      rw [List.append_nil] at hr1
      subst hr1 hr2
      have hBs := hBad.out s'
      rw [hsb] at hBs
      replace hBs := Lib.hid hBs
      clear hE hI hBad
      repeat' (first | (with_reducible first | refine Q1 ?_ | refine Qe ?_ | refine Ql ?_ | refine Q2 ?_ | refine Qs ?_ | refine Q4 ?_ | (refine al_go ?_; intro b) | fail) | refine QR Tryz.call80 hBs.out ?_ | (with_reducible first | (refine Qa ?_; intro o' ho') | (refine Qp ?_; intro o' ho') | refine Q5 ?_ | (refine Q3a ?_; intro hb; try intro hb1) | (refine Q3b ?_; intro hb; try intro hb1) | (refine Q3 ?_ ?_ <;> intro hb <;> try intro hb1) | fail) | fail)
      all_goals exact Qret
    | false =>
      rw [hsb, if_neg Bool.false_ne_true] at hHE
      have hIs := hI.out s'
      have hBs := hBad.out s'
      rw [hsb] at hBs
      generalize Reg.getSlot s' = x3 at *
      obtain ⟨x, s3⟩ := x3
      dsimp only at hHE hIs
      have hE2 : Hid ((L ++ [x]) ++ (Reg.rdL Reg.getSlot (m - (i + 1)) s3).1 = res.1 ∧ (Reg.rdL Reg.getSlot (m - (i + 1)) s3).2 = res.2) := by
        show _ ∧ _
        rw [List.append_assoc]
        exact hHE
      have hL4 : ∀ a ∈ L.map Sl.cells, a.length = 7 := fun a ha => by
        obtain ⟨x, -, rfl⟩ := List.mem_map.1 ha
        exact Sl.cells_len x
      have hLs : (L ++ [x]).map Sl.cells = L.map Sl.cells ++ [Sl.cells x] := List.map_append ..
      have hLk : (L ++ [x]).length ≤ i + 1 := by rw [List.length_append, List.length_singleton]; omega
      generalize L.map Sl.cells = M at *
      cases x with
      | mk nm ty rq dv =>
      cases dv with
      | mk k n sv lv =>
      rw [Sl.cells_mk] at hLs hIs
      replace hBs := Lib.hid hBs
      replace hIs := Lib.hid hIs
      replace hLs := Lib.hid hLs
      clear hE hI hBad hHE
      repeat' (first | (with_reducible first | refine Q1 ?_ | refine Qe ?_ | refine Ql ?_ | refine Q2 ?_ | refine Qs ?_ | refine Q4 ?_ | (refine al_go ?_; intro b) | fail) | refine QR Tryz.call80 hBs.out ?_ | refine QR Tryz.call77 hIs.out ?_ | (with_reducible first | (refine Qa ?_; intro o' ho') | (refine Qp ?_; intro o' ho') | refine Q5 ?_ | (refine Q3a ?_; intro hb; try intro hb1) | (refine Q3b ?_; intro hb; try intro hb1) | (refine Q3 ?_ ?_ <;> intro hb <;> try intro hb1) | fail) | fail)
      refine ⟨i + 1, .room o' 75 7 ((L ++ [(⟨nm, ty, rq, .mk k n sv lv⟩ : Sl)]).map Sl.cells).length :: rdR rb s3 :: st, ?_, ⟨hlt, ?_, ?_, ?_, ?_, ?_, o', L ++ [⟨nm, ty, rq, .mk k n sv lv⟩], s3, ho', hLk, hE2, ?_, rfl⟩, ?_⟩
      · rw [hLs.out]; (repeat (first | exact List.Sublist.refl _ | apply List.Sublist.cons))
      rotate_right 2
      · rw [hLs.out]; exact Qf
      all_goals exact Qf
  · have hHE := hE.out
    rw [show m - i = 0 by omega, Reg.rdL] at hHE
    obtain ⟨r1, r2⟩ := res
    obtain ⟨hr1, hr2⟩ := hHE
    dsimp only at hr1 hr2
    rw [List.append_nil] at hr1
    subst hr1 hr2
    clear hE hI hBad
    repeat' (with_reducible first | refine Q1 ?_ | refine Qe ?_ | refine Ql ?_ | refine Q2 ?_ | refine Qs ?_ | refine Q4 ?_ | (refine al_go ?_; intro b) | (refine Qa ?_; intro o' ho') | (refine Qp ?_; intro o' ho') | refine Q5 ?_ | (refine Q3a ?_; intro hb; try intro hb1) | (refine Q3b ?_; intro hb; try intro hb1) | (refine Q3 ?_ ?_ <;> intro hb <;> try intro hb1) | fail)
    all_goals exact Qret
theorem regReadIF (rb : Nat) (s : RS) (st : St) : TrF Tryz.prog 145 [.ptr rb 0, .i 8, .fn (.func 146) [] []] (rdR rb s :: st) fun x st' => x = .sl .shared ((Reg.rlist RS.byte 9 s).1.map encI) ∧ st' = rdR rb (Reg.rlist RS.byte 9 s).2 :: st := by
  have hN := Lib.hid (rdNumF rb s)
  have hnp := RS.rnum_pos s
  have hBad := Lib.hid (rdBadF rb)
  have hI := Lib.hid fun s st => regGetByteF rb s st
  unfold Reg.rlist
  generalize s.rnum = q at *
  obtain ⟨n, s2⟩ := q
  dsimp only at *
  obtain ⟨m, hm⟩ : ∃ m : Nat, (if (9 : Int) < n then (9 : Int) else n) = m := ⟨(if (9 : Int) < n then (9 : Int) else n).toNat, by split <;> omega⟩
  have hm9 : m ≤ 9 := by split at hm <;> omega
  rw [hm, Int.toNat_natCast]
  obtain ⟨res, hres⟩ : ∃ r, Reg.rdL RS.byte m s2 = r := ⟨_, rfl⟩
  have hE : Hid ([] ++ (Reg.rdL RS.byte (m - 0) s2).1 = res.1 ∧ (Reg.rdL RS.byte (m - 0) s2).2 = res.2) := by
    show _ ∧ _
    rw [Nat.sub_zero, hres]
    exact ⟨rfl, rfl⟩
  rw [hres]
  clear hres hnp
  refine Qin [6] Tryz.func145 Tryz.results145 Tryz.ntmps145 ?_
  refine tr_room 3 1 ([] : List (List D)).length ?_
  repeat' (first | (with_reducible first | refine Q1 ?_ | refine Qe ?_ | refine Ql ?_ | refine Q2 ?_ | refine Qs ?_ | refine Q4 ?_ | (refine al_go ?_; intro b) | fail) | refine QR Tryz.call142 hN.out ?_ | (with_reducible first | (refine Qa ?_; intro o' ho') | (refine Qp ?_; intro o' ho') | refine Q5 ?_ | (refine Q3a ?_; intro hb; try intro hb1) | (refine Q3b ?_; intro hb; try intro hb1) | (refine Q3 ?_ ?_ <;> intro hb <;> try intro hb1) | fail) | fail)
  clear hN
  refine tr_loopd (ι := Nat) (fun i A st' => i ≤ m ∧ A.df = [] ∧ A.e 0 = .ptr rb 0 ∧ A.e 2 = .fn (.func 146) [] [] ∧ A.e 14 = .i m ∧ A.e 15 = .i i ∧ ∃ o' L s', o' ≠ .shared ∧ L.length ≤ i ∧ Hid (L ++ (Reg.rdL RS.byte (m - i) s').1 = res.1 ∧ (Reg.rdL RS.byte (m - i) s').2 = res.2) ∧ A.e 8 = .sl o' (L.map encI) ∧ st' = .room o' 3 1 (L.map encI).length :: rdR rb s' :: st) (fun i => m - i) 0 ⟨Nat.zero_le _, Qf, Qf, Qf, Qf, Qf, .tight, [], s2, by decide, Nat.le_refl _, hE, Qf, rfl⟩ ?_
  clear hE hm
  rintro i A st' ⟨hi, hdf, e0, e2, e14, e15, o', L, s', ho', hLi, hE, e8, rfl⟩
  have hLc : (L.map encI).length = L.length := List.length_map ..
  by_cases hlt : i < m
  · have hHE := hE.out
    rw [show m - i = (m - (i + 1)) + 1 by omega, Reg.rdL] at hHE
    cases hsb : s'.bad with
    | true =>
      rw [hsb, if_pos rfl] at hHE
      obtain ⟨r1, r2⟩ := res
      obtain ⟨hr1, hr2⟩ := hHE
      dsimp only at hr1 hr2
      rw [List.append_nil] at hr1
      subst hr1 hr2
      have hBs := hBad.out s'
      rw [hsb] at hBs
      replace hBs := Lib.hid hBs
      clear hE hI hBad
      repeat' (first | (with_reducible first | refine Q1 ?_ | refine Qe ?_ | refine Ql ?_ | refine Q2 ?_ | refine Qs ?_ | refine Q4 ?_ | (refine al_go ?_; intro b) | fail) | refine QR Tryz.call80 hBs.out ?_ | (with_reducible first | (refine Qa ?_; intro o' ho') | (refine Qp ?_; intro o' ho') | refine Q5 ?_ | (refine Q3a ?_; intro hb; try intro hb1) | (refine Q3b ?_; intro hb; try intro hb1) | (refine Q3 ?_ ?_ <;> intro hb <;> try intro hb1) | fail) | fail)
      all_goals exact Qret
    | false =>
      rw [hsb, if_neg Bool.false_ne_true] at hHE
      have hIs := hI.out s'
      have hBs := hBad.out s'
      rw [hsb] at hBs
      generalize RS.byte s' = x3 at *
      obtain ⟨x, s3⟩ := x3
      dsimp only at hHE hIs
      have hE2 : Hid ((L ++ [x]) ++ (Reg.rdL RS.byte (m - (i + 1)) s3).1 = res.1 ∧ (Reg.rdL RS.byte (m - (i + 1)) s3).2 = res.2) := by
        show _ ∧ _
        rw [List.append_assoc]
        exact hHE
      have hL4 : ∀ a ∈ L.map encI, a.length = 1 := fun a ha => by
        obtain ⟨x, -, rfl⟩ := List.mem_map.1 ha
        exact rfl
      have hLs : (L ++ [x]).map encI = L.map encI ++ [encI x] := List.map_append ..
      have hLk : (L ++ [x]).length ≤ i + 1 := by rw [List.length_append, List.length_singleton]; omega
      generalize L.map encI = M at *

      replace hBs := Lib.hid hBs
      replace hIs := Lib.hid hIs
      replace hLs := Lib.hid hLs
      clear hE hI hBad hHE
      repeat' (first | (with_reducible first | refine Q1 ?_ | refine Qe ?_ | refine Ql ?_ | refine Q2 ?_ | refine Qs ?_ | refine Q4 ?_ | (refine al_go ?_; intro b) | fail) | refine QR Tryz.call80 hBs.out ?_ | refine QR Tryz.call146 hIs.out ?_ | (with_reducible first | (refine Qa ?_; intro o' ho') | (refine Qp ?_; intro o' ho') | refine Q5 ?_ | (refine Q3a ?_; intro hb; try intro hb1) | (refine Q3b ?_; intro hb; try intro hb1) | (refine Q3 ?_ ?_ <;> intro hb <;> try intro hb1) | fail) | fail)
      refine ⟨i + 1, .room o' 3 1 ((L ++ [(x : Int)]).map encI).length :: rdR rb s3 :: st, ?_, ⟨hlt, ?_, ?_, ?_, ?_, ?_, o', L ++ [x], s3, ho', hLk, hE2, ?_, rfl⟩, ?_⟩
      · rw [hLs.out]; (repeat (first | exact List.Sublist.refl _ | apply List.Sublist.cons))
      rotate_right 2
      · rw [hLs.out]; exact Qf
      all_goals exact Qf
  · have hHE := hE.out
    rw [show m - i = 0 by omega, Reg.rdL] at hHE
    obtain ⟨r1, r2⟩ := res
    obtain ⟨hr1, hr2⟩ := hHE
    dsimp only at hr1 hr2
    rw [List.append_nil] at hr1
    subst hr1 hr2
    clear hE hI hBad
    repeat' (with_reducible first | refine Q1 ?_ | refine Qe ?_ | refine Ql ?_ | refine Q2 ?_ | refine Qs ?_ | refine Q4 ?_ | (refine al_go ?_; intro b) | (refine Qa ?_; intro o' ho') | (refine Qp ?_; intro o' ho') | refine Q5 ?_ | (refine Q3a ?_; intro hb; try intro hb1) | (refine Q3b ?_; intro hb; try intro hb1) | (refine Q3 ?_ ?_ <;> intro hb <;> try intro hb1) | fail)
    all_goals exact Qret
theorem Stp.cells_len2 (s : Stp) : s.cells.length = 10 := by
  unfold Stp.cells
  rw [List.length_cons, List.length_cons, List.length_append, Sl.cells_len]; rfl
theorem Stp.cells_mk (kind col : Int) (nm : ByteArray) (ty : Int) (rq : Bool) (k n : Int) (sv : ByteArray) (lv : List V) (order : List Int) : (Stp.mk kind col (Sl.mk nm ty rq (.mk k n sv lv)) order).cells = [.i kind, .i col, .str nm, .i ty, .b rq, .i k, .i n, .str sv, .sl .shared (lv.map V.cells), .sl .shared (order.map encI)] := by
  unfold Stp.cells
  rw [Sl.cells_mk]; rfl
theorem Tm.cells_mk (nm : ByteArray) (ss : List Sl) (tt : List Stp) : (Tm.mk nm ss tt).cells = [.str nm, .sl .shared (ss.map Sl.cells), .sl .shared (tt.map Stp.cells)] := rfl
theorem slot0C : Reg.slot0.cells = [.str ⟨#[]⟩, .i 0, .b false, .i 0, .i 0, .str ⟨#[]⟩, .sl .shared []] := by unfold Reg.slot0 V.zero; rw [Sl.cells_mk]; rfl
theorem regGetStepF (rb : Nat) (s : RS) (st : St) : TrF Tryz.prog 79 [.ptr rb 0] (rdR rb s :: st) fun x st' => x = .agg (Reg.getStep s).1.cells ∧ st' = rdR rb (Reg.getStep s).2 :: st := by
  have hB := rdByteF rb s
  unfold Reg.getStep Stp.cells
  generalize s.byte = q at *
  obtain ⟨k, s1⟩ := q
  dsimp only at *
  have hB2 := rdByteF rb s1
  replace hB := Lib.hid hB
  by_cases h1 : k = 1
  · subst h1
    rw [if_pos rfl]
    have hS := regGetSlotF rb s1
    generalize Reg.getSlot s1 = q2 at *
    obtain ⟨⟨nm, ty, rq, ⟨k, n, sv, lv⟩⟩, s2⟩ := q2
    clear hB2
    dsimp only at *
    rw [Sl.cells_mk] at *
    replace hS := Lib.hid hS
    refine QinC 2 79 Tryz.func79 Tryz.ntmps79 ?_
    repeat' (first | (with_reducible first | refine Q1 ?_ | refine Qe ?_ | refine Ql ?_ | refine Q2 ?_ | refine Qs ?_ | refine Q4 ?_ | (refine al_go ?_; intro b) | fail) | refine QR Tryz.call116 hB.out ?_ | refine QR Tryz.call77 hS.out ?_ | (with_reducible first | refine Q5 ?_ | (refine Q3a ?_; intro hb; try intro hb1) | (refine Q3b ?_; intro hb; try intro hb1) | (refine Q3 ?_ ?_ <;> intro hb <;> try intro hb1) | fail) | fail)
    all_goals exact QretC
  rw [if_neg h1]
  have b1 : (k == 1) = false := beq_eq_false_iff_ne.2 h1
  by_cases h2 : k = 2
  · subst h2
    rw [if_pos rfl]
    generalize s1.byte = q2 at *
    obtain ⟨c, s2⟩ := q2
    dsimp only at *
    rw [slot0C]
    replace hB2 := Lib.hid hB2
    refine QinC 2 79 Tryz.func79 Tryz.ntmps79 ?_
    repeat' (first | (with_reducible first | refine Q1 ?_ | refine Qe ?_ | refine Ql ?_ | refine Q2 ?_ | refine Qs ?_ | refine Q4 ?_ | (refine al_go ?_; intro b) | fail) | refine QR Tryz.call116 hB.out ?_ | refine QR Tryz.call116 hB2.out ?_ | (with_reducible first | refine Q5 ?_ | (refine Q3a ?_; intro hb; try intro hb1) | (refine Q3b ?_; intro hb; try intro hb1) | (refine Q3 ?_ ?_ <;> intro hb <;> try intro hb1) | fail) | fail)
    all_goals exact QretC
  rw [if_neg h2]
  have b2 : (k == 2) = false := beq_eq_false_iff_ne.2 h2
  by_cases h3 : k = 3
  · subst h3
    rw [if_pos rfl]
    generalize s1.byte = q2 at *
    obtain ⟨c, s2⟩ := q2
    dsimp only at *
    have hT := rdTextF rb s2
    generalize s2.text = q3 at *
    obtain ⟨nm, s3⟩ := q3
    unfold Reg.slot0 V.zero
    dsimp only at *
    rw [Sl.cells_mk]
    replace hB2 := Lib.hid hB2
    replace hT := Lib.hid hT
    refine QinC 2 79 Tryz.func79 Tryz.ntmps79 ?_
    repeat' (first | (with_reducible first | refine Q1 ?_ | refine Qe ?_ | refine Ql ?_ | refine Q2 ?_ | refine Qs ?_ | refine Q4 ?_ | (refine al_go ?_; intro b) | fail) | refine QR Tryz.call116 hB.out ?_ | refine QR Tryz.call116 hB2.out ?_ | refine QR Tryz.call75 hT.out ?_ | (with_reducible first | refine Q5 ?_ | (refine Q3a ?_; intro hb; try intro hb1) | (refine Q3b ?_; intro hb; try intro hb1) | (refine Q3 ?_ ?_ <;> intro hb <;> try intro hb1) | fail) | fail)
    all_goals exact QretC
  rw [if_neg h3]
  have b3 : (k == 3) = false := beq_eq_false_iff_ne.2 h3
  by_cases h4 : k = 4
  · subst h4
    rw [if_pos rfl]
    generalize s1.byte = q2 at *
    obtain ⟨c, s2⟩ := q2
    dsimp only at *
    have hB3 := rdByteF rb s2
    generalize s2.byte = q3 at *
    obtain ⟨ty, s3⟩ := q3
    unfold Reg.slot0 V.zero
    dsimp only at *
    rw [Sl.cells_mk]
    replace hB2 := Lib.hid hB2
    replace hB3 := Lib.hid hB3
    refine QinC 2 79 Tryz.func79 Tryz.ntmps79 ?_
    repeat' (first | (with_reducible first | refine Q1 ?_ | refine Qe ?_ | refine Ql ?_ | refine Q2 ?_ | refine Qs ?_ | refine Q4 ?_ | (refine al_go ?_; intro b) | fail) | refine QR Tryz.call116 hB.out ?_ | refine QR Tryz.call116 hB2.out ?_ | refine QR Tryz.call116 hB3.out ?_ | (with_reducible first | refine Q5 ?_ | (refine Q3a ?_; intro hb; try intro hb1) | (refine Q3b ?_; intro hb; try intro hb1) | (refine Q3 ?_ ?_ <;> intro hb <;> try intro hb1) | fail) | fail)
    all_goals exact QretC
  rw [if_neg h4]
  have b4 : (k == 4) = false := beq_eq_false_iff_ne.2 h4
  by_cases h5 : k = 5
  · subst h5
    rw [if_pos rfl]
    have hR := regReadIF rb s1
    generalize Reg.rlist RS.byte 9 s1 = q2 at *
    obtain ⟨o, s2⟩ := q2
    dsimp only at *
    generalize o.map encI = OS at *
    rw [slot0C]
    clear hB2
    replace hR := Lib.hid hR
    refine QinC 2 79 Tryz.func79 Tryz.ntmps79 ?_
    repeat' (first | (with_reducible first | refine Q1 ?_ | refine Qe ?_ | refine Ql ?_ | refine Q2 ?_ | refine Qs ?_ | refine Q4 ?_ | (refine al_go ?_; intro b) | fail) | refine QR Tryz.call116 hB.out ?_ | refine QR Tryz.call145 hR.out ?_ | (with_reducible first | refine Q5 ?_ | (refine Q3a ?_; intro hb; try intro hb1) | (refine Q3b ?_; intro hb; try intro hb1) | (refine Q3 ?_ ?_ <;> intro hb <;> try intro hb1) | fail) | fail)
    all_goals exact QretC
  rw [if_neg h5]
  have b5 : (k == 5) = false := beq_eq_false_iff_ne.2 h5
  rw [slot0C]
  clear hB2
  refine QinC 2 79 Tryz.func79 Tryz.ntmps79 ?_
  repeat' (first | (with_reducible first | refine Q1 ?_ | refine Qe ?_ | refine Ql ?_ | refine Q2 ?_ | refine Qs ?_ | refine Q4 ?_ | (refine al_go ?_; intro b) | fail) | refine QR Tryz.call116 hB.out ?_ | (with_reducible first | refine Q5 ?_ | (refine Q3a ?_; intro hb; try intro hb1) | (refine Q3b ?_; intro hb; try intro hb1) | (refine Q3 ?_ ?_ <;> intro hb <;> try intro hb1) | fail) | fail)
  all_goals exact QretC
theorem regReadStpF (rb : Nat) (s : RS) (st : St) : TrF Tryz.prog 78 [.ptr rb 0, .i 8, .fn (.func 79) [] []] (rdR rb s :: st) fun x st' => x = .sl .shared ((Reg.rlist Reg.getStep 9 s).1.map Stp.cells) ∧ st' = rdR rb (Reg.rlist Reg.getStep 9 s).2 :: st := by
  have hN := Lib.hid (rdNumF rb s)
  have hnp := RS.rnum_pos s
  have hBad := Lib.hid (rdBadF rb)
  have hI := Lib.hid fun s st => regGetStepF rb s st
  unfold Reg.rlist
  generalize s.rnum = q at *
  obtain ⟨n, s2⟩ := q
  dsimp only at *
  obtain ⟨m, hm⟩ : ∃ m : Nat, (if (9 : Int) < n then (9 : Int) else n) = m := ⟨(if (9 : Int) < n then (9 : Int) else n).toNat, by split <;> omega⟩
  have hm9 : m ≤ 9 := by split at hm <;> omega
  rw [hm, Int.toNat_natCast]
  obtain ⟨res, hres⟩ : ∃ r, Reg.rdL Reg.getStep m s2 = r := ⟨_, rfl⟩
  have hE : Hid ([] ++ (Reg.rdL Reg.getStep (m - 0) s2).1 = res.1 ∧ (Reg.rdL Reg.getStep (m - 0) s2).2 = res.2) := by
    show _ ∧ _
    rw [Nat.sub_zero, hres]
    exact ⟨rfl, rfl⟩
  rw [hres]
  clear hres hnp
  refine Qin [6] Tryz.func78 Tryz.results78 Tryz.ntmps78 ?_
  refine tr_room 79 10 ([] : List (List D)).length ?_
  repeat' (first | (with_reducible first | refine Q1 ?_ | refine Qe ?_ | refine Ql ?_ | refine Q2 ?_ | refine Qs ?_ | refine Q4 ?_ | (refine al_go ?_; intro b) | fail) | refine QR Tryz.call142 hN.out ?_ | (with_reducible first | (refine Qa ?_; intro o' ho') | (refine Qp ?_; intro o' ho') | refine Q5 ?_ | (refine Q3a ?_; intro hb; try intro hb1) | (refine Q3b ?_; intro hb; try intro hb1) | (refine Q3 ?_ ?_ <;> intro hb <;> try intro hb1) | fail) | fail)
  clear hN
  refine tr_loopd (ι := Nat) (fun i A st' => i ≤ m ∧ A.df = [] ∧ A.e 0 = .ptr rb 0 ∧ A.e 2 = .fn (.func 79) [] [] ∧ A.e 14 = .i m ∧ A.e 15 = .i i ∧ ∃ o' L s', o' ≠ .shared ∧ L.length ≤ i ∧ Hid (L ++ (Reg.rdL Reg.getStep (m - i) s').1 = res.1 ∧ (Reg.rdL Reg.getStep (m - i) s').2 = res.2) ∧ A.e 8 = .sl o' (L.map Stp.cells) ∧ st' = .room o' 79 10 (L.map Stp.cells).length :: rdR rb s' :: st) (fun i => m - i) 0 ⟨Nat.zero_le _, Qf, Qf, Qf, Qf, Qf, .tight, [], s2, by decide, Nat.le_refl _, hE, Qf, rfl⟩ ?_
  clear hE hm
  rintro i A st' ⟨hi, hdf, e0, e2, e14, e15, o', L, s', ho', hLi, hE, e8, rfl⟩
  have hLc : (L.map Stp.cells).length = L.length := List.length_map ..
  by_cases hlt : i < m
  · have hHE := hE.out
    rw [show m - i = (m - (i + 1)) + 1 by omega, Reg.rdL] at hHE
    cases hsb : s'.bad with
    | true =>
      rw [hsb, if_pos rfl] at hHE
      obtain ⟨r1, r2⟩ := res
      obtain ⟨hr1, hr2⟩ := hHE
      dsimp only at hr1 hr2
      rw [List.append_nil] at hr1
      subst hr1 hr2
      have hBs := hBad.out s'
      rw [hsb] at hBs
      replace hBs := Lib.hid hBs
      clear hE hI hBad
      repeat' (first | (with_reducible first | refine Q1 ?_ | refine Qe ?_ | refine Ql ?_ | refine Q2 ?_ | refine Qs ?_ | refine Q4 ?_ | (refine al_go ?_; intro b) | fail) | refine QR Tryz.call80 hBs.out ?_ | (with_reducible first | (refine Qa ?_; intro o' ho') | (refine Qp ?_; intro o' ho') | refine Q5 ?_ | (refine Q3a ?_; intro hb; try intro hb1) | (refine Q3b ?_; intro hb; try intro hb1) | (refine Q3 ?_ ?_ <;> intro hb <;> try intro hb1) | fail) | fail)
      all_goals exact Qret
    | false =>
      rw [hsb, if_neg Bool.false_ne_true] at hHE
      have hIs := hI.out s'
      have hBs := hBad.out s'
      rw [hsb] at hBs
      generalize Reg.getStep s' = x3 at *
      obtain ⟨x, s3⟩ := x3
      dsimp only at hHE hIs
      have hE2 : Hid ((L ++ [x]) ++ (Reg.rdL Reg.getStep (m - (i + 1)) s3).1 = res.1 ∧ (Reg.rdL Reg.getStep (m - (i + 1)) s3).2 = res.2) := by
        show _ ∧ _
        rw [List.append_assoc]
        exact hHE
      have hL4 : ∀ a ∈ L.map Stp.cells, a.length = 10 := fun a ha => by
        obtain ⟨x, -, rfl⟩ := List.mem_map.1 ha
        exact Stp.cells_len2 x
      have hLs : (L ++ [x]).map Stp.cells = L.map Stp.cells ++ [Stp.cells x] := List.map_append ..
      have hLk : (L ++ [x]).length ≤ i + 1 := by rw [List.length_append, List.length_singleton]; omega
      generalize L.map Stp.cells = M at *
      cases x with
      | mk kind col slot order =>
      cases slot with
      | mk nm ty rq dv =>
      cases dv with
      | mk k n sv lv =>
      rw [Stp.cells_mk] at hLs hIs
      generalize order.map encI = OS at *
      replace hBs := Lib.hid hBs
      replace hIs := Lib.hid hIs
      replace hLs := Lib.hid hLs
      clear hE hI hBad hHE
      repeat' (first | (with_reducible first | refine Q1 ?_ | refine Qe ?_ | refine Ql ?_ | refine Q2 ?_ | refine Qs ?_ | refine Q4 ?_ | (refine al_go ?_; intro b) | fail) | refine QR Tryz.call80 hBs.out ?_ | refine QR Tryz.call79 hIs.out ?_ | (with_reducible first | (refine Qa ?_; intro o' ho') | (refine Qp ?_; intro o' ho') | refine Q5 ?_ | (refine Q3a ?_; intro hb; try intro hb1) | (refine Q3b ?_; intro hb; try intro hb1) | (refine Q3 ?_ ?_ <;> intro hb <;> try intro hb1) | fail) | fail)
      refine ⟨i + 1, .room o' 79 10 ((L ++ [(⟨kind, col, ⟨nm, ty, rq, .mk k n sv lv⟩, order⟩ : Stp)]).map Stp.cells).length :: rdR rb s3 :: st, ?_, ⟨hlt, ?_, ?_, ?_, ?_, ?_, o', L ++ [⟨kind, col, ⟨nm, ty, rq, .mk k n sv lv⟩, order⟩], s3, ho', hLk, hE2, ?_, rfl⟩, ?_⟩
      · rw [hLs.out]; (repeat (first | exact List.Sublist.refl _ | apply List.Sublist.cons))
      rotate_right 2
      · rw [hLs.out]; exact Qf
      all_goals exact Qf
  · have hHE := hE.out
    rw [show m - i = 0 by omega, Reg.rdL] at hHE
    obtain ⟨r1, r2⟩ := res
    obtain ⟨hr1, hr2⟩ := hHE
    dsimp only at hr1 hr2
    rw [List.append_nil] at hr1
    subst hr1 hr2
    clear hE hI hBad
    repeat' (with_reducible first | refine Q1 ?_ | refine Qe ?_ | refine Ql ?_ | refine Q2 ?_ | refine Qs ?_ | refine Q4 ?_ | (refine al_go ?_; intro b) | (refine Qa ?_; intro o' ho') | (refine Qp ?_; intro o' ho') | refine Q5 ?_ | (refine Q3a ?_; intro hb; try intro hb1) | (refine Q3b ?_; intro hb; try intro hb1) | (refine Q3 ?_ ?_ <;> intro hb <;> try intro hb1) | fail)
    all_goals exact Qret
theorem regGetTmF (rb : Nat) (s : RS) (st : St) : TrF Tryz.prog 74 [.ptr rb 0] (rdR rb s :: st) fun x st' => x = .agg (Reg.getTm s).1.cells ∧ st' = rdR rb (Reg.getTm s).2 :: st := by
  have hT := rdTextF rb s
  unfold Reg.getTm Tm.cells
  generalize s.text = q at *
  obtain ⟨nm, s1⟩ := q
  dsimp only at *
  have hS := regReadSlF rb s1
  generalize Reg.rlist Reg.getSlot 9 s1 = q at *
  obtain ⟨ss, s2⟩ := q
  dsimp only at *
  have hP := regReadStpF rb s2
  generalize Reg.rlist Reg.getStep 9 s2 = q at *
  obtain ⟨tt, s3⟩ := q
  dsimp only at *
  generalize ss.map Sl.cells = SS at *
  generalize tt.map Stp.cells = TT at *
  replace hT := Lib.hid hT
  replace hS := Lib.hid hS
  replace hP := Lib.hid hP
  refine QinC 2 36 Tryz.func74 Tryz.ntmps74 ?_
  repeat' (first | (with_reducible first | refine Q1 ?_ | refine Qe ?_ | refine Ql ?_ | refine Q2 ?_ | refine Qs ?_ | refine Q4 ?_ | (refine al_go ?_; intro b) | fail) | refine QR Tryz.call75 hT.out ?_ | refine QR Tryz.call76 hS.out ?_ | refine QR Tryz.call78 hP.out ?_ | (with_reducible first | refine Q5 ?_ | (refine Q3a ?_; intro hb; try intro hb1) | (refine Q3b ?_; intro hb; try intro hb1) | (refine Q3 ?_ ?_ <;> intro hb <;> try intro hb1) | fail) | fail)
  all_goals exact QretC
theorem regReadTmF (rb : Nat) (s : RS) (st : St) : TrF Tryz.prog 73 [.ptr rb 0, .i 6, .fn (.func 74) [] []] (rdR rb s :: st) fun x st' => x = .sl .shared ((Reg.rlist Reg.getTm 7 s).1.map Tm.cells) ∧ st' = rdR rb (Reg.rlist Reg.getTm 7 s).2 :: st := by
  have hN := Lib.hid (rdNumF rb s)
  have hnp := RS.rnum_pos s
  have hBad := Lib.hid (rdBadF rb)
  have hI := Lib.hid fun s st => regGetTmF rb s st
  unfold Reg.rlist
  generalize s.rnum = q at *
  obtain ⟨n, s2⟩ := q
  dsimp only at *
  obtain ⟨m, hm⟩ : ∃ m : Nat, (if (7 : Int) < n then (7 : Int) else n) = m := ⟨(if (7 : Int) < n then (7 : Int) else n).toNat, by split <;> omega⟩
  have hm9 : m ≤ 7 := by split at hm <;> omega
  rw [hm, Int.toNat_natCast]
  obtain ⟨res, hres⟩ : ∃ r, Reg.rdL Reg.getTm m s2 = r := ⟨_, rfl⟩
  have hE : Hid ([] ++ (Reg.rdL Reg.getTm (m - 0) s2).1 = res.1 ∧ (Reg.rdL Reg.getTm (m - 0) s2).2 = res.2) := by
    show _ ∧ _
    rw [Nat.sub_zero, hres]
    exact ⟨rfl, rfl⟩
  rw [hres]
  clear hres hnp
  refine Qin [6] Tryz.func73 Tryz.results73 Tryz.ntmps73 ?_
  refine tr_room 36 3 ([] : List (List D)).length ?_
  repeat' (first | (with_reducible first | refine Q1 ?_ | refine Qe ?_ | refine Ql ?_ | refine Q2 ?_ | refine Qs ?_ | refine Q4 ?_ | (refine al_go ?_; intro b) | fail) | refine QR Tryz.call142 hN.out ?_ | (with_reducible first | (refine Qa ?_; intro o' ho') | (refine Qp ?_; intro o' ho') | refine Q5 ?_ | (refine Q3a ?_; intro hb; try intro hb1) | (refine Q3b ?_; intro hb; try intro hb1) | (refine Q3 ?_ ?_ <;> intro hb <;> try intro hb1) | fail) | fail)
  clear hN
  refine tr_loopd (ι := Nat) (fun i A st' => i ≤ m ∧ A.df = [] ∧ A.e 0 = .ptr rb 0 ∧ A.e 2 = .fn (.func 74) [] [] ∧ A.e 14 = .i m ∧ A.e 15 = .i i ∧ ∃ o' L s', o' ≠ .shared ∧ L.length ≤ i ∧ Hid (L ++ (Reg.rdL Reg.getTm (m - i) s').1 = res.1 ∧ (Reg.rdL Reg.getTm (m - i) s').2 = res.2) ∧ A.e 8 = .sl o' (L.map Tm.cells) ∧ st' = .room o' 36 3 (L.map Tm.cells).length :: rdR rb s' :: st) (fun i => m - i) 0 ⟨Nat.zero_le _, Qf, Qf, Qf, Qf, Qf, .tight, [], s2, by decide, Nat.le_refl _, hE, Qf, rfl⟩ ?_
  clear hE hm
  rintro i A st' ⟨hi, hdf, e0, e2, e14, e15, o', L, s', ho', hLi, hE, e8, rfl⟩
  have hLc : (L.map Tm.cells).length = L.length := List.length_map ..
  by_cases hlt : i < m
  · have hHE := hE.out
    rw [show m - i = (m - (i + 1)) + 1 by omega, Reg.rdL] at hHE
    cases hsb : s'.bad with
    | true =>
      rw [hsb, if_pos rfl] at hHE
      obtain ⟨r1, r2⟩ := res
      obtain ⟨hr1, hr2⟩ := hHE
      dsimp only at hr1 hr2
      rw [List.append_nil] at hr1
      subst hr1 hr2
      have hBs := hBad.out s'
      rw [hsb] at hBs
      replace hBs := Lib.hid hBs
      clear hE hI hBad
      repeat' (first | (with_reducible first | refine Q1 ?_ | refine Qe ?_ | refine Ql ?_ | refine Q2 ?_ | refine Qs ?_ | refine Q4 ?_ | (refine al_go ?_; intro b) | fail) | refine QR Tryz.call80 hBs.out ?_ | (with_reducible first | (refine Qa ?_; intro o' ho') | (refine Qp ?_; intro o' ho') | refine Q5 ?_ | (refine Q3a ?_; intro hb; try intro hb1) | (refine Q3b ?_; intro hb; try intro hb1) | (refine Q3 ?_ ?_ <;> intro hb <;> try intro hb1) | fail) | fail)
      all_goals exact Qret
    | false =>
      rw [hsb, if_neg Bool.false_ne_true] at hHE
      have hIs := hI.out s'
      have hBs := hBad.out s'
      rw [hsb] at hBs
      generalize Reg.getTm s' = x3 at *
      obtain ⟨x, s3⟩ := x3
      dsimp only at hHE hIs
      have hE2 : Hid ((L ++ [x]) ++ (Reg.rdL Reg.getTm (m - (i + 1)) s3).1 = res.1 ∧ (Reg.rdL Reg.getTm (m - (i + 1)) s3).2 = res.2) := by
        show _ ∧ _
        rw [List.append_assoc]
        exact hHE
      have hL4 : ∀ a ∈ L.map Tm.cells, a.length = 3 := fun a ha => by
        obtain ⟨x, -, rfl⟩ := List.mem_map.1 ha
        exact rfl
      have hLs : (L ++ [x]).map Tm.cells = L.map Tm.cells ++ [Tm.cells x] := List.map_append ..
      have hLk : (L ++ [x]).length ≤ i + 1 := by rw [List.length_append, List.length_singleton]; omega
      generalize L.map Tm.cells = M at *
      cases x with
      | mk nm ss tt =>
      rw [Tm.cells_mk] at hLs hIs
      generalize ss.map Sl.cells = SS at *
      generalize tt.map Stp.cells = TT at *
      replace hBs := Lib.hid hBs
      replace hIs := Lib.hid hIs
      replace hLs := Lib.hid hLs
      clear hE hI hBad hHE
      repeat' (first | (with_reducible first | refine Q1 ?_ | refine Qe ?_ | refine Ql ?_ | refine Q2 ?_ | refine Qs ?_ | refine Q4 ?_ | (refine al_go ?_; intro b) | fail) | refine QR Tryz.call80 hBs.out ?_ | refine QR Tryz.call74 hIs.out ?_ | (with_reducible first | (refine Qa ?_; intro o' ho') | (refine Qp ?_; intro o' ho') | refine Q5 ?_ | (refine Q3a ?_; intro hb; try intro hb1) | (refine Q3b ?_; intro hb; try intro hb1) | (refine Q3 ?_ ?_ <;> intro hb <;> try intro hb1) | fail) | fail)
      refine ⟨i + 1, .room o' 36 3 ((L ++ [(⟨nm, ss, tt⟩ : Tm)]).map Tm.cells).length :: rdR rb s3 :: st, ?_, ⟨hlt, ?_, ?_, ?_, ?_, ?_, o', L ++ [⟨nm, ss, tt⟩], s3, ho', hLk, hE2, ?_, rfl⟩, ?_⟩
      · rw [hLs.out]; (repeat (first | exact List.Sublist.refl _ | apply List.Sublist.cons))
      rotate_right 2
      · rw [hLs.out]; exact Qf
      all_goals exact Qf
  · have hHE := hE.out
    rw [show m - i = 0 by omega, Reg.rdL] at hHE
    obtain ⟨r1, r2⟩ := res
    obtain ⟨hr1, hr2⟩ := hHE
    dsimp only at hr1 hr2
    rw [List.append_nil] at hr1
    subst hr1 hr2
    clear hE hI hBad
    repeat' (with_reducible first | refine Q1 ?_ | refine Qe ?_ | refine Ql ?_ | refine Q2 ?_ | refine Qs ?_ | refine Q4 ?_ | (refine al_go ?_; intro b) | (refine Qa ?_; intro o' ho') | (refine Qp ?_; intro o' ho') | refine Q5 ?_ | (refine Q3a ?_; intro hb; try intro hb1) | (refine Q3b ?_; intro hb; try intro hb1) | (refine Q3 ?_ ?_ <;> intro hb <;> try intro hb1) | fail)
    all_goals exact Qret
end Go.Proofs.YtgcienlfpnpbgaaGreat
end

section
namespace Go.Proofs.YtgcienlfpnpbgaaGreat
set_option linter.unusedSimpArgs false
attribute [local push_cast] encB encI RS.cells V.cells_mk V.cells_len Nat.mul_one Int.sub_zero List.map_nil beq_self_eq_true bne_self_eq_false List.head?_cons
open Go.RowKit B
set_option maxRecDepth 10000
set_option maxHeartbeats 8000000
namespace Reg
theorem rdL_len {α : Type} (f : RS → α × RS) : ∀ (n : Nat) (s : RS), (rdL f n s).1.length ≤ n
  | 0, s => Nat.le_refl _
  | n + 1, s => by
    rw [rdL]
    split
    · exact Nat.zero_le _
    · rw [List.length_cons]
      have := rdL_len f n (f s).2
      omega
theorem rlist_len {α : Type} (f : RS → α × RS) (k : Int) (s : RS) : (rlist f k s).1.length ≤ k.toNat := by
  unfold rlist
  have := rdL_len f (if k < s.rnum.1 then k else s.rnum.1).toNat s.rnum.2
  split at this <;> split <;> omega
def get (b : List UInt8) : Option (List Tm) := if (read ⟨.shared, b, false⟩).1.isSome = true ∧ (read ⟨.shared, b, false⟩).2.bad = false ∧ (read ⟨.shared, b, false⟩).2.l.length = 0 then (read ⟨.shared, b, false⟩).1 else none
end Reg
theorem cloneB2F (o : Own) (l : List UInt8) (hl : l.length ≤ 10000000) (st : St) : TrF Tryz.prog 72 [.sl o (l.map encB)] st fun d st' => d = .sl .shared (l.map encB) ∧ st' = st := by
  refine Qin [2] Tryz.func72 Tryz.results72 Tryz.ntmps72 ?_
  refine tr_room 5 1 0 ?_
  repeat' (first | (with_reducible first | refine Q1 ?_ | refine Qe ?_ | fail) | ((with_reducible apply s_isNil); (focus ((try simp (disch := omega) only [push_cast, simprocAttr, *]); (try exact rfl); done)); (focus ((try simp (disch := omega) only [push_cast, simprocAttr, *]); (try exact rfl); done)); intro bn hbn) | (with_reducible first | refine Ql ?_ | refine Q2 ?_ | refine Qs ?_ | refine Q4 ?_ | (refine al_go ?_; intro b) | (refine Qa ?_; intro o' ho') | (refine Qp ?_; intro o' ho') | refine Q5 ?_ | (refine Q3a ?_; intro hb; try intro hb1) | (refine Q3b ?_; intro hb; try intro hb1) | (refine Q3 ?_ ?_ <;> intro hb <;> try intro hb1) | fail) | fail)
  · have h := hbn hb
    rw [h]
    clear hbn hb h
    exact Qret
  · exact Qret
theorem binRead2F (o : Own) (l : List UInt8) (hl : l.length ≤ 10000000) (st : St) : TrF Tryz.prog 27 [.sl o (l.map encB)] st fun d st' => ∃ b, d = .ptr b 0 ∧ st' = rdR b ⟨.shared, l, false⟩ :: st := by
  have hC := Lib.hid (cloneB2F o l hl)
  refine Qin [2] Tryz.func27 Tryz.results27 Tryz.ntmps27 ?_
  repeat' (first | (with_reducible first | refine Q1 ?_ | refine Qe ?_ | refine s_boxP ?_ | refine Ql ?_ | refine Q2 ?_ | refine Qs ?_ | refine Q4 ?_ | (refine al_go ?_; intro b) | fail) | refine Qc Tryz.call72 (hC.out _) ?_ | (with_reducible first | (refine Qa ?_; intro o' ho') | (refine Qp ?_; intro o' ho') | refine Q5 ?_ | (refine Q3a ?_; intro hb; try intro hb1) | (refine Q3b ?_; intro hb; try intro hb1) | (refine Q3 ?_ ?_ <;> intro hb <;> try intro hb1) | fail) | fail)
  refine ret_new (b := b) (B := fun b => rdR b ⟨.shared, l, false⟩) (by first | exact .inl rfl | exact .inr rfl) (Qf) (Qf) (.refl _)
theorem regReadF (rb : Nat) (s : RS) (hL : ∀ t ∈ (Reg.rlist Reg.getTm 7 s).1, TOk t) (st : St) : TrF Tryz.prog 28 [.ptr rb 0] (rdR rb s :: st) fun x st' => x = .tup [.sl .shared (((Reg.read s).1.getD []).map Tm.cells), .b (Reg.read s).1.isSome] ∧ st' = rdR rb (Reg.read s).2 :: st := by
  have hR := regReadTmF rb s
  have hT := regRightF _ hL (by have := Reg.rlist_len Reg.getTm 7 s; omega)
  have hB := rdBadF rb (Reg.rlist Reg.getTm 7 s).2
  unfold Reg.read
  clear hL
  generalize Reg.rlist Reg.getTm 7 s = q at *
  obtain ⟨L, s2⟩ := q
  dsimp only at *
  obtain ⟨LS, hLS⟩ : ∃ LS, L.map Tm.cells = LS := ⟨_, rfl⟩
  rw [hLS] at hR hT
  generalize Reg.right L = q at *
  obtain ⟨bd, hbd⟩ : ∃ b, s2.bad = b := ⟨_, rfl⟩
  rw [hbd] at hB ⊢
  replace hR := Lib.hid hR
  replace hT := Lib.hid hT
  replace hB := Lib.hid hB
  cases bd with
  | true =>
    rw [if_pos (.inl rfl)]
    dsimp only [Option.getD, Option.isSome]
    clear hLS
    refine Qin [2,3] Tryz.func28 Tryz.results28 Tryz.ntmps28 ?_
    repeat' (first | (with_reducible first | refine Q1 ?_ | refine Qe ?_ | refine Ql ?_ | refine Q2 ?_ | refine Qs ?_ | refine Q4 ?_ | (refine al_go ?_; intro b) | fail) | refine QR Tryz.call73 hR.out ?_ | refine QR Tryz.call80 hB.out ?_ | refine Qc Tryz.call16 (hT.out _) ?_ | (with_reducible first | refine Q5 ?_ | (refine Q3a ?_; intro hb; try intro hb1) | (refine Q3b ?_; intro hb; try intro hb1) | (refine Q3 ?_ ?_ <;> intro hb <;> try intro hb1) | fail) | fail)
    all_goals exact Qret
  | false =>
    cases q with
    | false =>
      rw [if_pos (.inr rfl)]
      dsimp only [Option.getD, Option.isSome]
      clear hLS
      refine Qin [2,3] Tryz.func28 Tryz.results28 Tryz.ntmps28 ?_
      repeat' (first | (with_reducible first | refine Q1 ?_ | refine Qe ?_ | refine Ql ?_ | refine Q2 ?_ | refine Qs ?_ | refine Q4 ?_ | (refine al_go ?_; intro b) | fail) | refine QR Tryz.call73 hR.out ?_ | refine QR Tryz.call80 hB.out ?_ | refine Qc Tryz.call16 (hT.out _) ?_ | (with_reducible first | refine Q5 ?_ | (refine Q3a ?_; intro hb; try intro hb1) | (refine Q3b ?_; intro hb; try intro hb1) | (refine Q3 ?_ ?_ <;> intro hb <;> try intro hb1) | fail) | fail)
      all_goals exact Qret
    | true =>
      rw [if_neg (by rintro (h | h) <;> cases h)]
      dsimp only [Option.getD, Option.isSome]
      rw [hLS]
      clear hLS
      refine Qin [2,3] Tryz.func28 Tryz.results28 Tryz.ntmps28 ?_
      repeat' (first | (with_reducible first | refine Q1 ?_ | refine Qe ?_ | refine Ql ?_ | refine Q2 ?_ | refine Qs ?_ | refine Q4 ?_ | (refine al_go ?_; intro b) | fail) | refine QR Tryz.call73 hR.out ?_ | refine QR Tryz.call80 hB.out ?_ | refine Qc Tryz.call16 (hT.out _) ?_ | (with_reducible first | refine Q5 ?_ | (refine Q3a ?_; intro hb; try intro hb1) | (refine Q3b ?_; intro hb; try intro hb1) | (refine Q3 ?_ ?_ <;> intro hb <;> try intro hb1) | fail) | fail)
      all_goals exact Qret
theorem regGetF (o : Own) (l : List UInt8) (hl : l.length ≤ 10000000) (hL : ∀ t ∈ (Reg.rlist Reg.getTm 7 ⟨.shared, l, false⟩).1, TOk t) (st : St) : TrF Tryz.prog 25 [.sl o (l.map encB)] st fun x st' => x = .tup [.sl .shared (((Reg.get l).getD []).map Tm.cells), .b (Reg.get l).isSome] ∧ st' = st := by
  have hR := binRead2F o l hl
  have hG := fun rb => regReadF rb ⟨.shared, l, false⟩ hL
  have hD := fun rb => rdDoneF rb (Reg.read ⟨.shared, l, false⟩).2
  unfold Reg.get
  clear hL
  generalize Reg.read ⟨.shared, l, false⟩ = q at *
  obtain ⟨m, s2⟩ := q
  dsimp only at *
  replace hR := Lib.hid hR
  replace hG := Lib.hid hG
  cases m with
  | none =>
    rw [if_neg (fun h => by cases h.1)]
    dsimp only [Option.getD, Option.isSome] at *
    replace hD := Lib.hid hD
    refine Qin [2,3] Tryz.func25 Tryz.results25 Tryz.ntmps25 ?_
    repeat' (first | (with_reducible first | refine Q1 ?_ | refine Qe ?_ | refine Ql ?_ | refine Q2 ?_ | refine Qs ?_ | refine Q4 ?_ | (refine al_go ?_; intro b) | fail) | (refine QN Tryz.call27 (hR.out _) ?_; intro rb) | refine QR Tryz.call28 ((hG.out _)) ?_ | refine QR Tryz.call45 ((hD.out _)) ?_ | (with_reducible first | (refine Qa ?_; intro o' ho') | (refine Qp ?_; intro o' ho') | refine Q5 ?_ | (refine Q3a ?_; intro hb; try intro hb1) | (refine Q3b ?_; intro hb; try intro hb1) | (refine Q3 ?_ ?_ <;> intro hb <;> try intro hb1) | fail) | fail)
    all_goals exact Qret
  | some L =>
    dsimp only [Option.getD, Option.isSome] at hG
    obtain ⟨LS, hLS⟩ : ∃ LS, L.map Tm.cells = LS := ⟨_, rfl⟩
    rw [hLS] at hG
    by_cases h : s2.bad = false ∧ s2.l.length = 0
    · rw [if_pos ⟨rfl, h⟩]
      dsimp only [Option.getD, Option.isSome]
      rw [hLS]
      clear hLS
      rw [show (!s2.bad && decide (s2.l.length = 0)) = true by rw [h.1, decide_eq_true h.2]; rfl] at hD
      replace hD := Lib.hid hD
      clear h
      refine Qin [2,3] Tryz.func25 Tryz.results25 Tryz.ntmps25 ?_
      repeat' (first | (with_reducible first | refine Q1 ?_ | refine Qe ?_ | refine Ql ?_ | refine Q2 ?_ | refine Qs ?_ | refine Q4 ?_ | (refine al_go ?_; intro b) | fail) | (refine QN Tryz.call27 (hR.out _) ?_; intro rb) | refine QR Tryz.call28 ((hG.out _)) ?_ | refine QR Tryz.call45 ((hD.out _)) ?_ | (with_reducible first | (refine Qa ?_; intro o' ho') | (refine Qp ?_; intro o' ho') | refine Q5 ?_ | (refine Q3a ?_; intro hb; try intro hb1) | (refine Q3b ?_; intro hb; try intro hb1) | (refine Q3 ?_ ?_ <;> intro hb <;> try intro hb1) | fail) | fail)
      all_goals exact Qret
    · rw [if_neg (fun k => h k.2)]
      dsimp only [Option.getD, Option.isSome]
      clear hLS
      rw [show (!s2.bad && decide (s2.l.length = 0)) = false by
        by_cases hb : s2.bad = false
        · rw [hb, decide_eq_false fun k => h ⟨hb, k⟩]; rfl
        · rw [show s2.bad = true by cases hq : s2.bad with | false => exact absurd hq hb | true => rfl]; rfl] at hD
      replace hD := Lib.hid hD
      clear h
      refine Qin [2,3] Tryz.func25 Tryz.results25 Tryz.ntmps25 ?_
      repeat' (first | (with_reducible first | refine Q1 ?_ | refine Qe ?_ | refine Ql ?_ | refine Q2 ?_ | refine Qs ?_ | refine Q4 ?_ | (refine al_go ?_; intro b) | fail) | (refine QN Tryz.call27 (hR.out _) ?_; intro rb) | refine QR Tryz.call28 ((hG.out _)) ?_ | refine QR Tryz.call45 ((hD.out _)) ?_ | (with_reducible first | (refine Qa ?_; intro o' ho') | (refine Qp ?_; intro o' ho') | refine Q5 ?_ | (refine Q3a ?_; intro hb; try intro hb1) | (refine Q3b ?_; intro hb; try intro hb1) | (refine Q3 ?_ ?_ <;> intro hb <;> try intro hb1) | fail) | fail)
      all_goals exact Qret
end Go.Proofs.YtgcienlfpnpbgaaGreat
end

section
namespace Go.Proofs.YtgcienlfpnpbgaaGreat
set_option linter.unusedSimpArgs false
open Go.RowKit B
namespace B
theorem fold_num : ∀ (l : List UInt8) (a : Nat), l.foldl (fun n c => n * 256 + c.toNat) a = a * 256 ^ l.length + num l
  | [], a => by simp [num]
  | c :: l, a => by
    have h1 := fold_num l (a * 256 + c.toNat)
    have h2 := fold_num l (0 * 256 + c.toNat)
    unfold num
    rw [List.foldl_cons, List.foldl_cons, h1, h2, List.length_cons, Nat.pow_succ, Nat.zero_mul, Nat.zero_add, Nat.add_mul, Nat.mul_assoc, Nat.mul_comm 256 (256 ^ l.length)]
    omega
theorem num_cons (c : UInt8) (l : List UInt8) : num (c :: l) = c.toNat * 256 ^ l.length + num l := by
  have := fold_num l (0 * 256 + c.toNat)
  rw [Nat.zero_mul, Nat.zero_add] at this
  rw [← this]; unfold num; rw [List.foldl_cons, Nat.zero_mul, Nat.zero_add]
theorem num_be : ∀ m x, num (be m x) = x % 256 ^ m
  | 0, x => by simp [be, num, Nat.mod_one]
  | m + 1, x => by
    rw [be, num_cons, be_len, num_be m x, UInt8.toNat_ofNat', show 256 ^ (m + 1) = 256 ^ m * 256 from Nat.pow_succ .., Nat.mod_mul (x := x) (a := 256 ^ m) (b := 256), Nat.mul_comm, Nat.add_comm]
end B
namespace RS
theorem byte_cons (o : Own) (c : UInt8) (l : List UInt8) : byte ⟨o, c :: l, false⟩ = ((c.toNat : Int), (⟨.shared, l, false⟩ : RS)) := rfl
theorem rnum_be (o : Own) (n : Nat) (hn : n ≤ 2147483647) (l : List UInt8) : rnum ⟨o, be 4 n ++ l, false⟩ = ((n : Int), (⟨.shared, l, false⟩ : RS)) := by
  have h4 := be_len 4 n
  unfold rnum
  dsimp only
  rw [if_neg (by rw [List.length_append, h4]; simp <;> omega), show (be 4 n ++ l).take 4 = be 4 n from List.take_left' h4, num_be]
  have : n % 256 ^ 4 = n := Nat.mod_eq_of_lt (by omega)
  rw [this, if_pos hn]
  unfold cut
  dsimp only
  rw [show (be 4 n ++ l).drop 4 = l from List.drop_left' h4]
theorem wrap_wrap (m : Int) (hm : -9223372036854775808 ≤ m ∧ m ≤ 9223372036854775807) : IntKind.i64.wrap ((IntKind.u64.wrap m).toNat : Int) = m := by
  simp [IntKind.wrap, IntKind.bits, IntKind.signed]; omega
theorem long_be (o : Own) (m : Int) (hm : -9223372036854775808 ≤ m ∧ m ≤ 9223372036854775807) (l : List UInt8) : long ⟨o, be 8 (IntKind.u64.wrap m).toNat ++ l, false⟩ = (m, (⟨.shared, l, false⟩ : RS)) := by
  have h8 := be_len 8 (IntKind.u64.wrap m).toNat
  unfold long
  dsimp only
  rw [if_neg (by rw [List.length_append, h8]; simp <;> omega), show (be 8 (IntKind.u64.wrap m).toNat ++ l).take 8 = be 8 (IntKind.u64.wrap m).toNat from List.take_left' h8, num_be]
  have : (IntKind.u64.wrap m).toNat % 256 ^ 8 = (IntKind.u64.wrap m).toNat := Nat.mod_eq_of_lt (by simp [IntKind.wrap, IntKind.bits, IntKind.signed] <;> omega)
  rw [this, wrap_wrap m hm]
  unfold cut
  dsimp only
  rw [show (be 8 (IntKind.u64.wrap m).toNat ++ l).drop 8 = l from List.drop_left' h8]
theorem text_tx (o : Own) (s : ByteArray) (hs : s.size ≤ 2147483647) (l : List UInt8) : text ⟨o, tx s.data.toList ++ l, false⟩ = (s, (⟨.shared, l, false⟩ : RS)) := by
  have hl : s.data.toList.length = s.size := by simp
  unfold text tx
  rw [List.append_assoc, hl, rnum_be o s.size hs]
  unfold textN
  dsimp only
  rw [if_neg (by rw [List.length_append, hl]; simp <;> omega), Int.toNat_natCast]
  unfold cut
  dsimp only
  rw [show (s.data.toList ++ l).take s.size = s.data.toList from List.take_left' hl, show (s.data.toList ++ l).drop s.size = l from List.drop_left' hl]
theorem vals_put {f : RS → V × RS} (l0 : List UInt8) : ∀ (l : List V), (∀ x ∈ l, ∀ r, f ⟨.shared, x.put ++ r, false⟩ = (x, ⟨.shared, r, false⟩)) → vals f l.length ⟨.shared, V.putL l ++ l0, false⟩ = (l, ⟨.shared, l0, false⟩)
  | [], _ => by simp [vals, V.putL]
  | x :: l, h => by
    rw [List.length_cons, vals, if_neg (by simp), V.putL, List.append_assoc, h x (List.mem_cons_self ..)]
    dsimp only
    rw [vals_put l0 l fun y hy => h y (List.mem_cons_of_mem _ hy)]
theorem empty_of {s : ByteArray} (h : s.size = 0) : s = ⟨#[]⟩ := by
  apply ByteArray.ext
  apply Array.ext'
  have : s.data.toList.length = s.size := by simp
  exact List.eq_nil_of_length_eq_zero (by omega)
theorem deepL_mem {x : V} : ∀ {l : List V}, x ∈ l → x.deep ≤ V.deepL l
  | y :: l, h => by
    rw [V.deepL]
    rcases List.mem_cons.1 h with rfl | h
    · omega
    · have := deepL_mem h; omega
theorem value_put : ∀ (d : Nat) (v : V), v.parts = true → v.deep ≤ d → v.Ok → ∀ (o : Own) (r : List UInt8), value d ⟨o, v.put ++ r, false⟩ = (v, (⟨.shared, r, false⟩ : RS)) := fun d => by
  induction d using Nat.strongRecOn with
  | _ d IH =>
  intro v
  cases v with
  | mk k n s l =>
  intro hp hd hok o r
  obtain ⟨-, hkn, -, -, hall⟩ := hok
  obtain ⟨h1, h2, h3⟩ := V.parts_facts hp
  obtain ⟨f1, f2, f3, f4, f5, f6⟩ := V.sgl_facts h1
  have hsub : value d = body (match d with | 0 => none | e + 1 => some (value e)) := by cases d <;> rfl
  rw [hsub, V.put, List.cons_append]
  have hkb : ((UInt8.ofNat k.toNat).toNat : Int) = k := by rw [UInt8.toNat_ofNat']; omega
  unfold body
  rw [byte_cons, hkb]
  dsimp only
  have hse : k ≠ 3 ∧ k ≠ 4 → s = ⟨#[]⟩ := fun h => empty_of (f5 h)
  have hle : k ≠ 5 → l = [] := fun h => h2.resolve_left h
  have hn0 : k ≠ 1 ∧ k ≠ 2 → n = 0 := fun h => by
    unfold V.sgl at h1
    by_cases k0 : k = 0
    · subst k0; simp at h1; exact h1.1
    rw [if_neg k0, if_neg h.1, if_neg h.2] at h1
    by_cases k3 : k = 3
    · subst k3; simp at h1; exact h1.1
    rw [if_neg k3] at h1
    by_cases k4 : k = 4
    · subst k4; simp at h1; exact h1.1
    rw [if_neg k4] at h1
    by_cases k5 : k = 5
    · subst k5; simp at h1; exact h1.1
    rw [if_neg k5] at h1; cases h1
  by_cases k1 : k = 1
  · subst k1
    have hn := f3 (by omega)
    have hnb : ((UInt8.ofNat n.toNat).toNat : Int) = n := by rw [UInt8.toNat_ofNat']; omega
    rw [if_pos rfl, if_pos rfl, List.singleton_append, byte_cons, hnb, hse (by omega), hle (by omega)]
  rw [if_neg k1, if_neg k1]
  by_cases k2 : k = 2
  · subst k2
    rw [if_pos rfl, if_pos rfl, long_be _ n hkn, hse (by omega), hle (by omega)]
  rw [if_neg k2, if_neg k2]
  by_cases k34 : k = 3 ∨ k = 4
  · rw [if_pos k34, if_pos k34, text_tx _ s (by omega), hn0 (by omega), hle (by omega)]
  rw [if_neg k34, if_neg k34]
  by_cases k5 : k = 5
  · subst k5
    rw [if_pos rfl, if_pos rfl, List.append_assoc, rnum_be _ l.length (by have := f6 rfl; omega)]
    dsimp only
    rw [V.deep, if_pos (.inl rfl)] at hd
    obtain ⟨e, rfl⟩ : ∃ e, d = e + 1 := ⟨d - 1, by omega⟩
    unfold list5
    dsimp only
    rw [if_neg (by have := f6 rfl; omega), Int.toNat_natCast, vals_put r l fun x hx r => IH e (by omega) x (h3 x hx) (by
      have := deepL_mem hx
      omega) (hall x hx) _ r, hn0 (by omega), hse (by omega)]
  · rw [if_neg k5, if_neg k5, List.nil_append, hn0 (by omega), hse (by omega), hle k5]
theorem val_put {v : V} (hr : v.right = true) (hok : v.Ok) (o : Own) (r : List UInt8) : val ⟨o, v.put ++ r, false⟩ = (v, (⟨.shared, r, false⟩ : RS)) := by
  obtain ⟨h1, h2, h3⟩ := V.right_iff.1 hr
  unfold val
  rw [if_neg (by simp), value_put 4 v h1 h2 hok, if_neg (by simp [hr])]
end RS
end Go.Proofs.YtgcienlfpnpbgaaGreat
end

section
namespace Go.Proofs.YtgcienlfpnpbgaaGreat
set_option linter.unusedSimpArgs false
open Go.RowKit B
namespace RS
def Ex {α : Type} (f : RS → α × RS) : Prop := ∀ o l x o' r, f ⟨o, l, false⟩ = (x, ⟨o', r, false⟩) → ∀ q, f ⟨o, l ++ q, false⟩ = (x, ⟨o', r ++ q, false⟩)
def Bd {α : Type} (f : RS → α × RS) : Prop := ∀ s, s.bad = true → (f s).2.bad = true
end RS
end Go.Proofs.YtgcienlfpnpbgaaGreat
end

section
namespace Go.Proofs.YtgcienlfpnpbgaaGreat
set_option linter.unusedSimpArgs false
open Go.RowKit
namespace Sch
def cut (t : Tm) (k : Nat) : Tm := ⟨t.name, t.slots, t.steps.take k⟩
theorem last_len {t : Tm} (h : 0 < last t) : (vers t).length = t.steps.length + 1 ∧ last t = t.steps.length + 1 := by
  unfold last at h ⊢
  split at h
  · rename_i hl
    rw [if_pos hl]; exact ⟨hl, rfl⟩
  · omega
theorem modify_get {α : Type} {l : List α} {f : α → α} {i j : Nat} {y : α} (h : l[j]? = some y) : (l.modify i f)[j]? = some (if i = j then f y else y) := by
  rw [List.getElem?_modify, h]
  split <;> rfl
end Sch
end Go.Proofs.YtgcienlfpnpbgaaGreat
end

section
namespace Go.Proofs.YtgcienlfpnpbgaaGreat
set_option linter.unusedSimpArgs false
attribute [local push_cast] encB encI V.cells_mk V.cells_take V.cells_len Nat.mul_one Int.sub_zero
open Go.RowKit
set_option maxRecDepth 10000
set_option maxHeartbeats 4000000
theorem refNodesF (v : V) (hok : v.Ok) (hn : v.nodes ≤ 1000) (hd : v.deep ≤ 1000) (st : St) : TrF Tryz.prog 189 [.agg v.cells] st fun x st' => x = .i v.nodes ∧ st' = st := by
  have hC := refCountF v.nodes v (Nat.le_refl _) hok 1001 1000 (by omega) (by omega) (by omega) (by omega)
  rw [V.cnt_all v 1001 1000 (by omega) (by omega)] at hC
  cases v with
  | mk k n s l =>
  rw [V.cells_mk] at *
  replace hC := Lib.hid hC
  generalize (V.mk k n s l).nodes = q at *
  refine Qin [2] Tryz.func189 Tryz.results189 Tryz.ntmps189 ?_
  repeat' (first | (with_reducible first | refine Q1 ?_ | refine Qe ?_ | refine Ql ?_ | refine Q2 ?_ | refine Qs ?_ | refine Q4 ?_ | (refine al_go ?_; intro b) | fail) | refine Qc Tryz.call174 (hC.out _) ?_ | (with_reducible first | refine Q5 ?_ | (refine Q3a ?_; intro hb; try intro hb1) | (refine Q3b ?_; intro hb; try intro hb1) | (refine Q3 ?_ ?_ <;> intro hb <;> try intro hb1) | fail) | fail)
  all_goals (refine Qret (hd := ?_); (try simp (disch := omega) only [push_cast, simprocAttr, *]); try (first | exact LE.refl _ | exact LE.sl _ _ | ((first | refine LE.tup ?_ | refine LE.agg ?_); (repeat' (first | exact LEL.nil | refine LEL.cons ?_ ?_ | exact LE.refl _ | exact LE.sl _ _ | refine LE.agg ?_)); done) | refine LE.of_eq ?_))
  exact congrArg D.i (by omega)
theorem refRightF (v : V) (hok : v.Ok) (hn : v.nodes ≤ 1000) (hd : v.deep ≤ 1000) (st : St) : TrF Tryz.prog 156 [.agg v.cells] st fun x st' => x = .b v.right ∧ st' = st := by
  have hE := refEachF v.nodes v (Nat.le_refl _)
  have hD := refDeepF v.nodes v (Nat.le_refl _) (by omega)
  have hN := refNodesF v hok hn hd
  unfold V.right
  cases v with
  | mk k n s l =>
  rw [V.cells_mk] at *
  replace hE := Lib.hid hE
  replace hD := Lib.hid hD
  replace hN := Lib.hid hN
  generalize (V.mk k n s l).nodes = nn at *
  generalize (V.mk k n s l).deep = dd at *
  generalize (V.mk k n s l).parts = p at *
  refine Qin [2] Tryz.func156 Tryz.results156 Tryz.ntmps156 ?_
  repeat' (first | (with_reducible first | refine Q1 ?_ | refine Qe ?_ | refine Ql ?_ | refine Q2 ?_ | refine Qs ?_ | refine Q4 ?_ | (refine al_go ?_; intro b) | fail) | refine Qc Tryz.call188 (hE.out _) ?_ | refine Qc Tryz.call175 (hD.out _) ?_ | refine Qc Tryz.call189 (hN.out _) ?_ | (with_reducible first | refine Q5 ?_ | (refine Q3a ?_; intro hb; try intro hb1) | (refine Q3b ?_; intro hb; try intro hb1) | (refine Q3 ?_ ?_ <;> intro hb <;> try intro hb1) | fail) | fail)
  all_goals (refine Qret (hd := ?_); (try simp (disch := omega) only [push_cast, simprocAttr, *]); try (first | exact LE.refl _ | exact LE.sl _ _ | ((first | refine LE.tup ?_ | refine LE.agg ?_); (repeat' (first | exact LEL.nil | refine LEL.cons ?_ ?_ | exact LE.refl _ | exact LE.sl _ _ | refine LE.agg ?_)); done) | refine LE.of_eq ?_))
  all_goals (cases p <;> (first | rfl | (refine congrArg D.b ?_; rw [Bool.eq_iff_iff]; simp only [Bool.true_and, Bool.false_and, Bool.and_true, Bool.and_false, Bool.or_false, Bool.or_true, Bool.true_or, Bool.false_or, true_and, and_true, Bool.not_eq_true', Bool.not_eq_false', decide_eq_true_eq, decide_eq_false_iff_not, beq_iff_eq, beq_eq_false_iff_ne, bne_iff_ne, ne_eq, reduceCtorEq, iff_true, true_iff, iff_false, false_iff, Bool.and_eq_true, Bool.or_eq_true, Bool.false_eq_true, Bool.true_eq_false]; first | done | omega)))
end Go.Proofs.YtgcienlfpnpbgaaGreat
end
