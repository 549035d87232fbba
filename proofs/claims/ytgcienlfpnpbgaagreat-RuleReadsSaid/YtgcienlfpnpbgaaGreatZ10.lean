/- Texts put together. No statement is proved here. -/
import Derived.Test.YtgcienlfpnpbgaaGreatZ9
set_option linter.all false
set_option maxRecDepth 10000
set_option maxHeartbeats 8000000
namespace Go.Proofs.YtgcienlfpnpbgaaGreat
open Go.RowKit
section
attribute [local push_cast] encB encI encC V.cells_mk V.cells_len Nat.mul_one Int.sub_zero List.map_nil beq_self_eq_true List.head?_cons
structure TQ (t : Tm) : Prop where
 ls : t.slots.length ≤ 1000
 lt : t.steps.length ≤ 1000
 os : ∀ s ∈ t.slots, VQ s.dv ∧ (-9223372036854775808 ≤ s.types ∧ s.types ≤ 9223372036854775807)
 ot : ∀ s ∈ t.steps, VQ s.slot.dv ∧ (-9223372036854775808 ≤ s.slot.types ∧ s.slot.types ≤ 9223372036854775807) ∧ s.order.length ≤ 1000
def Sch.refVers (t : Tm) : List Vr := if 0 < Sch.last t then Sch.vers t else []
theorem refStepR_ex (x : Vr) (s : Stp) (st : St) : ∃ d st', RefStepR x s st d st' := by
 unfold RefStepR
 cases h : Sch.stepV x s with
 | none => exact ⟨_, _, .inl ⟨rfl, [], [], rfl, rfl⟩⟩
 | some y => exact ⟨_, _, .inr ⟨y, rfl, rfl, rfl⟩⟩
theorem Vr.cells_leaf (x : Vr) : ∀ d ∈ x.cells, d.leaf = true := by
 intro d hd
 unfold Vr.cells at hd
 simp only [List.mem_cons, List.not_mem_nil, or_false] at hd
 rcases hd with rfl | rfl <;> rfl
theorem refVersF (t : Tm) (ht : TQ t) (st : St) : TrF Tryz.prog 114 [.agg t.cells] st fun d st' => d = .sl .shared ((Sch.refVers t).map Vr.cells) ∧ st' = st := by
 have hN := Lib.hid (refIsNameF t.name)
 have hF : Hid (Sch.firstV t = if V.isName t.name.data.toList = true ∧ 1 ≤ t.slots.length ∧ t.slots.length ≤ 8 ∧ t.steps.length ≤ 8 then Sch.firstL t.slots ⟨[], []⟩ else none) := rfl
 have hV : Hid (Sch.vers t = match Sch.firstV t with | none => [] | some x => x :: Sch.versL x t.steps) := rfl
 have hLs : Hid (Sch.last t = if (Sch.vers t).length = t.steps.length + 1 then t.steps.length + 1 else 0) := rfl
 have hz : Hid (∀ x, Sch.firstV t = some x → Sch.VZ 8 x) := fun x h => Sch.first_vz h
 obtain ⟨hls, hlt', hos, hot⟩ := ht
 unfold Sch.refVers
 generalize Sch.last t = LT at *
 generalize Sch.vers t = VS at *
 generalize Sch.firstV t = F at *
 cases t with
 | mk nm slots steps =>
 unfold Tm.cells
 dsimp only at hN hF hV hLs hls hlt' hos hot ⊢
 have hos2 := Lib.hid hos
 have hot2 := Lib.hid hot
 clear hos hot
 generalize V.isName nm.data.toList = qn at *
 have hcl := hMp Sl.cells slots
 have hcp := hMp Stp.cells steps
 have hml : (slots.map Sl.cells).length = slots.length := List.length_map ..
 have hmp : (steps.map Stp.cells).length = steps.length := List.length_map ..
 generalize slots.map Sl.cells = SL at *
 generalize steps.map Stp.cells = TL at *
 by_cases hc : qn = true ∧ 1 ≤ slots.length ∧ slots.length ≤ 8 ∧ steps.length ≤ 8
 case neg =>
  have hF2 : F = none := by rw [hF.out, if_neg hc]
  have hR : Hid ((if 0 < LT then VS else []) = []) := Lib.hid (by
   have h1 : VS = [] := by rw [hV.out, hF2]
   have h2 : LT = 0 := by rw [hLs.out, h1]; exact if_neg (by simp)
   rw [h2]; exact if_neg q_o)
  rw [hR.out]
  have hno : qn = false ∨ (qn = true ∧ (slots.length : Int) < 1) ∨ (qn = true ∧ 1 ≤ (slots.length : Int) ∧ 8 < (slots.length : Int)) ∨ (qn = true ∧ 1 ≤ (slots.length : Int) ∧ (slots.length : Int) ≤ 8 ∧ 8 < (steps.length : Int)) := by
   cases qn
   · exact .inl rfl
   · refine .inr ?_
     by_cases h1 : 1 ≤ slots.length
     · by_cases h2 : slots.length ≤ 8
       · by_cases h3 : steps.length ≤ 8
         · exact absurd ⟨rfl, h1, h2, h3⟩ hc
         · exact .inr (.inr ⟨rfl, by omega, by omega, by omega⟩)
       · exact .inr (.inl ⟨rfl, by omega, by omega⟩)
     · exact .inl ⟨rfl, by omega⟩
  clear hc hF hV hLs hz hF2 hR
  rcases hno with rfl | ⟨rfl, h1⟩ | ⟨rfl, h1, h2⟩ | ⟨rfl, h1, h2, h3⟩
  all_goals skip
  all_goals (
   refine Qin [2] Tryz.func114 Tryz.results114 Tryz.ntmps114 ?_
   exact WRa)
 case pos =>
  have hF2 : Hid (F = Sch.firstL slots ⟨[], []⟩) := Lib.hid (by rw [hF.out, if_pos hc])
  obtain ⟨rfl, h1, h2, h3⟩ := hc
  clear hF
  obtain ⟨B, hB⟩ : ∃ B, Sch.firstL slots ⟨[], []⟩ = B := ⟨_, rfl⟩
  have HB : Hid (Sch.firstL (slots.drop 0) ⟨[], []⟩ = B) := hB
  rw [hB] at hF2
  clear hB
  have hnone : Hid (B = none → (if 0 < LT then VS else []) = []) := fun h => by
   have h1 : VS = [] := by rw [hV.out, hF2.out, h]
   have h2 : LT = 0 := by rw [hLs.out, h1]; exact if_neg (by simp)
   rw [h2]; exact if_neg q_o
  generalize hRV : (if 0 < LT then VS else []) = RV at *
  replace hRV := Lib.hid hRV
  refine Qin [2] Tryz.func114 Tryz.results114 Tryz.ntmps114 ?_
  repeat' (first | refine QX ?_ | (refine QB ?_; intro b) | (refine QP ?_; intro o' ho') | (with_reducible refine QZ ?_ <;> (try constructor) <;> intro hb <;> try intro hb1) | fail)
  obtain ⟨b3, rfl⟩ : ∃ q, q = b := ⟨_, rfl⟩
  refine tr_loopd (ι := Nat) (fun i A st' => i ≤ slots.length ∧ A.df = [] ∧ A.e 1 = .ip [.str nm, .sl .shared SL, .sl .shared TL] ∧ A.e 3 = .ptr b3 0 ∧ A.e 4 = .i i ∧ ∃ x : Vr, x.slots.length = i ∧ x.cols.length = i ∧ (∀ c ∈ x.cols, c < x.slots.length) ∧ Hid (Sch.firstL (slots.drop i) x = B) ∧
   ((i = 0 ∧ x = ⟨[], []⟩ ∧ st' = .box b3 147 [.sl .tight [], .sl .tight []] :: st) ∨ (0 < i ∧ ∃ gs cS zS gc cC zC, (slotC x.slots ++ zS).length = cS * 7 ∧ (colC x.cols ++ zC).length = cC * 1 ∧ st' = .box gc 3 (colC x.cols ++ zC) :: .box gs 75 (slotC x.slots ++ zS) :: .box b3 147 [.ar gs 0 i cS, .ar gc 0 i cC] :: st))) (fun i => slots.length - i) 0 ⟨Nat.zero_le _, Qf, Qf, Qf, Qf, ⟨[], []⟩, rfl, rfl, (fun c h => by cases h), HB, .inl ⟨rfl, rfl, rfl⟩⟩ ?_
  rintro i A st' ⟨hi, hdf, e1, e3, e4, x, hxs, hxc, hxcs, HT, hcase⟩
  clear HB
  by_cases hlt : i < slots.length
  · obtain ⟨sl, hsl⟩ := gEx hlt
    have HE := HT.out
    rw [firstL_drop hsl] at HE
    clear HT
    obtain ⟨hq, hty⟩ := hos2.out sl (List.mem_of_getElem? hsl)
    have hS := refSoundF sl hq hty
    have hC := refColF x.slots x.cols sl.name q_o q_o hxcs []
    have hcl2 := hcl.out i sl hsl
    have hcs3 : Hid (∀ c ∈ x.cols ++ [x.slots.length], c < (x.slots ++ [sl]).length) := fun c hc => by
     rcases List.mem_append.1 hc with h | h
     · have := hxcs c h; simp; omega
     · rw [List.mem_singleton] at h
       subst h; simp
    clear hsl hq hty hxcs
    unfold Sch.col at HE
    have g1 := Lib.hid (slotC_add x.slots sl)
    have g2 := Lib.hid (colC_add x.cols x.slots.length)
    cases sl with
    | mk snm sty srq sdv =>
    cases sdv with
    | mk sk sn ss sL =>
    rw [Sl.cells_mk] at hS hcl2 g1
    dsimp only at hS hC HE g1
    generalize Sch.sound _ = q at *
    rcases hcase with ⟨rfl, hx0, rfl⟩ | ⟨hi0, gs, cS, zS, gc, cC, zC, hz1, hz2, rfl⟩
    · subst hx0
      dsimp only at hC HE g1 g2 hcs3
      rw [List.map_nil, List.map_nil] at hC
      rw [Sch.colL] at hC HE
      replace hS := Lib.hid hS
      replace hC := Lib.hid hC
      replace g1 := Lib.hid g1
      replace g2 := Lib.hid g2
      cases q with
      | false =>
       rw [if_neg (fun h => Bool.noConfusion h.1)] at HE
       have hRn := hnone.out HE.symm
       subst hRn
       clear HE
       repeat' (first | refine QV ?_ | ((with_reducible refine QW ?_); intro hne; simp only [nes, ne1, and_assoc] at hne; repeat (have hq := hne.1; replace hne := hne.2)) | refine QY ?_ | (refine QB ?_; intro b) | (refine QP ?_; intro o' ho') | (with_reducible refine QZ ?_ <;> (try constructor) <;> intro hb <;> try intro hb1) | ((with_reducible apply (ck_lend Tryz.call163)); (focus exact hC.out); (focus exact ⟨Lend.agg ⟨Lend.sl _ _, Lend.sl _ _, trivial⟩, Lend.refl _, trivial⟩)) | fail)
       all_goals exact Qret
      | true =>
       rw [if_pos ⟨rfl, by decide⟩] at HE
       replace HE := Lib.hid HE
       repeat' (first | refine QV ?_ | ((with_reducible refine QW ?_); intro hne; simp only [nes, ne1, and_assoc] at hne; repeat (have hq := hne.1; replace hne := hne.2)) | ((with_reducible apply (w_drawN [(b3, [.sl .tight [], .sl .tight []])])); (iterate 3 (focus kernel_rfl)); (focus exact q_k); intro hne; simp only [nes, ne1, and_assoc] at hne; repeat (have hq := hne.1; replace hne := hne.2)) | ((with_reducible refine And.intro ?_ ?_); (focus exact q_k)) | with_reducible refine s_appN ?_ | with_reducible refine rn_go ?_ | ((with_reducible apply rn2_go); (focus exact q_n); (focus exact len_one rfl); (focus exact q_n); (focus exact q_n); intro g' c' z' hc' hl') | refine QY ?_ | (refine QB ?_; intro b) | (refine QP ?_; intro o' ho') | (with_reducible refine QZ ?_ <;> (try constructor) <;> intro hb <;> try intro hb1) | ((with_reducible apply (ck_lend Tryz.call163)); (focus exact hC.out); (focus exact ⟨Lend.agg ⟨Lend.sl _ _, Lend.sl _ _, trivial⟩, Lend.refl _, trivial⟩)) | fail)
       rename_i gs' cS' zS' hcs' hls'
       refine ⟨1, .box g' 3 ([[D.i 0]].flatten ++ z') :: .box gs' 75 ([[.str snm, .i sty, .b srq, .i sk, .i sn, .str ss, .sl .shared (sL.map V.cells)]].flatten ++ zS') :: .box b3 147 [.ar gs' 0 1 cS', .ar g' 0 1 c'] :: st, List.Sublist.refl _, ⟨hlt, ?_, ?_, ?_, ?_, ⟨[] ++ [.mk snm sty srq (.mk sk sn ss sL)], [] ++ [([] : List Sl).length]⟩, rfl, rfl, hcs3.out, HE, .inr ⟨Nat.zero_lt_one, gs', cS', zS', g', c', z', ?_, ?_, ?_⟩⟩, ?_⟩
       iterate 4 (focus exact Qf)
       · rw [show slotC ([] ++ [Sl.mk snm sty srq (.mk sk sn ss sL)]) = [(Sl.mk snm sty srq (.mk sk sn ss sL)).cells].flatten from rfl, Sl.cells_mk]
         exact hls'
       · exact hl'
       · rw [show slotC ([] ++ [Sl.mk snm sty srq (.mk sk sn ss sL)]) = [(Sl.mk snm sty srq (.mk sk sn ss sL)).cells].flatten from rfl, Sl.cells_mk]
         rfl
       · omega
    · have hr1 := slotC_len x.slots
      have hr2 := colC_len x.cols
      have e1 := Lib.hid (slots_each x.slots)
      have e2 := Lib.hid (cols_each x.cols)
      have f1 := Lib.hid (slotC_flat x)
      have f2 := Lib.hid (colC_flat x)
      have l1 : Hid ((x.slots.map Sl.cells).length = i) := Lib.hid (by rw [List.length_map, hxs])
      have l2 : Hid ((x.cols.map encC).length = i) := Lib.hid (by rw [List.length_map, hxc])
      rw [hxs] at hr1 HE g2
      rw [hxc] at hr2
      have hcs4 : Hid (∀ c ∈ x.cols ++ [i], c < (x.slots ++ [Sl.mk snm sty srq (.mk sk sn ss sL)]).length) := Lib.hid (by have := hcs3.out; rwa [hxs] at this)
      generalize Sch.colL x.slots snm x.cols = cv at *
      obtain ⟨S1, hS1⟩ : ∃ S1, slotC x.slots = S1 := ⟨_, rfl⟩
      obtain ⟨C1, hC1⟩ : ∃ C1, colC x.cols = C1 := ⟨_, rfl⟩
      rw [hS1] at hz1 hr1 f1 g1
      rw [hC1] at hz2 hr2 f2 g2
      rw [hS1, hC1]
      clear hS1 hC1
      generalize x.slots.map Sl.cells = L1 at *
      generalize x.cols.map encC = L2 at *
      replace hS := Lib.hid hS
      replace hC := Lib.hid hC
      by_cases hqc : q = true ∧ cv < 0
      · obtain ⟨rfl, hcv⟩ := hqc
        rw [if_pos ⟨rfl, hcv⟩] at HE
        replace HE := Lib.hid HE
        replace hxs := Lib.hid hxs
        replace hxc := Lib.hid hxc
        repeat' (first | refine QV ?_ | ((with_reducible apply (w_drawN [(b3, [.ar gs 0 i cS, .ar gc 0 i cC])])); (iterate 3 (focus kernel_rfl)); (focus exact q_k); intro hne; simp only [nes, ne1, and_assoc] at hne; repeat (have hq := hne.1; replace hne := hne.2)) | ((with_reducible refine And.intro ?_ ?_); (focus exact q_k)) | with_reducible refine s_appR ?_ | with_reducible refine rk_go ?_ | ((with_reducible apply (r2_go hr1 hz1)); (focus (intro g' cs'; repeat (first | exact ra_h | apply ra_t))); (focus exact len_one rfl); (focus exact q_n); (focus exact q_n); intro gs' cS' zS' hcs hls) | ((with_reducible apply (r2_go hr2 hz2)); (focus (intro g' cs'; repeat (first | exact ra_h | apply ra_t))); (focus exact len_one rfl); (focus exact q_n); (focus exact q_n); intro gc' cC' zC' hcc hlc) | refine QY ?_ | (refine QB ?_; intro b) | (refine QP ?_; intro o' ho') | (with_reducible refine QZ ?_ <;> (try constructor) <;> intro hb <;> try intro hb1) | ((with_reducible apply (ck_lend Tryz.call163)); (focus exact hC.out); (focus exact ⟨Lend.agg ⟨Lend.rowE q_m f1.out (by decide) e1.out l1.out, Lend.rowE q_m f2.out (by decide) e2.out l2.out, trivial⟩, Lend.refl _, trivial⟩)) | fail)
        refine ⟨i + 1, .box gc' 3 (C1 ++ [[D.i i]].flatten ++ zC') :: .box gs' 75 (S1 ++ [[.str snm, .i sty, .b srq, .i sk, .i sn, .str ss, .sl .shared (sL.map V.cells)]].flatten ++ zS') :: .box b3 147 [.ar gs' 0 (i + 1) cS', .ar gc' 0 (i + 1) cC'] :: st, List.Sublist.refl _, ⟨hlt, ?_, ?_, ?_, ?_, ⟨x.slots ++ [.mk snm sty srq (.mk sk sn ss sL)], x.cols ++ [i]⟩, ?_, ?_, hcs4.out, HE, .inr ⟨Nat.succ_pos _, gs', cS', zS', gc', cC', zC', ?_, ?_, ?_⟩⟩, ?_⟩
        iterate 4 (focus exact Qf)
        · rw [List.length_append, hxs.out]; rfl
        · rw [List.length_append, hxc.out]; rfl
        · rw [g1.out]; exact hls
        · rw [g2.out]; exact hlc
        · rw [g1.out, g2.out]
        · omega
      · rw [if_neg hqc] at HE
        have hRn := hnone.out HE.symm
        subst hRn
        clear HE
        have hno : q = false ∨ (q = true ∧ 0 ≤ cv) := by
         cases q
         · exact .inl rfl
         · exact .inr ⟨rfl, by
            have : ¬ cv < 0 := fun h => hqc ⟨rfl, h⟩
            omega⟩
        clear hqc
        rcases hno with rfl | ⟨rfl, hcv⟩
        all_goals skip
        all_goals (
         repeat' (first | refine QV ?_ | ((with_reducible refine QW ?_); intro hne; simp only [nes, ne1, and_assoc] at hne; repeat (have hq := hne.1; replace hne := hne.2)) | refine QY ?_ | (refine QB ?_; intro b) | (refine QP ?_; intro o' ho') | (with_reducible refine QZ ?_ <;> (try constructor) <;> intro hb <;> try intro hb1) | ((with_reducible apply (ck_lend Tryz.call163)); (focus exact hC.out); (focus exact ⟨Lend.agg ⟨Lend.rowE q_m f1.out (by decide) e1.out l1.out, Lend.rowE q_m f2.out (by decide) e2.out l2.out, trivial⟩, Lend.refl _, trivial⟩)) | fail)
         all_goals exact Qret)
  · have HE := HT.out
    rw [List.drop_of_length_le q_o, Sch.firstL] at HE
    clear HT
    rcases hcase with ⟨rfl, hx0, rfl⟩ | ⟨hi0, gs, cS, zS, gc, cC, zC, hz1, hz2, rfl⟩
    · omega
    · have hil : i = slots.length := by omega
      have hFx : F = some x := hF2.out.trans HE.symm
      have hvz := hz.out x hFx
      have hVx : Hid (VS = x :: Sch.versL x steps) := Lib.hid (by rw [hV.out, hFx])
      refine tr_rest (g := gs) (b := b3) (n := i) (cap := cS) (sz := 7) (es := x.slots.map Sl.cells) (el := 75) (ty := 147) (zs := zS) (cs := [.ar gs 0 i cS, .ar gc 0 i cC]) (cs' := [.sl .shared (x.slots.map Sl.cells), .ar gc 0 i cC]) (s := .box gc 3 (colC x.cols ++ zC) :: st) ((List.Perm.swap _ _ _).trans (.cons _ (.swap _ _ _))) (by decide) (slots_each x.slots) (by rw [List.length_map, hxs]) (.cons _ _ _ _ .ar (.cons _ _ _ _ (.same _) .nil)) (by intro d hd; simp only [List.mem_cons, List.not_mem_nil, or_false] at hd; rcases hd with rfl | rfl <;> rfl) ?_
      refine tr_rest (g := gc) (b := b3) (n := i) (cap := cC) (sz := 1) (es := x.cols.map encC) (el := 3) (ty := 147) (zs := zC) (cs := [.sl .shared (x.slots.map Sl.cells), .ar gc 0 i cC]) (cs' := x.cells) (s := st) (.swap _ _ _) (by decide) (cols_each x.cols) (by rw [List.length_map, hxc]) (.cons _ _ _ _ (.same _) (.cons _ _ _ _ .ar .nil)) (Vr.cells_leaf x) ?_
      unfold Vr.cells
      clear hz1 hz2 hV hF2 hnone HE hz
      have hx1 := hvz.vi.lp
      generalize hX1 : x.slots.map Sl.cells = X1 at *
      generalize hX2 : x.cols.map encC = X2 at *
      replace hX1 := Lib.hid hX1
      replace hX2 := Lib.hid hX2
      replace hil := Lib.hid hil
      replace hxs := Lib.hid hxs
      replace hxc := Lib.hid hxc
      repeat' (first | refine QX ?_ | (refine QB ?_; intro b) | (refine QP ?_; intro o' ho') | (with_reducible refine QZ ?_ <;> (try constructor) <;> intro hb <;> try intro hb1) | fail)
      have hcx : x.cells = [.sl .shared X1, .sl .shared X2] := by unfold Vr.cells; rw [hX1.out, hX2.out]
      have hst0 : Hid (VS = [x] ++ Sch.versL x (steps.drop 0)) := hVx
      have hfin : Hid (VS.length = steps.length + 1 → RV = VS) := fun h => by
       rw [← hRV.out, hLs.out, if_pos h, if_pos q_o]
      have hbad : Hid (VS.length ≠ steps.length + 1 → RV = []) := fun h => by
       rw [← hRV.out, hLs.out, if_neg h, if_neg q_o]
      have hvz' : Hid (Sch.VZ 8 x) := Lib.hid hvz
      clear hVx hRV hLs hN hos2 hcl hi hi0 hlt hvz hil hFx hxcs
      refine tr_room 147 2 1 ?_
      refine tr_loopd (ι := Nat) (fun j A st' => j ≤ steps.length ∧ A.df = [] ∧ A.e 1 = .ip [.str nm, .sl .shared SL, .sl .shared TL] ∧ A.e 6 = .i j ∧ ∃ (O : List Vr) (o : Own) (z : Vr), o ≠ .shared ∧ O.length = j + 1 ∧ Hid (O[j]? = some z) ∧ Hid (Sch.VZ (8 + j) z) ∧ Hid (VS = O ++ Sch.versL z (steps.drop j)) ∧ A.e 5 = .sl o (O.map Vr.cells) ∧ st' = .room o 147 2 (O.map Vr.cells).length :: .box b3 147 [.sl .shared X1, .sl .shared X2] :: st) (fun j => steps.length - j) 0 ⟨Nat.zero_le _, Qf, Qf, Qf, [x], .tight, x, by simp, rfl, rfl, hvz'.out, hst0.out, by (rw [List.map_cons, List.map_nil, hcx]; exact Qf), rfl⟩ ?_
      clear hdf e1 e3 e4 hst0 hvz' hxs hxc hX1 hX2 hcx
      rintro j A st' ⟨hj, hdf, e1, e6, O, o, z, ho, hOl, hOj, hzz, hVO, e5, rfl⟩
      by_cases hjl : j < steps.length
      · obtain ⟨stp, hstp⟩ := gEx hjl
        obtain ⟨hsq, hsty, hso⟩ := hot2.out stp (List.mem_of_getElem? hstp)
        have hS := refStepF z stp ⟨hzz.out.vi.mono q_o, hsq, hsty, hso⟩ hzz.out.nd fun w hw => (hzz.out.sl w hw).types
        have hSx := refStepR_ex z stp
        have hVd := hVO.out
        rw [Sch.versL_drop hstp] at hVd
        have hOc : (O.map Vr.cells)[j]? = some z.cells := by rw [List.getElem?_map, hOj.out]; rfl
        have htc := hcp.out j stp hstp
        have hOm : (O.map Vr.cells).length = j + 1 := by rw [List.length_map, hOl]
        have hnn : Hid (Sch.stepV z stp = none → RV = []) := fun h => by
         rw [h, List.append_nil] at hVd
         exact hbad.out (by rw [hVd]; omega)
        have hyy : Hid (∀ y, Sch.stepV z stp = some y → Sch.VZ (8 + (j + 1)) y ∧ VS = (O ++ [y]) ++ Sch.versL y (steps.drop (j + 1))) := fun y h => by
         rw [h] at hVd
         exact ⟨Sch.step_vz hzz.out h, by rw [hVd, List.append_assoc]; rfl⟩
        have hOe : Hid (∀ e ∈ O.map Vr.cells, e.length = 2) := fun e he => by
         obtain ⟨w, -, rfl⟩ := List.mem_map.1 he
         rfl
        have hOy : Hid (∀ y : Vr, (O ++ [y]).map Vr.cells = O.map Vr.cells ++ [y.cells]) := fun y => by rw [List.map_append]; rfl
        unfold RefStepR at hS hSx
        clear hVd hVO hstp hsq hsty hso hOj hzz
        generalize Sch.stepV z stp = SV at *
        cases stp with
        | mk kd col slot order =>
        cases slot with
        | mk snm sty srq sdv =>
        cases sdv with
        | mk sk sn ss sL =>
        unfold Vr.cells Stp.cells at hS
        unfold Stp.cells at htc
        rw [Sl.cells_mk] at hS htc
        dsimp only [List.cons_append, List.nil_append] at hS htc
        generalize hOC : O.map Vr.cells = OC at *
        replace hOC := Lib.hid hOC
        replace hS := Lib.hid hS
        replace hSx := Lib.hid hSx
        replace hOl := Lib.hid hOl
        unfold Vr.cells at hOc
        repeat' (first | refine QV ?_ | ((with_reducible apply (w_draw2 [] 13 9)); (iterate 3 (focus kernel_rfl)); (focus (repeat (first | exact keep_nil | refine keep_more q_m ?_))); (focus exact rfl); (focus (simp only [List.eraseIdx_cons_succ, List.eraseIdx_cons_zero]; rfl))) | ((with_reducible refine And.intro ?_ ?_); (focus exact q_k)) | refine QY ?_ | (refine QB ?_; intro b) | (refine QP ?_; intro o' ho') | (with_reducible refine QZ ?_ <;> (try constructor) <;> intro hb <;> try intro hb1) | ((with_reducible apply (ck_gen Tryz.call164)); (focus exact List.Perm.refl _); (focus exact hS.out _); (focus exact LEL.refl _); (focus exact hSx.out _); (rintro d st' (⟨hn, Y1, Y2, rfl, rfl⟩ | ⟨y, hy, rfl, rfl⟩))) | fail)
        all_goals first
         | (have hRn := hnn.out hn
            subst hRn
            exact Qret
            done)
         | skip
        all_goals (
         obtain ⟨q1, q2⟩ := hyy.out y hy
         refine ⟨j + 1, .room o' 147 2 (OC ++ [y.cells]).length :: .box b3 147 [.sl .shared X1, .sl .shared X2] :: st, .cons _ (List.Sublist.refl _), ⟨hjl, ?_, ?_, ?_, O ++ [y], o', y, ho', ?_, ?_, q1, q2, ?_, ?_⟩, by omega⟩
         · exact Qf
         · exact Qf
         · exact Qf
         · rw [List.length_append, hOl.out]; rfl
         · show (O ++ [y])[j + 1]? = some y
           rw [List.getElem?_append_right (by rw [hOl.out]; omega), hOl.out, Nat.sub_self]; rfl
         · have h1 := hOy.out y
           show _ = D.sl o' (List.map Vr.cells (O ++ [y]))
           rw [h1]
           unfold Vr.cells
           exact Qf
         · have h1 := hOy.out y
           show _ = Res.room o' _ 2 (List.map Vr.cells (O ++ [y])).length :: _
           rw [h1])
      · have hVd := hVO.out
        rw [List.drop_of_length_le q_o, Sch.versL, List.append_nil] at hVd
        have hRf := hfin.out (by rw [hVd, hOl]; omega)
        subst hVd
        subst hRf
        clear hVO hOj hzz hot2 hcp hfin hbad
        repeat' (first | refine QX ?_ | (refine QB ?_; intro b) | (refine QP ?_; intro o' ho') | (with_reducible refine QZ ?_ <;> (try constructor) <;> intro hb <;> try intro hb1) | fail)
        all_goals exact retA_mk q_x q_y q_t (LE.trans (LE.of_eq q_v) (LE.sl o (RV.map Vr.cells))) ⟨rfl, rfl⟩
end
section
end
section
attribute [local push_cast] encB encI encC V.cells_mk V.cells_len Nat.mul_one Int.sub_zero List.map_nil beq_self_eq_true bne_self_eq_false List.head?_cons
theorem refVers_len (t : Tm) : decide (0 < (Sch.refVers t).length) = decide (0 < Sch.last t) := by
 unfold Sch.refVers
 by_cases h : 0 < Sch.last t
 · rw [if_pos h]
   have := (Sch.last_len h).1
   rw [decide_eq_true h]
   exact decide_eq_true q_o
 · rw [if_neg h, decide_eq_false h]; rfl
theorem ref10RightF (t : Tm) (ht : TQ t) (st : St) : TrF Tryz.prog 51 [.agg t.cells] st fun d st' => d = .b (decide (0 < Sch.last t)) ∧ st' = st := by
 have hV := refVersF t ht
 rw [← refVers_len]
 have hm : ((Sch.refVers t).map Vr.cells).length = (Sch.refVers t).length := List.length_map ..
 have h9 : (Sch.refVers t).length ≤ 9 := by
  unfold Sch.refVers
  split
  · exact (Sch.vers_len t).2
  · exact Nat.zero_le _
 generalize (Sch.refVers t).map Vr.cells = VS at *
 generalize (Sch.refVers t).length = n at *
 unfold Tm.cells at *
 generalize t.slots.map Sl.cells = SL at *
 generalize t.steps.map Stp.cells = TL at *
 generalize t.name = nm at *
 replace hV := Lib.hid hV
 rw [show decide (0 < n) = decide (0 < (n : Int)) by simp]
 refine Qin [2] Tryz.func51 Tryz.results51 Tryz.ntmps51 ?_
 exact WR
namespace Reg
theorem right_not_last {L : List Tm} {t : Tm} (h : t ∈ L) (k : ¬ 0 < Sch.last t) : right L = false := by
 cases hr : right L with
 | false => rfl
 | true => exact absurd ((right_iff.1 hr).2.1 t h) k
theorem right_not_name {L : List Tm} {i j : Nat} {t u : Tm} (h : L[i]? = some t) (k : L[j]? = some u) (hij : j < i) (he : (t.name.toList == u.name.toList) = true) : right L = false := by
 cases hr : right L with
 | false => rfl
 | true => have := (right_iff.1 hr).2.2 i j t u h k (beq_iff_eq.1 he); omega
def RightTo (L : List Tm) (i : Nat) : Prop := ∀ (j : Nat) (t : Tm), j < i → L[j]? = some t → 0 < Sch.last t ∧ ∀ (k : Nat) (u : Tm), k < j → L[k]? = some u → (t.name.toList == u.name.toList) = false
theorem right_all {L : List Tm} (h : RightTo L L.length) : right L = decide ((L.length : Int) ≤ 6) := by
 by_cases h6 : (L.length : Int) ≤ 6
 · rw [decide_eq_true h6]
   refine right_iff.2 ⟨by omega, fun t ht => ?_, fun i j t u hi hj he => ?_⟩
   · obtain ⟨i, hi⟩ := List.getElem?_of_mem ht
     exact (h i t (List.getElem?_eq_some_iff.1 hi).1 hi).1
   · rcases Nat.lt_trichotomy i j with hl | he2 | hl
     · have := (h j u (List.getElem?_eq_some_iff.1 hj).1 hj).2 i t hl hi
       rw [he, beq_self_eq_true] at this
       cases this
     · exact he2
     · have := (h i t (List.getElem?_eq_some_iff.1 hi).1 hi).2 j u hl hj
       rw [he, beq_self_eq_true] at this
       cases this
 · rw [decide_eq_false h6]
   cases hr : right L with
   | false => rfl
   | true => have := (right_iff.1 hr).1; omega
end Reg
theorem ref13RightF (L : List Tm) (hQ : ∀ t ∈ L, TQ t) (hl : L.length ≤ 1000000) (st : St) : TrF Tryz.prog 17 [.sl .shared (L.map Tm.cells)] st fun d st' => d = .b (Reg.right L) ∧ st' = st := by
 have hm : (L.map Tm.cells).length = L.length := List.length_map ..
 have hc := hMp Tm.cells L
 have hR := Lib.hid fun (t : Tm) (ht : t ∈ L) => ref10RightF t (hQ t ht)
 obtain ⟨F, hF⟩ : ∃ F, Reg.right L = F := ⟨_, rfl⟩
 have n1 : Hid (∀ t ∈ L, ¬ 0 < Sch.last t → F = false) := fun t ht hk => by rw [← hF]; exact Reg.right_not_last ht hk
 have n2 : Hid (∀ (i j : Nat) (t u : Tm), L[i]? = some t → L[j]? = some u → j < i → (t.name.toList == u.name.toList) = true → F = false) := fun i j t u h1 h2 h3 h4 => by rw [← hF]; exact Reg.right_not_name h1 h2 h3 h4
 have n3 : Hid (Reg.RightTo L L.length → F = decide ((L.length : Int) ≤ 6)) := fun h => by rw [← hF]; exact Reg.right_all h
 rw [hF]
 clear hF hQ
 generalize L.map Tm.cells = LS at *
 refine Qin [2] Tryz.func17 Tryz.results17 Tryz.ntmps17 ?_
 repeat' (first | refine QX ?_ | (refine QB ?_; intro b) | (with_reducible refine QZ ?_ <;> (try constructor) <;> intro hb <;> try intro hb1) | fail)
 refine tr_loopd (ι := Nat) (fun i A st' => i ≤ L.length ∧ Hid (Reg.RightTo L i) ∧ A.df = [] ∧ A.e 0 = .sl .shared LS ∧ A.e 3 = .i i ∧ st = st') (fun i => L.length - i) 0 ⟨Nat.zero_le _, Lib.hid fun j t hj => by omega, Qf, Qf, Qf, rfl⟩ ?_
 rintro i A st' ⟨hi, HT, hdf, e0, e3, rfl⟩
 by_cases hlt : i < L.length
 · obtain ⟨t, ht⟩ := gEx hlt
   have h1 := hc.out i t ht
   have hRt := hR.out t (List.mem_of_getElem? ht)
   have hn := n1.out t (List.mem_of_getElem? ht)
   have hnn := n2.out i
   have hgo : Hid (0 < Sch.last t → (∀ (k : Nat) (u : Tm), k < i → L[k]? = some u → (t.name.toList == u.name.toList) = false) → Reg.RightTo L (i + 1)) := fun a b j v hj hv => by
    rcases Nat.lt_or_ge j i with hl | hl
    · exact HT.out j v hl hv
    · obtain rfl : j = i := by omega
      rw [ht] at hv
      cases hv
      exact ⟨a, b⟩
   have hnt : Hid (∀ (j : Nat) (u : Tm), L[j]? = some u → j < i → (t.name.toList == u.name.toList) = true → F = false) := fun j u h2 h3 h4 => hnn j t u ht h2 h3 h4
   clear HT hnn n1 n2 hR ht
   generalize Sch.last t = la at *
   unfold Tm.cells at h1 hRt
   generalize t.slots.map Sl.cells = SL at *
   generalize t.steps.map Stp.cells = TL at *
   generalize t.name = nm at *
   by_cases hla : 0 < la
   · rw [decide_eq_true hla] at hRt
     replace hRt := Lib.hid hRt
     clear hn
     repeat' (first | refine QX ?_ | (refine QB ?_; intro b) | (with_reducible refine QZ ?_ <;> (try constructor) <;> intro hb <;> try intro hb1) | fail)
     clear hRt
     refine tr_loopd (ι := Nat) (fun k A st' => k ≤ i ∧ Hid (∀ (m : Nat) (u : Tm), m < k → L[m]? = some u → (nm.toList == u.name.toList) = false) ∧ A.df = [] ∧ A.e 0 = .sl .shared LS ∧ A.e 3 = .i i ∧ A.e 4 = .i k ∧ st = st') (fun k => i - k) 0 ⟨Nat.zero_le _, Lib.hid fun m u hm => by omega, Qf, Qf, Qf, Qf, rfl⟩ ?_
     clear e0 e3 hdf A
     rintro k A st' ⟨hk, HK, hdf, e0, e3, e4, rfl⟩
     by_cases hkl : k < i
     · obtain ⟨u, hu⟩ := gEx (l := L) (i := k) q_o
       have h2 := hc.out k u hu
       have hFu := hnt.out k u hu hkl
       have hHu : Hid ((nm.toList == u.name.toList) = false → ∀ (m : Nat) (v : Tm), m < k + 1 → L[m]? = some v → (nm.toList == v.name.toList) = false) := fun a m v hm hv => by
        rcases Nat.lt_or_ge m k with hl | hl
        · exact HK.out m v hl hv
        · obtain rfl : m = k := by omega
          rw [hu] at hv
          cases hv
          exact a
       clear HK hnt hu
       unfold Tm.cells at h2
       generalize u.slots.map Sl.cells = SL2 at *
       generalize u.steps.map Stp.cells = TL2 at *
       generalize u.name = nm2 at *
       cases hq : (nm.toList == nm2.toList) with
       | true =>
        have := hFu hq
        subst this
        clear hFu hHu hgo
        exact WR
       | false =>
        have hH := Lib.hid (hHu.out hq)
        clear hFu hHu
        repeat' (first | refine QX ?_ | (refine QB ?_; intro b) | (with_reducible refine QZ ?_ <;> (try constructor) <;> intro hb <;> try intro hb1) | fail)
        refine ⟨k + 1, st, q_u, ⟨hkl, hH, ?_, ?_, ?_, ?_, rfl⟩, by omega⟩
        all_goals exact Qf
     · obtain rfl : k = i := by omega
       have hH := Lib.hid (hgo.out hla HK.out)
       clear hgo HK hnt
       repeat' (first | refine QX ?_ | (refine QB ?_; intro b) | (with_reducible refine QZ ?_ <;> (try constructor) <;> intro hb <;> try intro hb1) | fail)
       refine ⟨k + 1, st, q_u, ⟨hlt, hH, ?_, ?_, ?_, rfl⟩, by omega⟩
       all_goals exact Qf
   · rw [decide_eq_false hla] at hRt
     have := hn hla
     subst this
     clear hn hgo hnt
     replace hRt := Lib.hid hRt
     exact WR
 · obtain rfl : i = L.length := by omega
   have := n3.out HT.out
   subst this
   clear n1 n2 n3 HT hR
   exact WR
end
section
attribute [local push_cast] encB encI encBs V.cells_mk V.cells_take V.cells_len Nat.mul_one Int.sub_zero
open Go.RowKit B
theorem of_byte (n : Nat) : ∃ c : UInt8, UInt8.ofNat n = c ∧ ((n % 256 : Nat) : Int) = c.toNat ∧ c.toNat < 256 := ⟨UInt8.ofNat n, rfl, by rw [UInt8.toNat_ofNat'], (UInt8.ofNat n).toNat_lt⟩
theorem refNumF (n : Int) (st : St) : TrF Tryz.prog 60 [.i n] st fun d st' => d = .sl .tight ((if 0 ≤ n ∧ n ≤ 2147483647 then be 4 n.toNat else []).map encB) ∧ st' = st := by
 by_cases h : 0 ≤ n ∧ n ≤ 2147483647
 · rw [if_pos h]
   obtain ⟨m, rfl⟩ : ∃ m : Nat, n = m := ⟨n.toNat, by omega⟩
   obtain ⟨h1, h2⟩ := h
   rw [Int.toNat_natCast]
   obtain ⟨c1, d1, e1, l1⟩ := of_byte (m / 16777216)
   obtain ⟨c2, d2, e2, l2⟩ := of_byte (m / 65536)
   obtain ⟨c3, d3, e3, l3⟩ := of_byte (m / 256)
   obtain ⟨c4, d4, e4, l4⟩ := of_byte m
   have hb : be 4 m = [c1, c2, c3, c4] := by rw [← d1, ← d2, ← d3, ← d4]; simp [be]
   rw [hb]
   have g1 : ((m : Int)).tdiv 16777216 = c1.toNat := by rw [Int.tdiv_eq_ediv_of_nonneg h1, ← e1]; omega
   have g2 : ((m : Int)).tdiv 65536 = (m : Int) / 65536 := Int.tdiv_eq_ediv_of_nonneg h1
   have g3 : ((m : Int)).tdiv 256 = (m : Int) / 256 := Int.tdiv_eq_ediv_of_nonneg h1
   have g4 : ((m : Int) / 65536).tmod 256 = c2.toNat := by rw [Int.tmod_eq_emod_of_nonneg q_o, ← e2]; omega
   have g5 : ((m : Int) / 256).tmod 256 = c3.toNat := by rw [Int.tmod_eq_emod_of_nonneg q_o, ← e3]; omega
   have g6 : ((m : Int)).tmod 256 = c4.toNat := by rw [Int.tmod_eq_emod_of_nonneg h1, ← e4]; omega
   clear d1 d2 d3 d4 e1 e2 e3 e4 hb
   refine Qin [2] Tryz.func60 Tryz.results60 Tryz.ntmps60 ?_
   exact WR
 · rw [if_neg h]
   refine Qin [2] Tryz.func60 Tryz.results60 Tryz.ntmps60 ?_
   exact WR
theorem be8_at (U : Nat) : ∀ i, i < 8 → (be 8 U)[i]? = some (UInt8.ofNat (U / (72057594037927936 / 256 ^ i)))
 | 0, _ => rfl
 | 1, _ => rfl
 | 2, _ => rfl
 | 3, _ => rfl
 | 4, _ => rfl
 | 5, _ => rfl
 | 6, _ => rfl
 | 7, _ => rfl
 | n + 8, h => by omega
theorem refLongF (n : Int) (st : St) : TrF Tryz.prog 107 [.i n] st fun d st' => d = .sl .shared ((be 8 (IntKind.u64.wrap n).toNat).map encB) ∧ st' = st := by
 obtain ⟨U, hU, hU2⟩ : ∃ U : Nat, IntKind.u64.wrap n = U ∧ U < 18446744073709551616 := ⟨(IntKind.u64.wrap n).toNat, by
  have : 0 ≤ IntKind.u64.wrap n := by simp [IntKind.wrap, IntKind.bits, IntKind.signed]; omega
  omega, by simp [IntKind.wrap, IntKind.bits, IntKind.signed]; omega⟩
 have hB := be8_at U
 have hl := be_len 8 U
 rw [hU, Int.toNat_natCast]
 generalize be 8 U = bs at *
 refine Qin [2] Tryz.func107 Tryz.results107 Tryz.ntmps107 ?_
 refine tr_room 5 1 0 ?_
 repeat' (first | refine QX ?_ | (refine QB ?_; intro b) | (refine QP ?_; intro o' ho') | (with_reducible refine QZ ?_ <;> (try constructor) <;> intro hb <;> try intro hb1) | fail)
 refine tr_loopd (ι := Nat) (fun i A st' => i ≤ 8 ∧ A.df = [] ∧ A.e 3 = .s (.int .u64 U) ∧ A.e 6 = .i i ∧ ∃ S : Nat, Hid (S = 72057594037927936 / 256 ^ i) ∧ A.e 5 = .s (.int .u64 (S : Int)) ∧ ∃ o' l, o' ≠ .shared ∧ Hid (l = bs.take i) ∧ l.length = i ∧ A.e 4 = .sl o' (l.map encB) ∧ st' = .room o' 5 1 (l.map encB).length :: st) (fun i => 8 - i) 0 ⟨Nat.zero_le _, Qf, Qf, Qf, 72057594037927936, rfl, Qf, .tight, [], by simp, rfl, rfl, Qf, rfl⟩ ?_
 rintro i A st' ⟨hi, hdf, e3, e6, S, HS, e5, o', l, ho', HL, hll, e4, rfl⟩
 by_cases hlt : i < 8
 · obtain ⟨c, d1, g1, g2⟩ := of_byte (U / (72057594037927936 / 256 ^ i))
   have hx := hB i hlt
   rw [d1] at hx
   have hs : bs.take (i + 1) = bs.take i ++ [c] := by rw [List.take_succ, hx]; rfl
   have HL2 : Hid (l ++ [c] = bs.take (i + 1)) := by show _ = _; rw [hs, HL.out]
   have hsp : 0 < 72057594037927936 / 256 ^ i := by
    refine Nat.div_pos ?_ (Nat.pow_pos q_o)
    exact Nat.le_trans (Nat.pow_le_pow_right q_o (show i ≤ 7 by omega)) (by decide)
   have hsl : 72057594037927936 / 256 ^ i ≤ 72057594037927936 := Nat.div_le_self _ _
   have hs2 : (72057594037927936 / 256 ^ i) / 256 = 72057594037927936 / 256 ^ (i + 1) := by rw [Nat.div_div_eq_div_mul, Nat.pow_succ]
   have hS := HS.out
   rw [← hS] at g1 hsp hsl hs2
   clear hx hs HL d1 HS hS
   have hq : U / S ≤ U := Nat.div_le_self _ _
   have hquo : ∀ t, aBin Tryz.prog .quo t (.s (.int .u64 U)) (.s (.int .u64 S)) = some (.s (.int .u64 ((U / S : Nat) : Int))) := fun t => by
    rw [bin_quo (by rw [beq_eq_false_iff_ne]; omega), Int.tdiv_eq_ediv_of_nonneg q_o, show (U : Int) / (S : Int) = ((U / S : Nat) : Int) from rfl]
    generalize U / S = q at *
    congr 3
    simp [IntKind.wrap, IntKind.bits, IntKind.signed]; omega
   generalize U / S = q at *
   have hrem : ∀ t, aBin Tryz.prog .rem t (.s (.int .u64 q)) (.s (.int .u64 256)) = some (.s (.int .u64 (c.toNat : Int))) := fun t => by
    rw [bin_rem (by decide), Int.tmod_eq_emod_of_nonneg q_o, ← g1]; rfl
   have hstp : ∀ t, aBin Tryz.prog .quo t (.s (.int .u64 S)) (.s (.int .u64 256)) = some (.s (.int .u64 ((S / 256 : Nat) : Int))) := fun t => by
    rw [bin_quo (by decide), Int.tdiv_eq_ediv_of_nonneg q_o, show (S : Int) / 256 = ((S / 256 : Nat) : Int) from rfl]
    congr 3
    simp [IntKind.wrap, IntKind.bits, IntKind.signed]; omega
   clear g1 hB
   replace hs2 := Lib.hid hs2
   generalize S / 256 = S2 at *
   repeat' (first | refine QX ?_ | (refine QB ?_; intro b) | (refine QP ?_; intro o' ho') | (with_reducible refine QZ ?_ <;> (try constructor) <;> intro hb <;> try intro hb1) | fail)
   refine ⟨i + 1, .room o' 5 1 ((l ++ [c]).map encB).length :: st, ?_, ⟨by omega, ?_, ?_, ?_, S2, hs2, ?_, o', l ++ [c], ho', HL2, by rw [List.length_append, List.length_singleton, hll], ?_, rfl⟩, ?_⟩
   · rw [List.map_append]; (repeat (first | exact List.Sublist.refl _ | apply List.Sublist.cons))
   all_goals exact Qf
 · have hLe := HL.out
   rw [List.take_of_length_le q_o] at hLe
   rw [← hLe]
   clear hLe HL hB
   exact WRa
end
section
attribute [local push_cast] encB encI encBs V.cells_mk V.cells_take V.cells_len Nat.mul_one Int.sub_zero
open Go.RowKit B
theorem refTextF (s : ByteArray) (hs : s.size ≤ 1000000) (st : St) : TrF Tryz.prog 61 [.str s] st fun d st' => d = .sl .shared ((tx s.data.toList).map encB) ∧ st' = st := by
 have hN := refNumF s.size
 rw [if_pos q_o, Int.toNat_natCast] at hN
 replace hN := Lib.hid hN
 have h4 : (be 4 s.size).length = 4 := be_len _ _
 have ht : tx s.data.toList = be 4 s.size ++ s.data.toList := by unfold tx; congr 1
 have hsl : s.data.toList.length = s.size := by simp
 rw [ht]
 clear ht
 generalize be 4 s.size = hd at *
 generalize hbs : s.data.toList = bs at *
 refine Qin [2] Tryz.func61 Tryz.results61 Tryz.ntmps61 ?_
 refine tr_room 5 1 4 ?_
 have h4 : (hd.map encB).length = 4 := by rw [List.length_map]; exact h4
 rw [← h4]
 exact WRa
open V in
theorem refPutF : ∀ (N : Nat) (v : V), v.nodes ≤ N → v.nodes ≤ 100 → v.parts = true → v.Ok → ∀ st, TrF Tryz.prog 177 [.agg v.cells] st fun d st' => d = .sl .shared (v.put.map encB) ∧ st' = st
 | 0, v, h, _, _, _ => by have := v.nodes_pos; omega
 | N + 1, .mk k n s l, hN, hnn, hpa, hok => by
  intro st
  obtain ⟨-, hkn, -, -, hall⟩ := hok
  obtain ⟨h1, h2, h3⟩ := parts_facts hpa
  obtain ⟨f1, f2, f3, f4, f5, f6⟩ := sgl_facts h1
  have hpl := putL_le l h3
  have IH := Lib.hid fun x (hx : x ∈ l) => refPutF N x (by have := nodes_lt (k := k) (n := n) (s := s) hx; omega) (by have := nodes_lt (k := k) (n := n) (s := s) hx; omega) (h3 x hx) (hall x hx)
  rw [nodes] at hnn
  rw [V.cells_mk]
  rw [show (V.mk k n s l).put = UInt8.ofNat k.toNat :: (if k = 1 then [UInt8.ofNat n.toNat] else if k = 2 then be 8 (IntKind.u64.wrap n).toNat else if k = 3 ∨ k = 4 then tx s.data.toList else if k = 5 then be 4 l.length ++ putL l else []) from put.eq_1 ..]
  obtain ⟨kb, hkb, hkb2, -⟩ := of_byte k.toNat
  have hK : IntKind.u8.wrap k = kb.toNat := by
   rw [← hkb2, show k = ((k.toNat : Nat) : Int) by omega, u8_wrap, UInt8.toNat_ofNat']; rfl
  rw [hkb]
  have hT := Lib.hid (refTextF s q_o)
  have hT5 : (tx s.data.toList).length = 4 + s.size := by unfold tx; rw [List.length_append, be_len]; simp
  clear h1 h3 hpa hall hN hkb hkb2
  refine Qin [2] Tryz.func177 Tryz.results177 Tryz.ntmps177 ?_
  refine tr_room 5 1 1 ?_
  by_cases k1 : k = 1
  · subst k1
    obtain ⟨m, rfl⟩ : ∃ m : Nat, n = m := ⟨n.toNat, by have := f3 q_o; omega⟩
    have hW := u8_wrap m
    clear f3 f5 f6 hT IH
    rw [if_pos rfl, Int.toNat_natCast]
    exact WRa
  rw [if_neg k1]
  have b1 : (k == 1) = false := by simpa using k1
  by_cases k2 : k = 2
  · subst k2
    have hL := Lib.hid (refLongF n)
    have h8 := be_len 8 (IntKind.u64.wrap n).toNat
    clear f3 f5 f6 hT IH
    rw [if_pos rfl]
    generalize be 8 (IntKind.u64.wrap n).toNat = bs at *
    exact WRa
  rw [if_neg k2]
  have b2 : (k == 2) = false := by simpa using k2
  by_cases k3 : k = 3 ∨ k = 4
  · rw [if_pos k3]
    clear f3 f5 f6 IH h2
    generalize tx s.data.toList = bs at *
    rcases k3 with rfl | rfl
    all_goals
     exact WRa
  rw [if_neg k3]
  have b3 : (k == 3) = false := by simp; omega
  have b4 : (k == 4) = false := by simp; omega
  by_cases k5 : k = 5
  case neg =>
   rw [if_neg k5]
   have b5 : (k == 5) = false := by simpa using k5
   clear f3 f5 f6 hT IH
   exact WRa
  subst k5
  rw [if_pos rfl]
  have hN := refNumF l.length
  have hl20 := f6 rfl
  rw [if_pos q_o, Int.toNat_natCast] at hN
  replace hN := Lib.hid hN
  have h4 := be_len 4 l.length
  clear f3 f5 f6 hT h2 k1 k2 k3 b1 b2 b3 b4
  generalize be 4 l.length = hd at *
  repeat' (first | refine QX ?_ | (refine QB ?_; intro b) | (refine QP ?_; intro o' ho') | (with_reducible refine QZ ?_ <;> (try constructor) <;> intro hb <;> try intro hb1) | fail)
  clear hN hT5
  refine tr_loopd (ι := Nat) (fun i A st' => i ≤ l.length ∧ A.df = [] ∧ A.e 1 = .ip [.i 5, .i n, .str s, .sl .shared (l.map V.cells)] ∧ A.e 4 = .i i ∧ ∃ o', o' ≠ .shared ∧ ∃ B : List UInt8, Hid (B = kb :: (hd ++ putL (l.take i))) ∧ B.length = 5 + (putL (l.take i)).length ∧ A.e 3 = .sl o' (B.map encB) ∧ st' = .room o' 5 1 (B.map encB).length :: st) (fun i => l.length - i) 0 ⟨Nat.zero_le _, Qf, Qf, Qf, _, by assumption, kb :: hd, by show _ = _; simp [putL], by simp [putL]; omega, Qf, rfl⟩ ?_
  clear o' ho' h4
  rintro i A st' ⟨hi, hdf, e1, e4, o', ho', B, HB, hBl, e3, rfl⟩
  by_cases hlt : i < l.length
  · obtain ⟨x, hx⟩ := gEx hlt
    have ih := IH.out x (mem_of hx)
    have htk : putL (l.take (i + 1)) = putL (l.take i) ++ x.put := by
     rw [List.take_succ, hx, putL_app]; simp [putL]
    have hln : (putL (l.take i)).length + x.put.length ≤ (putL l).length := by
     have := congrArg List.length (congrArg putL (List.take_append_drop (i + 1) l))
     rw [putL_app, htk, List.length_append, List.length_append] at this
     omega
    have HB2 : Hid (B ++ x.put = kb :: (hd ++ putL (l.take (i + 1)))) := by
     show _ = _
     rw [htk, HB.out]; simp
    have hBl2 : (B ++ x.put).length = 5 + (putL (l.take (i + 1))).length := by
     rw [htk, List.length_append, List.length_append]; omega
    clear IH HB htk
    cases x with
    | mk k1 n1 s1 l1 =>
     rw [V.cells_mk] at ih
     replace ih := Lib.hid ih
     generalize (V.mk k1 n1 s1 l1).put = bs at *
     obtain ⟨q1, hq1⟩ : ∃ q, (putL (l.take (i + 1))).length = q := ⟨_, rfl⟩
     rw [hq1] at hBl2
     replace hq1 := Lib.hid hq1
     generalize (putL (l.take i)).length = q0 at *
     repeat' (first | refine QX ?_ | (refine QB ?_; intro b) | (refine QP ?_; intro o' ho') | (with_reducible refine QZ ?_ <;> (try constructor) <;> intro hb <;> try intro hb1) | fail)
     refine ⟨i + 1, .room o' 5 1 ((B ++ bs).map encB).length :: st, ?_, ⟨hlt, ?_, ?_, ?_, o', ho', B ++ bs, HB2, hBl2.trans (by rw [hq1.out]), ?_, rfl⟩, ?_⟩
     · rw [List.map_append]; (repeat (first | exact List.Sublist.refl _ | apply List.Sublist.cons))
     all_goals exact Qf
  · have hBe : B = kb :: (hd ++ putL l) := by
     rw [HB.out, List.take_of_length_le q_o]
    rw [← hBe]
    clear hBe HB IH
    exact WRa
theorem refValueF (v : V) (hok : v.Ok) (hn : v.nodes ≤ 1000) (hd : v.deep ≤ 1000) (st : St) : TrF Tryz.prog 139 [.agg v.cells] st fun x st' => x = .sl .shared (v.bin.map encB) ∧ st' = st := by
 have hR := refRightF v hok hn hd
 unfold V.bin
 by_cases hr : v.right = true
 · rw [if_pos hr]
   obtain ⟨h1, -, h3⟩ := V.right_iff.1 hr
   have hP := refPutF v.nodes v (Nat.le_refl _) h3 h1 hok
   rw [hr] at hR
   generalize v.put = bs at *
   cases v with
   | mk k n s l =>
   rw [V.cells_mk] at *
   replace hR := Lib.hid hR
   replace hP := Lib.hid hP
   refine Qin [2] Tryz.func139 Tryz.results139 Tryz.ntmps139 ?_
   exact WR
 · rw [if_neg hr]
   have hr' : v.right = false := by simpa using hr
   rw [hr'] at hR
   cases v with
   | mk k n s l =>
   rw [V.cells_mk] at *
   replace hR := Lib.hid hR
   refine Qin [2] Tryz.func139 Tryz.results139 Tryz.ntmps139 ?_
   exact WR
end
section
attribute [local push_cast] encB encI encC encBs V.cells_mk V.cells_len Nat.mul_one Int.sub_zero List.map_nil beq_self_eq_true bne_self_eq_false List.head?_cons
open Go.RowKit B
namespace Reg
end Reg
end
section
attribute [local push_cast] encB encI encC encBs V.cells_mk V.cells_len Nat.mul_one Int.sub_zero List.map_nil beq_self_eq_true bne_self_eq_false List.head?_cons
open Go.RowKit B
set_option maxHeartbeats 16000000
theorem refNumN (n : Nat) (h : n ≤ 1000000) (st : St) : TrF Tryz.prog 60 [.i n] st fun d st' => d = .sl .tight ((be 4 n).map encB) ∧ st' = st := by
 have := refNumF n st
 rwa [if_pos q_o, Int.toNat_natCast] at this
namespace Reg
def upTo {α : Type} (f : α → List UInt8) (X : List UInt8) (l : List α) (i : Nat) : List UInt8 := X ++ ((l.take i).map f).flatten
theorem upTo_zero {α : Type} (f : α → List UInt8) (X : List UInt8) (l : List α) : upTo f X l 0 = X := by unfold upTo; simp
theorem upTo_succ {α : Type} (f : α → List UInt8) (X : List UInt8) {l : List α} {i : Nat} {a : α} (h : l[i]? = some a) : upTo f X l (i + 1) = upTo f X l i ++ f a := by
 unfold upTo
 rw [List.take_add_one, h, Option.toList_some, List.map_append, List.flatten_append, List.append_assoc]
 congr 2
 show [f a].flatten = _
 rw [List.flatten_cons, List.flatten_nil, List.append_nil]
theorem upTo_all {α : Type} (f : α → List UInt8) (X : List UInt8) (l : List α) : upTo f (X ++ be 4 l.length) l l.length = X ++ listB f l := by
 unfold upTo listB
 rw [List.take_length, List.append_assoc]
theorem upTo_len {α : Type} (f : α → List UInt8) (X : List UInt8) (c k : Nat) (l : List α) (hf : ∀ a ∈ l, (f a).length ≤ k) (hX : X.length ≤ c) (i : Nat) (hi : i ≤ l.length) : (upTo f X l i).length ≤ c + i * k := by
 induction i with
 | zero => rw [upTo_zero]; omega
 | succ i ih =>
  obtain ⟨a, ha⟩ := gEx (l := l) (i := i) q_o
  have h1 := ih q_o
  have h2 := hf a (List.mem_of_getElem? ha)
  rw [upTo_succ f X ha, List.length_append, Nat.add_mul]
  omega
end Reg
abbrev penS (vb pb : Nat) (o : Own) (X : List UInt8) (q : Bool) (s : St) : St := .box vb 117 [.ptr pb 0] :: penR pb o X q s
def PenL (f : FuncId) (args : List D) (vb pb : Nat) (X Y : List UInt8) (q q' : Bool) : Prop := ∀ (o : Own), o ≠ .shared → ∀ s, TrF Tryz.prog f args (penS vb pb o X q s) fun d st' => ∃ o', o' ≠ .shared ∧ d = .tup [] ∧ st' = penS vb pb o' (X ++ Y) (q || q') s
namespace Rul
def listW {α : Type} (f : α → List UInt8 × Bool) (l : List α) : List UInt8 × Bool := (be 4 l.length ++ (l.map fun a => (f a).1).flatten, l.any fun a => (f a).2)
theorem listW_run {α : Type} (L : List α) (f : α → List UInt8 × Bool) (c : Nat) (X : List UInt8) (q : Bool) (hf : ∀ a ∈ L, (f a).1.length ≤ c) (hX : X.length + 4 + L.length * c ≤ 10000000000000) : ∃ (BF : Nat → List UInt8) (QF : Nat → Bool), (X ++ (listW f L).1 = BF L.length ∧ (q || (listW f L).2) = QF L.length) ∧ Hid (X ++ be 4 L.length = BF 0) ∧ Hid (q = QF 0) ∧ Hid (∀ (i : Nat) (a : α), L[i]? = some a → BF (i + 1) = BF i ++ (f a).1 ∧ QF (i + 1) = (QF i || (f a).2)) ∧ Hid (∀ i, i < L.length → (BF i).length + c ≤ 10000000000000) := by
 refine ⟨Reg.upTo (fun a => (f a).1) (X ++ be 4 L.length) L, fun i => (q || (L.take i).any fun a => (f a).2), ⟨(Reg.upTo_all _ _ _).symm, by dsimp only; rw [List.take_length]; rfl⟩, (Reg.upTo_zero _ _ _).symm, Lib.hid (by simp), fun i a h => ⟨Reg.upTo_succ _ _ h, by dsimp only; rw [List.take_add_one, h, Option.toList_some, List.any_append, Bool.or_assoc]; simp⟩, fun i hi => ?_⟩
 have h1 := Reg.upTo_len (fun a => (f a).1) (X ++ be 4 L.length) (X.length + 4) c L hf (by rw [List.length_append, be_len]; exact Nat.le_refl _) i q_o
 have h2 : (i + 1) * c ≤ L.length * c := Nat.mul_le_mul_right _ hi
 rw [Nat.add_mul] at h2
 omega
end Rul
theorem binNumN (n : Nat) (h : n ≤ 1000000) (st : St) : TrF Tryz.prog 134 [.i n] st fun d st' => d = .sl .tight ((be 4 n).map encB) ∧ st' = st := by
 have := binNumF n st
 rwa [if_pos q_o, Int.toNat_natCast] at this
theorem ruleListTestF (fn : FuncId) (hcall : ∀ args w, (callFunc fn args).run Tryz.prog w = .ok (.enter fn args) w) (vb pb : Nat) (L : List Ts) (hl : L.length ≤ 1000) (f : Ts → List UInt8 × Bool) (c : Nat) (X : List UInt8) (q : Bool) (hf : ∀ a ∈ L, (f a).1.length ≤ c) (hX : X.length + 4 + L.length * c ≤ 10000000000000)
 (hF : ∀ a ∈ L, ∀ X q, X.length + c ≤ 10000000000000 → PenL fn [.agg a.cells, .ptr vb 0] vb pb X (f a).1 q (f a).2) : PenL 99 [.ptr pb 0, .sl .shared (L.map Ts.cells), .fn (.func fn) [] [.ptr vb 0]] vb pb X (Rul.listW f L).1 q (Rul.listW f L).2 := by
 intro o ho s
 have hN := binNumN L.length q_o
 have hm : (L.map Ts.cells).length = L.length := List.length_map ..
 have hc := hMp Ts.cells L
 have hF2 := Lib.hid hF
 obtain ⟨BF, QF, ⟨hXe, hqe⟩, hX0, hq0, hXs, hXl⟩ := Rul.listW_run L f c X q hf hX
 rw [hXe, hqe]
 have hb4 : (be 4 L.length).length = 4 := be_len ..
 have hXm : (X.map encB).length = X.length := List.length_map ..
 have hXX : X.length ≤ 10000000000000 := by omega
 clear hXe hqe hF hf hX
 generalize be 4 L.length = n4 at *
 generalize L.map Ts.cells = LS at *
 replace hN := Lib.hid hN
 refine Qin [] Tryz.func99 Tryz.results99 Tryz.ntmps99 ?_
 repeat' (first | refine QV ?_ | ((with_reducible refine w_draw [(pb, [.sl o (X.map encB), .b q])] ?_ ?_ ?_ ?_ ?_); (iterate 3 (focus kernel_rfl)); (focus exact q_1)) | ((with_reducible refine And.intro ?_ ?_); (focus exact q_1)) | refine QY ?_ | (refine QB ?_; intro b) | (refine QP ?_; intro o' ho') | (with_reducible refine QZ ?_ <;> (try constructor) <;> intro hb <;> try intro hb1) | fail)
 clear hN
 refine tr_loopd (ι := Nat) (fun i A st' => i ≤ L.length ∧ A.df = [] ∧ A.e 2 = .fn (.func fn) [] [.ptr vb 0] ∧ A.e 19 = .sl .shared LS ∧ A.e 20 = .i L.length ∧ A.e 21 = .i i ∧ ∃ o', o' ≠ .shared ∧ st' = penS vb pb o' (BF i) (QF i) s) (fun i => L.length - i) 0 ?_ ?_
 · rw [← hX0.out, ← hq0.out]
   exact ⟨Nat.zero_le _, Qf, Qf, Qf, Qf, Qf, _, by assumption, by unfold penS penR; rw [List.map_append]⟩
 clear hX0 hq0 ho hb4
 clear o
 rintro i A st' ⟨hi, hdf, e2, e19, e20, e21, o, ho, rfl⟩
 by_cases hlt : i < L.length
 · obtain ⟨a, ha⟩ := gEx hlt
   have h1 := hc.out i a ha
   obtain ⟨hE, hQ⟩ := hXs.out i a ha
   have hG := hF2.out a (List.mem_of_getElem? ha) (BF i) (QF i) (hXl.out i hlt)
   clear ha hXs hXl hF2 hc
   unfold PenL at hG
   simp only [← hE, ← hQ] at hG
   clear hE hQ
   generalize BF i = Y at *
   generalize QF i = qi at *
   generalize hY2 : BF (i + 1) = Y2 at *
   generalize hq2 : QF (i + 1) = qi2 at *
   generalize (f a).1 = Z at *
   generalize (f a).2 = z at *
   cases a with
   | mk kind slot var val =>
   cases val with
   | mk k1 n1 s1 l1 =>
   rw [Ts.cells_mk] at h1 hG
   replace hG := Lib.hid hG
   replace hY2 := Lib.hid hY2
   replace hq2 := Lib.hid hq2
   repeat' (first | refine QX ?_ | (refine QB ?_; intro b) | (refine QP ?_; intro o' ho') | (with_reducible refine QZ ?_ <;> (try constructor) <;> intro hb <;> try intro hb1) | ((with_reducible apply (ck_gen hcall)); (focus exact (List.perm_middle (l₁ := [_, _, _])).symm); (focus exact hG.out o ho _); (focus exact LEL.refl _); (focus exact ⟨_, _, .tight, tight_ne, rfl, rfl⟩); (rintro d st' ⟨o', ho', rfl, rfl⟩)) | fail)
   refine ⟨i + 1, penS vb pb o' Y2 qi2 s, q_t, ⟨hlt, ?_, ?_, ?_, ?_, ?_, o', ho', by rw [hY2.out, hq2.out]⟩, by omega⟩
   all_goals exact Qf
 · obtain rfl : i = L.length := by omega
   repeat' (first | refine QX ?_ | (refine QB ?_; intro b) | (refine QP ?_; intro o' ho') | (with_reducible refine QZ ?_ <;> (try constructor) <;> intro hb <;> try intro hb1) | fail)
   all_goals exact retA_mk (by simp) q_y (List.Sublist.refl _) (LE.of_eq rfl) ⟨o, ho, rfl, rfl⟩
theorem ruleListPatF (fn : FuncId) (hcall : ∀ args w, (callFunc fn args).run Tryz.prog w = .ok (.enter fn args) w) (vb pb : Nat) (L : List Pt) (hl : L.length ≤ 1000) (f : Pt → List UInt8 × Bool) (c : Nat) (X : List UInt8) (q : Bool) (hf : ∀ a ∈ L, (f a).1.length ≤ c) (hX : X.length + 4 + L.length * c ≤ 10000000000000)
 (hF : ∀ a ∈ L, ∀ X q, X.length + c ≤ 10000000000000 → PenL fn [.agg a.cells, .ptr vb 0] vb pb X (f a).1 q (f a).2) : PenL 95 [.ptr pb 0, .sl .shared (L.map Pt.cells), .fn (.func fn) [] [.ptr vb 0]] vb pb X (Rul.listW f L).1 q (Rul.listW f L).2 := by
 intro o ho s
 have hN := binNumN L.length q_o
 have hm : (L.map Pt.cells).length = L.length := List.length_map ..
 have hc := hMp Pt.cells L
 have hF2 := Lib.hid hF
 obtain ⟨BF, QF, ⟨hXe, hqe⟩, hX0, hq0, hXs, hXl⟩ := Rul.listW_run L f c X q hf hX
 rw [hXe, hqe]
 have hb4 : (be 4 L.length).length = 4 := be_len ..
 have hXm : (X.map encB).length = X.length := List.length_map ..
 have hXX : X.length ≤ 10000000000000 := by omega
 clear hXe hqe hF hf hX
 generalize be 4 L.length = n4 at *
 generalize L.map Pt.cells = LS at *
 replace hN := Lib.hid hN
 refine Qin [] Tryz.func95 Tryz.results95 Tryz.ntmps95 ?_
 repeat' (first | refine QV ?_ | ((with_reducible refine w_draw [(pb, [.sl o (X.map encB), .b q])] ?_ ?_ ?_ ?_ ?_); (iterate 3 (focus kernel_rfl)); (focus exact q_1)) | ((with_reducible refine And.intro ?_ ?_); (focus exact q_1)) | refine QY ?_ | (refine QB ?_; intro b) | (refine QP ?_; intro o' ho') | (with_reducible refine QZ ?_ <;> (try constructor) <;> intro hb <;> try intro hb1) | fail)
 clear hN
 refine tr_loopd (ι := Nat) (fun i A st' => i ≤ L.length ∧ A.df = [] ∧ A.e 2 = .fn (.func fn) [] [.ptr vb 0] ∧ A.e 19 = .sl .shared LS ∧ A.e 20 = .i L.length ∧ A.e 21 = .i i ∧ ∃ o', o' ≠ .shared ∧ st' = penS vb pb o' (BF i) (QF i) s) (fun i => L.length - i) 0 ?_ ?_
 · rw [← hX0.out, ← hq0.out]
   exact ⟨Nat.zero_le _, Qf, Qf, Qf, Qf, Qf, _, by assumption, by unfold penS penR; rw [List.map_append]⟩
 clear hX0 hq0 ho hb4
 clear o
 rintro i A st' ⟨hi, hdf, e2, e19, e20, e21, o, ho, rfl⟩
 by_cases hlt : i < L.length
 · obtain ⟨a, ha⟩ := gEx hlt
   have h1 := hc.out i a ha
   obtain ⟨hE, hQ⟩ := hXs.out i a ha
   have hG := hF2.out a (List.mem_of_getElem? ha) (BF i) (QF i) (hXl.out i hlt)
   clear ha hXs hXl hF2 hc
   unfold PenL at hG
   simp only [← hE, ← hQ] at hG
   clear hE hQ
   generalize BF i = Y at *
   generalize QF i = qi at *
   generalize hY2 : BF (i + 1) = Y2 at *
   generalize hq2 : QF (i + 1) = qi2 at *
   generalize (f a).1 = Z at *
   generalize (f a).2 = z at *
   unfold Pt.cells at h1 hG
   cases a with
   | mk tmpl neg tests =>
   dsimp only at h1 hG
   generalize tests.map Ts.cells = TS at *
   replace hG := Lib.hid hG
   replace hY2 := Lib.hid hY2
   replace hq2 := Lib.hid hq2
   repeat' (first | refine QX ?_ | (refine QB ?_; intro b) | (refine QP ?_; intro o' ho') | (with_reducible refine QZ ?_ <;> (try constructor) <;> intro hb <;> try intro hb1) | ((with_reducible apply (ck_gen hcall)); (focus exact (List.perm_middle (l₁ := [_, _, _])).symm); (focus exact hG.out o ho _); (focus exact LEL.refl _); (focus exact ⟨_, _, .tight, tight_ne, rfl, rfl⟩); (rintro d st' ⟨o', ho', rfl, rfl⟩)) | fail)
   refine ⟨i + 1, penS vb pb o' Y2 qi2 s, q_t, ⟨hlt, ?_, ?_, ?_, ?_, ?_, o', ho', by rw [hY2.out, hq2.out]⟩, by omega⟩
   all_goals exact Qf
 · obtain rfl : i = L.length := by omega
   repeat' (first | refine QX ?_ | (refine QB ?_; intro b) | (refine QP ?_; intro o' ho') | (with_reducible refine QZ ?_ <;> (try constructor) <;> intro hb <;> try intro hb1) | fail)
   all_goals exact retA_mk (by simp) q_y (List.Sublist.refl _) (LE.of_eq rfl) ⟨o, ho, rfl, rfl⟩
theorem ruleListActF (fn : FuncId) (hcall : ∀ args w, (callFunc fn args).run Tryz.prog w = .ok (.enter fn args) w) (vb pb : Nat) (L : List Ac) (hl : L.length ≤ 1000) (f : Ac → List UInt8 × Bool) (c : Nat) (X : List UInt8) (q : Bool) (hf : ∀ a ∈ L, (f a).1.length ≤ c) (hX : X.length + 4 + L.length * c ≤ 10000000000000)
 (hF : ∀ a ∈ L, ∀ X q, X.length + c ≤ 10000000000000 → PenL fn [.agg a.cells, .ptr vb 0] vb pb X (f a).1 q (f a).2) : PenL 102 [.ptr pb 0, .sl .shared (L.map Ac.cells), .fn (.func fn) [] [.ptr vb 0]] vb pb X (Rul.listW f L).1 q (Rul.listW f L).2 := by
 intro o ho s
 have hN := binNumN L.length q_o
 have hm : (L.map Ac.cells).length = L.length := List.length_map ..
 have hc := hMp Ac.cells L
 have hF2 := Lib.hid hF
 obtain ⟨BF, QF, ⟨hXe, hqe⟩, hX0, hq0, hXs, hXl⟩ := Rul.listW_run L f c X q hf hX
 rw [hXe, hqe]
 have hb4 : (be 4 L.length).length = 4 := be_len ..
 have hXm : (X.map encB).length = X.length := List.length_map ..
 have hXX : X.length ≤ 10000000000000 := by omega
 clear hXe hqe hF hf hX
 generalize be 4 L.length = n4 at *
 generalize L.map Ac.cells = LS at *
 replace hN := Lib.hid hN
 refine Qin [] Tryz.func102 Tryz.results102 Tryz.ntmps102 ?_
 repeat' (first | refine QV ?_ | ((with_reducible refine w_draw [(pb, [.sl o (X.map encB), .b q])] ?_ ?_ ?_ ?_ ?_); (iterate 3 (focus kernel_rfl)); (focus exact q_1)) | ((with_reducible refine And.intro ?_ ?_); (focus exact q_1)) | refine QY ?_ | (refine QB ?_; intro b) | (refine QP ?_; intro o' ho') | (with_reducible refine QZ ?_ <;> (try constructor) <;> intro hb <;> try intro hb1) | fail)
 clear hN
 refine tr_loopd (ι := Nat) (fun i A st' => i ≤ L.length ∧ A.df = [] ∧ A.e 2 = .fn (.func fn) [] [.ptr vb 0] ∧ A.e 19 = .sl .shared LS ∧ A.e 20 = .i L.length ∧ A.e 21 = .i i ∧ ∃ o', o' ≠ .shared ∧ st' = penS vb pb o' (BF i) (QF i) s) (fun i => L.length - i) 0 ?_ ?_
 · rw [← hX0.out, ← hq0.out]
   exact ⟨Nat.zero_le _, Qf, Qf, Qf, Qf, Qf, _, by assumption, by unfold penS penR; rw [List.map_append]⟩
 clear hX0 hq0 ho hb4
 clear o
 rintro i A st' ⟨hi, hdf, e2, e19, e20, e21, o, ho, rfl⟩
 by_cases hlt : i < L.length
 · obtain ⟨a, ha⟩ := gEx hlt
   have h1 := hc.out i a ha
   obtain ⟨hE, hQ⟩ := hXs.out i a ha
   have hG := hF2.out a (List.mem_of_getElem? ha) (BF i) (QF i) (hXl.out i hlt)
   clear ha hXs hXl hF2 hc
   unfold PenL at hG
   simp only [← hE, ← hQ] at hG
   clear hE hQ
   generalize BF i = Y at *
   generalize QF i = qi at *
   generalize hY2 : BF (i + 1) = Y2 at *
   generalize hq2 : QF (i + 1) = qi2 at *
   generalize (f a).1 = Z at *
   generalize (f a).2 = z at *
   unfold Ac.cells at h1 hG
   cases a with
   | mk kind pat tmpl slot vals =>
   dsimp only at h1 hG
   generalize vals.map Ex.cells = ES at *
   replace hG := Lib.hid hG
   replace hY2 := Lib.hid hY2
   replace hq2 := Lib.hid hq2
   repeat' (first | refine QX ?_ | (refine QB ?_; intro b) | (refine QP ?_; intro o' ho') | (with_reducible refine QZ ?_ <;> (try constructor) <;> intro hb <;> try intro hb1) | ((with_reducible apply (ck_gen hcall)); (focus exact (List.perm_middle (l₁ := [_, _, _])).symm); (focus exact hG.out o ho _); (focus exact LEL.refl _); (focus exact ⟨_, _, .tight, tight_ne, rfl, rfl⟩); (rintro d st' ⟨o', ho', rfl, rfl⟩)) | fail)
   refine ⟨i + 1, penS vb pb o' Y2 qi2 s, q_t, ⟨hlt, ?_, ?_, ?_, ?_, ?_, o', ho', by rw [hY2.out, hq2.out]⟩, by omega⟩
   all_goals exact Qf
 · obtain rfl : i = L.length := by omega
   repeat' (first | refine QX ?_ | (refine QB ?_; intro b) | (refine QP ?_; intro o' ho') | (with_reducible refine QZ ?_ <;> (try constructor) <;> intro hb <;> try intro hb1) | fail)
   all_goals exact retA_mk (by simp) q_y (List.Sublist.refl _) (LE.of_eq rfl) ⟨o, ho, rfl, rfl⟩
theorem ruleListExprF (fn : FuncId) (hcall : ∀ args w, (callFunc fn args).run Tryz.prog w = .ok (.enter fn args) w) (vb pb : Nat) (L : List Ex) (hl : L.length ≤ 1000) (f : Ex → List UInt8 × Bool) (c : Nat) (X : List UInt8) (q : Bool) (hf : ∀ a ∈ L, (f a).1.length ≤ c) (hX : X.length + 4 + L.length * c ≤ 10000000000000)
 (hF : ∀ a ∈ L, ∀ X q, X.length + c ≤ 10000000000000 → PenL fn [.agg a.cells, .ptr vb 0] vb pb X (f a).1 q (f a).2) : PenL 104 [.ptr pb 0, .sl .shared (L.map Ex.cells), .fn (.func fn) [] [.ptr vb 0]] vb pb X (Rul.listW f L).1 q (Rul.listW f L).2 := by
 intro o ho s
 have hN := binNumN L.length q_o
 have hm : (L.map Ex.cells).length = L.length := List.length_map ..
 have hc := hMp Ex.cells L
 have hF2 := Lib.hid hF
 obtain ⟨BF, QF, ⟨hXe, hqe⟩, hX0, hq0, hXs, hXl⟩ := Rul.listW_run L f c X q hf hX
 rw [hXe, hqe]
 have hb4 : (be 4 L.length).length = 4 := be_len ..
 have hXm : (X.map encB).length = X.length := List.length_map ..
 have hXX : X.length ≤ 10000000000000 := by omega
 clear hXe hqe hF hf hX
 generalize be 4 L.length = n4 at *
 generalize L.map Ex.cells = LS at *
 replace hN := Lib.hid hN
 refine Qin [] Tryz.func104 Tryz.results104 Tryz.ntmps104 ?_
 repeat' (first | refine QV ?_ | ((with_reducible refine w_draw [(pb, [.sl o (X.map encB), .b q])] ?_ ?_ ?_ ?_ ?_); (iterate 3 (focus kernel_rfl)); (focus exact q_1)) | ((with_reducible refine And.intro ?_ ?_); (focus exact q_1)) | refine QY ?_ | (refine QB ?_; intro b) | (refine QP ?_; intro o' ho') | (with_reducible refine QZ ?_ <;> (try constructor) <;> intro hb <;> try intro hb1) | fail)
 clear hN
 refine tr_loopd (ι := Nat) (fun i A st' => i ≤ L.length ∧ A.df = [] ∧ A.e 2 = .fn (.func fn) [] [.ptr vb 0] ∧ A.e 19 = .sl .shared LS ∧ A.e 20 = .i L.length ∧ A.e 21 = .i i ∧ ∃ o', o' ≠ .shared ∧ st' = penS vb pb o' (BF i) (QF i) s) (fun i => L.length - i) 0 ?_ ?_
 · rw [← hX0.out, ← hq0.out]
   exact ⟨Nat.zero_le _, Qf, Qf, Qf, Qf, Qf, _, by assumption, by unfold penS penR; rw [List.map_append]⟩
 clear hX0 hq0 ho hb4
 clear o
 rintro i A st' ⟨hi, hdf, e2, e19, e20, e21, o, ho, rfl⟩
 by_cases hlt : i < L.length
 · obtain ⟨a, ha⟩ := gEx hlt
   have h1 := hc.out i a ha
   obtain ⟨hE, hQ⟩ := hXs.out i a ha
   have hG := hF2.out a (List.mem_of_getElem? ha) (BF i) (QF i) (hXl.out i hlt)
   clear ha hXs hXl hF2 hc
   unfold PenL at hG
   simp only [← hE, ← hQ] at hG
   clear hE hQ
   generalize BF i = Y at *
   generalize QF i = qi at *
   generalize hY2 : BF (i + 1) = Y2 at *
   generalize hq2 : QF (i + 1) = qi2 at *
   generalize (f a).1 = Z at *
   generalize (f a).2 = z at *
   cases a with
   | mk iv var val =>
   cases val with
   | mk k1 n1 s1 l1 =>
   rw [Ex.cells_mk] at h1 hG
   replace hG := Lib.hid hG
   replace hY2 := Lib.hid hY2
   replace hq2 := Lib.hid hq2
   repeat' (first | refine QX ?_ | (refine QB ?_; intro b) | (refine QP ?_; intro o' ho') | (with_reducible refine QZ ?_ <;> (try constructor) <;> intro hb <;> try intro hb1) | ((with_reducible apply (ck_gen hcall)); (focus exact (List.perm_middle (l₁ := [_, _, _])).symm); (focus exact hG.out o ho _); (focus exact LEL.refl _); (focus exact ⟨_, _, .tight, tight_ne, rfl, rfl⟩); (rintro d st' ⟨o', ho', rfl, rfl⟩)) | fail)
   refine ⟨i + 1, penS vb pb o' Y2 qi2 s, q_t, ⟨hlt, ?_, ?_, ?_, ?_, ?_, o', ho', by rw [hY2.out, hq2.out]⟩, by omega⟩
   all_goals exact Qf
 · obtain rfl : i = L.length := by omega
   repeat' (first | refine QX ?_ | (refine QB ?_; intro b) | (refine QP ?_; intro o' ho') | (with_reducible refine QZ ?_ <;> (try constructor) <;> intro hb <;> try intro hb1) | fail)
   all_goals exact retA_mk (by simp) q_y (List.Sublist.refl _) (LE.of_eq rfl) ⟨o, ho, rfl, rfl⟩
theorem ruleListRuleF (fn : FuncId) (hcall : ∀ args w, (callFunc fn args).run Tryz.prog w = .ok (.enter fn args) w) (vb pb : Nat) (L : List Rl) (hl : L.length ≤ 1000) (f : Rl → List UInt8 × Bool) (c : Nat) (X : List UInt8) (q : Bool) (hf : ∀ a ∈ L, (f a).1.length ≤ c) (hX : X.length + 4 + L.length * c ≤ 10000000000000)
 (hF : ∀ a ∈ L, ∀ X q, X.length + c ≤ 10000000000000 → PenL fn [.agg a.cells, .ptr vb 0] vb pb X (f a).1 q (f a).2) : PenL 92 [.ptr pb 0, .sl .shared (L.map Rl.cells), .fn (.func fn) [] [.ptr vb 0]] vb pb X (Rul.listW f L).1 q (Rul.listW f L).2 := by
 intro o ho s
 have hN := binNumN L.length q_o
 have hm : (L.map Rl.cells).length = L.length := List.length_map ..
 have hc := hMp Rl.cells L
 have hF2 := Lib.hid hF
 obtain ⟨BF, QF, ⟨hXe, hqe⟩, hX0, hq0, hXs, hXl⟩ := Rul.listW_run L f c X q hf hX
 rw [hXe, hqe]
 have hb4 : (be 4 L.length).length = 4 := be_len ..
 have hXm : (X.map encB).length = X.length := List.length_map ..
 have hXX : X.length ≤ 10000000000000 := by omega
 clear hXe hqe hF hf hX
 generalize be 4 L.length = n4 at *
 generalize L.map Rl.cells = LS at *
 replace hN := Lib.hid hN
 refine Qin [] Tryz.func92 Tryz.results92 Tryz.ntmps92 ?_
 repeat' (first | refine QV ?_ | ((with_reducible refine w_draw [(pb, [.sl o (X.map encB), .b q])] ?_ ?_ ?_ ?_ ?_); (iterate 3 (focus kernel_rfl)); (focus exact q_1)) | ((with_reducible refine And.intro ?_ ?_); (focus exact q_1)) | refine QY ?_ | (refine QB ?_; intro b) | (refine QP ?_; intro o' ho') | (with_reducible refine QZ ?_ <;> (try constructor) <;> intro hb <;> try intro hb1) | fail)
 clear hN
 refine tr_loopd (ι := Nat) (fun i A st' => i ≤ L.length ∧ A.df = [] ∧ A.e 2 = .fn (.func fn) [] [.ptr vb 0] ∧ A.e 19 = .sl .shared LS ∧ A.e 20 = .i L.length ∧ A.e 21 = .i i ∧ ∃ o', o' ≠ .shared ∧ st' = penS vb pb o' (BF i) (QF i) s) (fun i => L.length - i) 0 ?_ ?_
 · rw [← hX0.out, ← hq0.out]
   exact ⟨Nat.zero_le _, Qf, Qf, Qf, Qf, Qf, _, by assumption, by unfold penS penR; rw [List.map_append]⟩
 clear hX0 hq0 ho hb4
 clear o
 rintro i A st' ⟨hi, hdf, e2, e19, e20, e21, o, ho, rfl⟩
 by_cases hlt : i < L.length
 · obtain ⟨a, ha⟩ := gEx hlt
   have h1 := hc.out i a ha
   obtain ⟨hE, hQ⟩ := hXs.out i a ha
   have hG := hF2.out a (List.mem_of_getElem? ha) (BF i) (QF i) (hXl.out i hlt)
   clear ha hXs hXl hF2 hc
   unfold PenL at hG
   simp only [← hE, ← hQ] at hG
   clear hE hQ
   generalize BF i = Y at *
   generalize QF i = qi at *
   generalize hY2 : BF (i + 1) = Y2 at *
   generalize hq2 : QF (i + 1) = qi2 at *
   generalize (f a).1 = Z at *
   generalize (f a).2 = z at *
   unfold Rl.cells at h1 hG
   cases a with
   | mk nm sal pats acts =>
   dsimp only at h1 hG
   generalize pats.map Pt.cells = PS at *
   generalize acts.map Ac.cells = AS at *
   replace hG := Lib.hid hG
   replace hY2 := Lib.hid hY2
   replace hq2 := Lib.hid hq2
   repeat' (first | refine QX ?_ | (refine QB ?_; intro b) | (refine QP ?_; intro o' ho') | (with_reducible refine QZ ?_ <;> (try constructor) <;> intro hb <;> try intro hb1) | ((with_reducible apply (ck_gen hcall)); (focus exact (List.perm_middle (l₁ := [_, _, _])).symm); (focus exact hG.out o ho _); (focus exact LEL.refl _); (focus exact ⟨_, _, .tight, tight_ne, rfl, rfl⟩); (rintro d st' ⟨o', ho', rfl, rfl⟩)) | fail)
   refine ⟨i + 1, penS vb pb o' Y2 qi2 s, q_t, ⟨hlt, ?_, ?_, ?_, ?_, ?_, o', ho', by rw [hY2.out, hq2.out]⟩, by omega⟩
   all_goals exact Qf
 · obtain rfl : i = L.length := by omega
   repeat' (first | refine QX ?_ | (refine QB ?_; intro b) | (refine QP ?_; intro o' ho') | (with_reducible refine QZ ?_ <;> (try constructor) <;> intro hb <;> try intro hb1) | fail)
   all_goals exact retA_mk (by simp) q_y (List.Sublist.refl _) (LE.of_eq rfl) ⟨o, ho, rfl, rfl⟩
namespace Rul
def bitI (b : Bool) : Int := if b then 1 else 0
def numsW (l : List Int) : List UInt8 × Bool := (l.map Reg.b8, l.any badN)
def catW (a b : List UInt8 × Bool) : List UInt8 × Bool := (a.1 ++ b.1, a.2 || b.2)
def valW (v : V) : List UInt8 × Bool := (v.bin, decide (v.bin = []))
def tsW (t : Ts) : List UInt8 × Bool := catW (numsW [t.kind, t.slot, t.var]) (valW t.val)
def ptW (p : Pt) : List UInt8 × Bool := catW (numsW [p.tmpl, bitI p.neg]) (listW tsW p.tests)
def exW (e : Ex) : List UInt8 × Bool := catW (numsW [bitI e.isVar, e.var]) (valW e.val)
def acW (a : Ac) : List UInt8 × Bool := catW (numsW [a.kind, a.pat, a.tmpl, a.slot]) (listW exW a.vals)
def headW (x : Rl) : List UInt8 := [tx x.name.data.toList, be 8 (IntKind.u64.wrap x.sal).toNat].flatten
def rlW (x : Rl) : List UInt8 × Bool := catW (catW (headW x, false) (listW ptW x.pats)) (listW acW x.acts)
def put (R : List Rl) : List UInt8 := if (listW rlW R).2 = true then [] else (listW rlW R).1
theorem valW_len (v : V) : (valW v).1.length ≤ 20500 := Reg.bin_len v
theorem tsW_len (t : Ts) : (tsW t).1.length ≤ 20510 := by
 have := valW_len t.val
 unfold tsW catW numsW
 simp only [List.length_append, List.length_map, List.length_cons, List.length_nil]
 omega
theorem exW_len (e : Ex) : (exW e).1.length ≤ 20510 := by
 have := valW_len e.val
 unfold exW catW numsW
 simp only [List.length_append, List.length_map, List.length_cons, List.length_nil]
 omega
theorem listW_len {α : Type} (f : α → List UInt8 × Bool) (c : Nat) (l : List α) (h : ∀ a ∈ l, (f a).1.length ≤ c) : (listW f l).1.length ≤ 4 + l.length * c := Reg.listB_len (fun a => (f a).1) c l h
theorem ptW_len (p : Pt) (h : p.tests.length ≤ 100) : (ptW p).1.length ≤ 2051010 := by
 have h1 := listW_len tsW 20510 p.tests fun t _ => tsW_len t
 have h2 : p.tests.length * 20510 ≤ 100 * 20510 := Nat.mul_le_mul_right _ h
 unfold ptW catW numsW
 simp only [List.length_append, List.length_map, List.length_cons, List.length_nil]
 omega
theorem acW_len (a : Ac) (h : a.vals.length ≤ 100) : (acW a).1.length ≤ 2051010 := by
 have h1 := listW_len exW 20510 a.vals fun t _ => exW_len t
 have h2 : a.vals.length * 20510 ≤ 100 * 20510 := Nat.mul_le_mul_right _ h
 unfold acW catW numsW
 simp only [List.length_append, List.length_map, List.length_cons, List.length_nil]
 omega
theorem headW_len (x : Rl) (h : x.name.size ≤ 900000) : (headW x).length ≤ 900012 := by
 unfold headW tx
 have : x.name.data.toList.length = x.name.size := by simp
 simp only [List.flatten_cons, List.flatten_nil, List.append_nil, List.length_append, be_len]
 omega
theorem rlW_len (x : Rl) (h : RK x) : (rlW x).1.length ≤ 411103000 := by
 have h0 := headW_len x h.nm
 have h1 := listW_len ptW 2051010 x.pats fun p hp => ptW_len p (h.nt p hp)
 have h2 := listW_len acW 2051010 x.acts fun a ha => acW_len a (h.nv a ha)
 have h3 : x.pats.length * 2051010 ≤ 100 * 2051010 := Nat.mul_le_mul_right _ h.np
 have h4 : x.acts.length * 2051010 ≤ 100 * 2051010 := Nat.mul_le_mul_right _ h.na
 unfold rlW catW
 simp only [List.length_append]
 omega
end Rul
theorem rulePutTsF (vb pb : Nat) (t : Ts) (ht : VQ t.val) (X : List UInt8) (q : Bool) (hX : X.length + 20510 ≤ 10000000000000) : PenL 100 [.agg t.cells, .ptr vb 0] vb pb X (Rul.tsW t).1 q (Rul.tsW t).2 := by
 intro o ho s
 have hB := penBytesF pb [t.kind, t.slot, t.var] (by show 3 ≤ 100; omega) X q (by show _ + 3 ≤ _; omega)
 have hV := penValueF pb t.val ht (X ++ [t.kind, t.slot, t.var].map Reg.b8) (q || [t.kind, t.slot, t.var].any Rul.badN) (by rw [List.length_append]; show _ + 3 ≤ _; omega)
 have e1 : X ++ (Rul.tsW t).1 = X ++ [t.kind, t.slot, t.var].map Reg.b8 ++ t.val.bin := (List.append_assoc ..).symm
 have e2 : (q || (Rul.tsW t).2) = ((q || [t.kind, t.slot, t.var].any Rul.badN) || decide (t.val.bin = [])) := (Bool.or_assoc ..).symm
 rw [e1, e2]
 clear e1 e2 hX ht
 generalize t.val.bin = Y at *
 generalize decide (Y = []) = y at *
 generalize [t.kind, t.slot, t.var].map Reg.b8 = Z at *
 generalize [t.kind, t.slot, t.var].any Rul.badN = z at *
 cases t with
 | mk kind slot var val =>
 cases val with
 | mk k1 n1 s1 l1 =>
 rw [Ts.cells_mk]
 dsimp only at *
 rw [V.cells_mk] at hV
 replace hB := Lib.hid hB
 replace hV := Lib.hid hV
 refine Qin [] Tryz.func100 Tryz.results100 Tryz.ntmps100 ?_
 repeat' (first | refine QX ?_ | (refine QB ?_; intro b) | (refine QP ?_; intro o' ho') | (with_reducible refine QZ ?_ <;> (try constructor) <;> intro hb <;> try intro hb1) | ((with_reducible apply (ck_ex2 Tryz.call97)); exact hB.out o ho; (focus exact q_l); (focus exact fun _ => q_a); (focus exact ⟨.tight, by intro h; cases h⟩); intro o1 ho1) | ((with_reducible apply (ck_ex2 Tryz.call101)); exact hV.out o1 ho1; (focus exact q_l); (focus exact fun _ => q_a); (focus exact ⟨.tight, by intro h; cases h⟩); intro o2 ho2) | fail)
 all_goals exact retA_mk (by simp) q_y (List.Sublist.refl _) (LE.of_eq rfl) ⟨o2, ho2, rfl, rfl⟩
theorem rulePutExF (vb pb : Nat) (e : Ex) (he : VQ e.val) (X : List UInt8) (q : Bool) (hX : X.length + 20510 ≤ 10000000000000) : PenL 105 [.agg e.cells, .ptr vb 0] vb pb X (Rul.exW e).1 q (Rul.exW e).2 := by
 intro o ho s
 have hBi := ruleBitF e.isVar
 have hB := penBytesF pb [Rul.bitI e.isVar, e.var] (by show 2 ≤ 100; omega) X q (by show _ + 2 ≤ _; omega)
 have hV := penValueF pb e.val he (X ++ [Rul.bitI e.isVar, e.var].map Reg.b8) (q || [Rul.bitI e.isVar, e.var].any Rul.badN) (by rw [List.length_append]; show _ + 2 ≤ _; omega)
 have e1 : X ++ (Rul.exW e).1 = X ++ [Rul.bitI e.isVar, e.var].map Reg.b8 ++ e.val.bin := (List.append_assoc ..).symm
 have e2 : (q || (Rul.exW e).2) = ((q || [Rul.bitI e.isVar, e.var].any Rul.badN) || decide (e.val.bin = [])) := (Bool.or_assoc ..).symm
 rw [e1, e2]
 clear e1 e2 hX he
 generalize e.val.bin = Y at *
 generalize decide (Y = []) = y at *
 generalize [Rul.bitI e.isVar, e.var].map Reg.b8 = Z at *
 generalize [Rul.bitI e.isVar, e.var].any Rul.badN = z at *
 unfold Rul.bitI at hB
 generalize (if e.isVar = true then (1 : Int) else 0) = bi at *
 cases e with
 | mk iv var val =>
 cases val with
 | mk k1 n1 s1 l1 =>
 rw [Ex.cells_mk]
 dsimp only at *
 rw [V.cells_mk] at hV
 replace hBi := Lib.hid hBi
 replace hB := Lib.hid hB
 replace hV := Lib.hid hV
 refine Qin [] Tryz.func105 Tryz.results105 Tryz.ntmps105 ?_
 repeat' (first | refine QV ?_ | ((with_reducible refine w_draw [(vb, [.ptr pb 0])] ?_ ?_ ?_ ?_ ?_); (iterate 3 (focus kernel_rfl)); (focus exact q_1)) | ((with_reducible refine And.intro ?_ ?_); (focus exact q_1)) | refine QY ?_ | (refine QB ?_; intro b) | (refine QP ?_; intro o' ho') | (with_reducible refine QZ ?_ <;> (try constructor) <;> intro hb <;> try intro hb1) | ((with_reducible apply (ck_ex2 Tryz.call97)); exact hB.out o ho; (focus exact q_l); (focus exact fun _ => q_a); (focus exact ⟨.tight, by intro h; cases h⟩); intro o1 ho1) | ((with_reducible apply (ck_ex2 Tryz.call101)); exact hV.out o1 ho1; (focus exact q_l); (focus exact fun _ => q_a); (focus exact ⟨.tight, by intro h; cases h⟩); intro o2 ho2) | fail)
 all_goals exact retA_mk (by simp) q_y (List.Sublist.refl _) (LE.of_eq rfl) ⟨o2, ho2, rfl, rfl⟩
theorem rulePutPtF (vb pb : Nat) (p : Pt) (hp : p.tests.length ≤ 100) (ht : ∀ t ∈ p.tests, VQ t.val) (X : List UInt8) (q : Bool) (hX : X.length + 2051010 ≤ 10000000000000) : PenL 96 [.agg p.cells, .ptr vb 0] vb pb X (Rul.ptW p).1 q (Rul.ptW p).2 := by
 intro o ho s
 have hBi := ruleBitF p.neg
 have hB := penBytesF pb [p.tmpl, Rul.bitI p.neg] (by show 2 ≤ 100; omega) X q (by show _ + 2 ≤ _; omega)
 have hL := ruleListTestF 100 Tryz.call100 vb pb p.tests q_o Rul.tsW 20510 (X ++ [p.tmpl, Rul.bitI p.neg].map Reg.b8) (q || [p.tmpl, Rul.bitI p.neg].any Rul.badN) (fun t _ => Rul.tsW_len t)
  (by have h2 : p.tests.length * 20510 ≤ 100 * 20510 := Nat.mul_le_mul_right _ hp
      rw [List.length_append]; show _ + 2 + 4 + _ ≤ _; omega) (fun t h X q hX => rulePutTsF vb pb t (ht t h) X q hX)
 have e1 : X ++ (Rul.ptW p).1 = X ++ [p.tmpl, Rul.bitI p.neg].map Reg.b8 ++ (Rul.listW Rul.tsW p.tests).1 := (List.append_assoc ..).symm
 have e2 : (q || (Rul.ptW p).2) = ((q || [p.tmpl, Rul.bitI p.neg].any Rul.badN) || (Rul.listW Rul.tsW p.tests).2) := (Bool.or_assoc ..).symm
 rw [e1, e2]
 clear e1 e2 hX ht
 generalize Rul.listW Rul.tsW p.tests = Y at *
 generalize [p.tmpl, Rul.bitI p.neg].map Reg.b8 = Z at *
 generalize [p.tmpl, Rul.bitI p.neg].any Rul.badN = z at *
 unfold Rul.bitI at hB
 generalize (if p.neg = true then (1 : Int) else 0) = bi at *
 unfold Pt.cells
 cases p with
 | mk tmpl neg tests =>
 dsimp only at *
 generalize tests.map Ts.cells = TS at *
 replace hBi := Lib.hid hBi
 replace hB := Lib.hid hB
 replace hL := Lib.hid hL
 refine Qin [] Tryz.func96 Tryz.results96 Tryz.ntmps96 ?_
 repeat' (first | refine QV ?_ | ((with_reducible refine w_draw [(vb, [.ptr pb 0])] ?_ ?_ ?_ ?_ ?_); (iterate 3 (focus kernel_rfl)); (focus exact q_1)) | ((with_reducible refine And.intro ?_ ?_); (focus exact q_1)) | refine QY ?_ | (refine QB ?_; intro b) | (refine QP ?_; intro o' ho') | (with_reducible refine QZ ?_ <;> (try constructor) <;> intro hb <;> try intro hb1) | ((with_reducible apply (ck_ex2 Tryz.call97)); exact hB.out o ho; (focus exact q_l); (focus exact fun _ => q_a); (focus exact ⟨.tight, by intro h; cases h⟩); intro o1 ho1) | (refine QE Tryz.call99 (hL.out o1 ho1 _) ?_; intro o2 ho2) | fail)
 all_goals exact retA_mk (by simp) q_y (List.Sublist.refl _) (LE.of_eq rfl) ⟨o2, ho2, rfl, rfl⟩
theorem rulePutAcF (vb pb : Nat) (a : Ac) (hp : a.vals.length ≤ 100) (ht : ∀ e ∈ a.vals, VQ e.val) (X : List UInt8) (q : Bool) (hX : X.length + 2051010 ≤ 10000000000000) : PenL 103 [.agg a.cells, .ptr vb 0] vb pb X (Rul.acW a).1 q (Rul.acW a).2 := by
 intro o ho s
 have hB := penBytesF pb [a.kind, a.pat, a.tmpl, a.slot] (by show 4 ≤ 100; omega) X q (by show _ + 4 ≤ _; omega)
 have hL := ruleListExprF 105 Tryz.call105 vb pb a.vals q_o Rul.exW 20510 (X ++ [a.kind, a.pat, a.tmpl, a.slot].map Reg.b8) (q || [a.kind, a.pat, a.tmpl, a.slot].any Rul.badN) (fun t _ => Rul.exW_len t)
  (by have h2 : a.vals.length * 20510 ≤ 100 * 20510 := Nat.mul_le_mul_right _ hp
      rw [List.length_append]; show _ + 4 + 4 + _ ≤ _; omega) (fun t h X q hX => rulePutExF vb pb t (ht t h) X q hX)
 have e1 : X ++ (Rul.acW a).1 = X ++ [a.kind, a.pat, a.tmpl, a.slot].map Reg.b8 ++ (Rul.listW Rul.exW a.vals).1 := (List.append_assoc ..).symm
 have e2 : (q || (Rul.acW a).2) = ((q || [a.kind, a.pat, a.tmpl, a.slot].any Rul.badN) || (Rul.listW Rul.exW a.vals).2) := (Bool.or_assoc ..).symm
 rw [e1, e2]
 clear e1 e2 hX ht
 generalize Rul.listW Rul.exW a.vals = Y at *
 generalize [a.kind, a.pat, a.tmpl, a.slot].map Reg.b8 = Z at *
 generalize [a.kind, a.pat, a.tmpl, a.slot].any Rul.badN = z at *
 unfold Ac.cells
 cases a with
 | mk kind pat tmpl slot vals =>
 dsimp only at *
 generalize vals.map Ex.cells = ES at *
 replace hB := Lib.hid hB
 replace hL := Lib.hid hL
 refine Qin [] Tryz.func103 Tryz.results103 Tryz.ntmps103 ?_
 repeat' (first | refine QX ?_ | (refine QB ?_; intro b) | (refine QP ?_; intro o' ho') | (with_reducible refine QZ ?_ <;> (try constructor) <;> intro hb <;> try intro hb1) | ((with_reducible apply (ck_ex2 Tryz.call97)); exact hB.out o ho; (focus exact q_l); (focus exact fun _ => q_a); (focus exact ⟨.tight, by intro h; cases h⟩); intro o1 ho1) | (refine QE Tryz.call104 (hL.out o1 ho1 _) ?_; intro o2 ho2) | fail)
 all_goals exact retA_mk (by simp) q_y (List.Sublist.refl _) (LE.of_eq rfl) ⟨o2, ho2, rfl, rfl⟩
theorem rulePutRlF (vb pb : Nat) (x : Rl) (hx : Rul.RK x) (hs : -9223372036854775808 ≤ x.sal ∧ x.sal ≤ 9223372036854775807) (X : List UInt8) (q : Bool) (hX : X.length + 411103000 ≤ 10000000000000) : PenL 93 [.agg x.cells, .ptr vb 0] vb pb X (Rul.rlW x).1 q (Rul.rlW x).2 := by
 intro o ho s
 have hT := binTextF x.name (by have := hx.nm; omega)
 have hLo := binLongF x.sal hs
 have hhl := Rul.headW_len x hx.nm
 have hA := binAllF .tight [tx x.name.data.toList, be 8 (IntKind.u64.wrap x.sal).toNat] (by unfold Rul.headW at hhl; omega) (by show 2 ≤ 1000000; omega)
 have h3 : x.pats.length * 2051010 ≤ 100 * 2051010 := Nat.mul_le_mul_right _ hx.np
 have h4 : x.acts.length * 2051010 ≤ 100 * 2051010 := Nat.mul_le_mul_right _ hx.na
 have hp1 := Rul.listW_len Rul.ptW 2051010 x.pats fun p hp => Rul.ptW_len p (hx.nt p hp)
 have hP := ruleListPatF 96 Tryz.call96 vb pb x.pats (by have := hx.np; omega) Rul.ptW 2051010 (X ++ Rul.headW x) q (fun p h => Rul.ptW_len p (hx.nt p h)) (by rw [List.length_append]; omega) (fun p h X q hX => rulePutPtF vb pb p (hx.nt p h) (hx.vt p h) X q hX)
 have hC := ruleListActF 103 Tryz.call103 vb pb x.acts (by have := hx.na; omega) Rul.acW 2051010 (X ++ Rul.headW x ++ (Rul.listW Rul.ptW x.pats).1) (q || (Rul.listW Rul.ptW x.pats).2) (fun p h => Rul.acW_len p (hx.nv p h)) (by rw [List.length_append, List.length_append]; omega) (fun p h X q hX => rulePutAcF vb pb p (hx.nv p h) (hx.va p h) X q hX)
 have e1 : X ++ (Rul.rlW x).1 = X ++ Rul.headW x ++ (Rul.listW Rul.ptW x.pats).1 ++ (Rul.listW Rul.acW x.acts).1 := by unfold Rul.rlW Rul.catW; simp only [List.append_assoc]
 have e2 : (q || (Rul.rlW x).2) = ((q || (Rul.listW Rul.ptW x.pats).2) || (Rul.listW Rul.acW x.acts).2) := by unfold Rul.rlW Rul.catW; simp only [Bool.or_assoc, Bool.false_or]
 rw [e1, e2]
 have hXX : X.length ≤ 10000000000000 := by omega
 have hXm : (X.map encB).length = X.length := List.length_map ..
 have hHm : ((Rul.headW x).map encB).length = (Rul.headW x).length := List.length_map ..
 clear e1 e2 hX hx hp1 h3 h4
 have hHe : (X ++ Rul.headW x).map encB = X.map encB ++ (Rul.headW x).map encB := List.map_append ..
 unfold Rul.headW at *
 generalize [tx x.name.data.toList, be 8 (IntKind.u64.wrap x.sal).toNat].flatten = H at *
 simp only [List.map_cons, List.map_nil, encBs] at hA
 generalize tx x.name.data.toList = b1 at *
 generalize be 8 (IntKind.u64.wrap x.sal).toNat = b2 at *
 generalize Rul.listW Rul.ptW x.pats = W1 at *
 generalize Rul.listW Rul.acW x.acts = W2 at *
 unfold PenL penS penR at hP hC
 unfold penS penR
 rw [hHe] at hP
 unfold Rl.cells
 cases x with
 | mk nm sal pats acts =>
 dsimp only at *
 generalize pats.map Pt.cells = PS at *
 generalize acts.map Ac.cells = AS at *
 replace hT := Lib.hid hT
 replace hLo := Lib.hid hLo
 replace hA := Lib.hid hA
 replace hP := Lib.hid hP
 replace hC := Lib.hid hC
 clear hs hHe
 refine Qin [] Tryz.func93 Tryz.results93 Tryz.ntmps93 ?_
 repeat' (first | refine QV ?_ | ((with_reducible apply (w_drawN [(vb, [.ptr pb 0]), (pb, [.sl o (X.map encB), .b q])])); (iterate 3 (focus kernel_rfl)); (focus exact q_k); intro hne; simp only [nes, ne1, and_assoc] at hne; repeat (have hq := hne.1; replace hne := hne.2)) | ((with_reducible refine And.intro ?_ ?_); (focus exact q_k)) | refine QY ?_ | (refine QB ?_; intro b) | (refine QP ?_; intro o' ho') | (with_reducible refine QZ ?_ <;> (try constructor) <;> intro hb <;> try intro hb1) | (refine QE Tryz.call54 (hA.out _) ?_; intro o2 ho2) | ((with_reducible apply (ck_gen Tryz.call95)); (focus exact (List.perm_middle (l₁ := [_, _, _])).symm); (focus exact hP.out o' ho' _); (focus exact LEL.refl _); (focus exact ⟨_, _, .tight, tight_ne, rfl, rfl⟩); (rintro d st' ⟨o3, ho3, rfl, rfl⟩)) | (refine QE Tryz.call102 (hC.out o3 ho3 _) ?_; intro o4 ho4) | fail)
 all_goals exact retA_mk (by simp) q_y q_t (LE.of_eq rfl) ⟨o4, ho4, rfl, rfl⟩
theorem rulePutF (R : List Rl) (hR : ∀ x ∈ R, Rul.RK x ∧ (-9223372036854775808 ≤ x.sal ∧ x.sal ≤ 9223372036854775807)) (hl : R.length ≤ 1000) (st : St) : TrF Tryz.prog 39 [.sl .shared (R.map Rl.cells)] st fun d st' => d = .sl .shared ((Rul.put R).map encB) ∧ st' = st := by
 have h3 : R.length * 411103000 ≤ 1000 * 411103000 := Nat.mul_le_mul_right _ hl
 have hL := fun (vb pb : Nat) => ruleListRuleF 93 Tryz.call93 vb pb R hl Rul.rlW 411103000 [] false (fun x h => Rul.rlW_len x (hR x h).1) (by show 0 + 4 + _ ≤ _; omega) (fun x h X q hX => rulePutRlF vb pb x (hR x h).1 (hR x h).2 X q hX)
 unfold Rul.put
 generalize Rul.listW Rul.rlW R = W1 at *
 obtain ⟨Y, q⟩ := W1
 dsimp only at *
 generalize R.map Rl.cells = RS at *
 clear hR h3 hl
 unfold PenL penS penR at hL
 simp only [List.nil_append, Bool.false_or] at hL
 replace hL := Lib.hid hL
 cases q
 all_goals (
  refine Qin [2] Tryz.func39 Tryz.results39 Tryz.ntmps39 ?_
  refine tr_room 5 1 (([] : List UInt8).map encB).length ?_
  repeat' (first | with_reducible refine s_boxP ?_ | refine QX ?_ | (refine QB ?_; intro b) | (refine QP ?_; intro o' ho') | (with_reducible refine QZ ?_ <;> (try constructor) <;> intro hb <;> try intro hb1) | (refine QE Tryz.call92 (hL.out _ _ .tight tight_ne _) ?_; intro o1 ho1) | fail)
  all_goals exact Qret)
end
section
attribute [local push_cast] encB encI RS.cells V.cells_mk V.cells_len Nat.mul_one Int.sub_zero List.map_nil beq_self_eq_true bne_self_eq_false List.head?_cons
open Go.RowKit B
set_option maxHeartbeats 16000000
namespace Rul
abbrev GS := RS × Bool
def flagS (s : GS) : Bool × GS := (s.1.byte.1 == 1, (s.1.byte.2, s.2 && decide (s.1.byte.1 ≤ 1)))
def byteS (s : GS) : Int × GS := (s.1.byte.1, (s.1.byte.2, s.2))
def valS (s : GS) : V × GS := (s.1.val.1, (s.1.val.2, s.2))
def rdG {α : Type} (f : GS → α × GS) : Nat → GS → List α × GS
 | 0, s => ([], s)
 | n + 1, s => if s.1.bad = true then ([], s) else ((f s).1 :: (rdG f n (f s).2).1, (rdG f n (f s).2).2)
def glist {α : Type} (f : GS → α × GS) (k : Int) (s : GS) : List α × GS := rdG f (if k < s.1.rnum.1 then k else s.1.rnum.1).toNat (s.1.rnum.2, s.2)
def tsG (s : GS) : Ts × GS :=
 let a := byteS s; let b := byteS a.2; let c := byteS b.2; let d := valS c.2
 (⟨a.1, b.1, c.1, d.1⟩, d.2)
def exG (s : GS) : Ex × GS :=
 let a := flagS s; let b := byteS a.2; let d := valS b.2
 (⟨a.1, b.1, d.1⟩, d.2)
def ptG (s : GS) : Pt × GS :=
 let a := byteS s; let b := flagS a.2; let d := glist tsG 7 b.2
 (⟨a.1, b.1, d.1⟩, d.2)
def acG (s : GS) : Ac × GS :=
 let a := byteS s; let b := byteS a.2; let c := byteS b.2; let d := byteS c.2; let e := glist exG 17 d.2
 (⟨a.1, b.1, c.1, d.1, e.1⟩, e.2)
def rlG (s : GS) : Rl × GS :=
 let a := s.1.text; let b := a.2.long; let c := glist ptG 5 (b.2, s.2); let d := glist acG 5 c.2
 (⟨a.1, b.1, c.1, d.1⟩, d.2)
def read (L : List Tm) (s : RS) : Option (List Rl) × RS :=
 let x := glist rlG 9 (s, true)
 if x.2.1.bad = true ∨ x.2.2 = false ∨ right L x.1 = false then (none, x.2.1) else (some x.1, x.2.1)
end Rul
abbrev envS (rb gb fb tb eb pb ab : Nat) (s : RS) (g : Bool) (st : St) : St :=
 .box ab 154 [.fn (.func 122) [] [.ip [.ptr rb 0], .ptr eb 0]] :: .box pb 152 [.fn (.func 120) [] [.ip [.ptr rb 0], .ptr fb 0, .ptr tb 0]] :: .box eb 150 [.fn (.func 119) [] [.ptr fb 0, .ip [.ptr rb 0]]] ::
  .box tb 149 [.fn (.func 117) [] [.ip [.ptr rb 0]]] :: .box fb 23 [.fn (.func 115) [] [.ip [.ptr rb 0], .ptr gb 0]] :: .box gb 4 [.b g] :: rdR rb s :: st
theorem perm7 {α : Type} {a b c d e f g h : α} {l : List α} : (a :: b :: c :: d :: e :: f :: g :: h :: l).Perm (b :: c :: d :: e :: f :: g :: h :: a :: l) := (List.perm_middle (l₁ := [b, c, d, e, f, g, h])).symm
theorem ruleFlagF (rb gb fb tb eb pb ab : Nat) (s : RS) (g : Bool) (st : St) : TrF Tryz.prog 115 [.ip [.ptr rb 0], .ptr gb 0] (envS rb gb fb tb eb pb ab s g st) fun d st' => d = .b (Rul.flagS (s, g)).1 ∧ st' = envS rb gb fb tb eb pb ab (Rul.flagS (s, g)).2.1 (Rul.flagS (s, g)).2.2 st := by
 have hB := rdByteF rb s
 unfold Rul.flagS
 dsimp only
 generalize s.byte = q at *
 obtain ⟨n, s2⟩ := q
 dsimp only at *
 replace hB := Lib.hid hB
 have hn : (n == 1) = decide (n = 1) := by by_cases h : n = 1 <;> simp [h]
 cases g with
 | false =>
  rw [Bool.false_and]
  refine Qin [2] Tryz.func115 Tryz.results115 Tryz.ntmps115 ?_
  exact WR
 | true =>
  rw [Bool.true_and]
  refine Qin [2] Tryz.func115 Tryz.results115 Tryz.ntmps115 ?_
  exact WR
theorem ruleTestRF (rb gb fb tb eb pb ab : Nat) (s : RS) (g : Bool) (st : St) : TrF Tryz.prog 117 [.ip [.ptr rb 0]] (envS rb gb fb tb eb pb ab s g st) fun d st' => d = .agg (Rul.tsG (s, g)).1.cells ∧ st' = envS rb gb fb tb eb pb ab (Rul.tsG (s, g)).2.1 (Rul.tsG (s, g)).2.2 st := by
 have hB1 := rdByteF rb s
 unfold Rul.tsG Rul.byteS Rul.valS
 dsimp only
 generalize s.byte = q1 at *
 obtain ⟨n1, s1⟩ := q1
 dsimp only at *
 have hB2 := rdByteF rb s1
 generalize s1.byte = q2 at *
 obtain ⟨n2, s2⟩ := q2
 dsimp only at *
 have hB3 := rdByteF rb s2
 generalize s2.byte = q3 at *
 obtain ⟨n3, s3⟩ := q3
 dsimp only at *
 have hV := rdValF rb s3 (RS.value_nodes4 s3)
 generalize s3.val = q4 at *
 obtain ⟨⟨k, n, sv, lv⟩, s4⟩ := q4
 dsimp only at *
 rw [V.cells_mk] at hV
 rw [Ts.cells_mk]
 generalize lv.map V.cells = VL at *
 replace hB1 := Lib.hid hB1
 replace hB2 := Lib.hid hB2
 replace hB3 := Lib.hid hB3
 replace hV := Lib.hid hV
 refine QinC 1 102 Tryz.func117 Tryz.ntmps117 ?_
 repeat' (first | refine QX ?_ | (refine QB ?_; intro b) | (with_reducible refine QZ ?_ <;> (try constructor) <;> intro hb <;> try intro hb1) | refine QR Tryz.call116 hB1.out ?_ | refine QR Tryz.call116 hB2.out ?_ | refine QR Tryz.call116 hB3.out ?_ | refine QR Tryz.call118 hV.out ?_ | fail)
 all_goals exact QretC (hs := q_t)
theorem ruleExprRF (rb gb fb tb eb pb ab : Nat) (s : RS) (g : Bool) (st : St) : TrF Tryz.prog 119 [.ptr fb 0, .ip [.ptr rb 0]] (envS rb gb fb tb eb pb ab s g st) fun d st' => d = .agg (Rul.exG (s, g)).1.cells ∧ st' = envS rb gb fb tb eb pb ab (Rul.exG (s, g)).2.1 (Rul.exG (s, g)).2.2 st := by
 have hF := ruleFlagF rb gb fb tb eb pb ab s g
 unfold Rul.exG Rul.byteS Rul.valS
 dsimp only
 generalize Rul.flagS (s, g) = q1 at *
 obtain ⟨n1, s1, g1⟩ := q1
 dsimp only at *
 have hB2 := rdByteF rb s1
 generalize s1.byte = q2 at *
 obtain ⟨n2, s2⟩ := q2
 dsimp only at *
 have hV := rdValF rb s2 (RS.value_nodes4 s2)
 generalize s2.val = q4 at *
 obtain ⟨⟨k, n, sv, lv⟩, s4⟩ := q4
 dsimp only at *
 rw [V.cells_mk] at hV
 rw [Ex.cells_mk]
 generalize lv.map V.cells = VL at *
 replace hF := Lib.hid hF
 replace hB2 := Lib.hid hB2
 replace hV := Lib.hid hV
 refine QinC 2 107 Tryz.func119 Tryz.ntmps119 ?_
 repeat' (first | refine QV ?_ | ((with_reducible apply (w_drawN [(fb, [.fn (.func 115) [] [.ip [.ptr rb 0], .ptr gb 0]])])); (iterate 3 (focus kernel_rfl)); (focus exact q_k); intro hne; simp only [nes, ne1, and_assoc] at hne; repeat (have hq := hne.1; replace hne := hne.2)) | ((with_reducible refine And.intro ?_ ?_); (focus exact q_k)) | refine QY ?_ | (refine QB ?_; intro b) | (with_reducible refine QZ ?_ <;> (try constructor) <;> intro hb <;> try intro hb1) | ((with_reducible apply (ck_gen Tryz.call115)); (focus exact perm7); (focus exact hF.out _); (focus exact LEL.refl _); (focus exact ⟨_, _, rfl, rfl⟩); (rintro d st' ⟨rfl, rfl⟩)) | fail)
 all_goals exact QretC (hs := q_t)
theorem ruleGetTestF (fn : FuncId) (caps : List D) (hcall : ∀ args w, (callFunc fn args).run Tryz.prog w = .ok (.enter fn args) w) (f : Rul.GS → Ts × Rul.GS) (rb gb fb tb eb pb ab : Nat)
 (hI0 : ∀ s g st, TrF Tryz.prog fn caps (envS rb gb fb tb eb pb ab s g st) fun d st' => d = .agg (f (s, g)).1.cells ∧ st' = envS rb gb fb tb eb pb ab (f (s, g)).2.1 (f (s, g)).2.2 st) (s : RS) (g : Bool) (st : St) : TrF Tryz.prog 121 [.ptr rb 0, .i 6, .fn (.func fn) [] caps] (envS rb gb fb tb eb pb ab s g st) fun x st' => x = .sl .shared ((Rul.glist f 7 (s, g)).1.map Ts.cells) ∧ st' = envS rb gb fb tb eb pb ab (Rul.glist f 7 (s, g)).2.1 (Rul.glist f 7 (s, g)).2.2 st := by
 have hN := Lib.hid (rdNumF rb s)
 have hnp := RS.rnum_pos s
 have hBad := Lib.hid (rdBadF rb)
 have hI := Lib.hid hI0
 clear hI0
 unfold Rul.glist
 dsimp only
 generalize s.rnum = q at *
 obtain ⟨n, s2⟩ := q
 dsimp only at *
 obtain ⟨m, hm⟩ : ∃ m : Nat, (if (7 : Int) < n then (7 : Int) else n) = m := ⟨(if (7 : Int) < n then (7 : Int) else n).toNat, by split <;> omega⟩
 have hm9 : m ≤ 7 := by split at hm <;> omega
 rw [hm, Int.toNat_natCast]
 obtain ⟨res, hres⟩ : ∃ r, Rul.rdG f m (s2, g) = r := ⟨_, rfl⟩
 have hE : Hid ([] ++ (Rul.rdG f (m - 0) (s2, g)).1 = res.1 ∧ (Rul.rdG f (m - 0) (s2, g)).2 = res.2) := by
  show _ ∧ _
  rw [Nat.sub_zero, hres]
  exact ⟨rfl, rfl⟩
 rw [hres]
 clear hres hnp
 refine Qin [6] Tryz.func121 Tryz.results121 Tryz.ntmps121 ?_
 refine tr_room 102 7 ([] : List (List D)).length ?_
 repeat' (first | refine QX ?_ | (refine QB ?_; intro b) | (refine QP ?_; intro o' ho') | (with_reducible refine QZ ?_ <;> (try constructor) <;> intro hb <;> try intro hb1) | fail)
 clear hN
 refine tr_loopd (ι := Nat) (fun i A st' => i ≤ m ∧ A.df = [] ∧ A.e 0 = .ptr rb 0 ∧ A.e 2 = .fn (.func fn) [] caps ∧ A.e 14 = .i m ∧ A.e 15 = .i i ∧ ∃ o' L s' g', o' ≠ .shared ∧ L.length ≤ i ∧ Hid (L ++ (Rul.rdG f (m - i) (s', g')).1 = res.1 ∧ (Rul.rdG f (m - i) (s', g')).2 = res.2) ∧ A.e 8 = .sl o' (L.map Ts.cells) ∧ st'.Perm (envS rb gb fb tb eb pb ab s' g' (.room o' 102 7 (L.map Ts.cells).length :: st))) (fun i => m - i) 0 ⟨Nat.zero_le _, Qf, Qf, Qf, Qf, Qf, .tight, [], s2, g, by decide, Nat.le_refl _, hE, Qf, perm7⟩ ?_
 clear hE hm
 rintro i A st' ⟨hi, hdf, e0, e2, e14, e15, o', L, s', g', ho', hLi, hE, e8, hpm⟩
 refine tr_perm hpm ?_
 clear hpm
 have hLc : (L.map Ts.cells).length = L.length := List.length_map ..
 by_cases hlt : i < m
 · have hHE := hE.out
   rw [show m - i = (m - (i + 1)) + 1 by omega, Rul.rdG] at hHE
   dsimp only at hHE
   cases hsb : s'.bad with
   | true =>
    rw [hsb, if_pos rfl] at hHE
    obtain ⟨r1, r2⟩ := res
    obtain ⟨hr1, hr2⟩ := hHE
    dsimp only at hr1 hr2
    rw [List.append_nil] at hr1
    subst hr1 hr2
    have hBs := hBad.out s'
    rw [hsb] at hBs
    replace hBs := Lib.hid hBs
    clear hE hI hBad
    repeat' (first | refine QX ?_ | (refine QB ?_; intro b) | (refine QP ?_; intro o' ho') | (with_reducible refine QZ ?_ <;> (try constructor) <;> intro hb <;> try intro hb1) | fail)
    all_goals exact Qret (hs := q_t)
   | false =>
    rw [hsb, if_neg Bool.false_ne_true] at hHE
    have hIs := hI.out s' g'
    have hBs := hBad.out s'
    rw [hsb] at hBs
    generalize f (s', g') = x3 at *
    obtain ⟨x, s3, g3⟩ := x3
    dsimp only at hHE hIs
    have hE2 : Hid ((L ++ [x]) ++ (Rul.rdG f (m - (i + 1)) (s3, g3)).1 = res.1 ∧ (Rul.rdG f (m - (i + 1)) (s3, g3)).2 = res.2) := by
     show _ ∧ _
     rw [List.append_assoc]
     exact hHE
    have hL4 : ∀ a ∈ L.map Ts.cells, a.length = 7 := fun a ha => by
     obtain ⟨x, -, rfl⟩ := List.mem_map.1 ha
     exact Ts.cells_len x
    have hLs : (L ++ [x]).map Ts.cells = L.map Ts.cells ++ [Ts.cells x] := List.map_append ..
    have hLk : (L ++ [x]).length ≤ i + 1 := by rw [List.length_append, List.length_singleton]; omega
    generalize hLx : L ++ [x] = Lx at *
    generalize L.map Ts.cells = M at *
    cases x with
    | mk kind slot var val =>
    cases val with
    | mk k1 n1 v1 l1 =>
    rw [Ts.cells_mk] at hLs hIs
    replace hBs := Lib.hid hBs
    replace hIs := Lib.hid hIs
    replace hLs := Lib.hid hLs
    replace hLx := Lib.hid hLx
    clear hE hI hBad hHE
    repeat' (first | refine QX ?_ | (refine QB ?_; intro b) | (refine QP ?_; intro o' ho') | (with_reducible refine QZ ?_ <;> (try constructor) <;> intro hb <;> try intro hb1) | ((with_reducible apply (ck_gen hcall)); (focus exact List.Perm.refl _); (focus exact hIs.out _); (focus exact LEL.refl _); (focus exact ⟨_, _, rfl, rfl⟩); (rintro d st' ⟨rfl, rfl⟩)) | fail)
    refine ⟨i + 1, _, List.Sublist.refl _, ⟨hlt, ?_, ?_, ?_, ?_, ?_, o', Lx, s3, g3, ho', hLk, hE2, ?_, ?_⟩, ?_⟩
    rotate_right 3
    · rw [hLs.out]; exact Qf
    · rw [hLs.out]
    all_goals exact Qf
 · have hHE := hE.out
   rw [show m - i = 0 by omega, Rul.rdG] at hHE
   obtain ⟨r1, r2⟩ := res
   obtain ⟨hr1, hr2⟩ := hHE
   dsimp only at hr1 hr2
   rw [List.append_nil] at hr1
   subst hr1 hr2
   clear hE hI hBad
   repeat' (first | refine QX ?_ | (refine QB ?_; intro b) | (refine QP ?_; intro o' ho') | (with_reducible refine QZ ?_ <;> (try constructor) <;> intro hb <;> try intro hb1) | fail)
   all_goals exact Qret (hs := q_t)
theorem ruleGetExprF (fn : FuncId) (caps : List D) (hcall : ∀ args w, (callFunc fn args).run Tryz.prog w = .ok (.enter fn args) w) (f : Rul.GS → Ex × Rul.GS) (rb gb fb tb eb pb ab : Nat)
 (hI0 : ∀ s g st, TrF Tryz.prog fn caps (envS rb gb fb tb eb pb ab s g st) fun d st' => d = .agg (f (s, g)).1.cells ∧ st' = envS rb gb fb tb eb pb ab (f (s, g)).2.1 (f (s, g)).2.2 st) (s : RS) (g : Bool) (st : St) : TrF Tryz.prog 123 [.ptr rb 0, .i 16, .fn (.func fn) [] caps] (envS rb gb fb tb eb pb ab s g st) fun x st' => x = .sl .shared ((Rul.glist f 17 (s, g)).1.map Ex.cells) ∧ st' = envS rb gb fb tb eb pb ab (Rul.glist f 17 (s, g)).2.1 (Rul.glist f 17 (s, g)).2.2 st := by
 have hN := Lib.hid (rdNumF rb s)
 have hnp := RS.rnum_pos s
 have hBad := Lib.hid (rdBadF rb)
 have hI := Lib.hid hI0
 clear hI0
 unfold Rul.glist
 dsimp only
 generalize s.rnum = q at *
 obtain ⟨n, s2⟩ := q
 dsimp only at *
 obtain ⟨m, hm⟩ : ∃ m : Nat, (if (17 : Int) < n then (17 : Int) else n) = m := ⟨(if (17 : Int) < n then (17 : Int) else n).toNat, by split <;> omega⟩
 have hm9 : m ≤ 17 := by split at hm <;> omega
 rw [hm, Int.toNat_natCast]
 obtain ⟨res, hres⟩ : ∃ r, Rul.rdG f m (s2, g) = r := ⟨_, rfl⟩
 have hE : Hid ([] ++ (Rul.rdG f (m - 0) (s2, g)).1 = res.1 ∧ (Rul.rdG f (m - 0) (s2, g)).2 = res.2) := by
  show _ ∧ _
  rw [Nat.sub_zero, hres]
  exact ⟨rfl, rfl⟩
 rw [hres]
 clear hres hnp
 refine Qin [6] Tryz.func123 Tryz.results123 Tryz.ntmps123 ?_
 refine tr_room 107 6 ([] : List (List D)).length ?_
 repeat' (first | refine QX ?_ | (refine QB ?_; intro b) | (refine QP ?_; intro o' ho') | (with_reducible refine QZ ?_ <;> (try constructor) <;> intro hb <;> try intro hb1) | fail)
 clear hN
 refine tr_loopd (ι := Nat) (fun i A st' => i ≤ m ∧ A.df = [] ∧ A.e 0 = .ptr rb 0 ∧ A.e 2 = .fn (.func fn) [] caps ∧ A.e 14 = .i m ∧ A.e 15 = .i i ∧ ∃ o' L s' g', o' ≠ .shared ∧ L.length ≤ i ∧ Hid (L ++ (Rul.rdG f (m - i) (s', g')).1 = res.1 ∧ (Rul.rdG f (m - i) (s', g')).2 = res.2) ∧ A.e 8 = .sl o' (L.map Ex.cells) ∧ st'.Perm (envS rb gb fb tb eb pb ab s' g' (.room o' 107 6 (L.map Ex.cells).length :: st))) (fun i => m - i) 0 ⟨Nat.zero_le _, Qf, Qf, Qf, Qf, Qf, .tight, [], s2, g, by decide, Nat.le_refl _, hE, Qf, perm7⟩ ?_
 clear hE hm
 rintro i A st' ⟨hi, hdf, e0, e2, e14, e15, o', L, s', g', ho', hLi, hE, e8, hpm⟩
 refine tr_perm hpm ?_
 clear hpm
 have hLc : (L.map Ex.cells).length = L.length := List.length_map ..
 by_cases hlt : i < m
 · have hHE := hE.out
   rw [show m - i = (m - (i + 1)) + 1 by omega, Rul.rdG] at hHE
   dsimp only at hHE
   cases hsb : s'.bad with
   | true =>
    rw [hsb, if_pos rfl] at hHE
    obtain ⟨r1, r2⟩ := res
    obtain ⟨hr1, hr2⟩ := hHE
    dsimp only at hr1 hr2
    rw [List.append_nil] at hr1
    subst hr1 hr2
    have hBs := hBad.out s'
    rw [hsb] at hBs
    replace hBs := Lib.hid hBs
    clear hE hI hBad
    repeat' (first | refine QX ?_ | (refine QB ?_; intro b) | (refine QP ?_; intro o' ho') | (with_reducible refine QZ ?_ <;> (try constructor) <;> intro hb <;> try intro hb1) | fail)
    all_goals exact Qret (hs := q_t)
   | false =>
    rw [hsb, if_neg Bool.false_ne_true] at hHE
    have hIs := hI.out s' g'
    have hBs := hBad.out s'
    rw [hsb] at hBs
    generalize f (s', g') = x3 at *
    obtain ⟨x, s3, g3⟩ := x3
    dsimp only at hHE hIs
    have hE2 : Hid ((L ++ [x]) ++ (Rul.rdG f (m - (i + 1)) (s3, g3)).1 = res.1 ∧ (Rul.rdG f (m - (i + 1)) (s3, g3)).2 = res.2) := by
     show _ ∧ _
     rw [List.append_assoc]
     exact hHE
    have hL4 : ∀ a ∈ L.map Ex.cells, a.length = 6 := fun a ha => by
     obtain ⟨x, -, rfl⟩ := List.mem_map.1 ha
     exact Ex.cells_len x
    have hLs : (L ++ [x]).map Ex.cells = L.map Ex.cells ++ [Ex.cells x] := List.map_append ..
    have hLk : (L ++ [x]).length ≤ i + 1 := by rw [List.length_append, List.length_singleton]; omega
    generalize hLx : L ++ [x] = Lx at *
    generalize L.map Ex.cells = M at *
    cases x with
    | mk iv var val =>
    cases val with
    | mk k1 n1 v1 l1 =>
    rw [Ex.cells_mk] at hLs hIs
    replace hBs := Lib.hid hBs
    replace hIs := Lib.hid hIs
    replace hLs := Lib.hid hLs
    replace hLx := Lib.hid hLx
    clear hE hI hBad hHE
    repeat' (first | refine QX ?_ | (refine QB ?_; intro b) | (refine QP ?_; intro o' ho') | (with_reducible refine QZ ?_ <;> (try constructor) <;> intro hb <;> try intro hb1) | ((with_reducible apply (ck_gen hcall)); (focus exact List.Perm.refl _); (focus exact hIs.out _); (focus exact LEL.refl _); (focus exact ⟨_, _, rfl, rfl⟩); (rintro d st' ⟨rfl, rfl⟩)) | fail)
    refine ⟨i + 1, _, List.Sublist.refl _, ⟨hlt, ?_, ?_, ?_, ?_, ?_, o', Lx, s3, g3, ho', hLk, hE2, ?_, ?_⟩, ?_⟩
    rotate_right 3
    · rw [hLs.out]; exact Qf
    · rw [hLs.out]
    all_goals exact Qf
 · have hHE := hE.out
   rw [show m - i = 0 by omega, Rul.rdG] at hHE
   obtain ⟨r1, r2⟩ := res
   obtain ⟨hr1, hr2⟩ := hHE
   dsimp only at hr1 hr2
   rw [List.append_nil] at hr1
   subst hr1 hr2
   clear hE hI hBad
   repeat' (first | refine QX ?_ | (refine QB ?_; intro b) | (refine QP ?_; intro o' ho') | (with_reducible refine QZ ?_ <;> (try constructor) <;> intro hb <;> try intro hb1) | fail)
   all_goals exact Qret (hs := q_t)
theorem ruleGetPatF (fn : FuncId) (caps : List D) (hcall : ∀ args w, (callFunc fn args).run Tryz.prog w = .ok (.enter fn args) w) (f : Rul.GS → Pt × Rul.GS) (rb gb fb tb eb pb ab : Nat)
 (hI0 : ∀ s g st, TrF Tryz.prog fn caps (envS rb gb fb tb eb pb ab s g st) fun d st' => d = .agg (f (s, g)).1.cells ∧ st' = envS rb gb fb tb eb pb ab (f (s, g)).2.1 (f (s, g)).2.2 st) (s : RS) (g : Bool) (st : St) : TrF Tryz.prog 127 [.ptr rb 0, .i 4, .fn (.func fn) [] caps] (envS rb gb fb tb eb pb ab s g st) fun x st' => x = .sl .shared ((Rul.glist f 5 (s, g)).1.map Pt.cells) ∧ st' = envS rb gb fb tb eb pb ab (Rul.glist f 5 (s, g)).2.1 (Rul.glist f 5 (s, g)).2.2 st := by
 have hN := Lib.hid (rdNumF rb s)
 have hnp := RS.rnum_pos s
 have hBad := Lib.hid (rdBadF rb)
 have hI := Lib.hid hI0
 clear hI0
 unfold Rul.glist
 dsimp only
 generalize s.rnum = q at *
 obtain ⟨n, s2⟩ := q
 dsimp only at *
 obtain ⟨m, hm⟩ : ∃ m : Nat, (if (5 : Int) < n then (5 : Int) else n) = m := ⟨(if (5 : Int) < n then (5 : Int) else n).toNat, by split <;> omega⟩
 have hm9 : m ≤ 5 := by split at hm <;> omega
 rw [hm, Int.toNat_natCast]
 obtain ⟨res, hres⟩ : ∃ r, Rul.rdG f m (s2, g) = r := ⟨_, rfl⟩
 have hE : Hid ([] ++ (Rul.rdG f (m - 0) (s2, g)).1 = res.1 ∧ (Rul.rdG f (m - 0) (s2, g)).2 = res.2) := by
  show _ ∧ _
  rw [Nat.sub_zero, hres]
  exact ⟨rfl, rfl⟩
 rw [hres]
 clear hres hnp
 refine Qin [6] Tryz.func127 Tryz.results127 Tryz.ntmps127 ?_
 refine tr_room 105 3 ([] : List (List D)).length ?_
 repeat' (first | refine QX ?_ | (refine QB ?_; intro b) | (refine QP ?_; intro o' ho') | (with_reducible refine QZ ?_ <;> (try constructor) <;> intro hb <;> try intro hb1) | fail)
 clear hN
 refine tr_loopd (ι := Nat) (fun i A st' => i ≤ m ∧ A.df = [] ∧ A.e 0 = .ptr rb 0 ∧ A.e 2 = .fn (.func fn) [] caps ∧ A.e 14 = .i m ∧ A.e 15 = .i i ∧ ∃ o' L s' g', o' ≠ .shared ∧ L.length ≤ i ∧ Hid (L ++ (Rul.rdG f (m - i) (s', g')).1 = res.1 ∧ (Rul.rdG f (m - i) (s', g')).2 = res.2) ∧ A.e 8 = .sl o' (L.map Pt.cells) ∧ st'.Perm (envS rb gb fb tb eb pb ab s' g' (.room o' 105 3 (L.map Pt.cells).length :: st))) (fun i => m - i) 0 ⟨Nat.zero_le _, Qf, Qf, Qf, Qf, Qf, .tight, [], s2, g, by decide, Nat.le_refl _, hE, Qf, perm7⟩ ?_
 clear hE hm
 rintro i A st' ⟨hi, hdf, e0, e2, e14, e15, o', L, s', g', ho', hLi, hE, e8, hpm⟩
 refine tr_perm hpm ?_
 clear hpm
 have hLc : (L.map Pt.cells).length = L.length := List.length_map ..
 by_cases hlt : i < m
 · have hHE := hE.out
   rw [show m - i = (m - (i + 1)) + 1 by omega, Rul.rdG] at hHE
   dsimp only at hHE
   cases hsb : s'.bad with
   | true =>
    rw [hsb, if_pos rfl] at hHE
    obtain ⟨r1, r2⟩ := res
    obtain ⟨hr1, hr2⟩ := hHE
    dsimp only at hr1 hr2
    rw [List.append_nil] at hr1
    subst hr1 hr2
    have hBs := hBad.out s'
    rw [hsb] at hBs
    replace hBs := Lib.hid hBs
    clear hE hI hBad
    repeat' (first | refine QX ?_ | (refine QB ?_; intro b) | (refine QP ?_; intro o' ho') | (with_reducible refine QZ ?_ <;> (try constructor) <;> intro hb <;> try intro hb1) | fail)
    all_goals exact Qret (hs := q_t)
   | false =>
    rw [hsb, if_neg Bool.false_ne_true] at hHE
    have hIs := hI.out s' g'
    have hBs := hBad.out s'
    rw [hsb] at hBs
    generalize f (s', g') = x3 at *
    obtain ⟨x, s3, g3⟩ := x3
    dsimp only at hHE hIs
    have hE2 : Hid ((L ++ [x]) ++ (Rul.rdG f (m - (i + 1)) (s3, g3)).1 = res.1 ∧ (Rul.rdG f (m - (i + 1)) (s3, g3)).2 = res.2) := by
     show _ ∧ _
     rw [List.append_assoc]
     exact hHE
    have hL4 : ∀ a ∈ L.map Pt.cells, a.length = 3 := fun a ha => by
     obtain ⟨x, -, rfl⟩ := List.mem_map.1 ha
     exact rfl
    have hLs : (L ++ [x]).map Pt.cells = L.map Pt.cells ++ [Pt.cells x] := List.map_append ..
    have hLk : (L ++ [x]).length ≤ i + 1 := by rw [List.length_append, List.length_singleton]; omega
    generalize hLx : L ++ [x] = Lx at *
    generalize L.map Pt.cells = M at *
    cases x with
    | mk tmpl neg tests =>
    rw [show (Pt.mk tmpl neg tests).cells = [.i tmpl, .b neg, .sl .shared (tests.map Ts.cells)] from rfl] at hLs hIs
    replace hBs := Lib.hid hBs
    replace hIs := Lib.hid hIs
    replace hLs := Lib.hid hLs
    replace hLx := Lib.hid hLx
    clear hE hI hBad hHE
    repeat' (first | refine QX ?_ | (refine QB ?_; intro b) | (refine QP ?_; intro o' ho') | (with_reducible refine QZ ?_ <;> (try constructor) <;> intro hb <;> try intro hb1) | ((with_reducible apply (ck_gen hcall)); (focus exact List.Perm.refl _); (focus exact hIs.out _); (focus exact LEL.refl _); (focus exact ⟨_, _, rfl, rfl⟩); (rintro d st' ⟨rfl, rfl⟩)) | fail)
    refine ⟨i + 1, _, List.Sublist.refl _, ⟨hlt, ?_, ?_, ?_, ?_, ?_, o', Lx, s3, g3, ho', hLk, hE2, ?_, ?_⟩, ?_⟩
    rotate_right 3
    · rw [hLs.out]; exact Qf
    · rw [hLs.out]
    all_goals exact Qf
 · have hHE := hE.out
   rw [show m - i = 0 by omega, Rul.rdG] at hHE
   obtain ⟨r1, r2⟩ := res
   obtain ⟨hr1, hr2⟩ := hHE
   dsimp only at hr1 hr2
   rw [List.append_nil] at hr1
   subst hr1 hr2
   clear hE hI hBad
   repeat' (first | refine QX ?_ | (refine QB ?_; intro b) | (refine QP ?_; intro o' ho') | (with_reducible refine QZ ?_ <;> (try constructor) <;> intro hb <;> try intro hb1) | fail)
   all_goals exact Qret (hs := q_t)
theorem ruleGetActF (fn : FuncId) (caps : List D) (hcall : ∀ args w, (callFunc fn args).run Tryz.prog w = .ok (.enter fn args) w) (f : Rul.GS → Ac × Rul.GS) (rb gb fb tb eb pb ab : Nat)
 (hI0 : ∀ s g st, TrF Tryz.prog fn caps (envS rb gb fb tb eb pb ab s g st) fun d st' => d = .agg (f (s, g)).1.cells ∧ st' = envS rb gb fb tb eb pb ab (f (s, g)).2.1 (f (s, g)).2.2 st) (s : RS) (g : Bool) (st : St) : TrF Tryz.prog 128 [.ptr rb 0, .i 4, .fn (.func fn) [] caps] (envS rb gb fb tb eb pb ab s g st) fun x st' => x = .sl .shared ((Rul.glist f 5 (s, g)).1.map Ac.cells) ∧ st' = envS rb gb fb tb eb pb ab (Rul.glist f 5 (s, g)).2.1 (Rul.glist f 5 (s, g)).2.2 st := by
 have hN := Lib.hid (rdNumF rb s)
 have hnp := RS.rnum_pos s
 have hBad := Lib.hid (rdBadF rb)
 have hI := Lib.hid hI0
 clear hI0
 unfold Rul.glist
 dsimp only
 generalize s.rnum = q at *
 obtain ⟨n, s2⟩ := q
 dsimp only at *
 obtain ⟨m, hm⟩ : ∃ m : Nat, (if (5 : Int) < n then (5 : Int) else n) = m := ⟨(if (5 : Int) < n then (5 : Int) else n).toNat, by split <;> omega⟩
 have hm9 : m ≤ 5 := by split at hm <;> omega
 rw [hm, Int.toNat_natCast]
 obtain ⟨res, hres⟩ : ∃ r, Rul.rdG f m (s2, g) = r := ⟨_, rfl⟩
 have hE : Hid ([] ++ (Rul.rdG f (m - 0) (s2, g)).1 = res.1 ∧ (Rul.rdG f (m - 0) (s2, g)).2 = res.2) := by
  show _ ∧ _
  rw [Nat.sub_zero, hres]
  exact ⟨rfl, rfl⟩
 rw [hres]
 clear hres hnp
 refine Qin [6] Tryz.func128 Tryz.results128 Tryz.ntmps128 ?_
 refine tr_room 110 5 ([] : List (List D)).length ?_
 repeat' (first | refine QX ?_ | (refine QB ?_; intro b) | (refine QP ?_; intro o' ho') | (with_reducible refine QZ ?_ <;> (try constructor) <;> intro hb <;> try intro hb1) | fail)
 clear hN
 refine tr_loopd (ι := Nat) (fun i A st' => i ≤ m ∧ A.df = [] ∧ A.e 0 = .ptr rb 0 ∧ A.e 2 = .fn (.func fn) [] caps ∧ A.e 14 = .i m ∧ A.e 15 = .i i ∧ ∃ o' L s' g', o' ≠ .shared ∧ L.length ≤ i ∧ Hid (L ++ (Rul.rdG f (m - i) (s', g')).1 = res.1 ∧ (Rul.rdG f (m - i) (s', g')).2 = res.2) ∧ A.e 8 = .sl o' (L.map Ac.cells) ∧ st'.Perm (envS rb gb fb tb eb pb ab s' g' (.room o' 110 5 (L.map Ac.cells).length :: st))) (fun i => m - i) 0 ⟨Nat.zero_le _, Qf, Qf, Qf, Qf, Qf, .tight, [], s2, g, by decide, Nat.le_refl _, hE, Qf, perm7⟩ ?_
 clear hE hm
 rintro i A st' ⟨hi, hdf, e0, e2, e14, e15, o', L, s', g', ho', hLi, hE, e8, hpm⟩
 refine tr_perm hpm ?_
 clear hpm
 have hLc : (L.map Ac.cells).length = L.length := List.length_map ..
 by_cases hlt : i < m
 · have hHE := hE.out
   rw [show m - i = (m - (i + 1)) + 1 by omega, Rul.rdG] at hHE
   dsimp only at hHE
   cases hsb : s'.bad with
   | true =>
    rw [hsb, if_pos rfl] at hHE
    obtain ⟨r1, r2⟩ := res
    obtain ⟨hr1, hr2⟩ := hHE
    dsimp only at hr1 hr2
    rw [List.append_nil] at hr1
    subst hr1 hr2
    have hBs := hBad.out s'
    rw [hsb] at hBs
    replace hBs := Lib.hid hBs
    clear hE hI hBad
    repeat' (first | refine QX ?_ | (refine QB ?_; intro b) | (refine QP ?_; intro o' ho') | (with_reducible refine QZ ?_ <;> (try constructor) <;> intro hb <;> try intro hb1) | fail)
    all_goals exact Qret (hs := q_t)
   | false =>
    rw [hsb, if_neg Bool.false_ne_true] at hHE
    have hIs := hI.out s' g'
    have hBs := hBad.out s'
    rw [hsb] at hBs
    generalize f (s', g') = x3 at *
    obtain ⟨x, s3, g3⟩ := x3
    dsimp only at hHE hIs
    have hE2 : Hid ((L ++ [x]) ++ (Rul.rdG f (m - (i + 1)) (s3, g3)).1 = res.1 ∧ (Rul.rdG f (m - (i + 1)) (s3, g3)).2 = res.2) := by
     show _ ∧ _
     rw [List.append_assoc]
     exact hHE
    have hL4 : ∀ a ∈ L.map Ac.cells, a.length = 5 := fun a ha => by
     obtain ⟨x, -, rfl⟩ := List.mem_map.1 ha
     exact rfl
    have hLs : (L ++ [x]).map Ac.cells = L.map Ac.cells ++ [Ac.cells x] := List.map_append ..
    have hLk : (L ++ [x]).length ≤ i + 1 := by rw [List.length_append, List.length_singleton]; omega
    generalize hLx : L ++ [x] = Lx at *
    generalize L.map Ac.cells = M at *
    cases x with
    | mk kind pat tmpl slot vals =>
    rw [show (Ac.mk kind pat tmpl slot vals).cells = [.i kind, .i pat, .i tmpl, .i slot, .sl .shared (vals.map Ex.cells)] from rfl] at hLs hIs
    replace hBs := Lib.hid hBs
    replace hIs := Lib.hid hIs
    replace hLs := Lib.hid hLs
    replace hLx := Lib.hid hLx
    clear hE hI hBad hHE
    repeat' (first | refine QX ?_ | (refine QB ?_; intro b) | (refine QP ?_; intro o' ho') | (with_reducible refine QZ ?_ <;> (try constructor) <;> intro hb <;> try intro hb1) | ((with_reducible apply (ck_gen hcall)); (focus exact List.Perm.refl _); (focus exact hIs.out _); (focus exact LEL.refl _); (focus exact ⟨_, _, rfl, rfl⟩); (rintro d st' ⟨rfl, rfl⟩)) | fail)
    refine ⟨i + 1, _, List.Sublist.refl _, ⟨hlt, ?_, ?_, ?_, ?_, ?_, o', Lx, s3, g3, ho', hLk, hE2, ?_, ?_⟩, ?_⟩
    rotate_right 3
    · rw [hLs.out]; exact Qf
    · rw [hLs.out]
    all_goals exact Qf
 · have hHE := hE.out
   rw [show m - i = 0 by omega, Rul.rdG] at hHE
   obtain ⟨r1, r2⟩ := res
   obtain ⟨hr1, hr2⟩ := hHE
   dsimp only at hr1 hr2
   rw [List.append_nil] at hr1
   subst hr1 hr2
   clear hE hI hBad
   repeat' (first | refine QX ?_ | (refine QB ?_; intro b) | (refine QP ?_; intro o' ho') | (with_reducible refine QZ ?_ <;> (try constructor) <;> intro hb <;> try intro hb1) | fail)
   all_goals exact Qret (hs := q_t)
theorem ruleGetRuleF (fn : FuncId) (caps : List D) (hcall : ∀ args w, (callFunc fn args).run Tryz.prog w = .ok (.enter fn args) w) (f : Rul.GS → Rl × Rul.GS) (rb gb fb tb eb pb ab : Nat)
 (hI0 : ∀ s g st, TrF Tryz.prog fn caps (envS rb gb fb tb eb pb ab s g st) fun d st' => d = .agg (f (s, g)).1.cells ∧ st' = envS rb gb fb tb eb pb ab (f (s, g)).2.1 (f (s, g)).2.2 st) (s : RS) (g : Bool) (st : St) : TrF Tryz.prog 124 [.ptr rb 0, .i 8, .fn (.func fn) [] caps] (envS rb gb fb tb eb pb ab s g st) fun x st' => x = .sl .shared ((Rul.glist f 9 (s, g)).1.map Rl.cells) ∧ st' = envS rb gb fb tb eb pb ab (Rul.glist f 9 (s, g)).2.1 (Rul.glist f 9 (s, g)).2.2 st := by
 have hN := Lib.hid (rdNumF rb s)
 have hnp := RS.rnum_pos s
 have hBad := Lib.hid (rdBadF rb)
 have hI := Lib.hid hI0
 clear hI0
 unfold Rul.glist
 dsimp only
 generalize s.rnum = q at *
 obtain ⟨n, s2⟩ := q
 dsimp only at *
 obtain ⟨m, hm⟩ : ∃ m : Nat, (if (9 : Int) < n then (9 : Int) else n) = m := ⟨(if (9 : Int) < n then (9 : Int) else n).toNat, by split <;> omega⟩
 have hm9 : m ≤ 9 := by split at hm <;> omega
 rw [hm, Int.toNat_natCast]
 obtain ⟨res, hres⟩ : ∃ r, Rul.rdG f m (s2, g) = r := ⟨_, rfl⟩
 have hE : Hid ([] ++ (Rul.rdG f (m - 0) (s2, g)).1 = res.1 ∧ (Rul.rdG f (m - 0) (s2, g)).2 = res.2) := by
  show _ ∧ _
  rw [Nat.sub_zero, hres]
  exact ⟨rfl, rfl⟩
 rw [hres]
 clear hres hnp
 refine Qin [6] Tryz.func124 Tryz.results124 Tryz.ntmps124 ?_
 refine tr_room 55 4 ([] : List (List D)).length ?_
 repeat' (first | refine QX ?_ | (refine QB ?_; intro b) | (refine QP ?_; intro o' ho') | (with_reducible refine QZ ?_ <;> (try constructor) <;> intro hb <;> try intro hb1) | fail)
 clear hN
 refine tr_loopd (ι := Nat) (fun i A st' => i ≤ m ∧ A.df = [] ∧ A.e 0 = .ptr rb 0 ∧ A.e 2 = .fn (.func fn) [] caps ∧ A.e 14 = .i m ∧ A.e 15 = .i i ∧ ∃ o' L s' g', o' ≠ .shared ∧ L.length ≤ i ∧ Hid (L ++ (Rul.rdG f (m - i) (s', g')).1 = res.1 ∧ (Rul.rdG f (m - i) (s', g')).2 = res.2) ∧ A.e 8 = .sl o' (L.map Rl.cells) ∧ st'.Perm (envS rb gb fb tb eb pb ab s' g' (.room o' 55 4 (L.map Rl.cells).length :: st))) (fun i => m - i) 0 ⟨Nat.zero_le _, Qf, Qf, Qf, Qf, Qf, .tight, [], s2, g, by decide, Nat.le_refl _, hE, Qf, perm7⟩ ?_
 clear hE hm
 rintro i A st' ⟨hi, hdf, e0, e2, e14, e15, o', L, s', g', ho', hLi, hE, e8, hpm⟩
 refine tr_perm hpm ?_
 clear hpm
 have hLc : (L.map Rl.cells).length = L.length := List.length_map ..
 by_cases hlt : i < m
 · have hHE := hE.out
   rw [show m - i = (m - (i + 1)) + 1 by omega, Rul.rdG] at hHE
   dsimp only at hHE
   cases hsb : s'.bad with
   | true =>
    rw [hsb, if_pos rfl] at hHE
    obtain ⟨r1, r2⟩ := res
    obtain ⟨hr1, hr2⟩ := hHE
    dsimp only at hr1 hr2
    rw [List.append_nil] at hr1
    subst hr1 hr2
    have hBs := hBad.out s'
    rw [hsb] at hBs
    replace hBs := Lib.hid hBs
    clear hE hI hBad
    repeat' (first | refine QX ?_ | (refine QB ?_; intro b) | (refine QP ?_; intro o' ho') | (with_reducible refine QZ ?_ <;> (try constructor) <;> intro hb <;> try intro hb1) | fail)
    all_goals exact Qret (hs := q_t)
   | false =>
    rw [hsb, if_neg Bool.false_ne_true] at hHE
    have hIs := hI.out s' g'
    have hBs := hBad.out s'
    rw [hsb] at hBs
    generalize f (s', g') = x3 at *
    obtain ⟨x, s3, g3⟩ := x3
    dsimp only at hHE hIs
    have hE2 : Hid ((L ++ [x]) ++ (Rul.rdG f (m - (i + 1)) (s3, g3)).1 = res.1 ∧ (Rul.rdG f (m - (i + 1)) (s3, g3)).2 = res.2) := by
     show _ ∧ _
     rw [List.append_assoc]
     exact hHE
    have hL4 : ∀ a ∈ L.map Rl.cells, a.length = 4 := fun a ha => by
     obtain ⟨x, -, rfl⟩ := List.mem_map.1 ha
     exact rfl
    have hLs : (L ++ [x]).map Rl.cells = L.map Rl.cells ++ [Rl.cells x] := List.map_append ..
    have hLk : (L ++ [x]).length ≤ i + 1 := by rw [List.length_append, List.length_singleton]; omega
    generalize hLx : L ++ [x] = Lx at *
    generalize L.map Rl.cells = M at *
    cases x with
    | mk nm sal pats acts =>
    rw [show (Rl.mk nm sal pats acts).cells = [.str nm, .i sal, .sl .shared (pats.map Pt.cells), .sl .shared (acts.map Ac.cells)] from rfl] at hLs hIs
    replace hBs := Lib.hid hBs
    replace hIs := Lib.hid hIs
    replace hLs := Lib.hid hLs
    replace hLx := Lib.hid hLx
    clear hE hI hBad hHE
    repeat' (first | refine QX ?_ | (refine QB ?_; intro b) | (refine QP ?_; intro o' ho') | (with_reducible refine QZ ?_ <;> (try constructor) <;> intro hb <;> try intro hb1) | ((with_reducible apply (ck_gen hcall)); (focus exact List.Perm.refl _); (focus exact hIs.out _); (focus exact LEL.refl _); (focus exact ⟨_, _, rfl, rfl⟩); (rintro d st' ⟨rfl, rfl⟩)) | fail)
    refine ⟨i + 1, _, List.Sublist.refl _, ⟨hlt, ?_, ?_, ?_, ?_, ?_, o', Lx, s3, g3, ho', hLk, hE2, ?_, ?_⟩, ?_⟩
    rotate_right 3
    · rw [hLs.out]; exact Qf
    · rw [hLs.out]
    all_goals exact Qf
 · have hHE := hE.out
   rw [show m - i = 0 by omega, Rul.rdG] at hHE
   obtain ⟨r1, r2⟩ := res
   obtain ⟨hr1, hr2⟩ := hHE
   dsimp only at hr1 hr2
   rw [List.append_nil] at hr1
   subst hr1 hr2
   clear hE hI hBad
   repeat' (first | refine QX ?_ | (refine QB ?_; intro b) | (refine QP ?_; intro o' ho') | (with_reducible refine QZ ?_ <;> (try constructor) <;> intro hb <;> try intro hb1) | fail)
   all_goals exact Qret (hs := q_t)
theorem rulePatRF (rb gb fb tb eb pb ab : Nat) (s : RS) (g : Bool) (st : St) : TrF Tryz.prog 120 [.ip [.ptr rb 0], .ptr fb 0, .ptr tb 0] (envS rb gb fb tb eb pb ab s g st) fun d st' => d = .agg (Rul.ptG (s, g)).1.cells ∧ st' = envS rb gb fb tb eb pb ab (Rul.ptG (s, g)).2.1 (Rul.ptG (s, g)).2.2 st := by
 have hB1 := rdByteF rb s
 unfold Rul.ptG Rul.byteS
 dsimp only
 generalize s.byte = q1 at *
 obtain ⟨n1, s1⟩ := q1
 dsimp only at *
 have hF := ruleFlagF rb gb fb tb eb pb ab s1 g
 generalize Rul.flagS (s1, g) = q2 at *
 obtain ⟨n2, s2, g2⟩ := q2
 dsimp only at *
 have hG := ruleGetTestF 117 [.ip [.ptr rb 0]] Tryz.call117 Rul.tsG rb gb fb tb eb pb ab (ruleTestRF rb gb fb tb eb pb ab) s2 g2
 generalize Rul.glist Rul.tsG 7 (s2, g2) = q3 at *
 obtain ⟨l3, s3, g3⟩ := q3
 dsimp only at *
 unfold Pt.cells
 dsimp only
 generalize l3.map Ts.cells = L3 at *
 replace hB1 := Lib.hid hB1
 replace hF := Lib.hid hF
 replace hG := Lib.hid hG
 refine QinC 3 105 Tryz.func120 Tryz.ntmps120 ?_
 repeat' (first | refine QV ?_ | ((with_reducible apply (w_drawN [(fb, [.fn (.func 115) [] [.ip [.ptr rb 0], .ptr gb 0]]), (tb, [.fn (.func 117) [] [.ip [.ptr rb 0]]])])); (iterate 3 (focus kernel_rfl)); (focus exact q_k); intro hne; simp only [nes, ne1, and_assoc] at hne; repeat (have hq := hne.1; replace hne := hne.2)) | ((with_reducible refine And.intro ?_ ?_); (focus exact q_k)) | refine QY ?_ | (refine QB ?_; intro b) | (with_reducible refine QZ ?_ <;> (try constructor) <;> intro hb <;> try intro hb1) | ((with_reducible apply (ck_gen Tryz.call115)); (focus exact perm7); (focus exact hF.out _); (focus exact LEL.refl _); (focus exact ⟨_, _, rfl, rfl⟩); (rintro d st' ⟨rfl, rfl⟩)) | ((with_reducible apply (ck_gen Tryz.call121)); (focus exact List.Perm.refl _); (focus exact hG.out _); (focus exact LEL.refl _); (focus exact ⟨_, _, rfl, rfl⟩); (rintro d st' ⟨rfl, rfl⟩)) | fail)
 all_goals exact QretC (hs := q_t)
theorem ruleActRF (rb gb fb tb eb pb ab : Nat) (s : RS) (g : Bool) (st : St) : TrF Tryz.prog 122 [.ip [.ptr rb 0], .ptr eb 0] (envS rb gb fb tb eb pb ab s g st) fun d st' => d = .agg (Rul.acG (s, g)).1.cells ∧ st' = envS rb gb fb tb eb pb ab (Rul.acG (s, g)).2.1 (Rul.acG (s, g)).2.2 st := by
 have hB1 := rdByteF rb s
 unfold Rul.acG Rul.byteS
 dsimp only
 generalize s.byte = q1 at *
 obtain ⟨n1, s1⟩ := q1
 dsimp only at *
 have hB2 := rdByteF rb s1
 generalize s1.byte = q2 at *
 obtain ⟨n2, s2⟩ := q2
 dsimp only at *
 have hB3 := rdByteF rb s2
 generalize s2.byte = q3 at *
 obtain ⟨n3, s3⟩ := q3
 dsimp only at *
 have hB4 := rdByteF rb s3
 generalize s3.byte = q4 at *
 obtain ⟨n4, s4⟩ := q4
 dsimp only at *
 have hG := ruleGetExprF 119 [.ptr fb 0, .ip [.ptr rb 0]] Tryz.call119 Rul.exG rb gb fb tb eb pb ab (ruleExprRF rb gb fb tb eb pb ab) s4 g
 generalize Rul.glist Rul.exG 17 (s4, g) = q5 at *
 obtain ⟨l5, s5, g5⟩ := q5
 dsimp only at *
 unfold Ac.cells
 dsimp only
 generalize l5.map Ex.cells = L5 at *
 replace hB1 := Lib.hid hB1
 replace hB2 := Lib.hid hB2
 replace hB3 := Lib.hid hB3
 replace hB4 := Lib.hid hB4
 replace hG := Lib.hid hG
 refine QinC 2 110 Tryz.func122 Tryz.ntmps122 ?_
 repeat' (first | refine QV ?_ | ((with_reducible apply (w_drawN [(eb, [.fn (.func 119) [] [.ptr fb 0, .ip [.ptr rb 0]]])])); (iterate 3 (focus kernel_rfl)); (focus exact q_k); intro hne; simp only [nes, ne1, and_assoc] at hne; repeat (have hq := hne.1; replace hne := hne.2)) | ((with_reducible refine And.intro ?_ ?_); (focus exact q_k)) | refine QY ?_ | (refine QB ?_; intro b) | (with_reducible refine QZ ?_ <;> (try constructor) <;> intro hb <;> try intro hb1) | refine QR Tryz.call116 hB1.out ?_ | refine QR Tryz.call116 hB2.out ?_ | refine QR Tryz.call116 hB3.out ?_ | refine QR Tryz.call116 hB4.out ?_ | ((with_reducible apply (ck_gen Tryz.call123)); (focus exact perm7); (focus exact hG.out _); (focus exact LEL.refl _); (focus exact ⟨_, _, rfl, rfl⟩); (rintro d st' ⟨rfl, rfl⟩)) | fail)
 all_goals exact QretC (hs := q_t)
theorem wrap_i64b (n : Int) : -9223372036854775808 ≤ IntKind.i64.wrap n ∧ IntKind.i64.wrap n ≤ 9223372036854775807 := by
 simp [IntKind.wrap, IntKind.bits, IntKind.signed]; omega
theorem long_bd (s : RS) : -9223372036854775808 ≤ s.long.1 ∧ s.long.1 ≤ 9223372036854775807 := by
 unfold RS.long
 split
 · exact ⟨by decide, by decide⟩
 · exact wrap_i64b _
theorem ruleRuleRF (rb gb fb tb eb pb ab : Nat) (s : RS) (g : Bool) (st : St) : TrF Tryz.prog 125 [.ip [.ptr rb 0], .ptr pb 0, .ptr ab 0] (envS rb gb fb tb eb pb ab s g st) fun d st' => d = .agg (Rul.rlG (s, g)).1.cells ∧ st' = envS rb gb fb tb eb pb ab (Rul.rlG (s, g)).2.1 (Rul.rlG (s, g)).2.2 st := by
 have hT := rdTextF rb s
 unfold Rul.rlG
 dsimp only
 generalize s.text = q1 at *
 obtain ⟨n1, s1⟩ := q1
 dsimp only at *
 have hLo := rdLongF rb s1
 have hbd := long_bd s1
 generalize s1.long = q2 at *
 obtain ⟨n2, s2⟩ := q2
 dsimp only at *
 have hw : IntKind.i64.wrap n2 = n2 := by unfold IntKind.wrap; simp [IntKind.bits, IntKind.signed]; omega
 have hG := ruleGetPatF 120 [.ip [.ptr rb 0], .ptr fb 0, .ptr tb 0] Tryz.call120 Rul.ptG rb gb fb tb eb pb ab (rulePatRF rb gb fb tb eb pb ab) s2 g
 generalize Rul.glist Rul.ptG 5 (s2, g) = q3 at *
 obtain ⟨l3, s3, g3⟩ := q3
 dsimp only at *
 have hA := ruleGetActF 122 [.ip [.ptr rb 0], .ptr eb 0] Tryz.call122 Rul.acG rb gb fb tb eb pb ab (ruleActRF rb gb fb tb eb pb ab) s3 g3
 generalize Rul.glist Rul.acG 5 (s3, g3) = q4 at *
 obtain ⟨l4, s4, g4⟩ := q4
 dsimp only at *
 unfold Rl.cells
 dsimp only
 generalize l3.map Pt.cells = L3 at *
 generalize l4.map Ac.cells = L4 at *
 replace hT := Lib.hid hT
 replace hLo := Lib.hid hLo
 replace hG := Lib.hid hG
 replace hA := Lib.hid hA
 refine QinC 3 55 Tryz.func125 Tryz.ntmps125 ?_
 repeat' (first | refine QV ?_ | ((with_reducible apply (w_drawN [(pb, [.fn (.func 120) [] [.ip [.ptr rb 0], .ptr fb 0, .ptr tb 0]]), (ab, [.fn (.func 122) [] [.ip [.ptr rb 0], .ptr eb 0]])])); (iterate 3 (focus kernel_rfl)); (focus exact q_k); intro hne; simp only [nes, ne1, and_assoc] at hne; repeat (have hq := hne.1; replace hne := hne.2)) | ((with_reducible refine And.intro ?_ ?_); (focus exact q_k)) | refine QY ?_ | (refine QB ?_; intro b) | (with_reducible refine QZ ?_ <;> (try constructor) <;> intro hb <;> try intro hb1) | ((with_reducible apply (ck_gen Tryz.call127)); (focus exact perm7); (focus exact hG.out _); (focus exact LEL.refl _); (focus exact ⟨_, _, rfl, rfl⟩); (rintro d st' ⟨rfl, rfl⟩)) | ((with_reducible apply (ck_gen Tryz.call128)); (focus exact List.Perm.refl _); (focus exact hA.out _); (focus exact LEL.refl _); (focus exact ⟨_, _, rfl, rfl⟩); (rintro d st' ⟨rfl, rfl⟩)) | fail)
 all_goals exact QretC (hs := q_t)
theorem ruleReadF (L : List Tm) (hL : ∀ t ∈ L, TOk t) (hl : L.length ≤ 1000000) (rb : Nat) (s : RS) (hR : ∀ x ∈ (Rul.glist Rul.rlG 9 (s, true)).1, Rul.RK x) (hRl : (Rul.glist Rul.rlG 9 (s, true)).1.length ≤ 1000000) (st : St) : TrF Tryz.prog 44 [.ptr rb 0, .sl .shared (L.map Tm.cells)] (rdR rb s :: st) fun d st' => d = .tup [.sl .shared (((Rul.read L s).1.getD []).map Rl.cells), .b (Rul.read L s).1.isSome] ∧ st' = rdR rb (Rul.read L s).2 :: st := by
 have hG := fun (gb fb tb eb pb ab : Nat) => ruleGetRuleF 125 [.ip [.ptr rb 0], .ptr pb 0, .ptr ab 0] Tryz.call125 Rul.rlG rb gb fb tb eb pb ab (ruleRuleRF rb gb fb tb eb pb ab) s true
 unfold Rul.read
 dsimp only
 generalize Rul.glist Rul.rlG 9 (s, true) = q at *
 obtain ⟨R, s2, g2⟩ := q
 dsimp only at *
 have hRi := ruleRightF L hL hl R hR hRl
 have hB := rdBadF rb s2
 generalize Rul.right L R = qr at *
 generalize L.map Tm.cells = LS at *
 clear hR hRl hL hl
 replace hG := Lib.hid hG
 replace hRi := Lib.hid hRi
 cases hsb : s2.bad with
 | true =>
  rw [if_pos (.inl rfl)]
  rw [hsb] at hB
  replace hB := Lib.hid hB
  simp only [Option.getD, Option.isSome, List.map_nil]
  generalize R.map Rl.cells = RS' at *
  refine Qin [4,5] Tryz.func44 Tryz.results44 Tryz.ntmps44 ?_
  repeat' (first | refine QX ?_ | (refine QB ?_; intro b) | (with_reducible refine QZ ?_ <;> (try constructor) <;> intro hb <;> try intro hb1) | ((with_reducible apply (ck_gen Tryz.call124)); (focus exact List.Perm.refl _); (focus exact hG.out _ _ _ _ _ _ _); (focus exact LEL.refl _); (focus exact ⟨_, _, rfl, rfl⟩); (rintro d st' ⟨rfl, rfl⟩)) | fail)
  all_goals exact Qret (hs := q_t)
 | false =>
 rw [hsb] at hB
 replace hB := Lib.hid hB
 cases g2 with
 | false =>
  rw [if_pos (.inr (.inl rfl))]
  simp only [Option.getD, Option.isSome, List.map_nil]
  generalize R.map Rl.cells = RS' at *
  refine Qin [4,5] Tryz.func44 Tryz.results44 Tryz.ntmps44 ?_
  repeat' (first | refine QX ?_ | (refine QB ?_; intro b) | (with_reducible refine QZ ?_ <;> (try constructor) <;> intro hb <;> try intro hb1) | ((with_reducible apply (ck_gen Tryz.call124)); (focus exact List.Perm.refl _); (focus exact hG.out _ _ _ _ _ _ _); (focus exact LEL.refl _); (focus exact ⟨_, _, rfl, rfl⟩); (rintro d st' ⟨rfl, rfl⟩)) | fail)
  all_goals exact Qret (hs := q_t)
 | true =>
 cases qr with
 | false =>
  rw [if_pos (.inr (.inr rfl))]
  simp only [Option.getD, Option.isSome, List.map_nil]
  generalize R.map Rl.cells = RS' at *
  refine Qin [4,5] Tryz.func44 Tryz.results44 Tryz.ntmps44 ?_
  repeat' (first | refine QX ?_ | (refine QB ?_; intro b) | (with_reducible refine QZ ?_ <;> (try constructor) <;> intro hb <;> try intro hb1) | ((with_reducible apply (ck_gen Tryz.call124)); (focus exact List.Perm.refl _); (focus exact hG.out _ _ _ _ _ _ _); (focus exact LEL.refl _); (focus exact ⟨_, _, rfl, rfl⟩); (rintro d st' ⟨rfl, rfl⟩)) | fail)
  all_goals exact Qret (hs := q_t)
 | true =>
  rw [if_neg (by rintro (h | h | h) <;> cases h)]
  simp only [Option.getD, Option.isSome]
  generalize R.map Rl.cells = RS' at *
  refine Qin [4,5] Tryz.func44 Tryz.results44 Tryz.ntmps44 ?_
  repeat' (first | refine QX ?_ | (refine QB ?_; intro b) | (with_reducible refine QZ ?_ <;> (try constructor) <;> intro hb <;> try intro hb1) | ((with_reducible apply (ck_gen Tryz.call124)); (focus exact List.Perm.refl _); (focus exact hG.out _ _ _ _ _ _ _); (focus exact LEL.refl _); (focus exact ⟨_, _, rfl, rfl⟩); (rintro d st' ⟨rfl, rfl⟩)) | fail)
  all_goals exact Qret (hs := q_t)
end
end Go.Proofs.YtgcienlfpnpbgaaGreat
