/- Texts put together: RefG, RefH, RefInts, RegP, RegQ, RegR, ReadsB, RdRef, RdRef2, RdRef3, RdRef4, RdSim, GetA, GetB, GetD, BinRef, BinRef2, RegS, RegT, RegKn, GetC, GetE. No statement is proved here. -/
import Derived.Test.YtgcienlfpnpbgaaGreatProg
import Derived.Deep.QuietTactic
import Derived.BigQuiet
import Derived.Test.YtgcienlfpnpbgaaGreatZ5
set_option linter.all false
section
namespace Go.Proofs.YtgcienlfpnpbgaaGreat
attribute [local push_cast] encB encI encC V.cells_mk V.cells_len Nat.mul_one Int.sub_zero List.map_nil beq_self_eq_true List.head?_cons
open Go.RowKit
set_option maxHeartbeats 4000000
set_option maxRecDepth 10000
theorem refOutF (x : Vr) (s : Stp) (h : RefP x s) (hk : s.kind < 1 ∨ 5 < s.kind) (st : St) : TrF Tryz.prog 164 [.agg x.cells, .agg s.cells] st (RefStepR x s st) := by
 obtain ⟨⟨hl, hp, hcp, hcl, hcs⟩, hq, hty, ho⟩ := h
 have hC := refCopyAF x hp hcp hl (by omega)
 have hFn : Hid (Sch.stepV x s = none) := Lib.hid (by unfold Sch.stepV; rw [if_neg (show ¬ s.kind = 1 by omega), if_neg (show ¬ s.kind = 2 by omega), if_neg (show ¬ s.kind = 3 by omega), if_neg (show ¬ s.kind = 4 by omega), if_neg (show ¬ s.kind = 5 by omega)])
 unfold RefStepR
 unfold Vr.cells Stp.cells at *
 generalize Sch.stepV x s = F at *
 have hk' : s.kind < 1 ∨ (1 ≤ s.kind ∧ 5 < s.kind) := by omega
 clear hk hq hty hcs
 cases s with
 | mk kd col slot order =>
 cases slot with
 | mk nm ty rq dv =>
 cases dv with
 | mk k n sv lv =>
 dsimp only at hC hk' ho ⊢
 rw [Sl.cells_mk] at *
 dsimp only [List.cons_append, List.nil_append] at *
 generalize x.slots.map Sl.cells = L1 at *
 generalize x.cols.map encC = L2 at *
 replace hC := Lib.hid hC
 rcases hk' with h1 | ⟨h1, h2⟩
 all_goals skip
 all_goals (
  refine trF_enterG (G := twoA Tryz.prog (.cell 4 147) (.tmp 5)) Tryz.func164 rfl (by rw [Tryz.ntmps164]; exact Nat.le_of_ble_eq_true rfl) (fun h1 h2 h3 => res_two rfl h1 h2 h3) ?_
  simp only [Tryz.ntmps164]
  repeat' (with_reducible first | refine Q1 ?_ | refine Qe ?_ | refine QQ ?_ | (refine al_go ?_; intro b) | (refine QD ?_ <;> (try constructor) <;> intro hb <;> try intro hb1) | fail)
  all_goals (refine retG_mk (rs := []) (by first | exact .inl rfl | exact .inr rfl) (by first | rfl | assumption) (List.Perm.refl _) ⟨_, _, rfl, cell_mk (by simp (disch := omega) only [push_cast, simprocAttr, *]; exact rfl) (by repeat (first | exact mm_h | apply mm_t)) (by simp (disch := omega) only [push_cast, simprocAttr, *]; exact rfl) (by (try simp (disch := omega) only [push_cast, simprocAttr, *]); (try exact rfl); done), (by show _ = _; (try simp (disch := omega) only [push_cast, simprocAttr, *]); (try exact rfl); done)⟩ (by (repeat (first | exact List.Sublist.refl _ | with_reducible apply List.Sublist.cons_cons | apply List.Sublist.cons))) (LE.refl _) (.inl ⟨hFn.out, _, _, rfl, rfl⟩)))
theorem refStepF (x : Vr) (s : Stp) (h : RefP x s) (hnd : x.cols.Nodup) (hxt : ∀ z ∈ x.slots, Sch.takes z.types = true) (st : St) : TrF Tryz.prog 164 [.agg x.cells, .agg s.cells] st (RefStepR x s st) := by
 by_cases h1 : s.kind = 1
 · exact refAddF x s h h1 st
 by_cases h2 : s.kind = 2
 · exact refLoseF x s h h2 st
 by_cases h3 : s.kind = 3
 · exact refRenameF x s h h3 st
 by_cases h4 : s.kind = 4
 · exact refWidenF x s h hxt h4 st
 by_cases h5 : s.kind = 5
 · exact refReorderF x s h hnd h5 st
 exact refOutF x s h (by omega) st
namespace Sch
theorem step_nd {x y : Vr} {s : Stp} (hb : ∀ c ∈ x.cols, c < x.slots.length) (hx : x.cols.Nodup) (h : stepV x s = some y) : y.cols.Nodup := by
 unfold stepV at h
 split at h
 · unfold addS at h
   split at h
   · cases h
     show (x.cols ++ [x.slots.length]).Nodup
     rw [List.nodup_append]
     refine ⟨hx, by simp, fun a ha b hb' e => ?_⟩
     rw [List.mem_singleton] at hb'
     subst hb' e
     have := hb _ ha
     omega
   · cases h
 · split at h
   · unfold loseS at h
     split at h
     · cases h; exact hx.eraseIdx _
     · cases h
   · split at h
     · unfold renameS at h
       split at h
       · cases h; exact hx
       · cases h
     · split at h
       · unfold widenS at h
         split at h
         · cases h; exact hx
         · cases h
       · split at h
         · unfold reorderS at h
           split at h
           · rename_i hc
             have hl : s.order.length = x.cols.length := hc.2.2
             rw [reo_count hx hl] at h
             split at h
             · rename_i hq
               cases h
               obtain ⟨h1, h2⟩ := all_len x.cols.length s.order hl fun k hk => List.count_pos_iff.1 (by rw [hq k hk]; omega)
               show (put x.cols s.order).Nodup
               unfold put
               rw [List.nodup_iff_pairwise_ne, List.pairwise_map]
               refine List.Pairwise.imp_of_mem (fun {a b} ha hb hab e => ?_) h1
               exact hab (getD_inj hx (h2 a ha) (h2 b hb) e)
             · cases h
           · cases h
         · cases h
structure VZ (n : Nat) (x : Vr) : Prop where
 vi : VI n x
 nd : x.cols.Nodup
 sl : ∀ z ∈ x.slots, SOk z
theorem firstL_nd : ∀ (l : List Sl) (x y : Vr), (∀ c ∈ x.cols, c < x.slots.length) → x.cols.Nodup → (∀ z ∈ x.slots, SOk z) → firstL l x = some y → y.cols.Nodup ∧ ∀ z ∈ y.slots, SOk z
 | [], x, y, _, h2, h3, h => by cases h; exact ⟨h2, h3⟩
 | s :: l, x, y, h1, h2, h3, h => by
  rw [firstL] at h
  split at h
  · rename_i hc
    refine firstL_nd l _ y (fun c hc => ?_) ?_ (fun z hz => ?_) h
    · rcases List.mem_append.1 hc with h | h
      · have := h1 c h; simp; omega
      · rw [List.mem_singleton] at h
        subst h; simp
    · show (x.cols ++ [x.slots.length]).Nodup
      rw [List.nodup_append]
      refine ⟨h2, by simp, fun a ha b hb' e => ?_⟩
      rw [List.mem_singleton] at hb'
      subst hb' e
      have := h1 _ ha
      omega
    · rcases List.mem_append.1 hz with h | h
      · exact h3 z h
      · rw [List.mem_singleton] at h
        subst h; exact sound_ok hc.1
  · cases h
theorem first_vz {t : Tm} {x : Vr} (h : firstV t = some x) : VZ 8 x := by
 have hv := (first_vi h).1
 unfold firstV at h
 split at h
 · obtain ⟨h1, h2⟩ := firstL_nd _ _ _ (fun c h => by cases h) List.nodup_nil (fun z h => by cases h) h
   exact ⟨hv, h1, h2⟩
 · cases h
theorem step_vz {n : Nat} {x y : Vr} {s : Stp} (hx : VZ n x) (h : stepV x s = some y) : VZ (n + 1) y :=
 ⟨step_vi hx.vi h, step_nd hx.vi.cs hx.nd h, (step_grow hx.sl h).2⟩
end Sch
structure TQ (t : Tm) : Prop where
 ls : t.slots.length ≤ 1000
 lt : t.steps.length ≤ 1000
 os : ∀ s ∈ t.slots, VQ s.dv ∧ (-9223372036854775808 ≤ s.types ∧ s.types ≤ 9223372036854775807)
 ot : ∀ s ∈ t.steps, VQ s.slot.dv ∧ (-9223372036854775808 ≤ s.slot.types ∧ s.slot.types ≤ 9223372036854775807) ∧ s.order.length ≤ 1000
def Sch.refVers (t : Tm) : List Vr := if 0 < Sch.last t then Sch.vers t else []
theorem refStepR_ex (x : Vr) (s : Stp) (st : St) : ∃ d st', RefStepR x s st d st' := by
 unfold RefStepR
 cases h : Sch.stepV x s with
 | none => exact ⟨_, _, .inl ⟨rfl, [], [], rfl, rfl⟩⟩
 | some y => exact ⟨_, _, .inr ⟨y, rfl, rfl, rfl⟩⟩
theorem Vr.cells_leaf (x : Vr) : ∀ d ∈ x.cells, d.leaf = true := by
 intro d hd
 unfold Vr.cells at hd
 simp only [List.mem_cons, List.not_mem_nil, or_false] at hd
 rcases hd with rfl | rfl <;> rfl
theorem refVersF (t : Tm) (ht : TQ t) (st : St) : TrF Tryz.prog 114 [.agg t.cells] st fun d st' => d = .sl .shared ((Sch.refVers t).map Vr.cells) ∧ st' = st := by
 have hN := Lib.hid (refIsNameF t.name)
 have hF : Hid (Sch.firstV t = if V.isName t.name.data.toList = true ∧ 1 ≤ t.slots.length ∧ t.slots.length ≤ 8 ∧ t.steps.length ≤ 8 then Sch.firstL t.slots ⟨[], []⟩ else none) := rfl
 have hV : Hid (Sch.vers t = match Sch.firstV t with | none => [] | some x => x :: Sch.versL x t.steps) := rfl
 have hLs : Hid (Sch.last t = if (Sch.vers t).length = t.steps.length + 1 then t.steps.length + 1 else 0) := rfl
 have hz : Hid (∀ x, Sch.firstV t = some x → Sch.VZ 8 x) := fun x h => Sch.first_vz h
 obtain ⟨hls, hlt', hos, hot⟩ := ht
 unfold Sch.refVers
 generalize Sch.last t = LT at *
 generalize Sch.vers t = VS at *
 generalize Sch.firstV t = F at *
 cases t with
 | mk nm slots steps =>
 unfold Tm.cells
 dsimp only at hN hF hV hLs hls hlt' hos hot ⊢
 have hos2 := Lib.hid hos
 have hot2 := Lib.hid hot
 clear hos hot
 generalize V.isName nm.data.toList = qn at *
 have hcl := hMp Sl.cells slots
 have hcp := hMp Stp.cells steps
 have hml : (slots.map Sl.cells).length = slots.length := List.length_map ..
 have hmp : (steps.map Stp.cells).length = steps.length := List.length_map ..
 generalize slots.map Sl.cells = SL at *
 generalize steps.map Stp.cells = TL at *
 by_cases hc : qn = true ∧ 1 ≤ slots.length ∧ slots.length ≤ 8 ∧ steps.length ≤ 8
 case neg =>
  have hF2 : F = none := by rw [hF.out, if_neg hc]
  have hR : Hid ((if 0 < LT then VS else []) = []) := Lib.hid (by
   have h1 : VS = [] := by rw [hV.out, hF2]
   have h2 : LT = 0 := by rw [hLs.out, h1]; exact if_neg (by simp)
   rw [h2]; exact if_neg (by omega))
  rw [hR.out]
  have hno : qn = false ∨ (qn = true ∧ (slots.length : Int) < 1) ∨ (qn = true ∧ 1 ≤ (slots.length : Int) ∧ 8 < (slots.length : Int)) ∨ (qn = true ∧ 1 ≤ (slots.length : Int) ∧ (slots.length : Int) ≤ 8 ∧ 8 < (steps.length : Int)) := by
   cases qn
   · exact .inl rfl
   · refine .inr ?_
     by_cases h1 : 1 ≤ slots.length
     · by_cases h2 : slots.length ≤ 8
       · by_cases h3 : steps.length ≤ 8
         · exact absurd ⟨rfl, h1, h2, h3⟩ hc
         · exact .inr (.inr ⟨rfl, by omega, by omega, by omega⟩)
       · exact .inr (.inl ⟨rfl, by omega, by omega⟩)
     · exact .inl ⟨rfl, by omega⟩
  clear hc hF hV hLs hz hF2 hR
  rcases hno with rfl | ⟨rfl, h1⟩ | ⟨rfl, h1, h2⟩ | ⟨rfl, h1, h2, h3⟩
  all_goals skip
  all_goals (
   refine Qin [2] Tryz.func114 Tryz.results114 Tryz.ntmps114 ?_
   exact WRa)
 case pos =>
  have hF2 : Hid (F = Sch.firstL slots ⟨[], []⟩) := Lib.hid (by rw [hF.out, if_pos hc])
  obtain ⟨rfl, h1, h2, h3⟩ := hc
  clear hF
  obtain ⟨B, hB⟩ : ∃ B, Sch.firstL slots ⟨[], []⟩ = B := ⟨_, rfl⟩
  have HB : Hid (Sch.firstL (slots.drop 0) ⟨[], []⟩ = B) := hB
  rw [hB] at hF2
  clear hB
  have hnone : Hid (B = none → (if 0 < LT then VS else []) = []) := fun h => by
   have h1 : VS = [] := by rw [hV.out, hF2.out, h]
   have h2 : LT = 0 := by rw [hLs.out, h1]; exact if_neg (by simp)
   rw [h2]; exact if_neg (by omega)
  generalize hRV : (if 0 < LT then VS else []) = RV at *
  replace hRV := Lib.hid hRV
  refine Qin [2] Tryz.func114 Tryz.results114 Tryz.ntmps114 ?_
  repeat' (with_reducible first | refine Q1 ?_ | refine Qe ?_ | refine QQ ?_ | (refine al_go ?_; intro b) | (refine Qa ?_; intro o' ho') | (refine Qp ?_; intro o' ho') | (refine QD ?_ <;> (try constructor) <;> intro hb <;> try intro hb1) | fail)
  obtain ⟨b3, rfl⟩ : ∃ q, q = b := ⟨_, rfl⟩
  refine tr_loopd (ι := Nat) (fun i A st' => i ≤ slots.length ∧ A.df = [] ∧ A.e 1 = .ip [.str nm, .sl .shared SL, .sl .shared TL] ∧ A.e 3 = .ptr b3 0 ∧ A.e 4 = .i i ∧ ∃ x : Vr, x.slots.length = i ∧ x.cols.length = i ∧ (∀ c ∈ x.cols, c < x.slots.length) ∧ Hid (Sch.firstL (slots.drop i) x = B) ∧
   ((i = 0 ∧ x = ⟨[], []⟩ ∧ st' = .box b3 147 [.sl .tight [], .sl .tight []] :: st) ∨ (0 < i ∧ ∃ gs cS zS gc cC zC, (slotC x.slots ++ zS).length = cS * 7 ∧ (colC x.cols ++ zC).length = cC * 1 ∧ st' = .box gc 3 (colC x.cols ++ zC) :: .box gs 75 (slotC x.slots ++ zS) :: .box b3 147 [.ar gs 0 i cS, .ar gc 0 i cC] :: st))) (fun i => slots.length - i) 0 ⟨Nat.zero_le _, Qf, Qf, Qf, Qf, ⟨[], []⟩, rfl, rfl, (fun c h => by cases h), HB, .inl ⟨rfl, rfl, rfl⟩⟩ ?_
  rintro i A st' ⟨hi, hdf, e1, e3, e4, x, hxs, hxc, hxcs, HT, hcase⟩
  clear HB
  by_cases hlt : i < slots.length
  · obtain ⟨sl, hsl⟩ := gEx hlt
    have HE := HT.out
    rw [firstL_drop hsl] at HE
    clear HT
    obtain ⟨hq, hty⟩ := hos2.out sl (List.mem_of_getElem? hsl)
    have hS := refSoundF sl hq hty
    have hC := refColF x.slots x.cols sl.name (by omega) (by omega) hxcs []
    have hcl2 := hcl.out i sl hsl
    have hcs3 : Hid (∀ c ∈ x.cols ++ [x.slots.length], c < (x.slots ++ [sl]).length) := fun c hc => by
     rcases List.mem_append.1 hc with h | h
     · have := hxcs c h; simp; omega
     · rw [List.mem_singleton] at h
       subst h; simp
    clear hsl hq hty hxcs
    unfold Sch.col at HE
    have g1 := Lib.hid (slotC_add x.slots sl)
    have g2 := Lib.hid (colC_add x.cols x.slots.length)
    cases sl with
    | mk snm sty srq sdv =>
    cases sdv with
    | mk sk sn ss sL =>
    rw [Sl.cells_mk] at hS hcl2 g1
    dsimp only at hS hC HE g1
    generalize Sch.sound _ = q at *
    rcases hcase with ⟨rfl, hx0, rfl⟩ | ⟨hi0, gs, cS, zS, gc, cC, zC, hz1, hz2, rfl⟩
    · subst hx0
      dsimp only at hC HE g1 g2 hcs3
      rw [List.map_nil, List.map_nil] at hC
      rw [Sch.colL] at hC HE
      replace hS := Lib.hid hS
      replace hC := Lib.hid hC
      replace g1 := Lib.hid g1
      replace g2 := Lib.hid g2
      cases q with
      | false =>
       rw [if_neg (fun h => Bool.noConfusion h.1)] at HE
       have hRn := hnone.out HE.symm
       subst hRn
       clear HE
       repeat' (first | (with_reducible first | refine Q1 ?_ | refine Qe ?_ | fail) | ((with_reducible refine w_drawRN ?_ ?_ ?_ ?_); (iterate 3 (focus kernel_rfl)); intro hne; simp only [nes, ne1, and_assoc] at hne; repeat (have hq := hne.1; replace hne := hne.2)) | (with_reducible first | refine QQ ?_ | (refine al_go ?_; intro b) | (refine Qa ?_; intro o' ho') | (refine Qp ?_; intro o' ho') | (refine QD ?_ <;> (try constructor) <;> intro hb <;> try intro hb1) | fail) | ((with_reducible apply (ck_lend Tryz.call163)); (focus exact hC.out); (focus exact ⟨Lend.agg ⟨Lend.sl _ _, Lend.sl _ _, trivial⟩, Lend.refl _, trivial⟩)) | fail)
       all_goals exact Qret
      | true =>
       rw [if_pos ⟨rfl, by decide⟩] at HE
       replace HE := Lib.hid HE
       repeat' (first | (with_reducible first | refine Q1 ?_ | refine Qe ?_ | fail) | ((with_reducible refine w_drawRN ?_ ?_ ?_ ?_); (iterate 3 (focus kernel_rfl)); intro hne; simp only [nes, ne1, and_assoc] at hne; repeat (have hq := hne.1; replace hne := hne.2)) | ((with_reducible apply (w_drawN [(b3, [.sl .tight [], .sl .tight []])])); (iterate 3 (focus kernel_rfl)); (focus ((repeat (first | exact keep_nil | refine keep_more (by (repeat (first | exact mm_h | apply mm_t)); done) ?_)); done)); intro hne; simp only [nes, ne1, and_assoc] at hne; repeat (have hq := hne.1; replace hne := hne.2)) | ((with_reducible refine And.intro ?_ ?_); (focus ((repeat (first | exact keep_nil | refine keep_more (by (repeat (first | exact mm_h | apply mm_t)); done) ?_)); done))) | with_reducible refine s_appN ?_ | with_reducible refine rn_go ?_ | ((with_reducible apply rn2_go); (focus (simp only [List.length_cons, List.length_nil]; omega)); (focus exact len_one rfl); (focus (simp only [List.length_cons, List.length_nil]; omega)); (focus (simp only [List.length_cons, List.length_nil]; omega)); intro g' c' z' hc' hl') | (with_reducible first | refine QQ ?_ | (refine al_go ?_; intro b) | (refine Qa ?_; intro o' ho') | (refine Qp ?_; intro o' ho') | (refine QD ?_ <;> (try constructor) <;> intro hb <;> try intro hb1) | fail) | ((with_reducible apply (ck_lend Tryz.call163)); (focus exact hC.out); (focus exact ⟨Lend.agg ⟨Lend.sl _ _, Lend.sl _ _, trivial⟩, Lend.refl _, trivial⟩)) | fail)
       rename_i gs' cS' zS' hcs' hls'
       refine ⟨1, .box g' 3 ([[D.i 0]].flatten ++ z') :: .box gs' 75 ([[.str snm, .i sty, .b srq, .i sk, .i sn, .str ss, .sl .shared (sL.map V.cells)]].flatten ++ zS') :: .box b3 147 [.ar gs' 0 1 cS', .ar g' 0 1 c'] :: st, List.Sublist.refl _, ⟨hlt, ?_, ?_, ?_, ?_, ⟨[] ++ [.mk snm sty srq (.mk sk sn ss sL)], [] ++ [([] : List Sl).length]⟩, rfl, rfl, hcs3.out, HE, .inr ⟨Nat.zero_lt_one, gs', cS', zS', g', c', z', ?_, ?_, ?_⟩⟩, ?_⟩
       iterate 4 (focus exact Qf)
       · rw [show slotC ([] ++ [Sl.mk snm sty srq (.mk sk sn ss sL)]) = [(Sl.mk snm sty srq (.mk sk sn ss sL)).cells].flatten from rfl, Sl.cells_mk]
         exact hls'
       · exact hl'
       · rw [show slotC ([] ++ [Sl.mk snm sty srq (.mk sk sn ss sL)]) = [(Sl.mk snm sty srq (.mk sk sn ss sL)).cells].flatten from rfl, Sl.cells_mk]
         rfl
       · omega
    · have hr1 := slotC_len x.slots
      have hr2 := colC_len x.cols
      have e1 := Lib.hid (slots_each x.slots)
      have e2 := Lib.hid (cols_each x.cols)
      have f1 := Lib.hid (slotC_flat x)
      have f2 := Lib.hid (colC_flat x)
      have l1 : Hid ((x.slots.map Sl.cells).length = i) := Lib.hid (by rw [List.length_map, hxs])
      have l2 : Hid ((x.cols.map encC).length = i) := Lib.hid (by rw [List.length_map, hxc])
      rw [hxs] at hr1 HE g2
      rw [hxc] at hr2
      have hcs4 : Hid (∀ c ∈ x.cols ++ [i], c < (x.slots ++ [Sl.mk snm sty srq (.mk sk sn ss sL)]).length) := Lib.hid (by have := hcs3.out; rwa [hxs] at this)
      generalize Sch.colL x.slots snm x.cols = cv at *
      obtain ⟨S1, hS1⟩ : ∃ S1, slotC x.slots = S1 := ⟨_, rfl⟩
      obtain ⟨C1, hC1⟩ : ∃ C1, colC x.cols = C1 := ⟨_, rfl⟩
      rw [hS1] at hz1 hr1 f1 g1
      rw [hC1] at hz2 hr2 f2 g2
      rw [hS1, hC1]
      clear hS1 hC1
      generalize x.slots.map Sl.cells = L1 at *
      generalize x.cols.map encC = L2 at *
      replace hS := Lib.hid hS
      replace hC := Lib.hid hC
      by_cases hqc : q = true ∧ cv < 0
      · obtain ⟨rfl, hcv⟩ := hqc
        rw [if_pos ⟨rfl, hcv⟩] at HE
        replace HE := Lib.hid HE
        replace hxs := Lib.hid hxs
        replace hxc := Lib.hid hxc
        repeat' (first | (with_reducible first | refine Q1 ?_ | refine Qe ?_ | fail) | ((with_reducible apply (w_drawN [(b3, [.ar gs 0 i cS, .ar gc 0 i cC])])); (iterate 3 (focus kernel_rfl)); (focus ((repeat (first | exact keep_nil | refine keep_more (by (repeat (first | exact mm_h | apply mm_t)); done) ?_)); done)); intro hne; simp only [nes, ne1, and_assoc] at hne; repeat (have hq := hne.1; replace hne := hne.2)) | ((with_reducible refine And.intro ?_ ?_); (focus ((repeat (first | exact keep_nil | refine keep_more (by (repeat (first | exact mm_h | apply mm_t)); done) ?_)); done))) | with_reducible refine s_appR ?_ | with_reducible refine rk_go ?_ | ((with_reducible apply (r2_go hr1 hz1)); (focus (intro g' cs'; repeat (first | exact ra_h | apply ra_t))); (focus exact len_one rfl); (focus (simp only [List.length_cons, List.length_nil]; omega)); (focus (simp only [List.length_cons, List.length_nil]; omega)); intro gs' cS' zS' hcs hls) | ((with_reducible apply (r2_go hr2 hz2)); (focus (intro g' cs'; repeat (first | exact ra_h | apply ra_t))); (focus exact len_one rfl); (focus (simp only [List.length_cons, List.length_nil]; omega)); (focus (simp only [List.length_cons, List.length_nil]; omega)); intro gc' cC' zC' hcc hlc) | (with_reducible first | refine QQ ?_ | (refine al_go ?_; intro b) | (refine Qa ?_; intro o' ho') | (refine Qp ?_; intro o' ho') | (refine QD ?_ <;> (try constructor) <;> intro hb <;> try intro hb1) | fail) | ((with_reducible apply (ck_lend Tryz.call163)); (focus exact hC.out); (focus exact ⟨Lend.agg ⟨Lend.rowE (by repeat (first | exact mm_h | apply mm_t)) f1.out (by decide) e1.out l1.out, Lend.rowE (by repeat (first | exact mm_h | apply mm_t)) f2.out (by decide) e2.out l2.out, trivial⟩, Lend.refl _, trivial⟩)) | fail)
        refine ⟨i + 1, .box gc' 3 (C1 ++ [[D.i i]].flatten ++ zC') :: .box gs' 75 (S1 ++ [[.str snm, .i sty, .b srq, .i sk, .i sn, .str ss, .sl .shared (sL.map V.cells)]].flatten ++ zS') :: .box b3 147 [.ar gs' 0 (i + 1) cS', .ar gc' 0 (i + 1) cC'] :: st, List.Sublist.refl _, ⟨hlt, ?_, ?_, ?_, ?_, ⟨x.slots ++ [.mk snm sty srq (.mk sk sn ss sL)], x.cols ++ [i]⟩, ?_, ?_, hcs4.out, HE, .inr ⟨Nat.succ_pos _, gs', cS', zS', gc', cC', zC', ?_, ?_, ?_⟩⟩, ?_⟩
        iterate 4 (focus exact Qf)
        · rw [List.length_append, hxs.out]; rfl
        · rw [List.length_append, hxc.out]; rfl
        · rw [g1.out]; exact hls
        · rw [g2.out]; exact hlc
        · rw [g1.out, g2.out]
        · omega
      · rw [if_neg hqc] at HE
        have hRn := hnone.out HE.symm
        subst hRn
        clear HE
        have hno : q = false ∨ (q = true ∧ 0 ≤ cv) := by
         cases q
         · exact .inl rfl
         · exact .inr ⟨rfl, by
            have : ¬ cv < 0 := fun h => hqc ⟨rfl, h⟩
            omega⟩
        clear hqc
        rcases hno with rfl | ⟨rfl, hcv⟩
        all_goals skip
        all_goals (
         repeat' (first | (with_reducible first | refine Q1 ?_ | refine Qe ?_ | fail) | ((with_reducible refine w_drawRN ?_ ?_ ?_ ?_); (iterate 3 (focus kernel_rfl)); intro hne; simp only [nes, ne1, and_assoc] at hne; repeat (have hq := hne.1; replace hne := hne.2)) | (with_reducible first | refine QQ ?_ | (refine al_go ?_; intro b) | (refine Qa ?_; intro o' ho') | (refine Qp ?_; intro o' ho') | (refine QD ?_ <;> (try constructor) <;> intro hb <;> try intro hb1) | fail) | ((with_reducible apply (ck_lend Tryz.call163)); (focus exact hC.out); (focus exact ⟨Lend.agg ⟨Lend.rowE (by repeat (first | exact mm_h | apply mm_t)) f1.out (by decide) e1.out l1.out, Lend.rowE (by repeat (first | exact mm_h | apply mm_t)) f2.out (by decide) e2.out l2.out, trivial⟩, Lend.refl _, trivial⟩)) | fail)
         all_goals exact Qret)
  · have HE := HT.out
    rw [List.drop_of_length_le (by omega), Sch.firstL] at HE
    clear HT
    rcases hcase with ⟨rfl, hx0, rfl⟩ | ⟨hi0, gs, cS, zS, gc, cC, zC, hz1, hz2, rfl⟩
    · omega
    · have hil : i = slots.length := by omega
      have hFx : F = some x := hF2.out.trans HE.symm
      have hvz := hz.out x hFx
      have hVx : Hid (VS = x :: Sch.versL x steps) := Lib.hid (by rw [hV.out, hFx])
      refine tr_rest (g := gs) (b := b3) (n := i) (cap := cS) (sz := 7) (es := x.slots.map Sl.cells) (el := 75) (ty := 147) (zs := zS) (cs := [.ar gs 0 i cS, .ar gc 0 i cC]) (cs' := [.sl .shared (x.slots.map Sl.cells), .ar gc 0 i cC]) (s := .box gc 3 (colC x.cols ++ zC) :: st) ((List.Perm.swap _ _ _).trans (.cons _ (.swap _ _ _))) (by decide) (slots_each x.slots) (by rw [List.length_map, hxs]) (.cons _ _ _ _ .ar (.cons _ _ _ _ (.same _) .nil)) (by intro d hd; simp only [List.mem_cons, List.not_mem_nil, or_false] at hd; rcases hd with rfl | rfl <;> rfl) ?_
      refine tr_rest (g := gc) (b := b3) (n := i) (cap := cC) (sz := 1) (es := x.cols.map encC) (el := 3) (ty := 147) (zs := zC) (cs := [.sl .shared (x.slots.map Sl.cells), .ar gc 0 i cC]) (cs' := x.cells) (s := st) (.swap _ _ _) (by decide) (cols_each x.cols) (by rw [List.length_map, hxc]) (.cons _ _ _ _ (.same _) (.cons _ _ _ _ .ar .nil)) (Vr.cells_leaf x) ?_
      unfold Vr.cells
      clear hz1 hz2 hV hF2 hnone HE hz
      have hx1 := hvz.vi.lp
      generalize hX1 : x.slots.map Sl.cells = X1 at *
      generalize hX2 : x.cols.map encC = X2 at *
      replace hX1 := Lib.hid hX1
      replace hX2 := Lib.hid hX2
      replace hil := Lib.hid hil
      replace hxs := Lib.hid hxs
      replace hxc := Lib.hid hxc
      repeat' (with_reducible first | refine Q1 ?_ | refine Qe ?_ | refine QQ ?_ | (refine al_go ?_; intro b) | (refine Qa ?_; intro o' ho') | (refine Qp ?_; intro o' ho') | (refine QD ?_ <;> (try constructor) <;> intro hb <;> try intro hb1) | fail)
      have hcx : x.cells = [.sl .shared X1, .sl .shared X2] := by unfold Vr.cells; rw [hX1.out, hX2.out]
      have hst0 : Hid (VS = [x] ++ Sch.versL x (steps.drop 0)) := hVx
      have hfin : Hid (VS.length = steps.length + 1 → RV = VS) := fun h => by
       rw [← hRV.out, hLs.out, if_pos h, if_pos (by omega)]
      have hbad : Hid (VS.length ≠ steps.length + 1 → RV = []) := fun h => by
       rw [← hRV.out, hLs.out, if_neg h, if_neg (by omega)]
      have hvz' : Hid (Sch.VZ 8 x) := Lib.hid hvz
      clear hVx hRV hLs hN hos2 hcl hi hi0 hlt hvz hil hFx hxcs
      refine tr_room 147 2 1 ?_
      refine tr_loopd (ι := Nat) (fun j A st' => j ≤ steps.length ∧ A.df = [] ∧ A.e 1 = .ip [.str nm, .sl .shared SL, .sl .shared TL] ∧ A.e 6 = .i j ∧ ∃ (O : List Vr) (o : Own) (z : Vr), o ≠ .shared ∧ O.length = j + 1 ∧ Hid (O[j]? = some z) ∧ Hid (Sch.VZ (8 + j) z) ∧ Hid (VS = O ++ Sch.versL z (steps.drop j)) ∧ A.e 5 = .sl o (O.map Vr.cells) ∧ st' = .room o 147 2 (O.map Vr.cells).length :: .box b3 147 [.sl .shared X1, .sl .shared X2] :: st) (fun j => steps.length - j) 0 ⟨Nat.zero_le _, Qf, Qf, Qf, [x], .tight, x, by simp, rfl, rfl, hvz'.out, hst0.out, by (rw [List.map_cons, List.map_nil, hcx]; exact Qf), rfl⟩ ?_
      clear hdf e1 e3 e4 hst0 hvz' hxs hxc hX1 hX2 hcx
      rintro j A st' ⟨hj, hdf, e1, e6, O, o, z, ho, hOl, hOj, hzz, hVO, e5, rfl⟩
      by_cases hjl : j < steps.length
      · obtain ⟨stp, hstp⟩ := gEx hjl
        obtain ⟨hsq, hsty, hso⟩ := hot2.out stp (List.mem_of_getElem? hstp)
        have hS := refStepF z stp ⟨hzz.out.vi.mono (by omega), hsq, hsty, hso⟩ hzz.out.nd fun w hw => (hzz.out.sl w hw).types
        have hSx := refStepR_ex z stp
        have hVd := hVO.out
        rw [Sch.versL_drop hstp] at hVd
        have hOc : (O.map Vr.cells)[j]? = some z.cells := by rw [List.getElem?_map, hOj.out]; rfl
        have htc := hcp.out j stp hstp
        have hOm : (O.map Vr.cells).length = j + 1 := by rw [List.length_map, hOl]
        have hnn : Hid (Sch.stepV z stp = none → RV = []) := fun h => by
         rw [h, List.append_nil] at hVd
         exact hbad.out (by rw [hVd]; omega)
        have hyy : Hid (∀ y, Sch.stepV z stp = some y → Sch.VZ (8 + (j + 1)) y ∧ VS = (O ++ [y]) ++ Sch.versL y (steps.drop (j + 1))) := fun y h => by
         rw [h] at hVd
         exact ⟨Sch.step_vz hzz.out h, by rw [hVd, List.append_assoc]; rfl⟩
        have hOe : Hid (∀ e ∈ O.map Vr.cells, e.length = 2) := fun e he => by
         obtain ⟨w, -, rfl⟩ := List.mem_map.1 he
         rfl
        have hOy : Hid (∀ y : Vr, (O ++ [y]).map Vr.cells = O.map Vr.cells ++ [y.cells]) := fun y => by rw [List.map_append]; rfl
        unfold RefStepR at hS hSx
        clear hVd hVO hstp hsq hsty hso hOj hzz
        generalize Sch.stepV z stp = SV at *
        cases stp with
        | mk kd col slot order =>
        cases slot with
        | mk snm sty srq sdv =>
        cases sdv with
        | mk sk sn ss sL =>
        unfold Vr.cells Stp.cells at hS
        unfold Stp.cells at htc
        rw [Sl.cells_mk] at hS htc
        dsimp only [List.cons_append, List.nil_append] at hS htc
        generalize hOC : O.map Vr.cells = OC at *
        replace hOC := Lib.hid hOC
        replace hS := Lib.hid hS
        replace hSx := Lib.hid hSx
        replace hOl := Lib.hid hOl
        unfold Vr.cells at hOc
        repeat' (first | (with_reducible first | refine Q1 ?_ | refine Qe ?_ | fail) | ((with_reducible apply (w_draw2 [] 13 9)); (iterate 3 (focus kernel_rfl)); (focus (repeat (first | exact keep_nil | refine keep_more (by repeat (first | exact mm_h | apply mm_t)) ?_))); (focus exact rfl); (focus (simp only [List.eraseIdx_cons_succ, List.eraseIdx_cons_zero]; rfl))) | ((with_reducible refine And.intro ?_ ?_); (focus ((repeat (first | exact keep_nil | refine keep_more (by (repeat (first | exact mm_h | apply mm_t)); done) ?_)); done))) | (with_reducible first | refine QQ ?_ | (refine al_go ?_; intro b) | (refine Qa ?_; intro o' ho') | (refine Qp ?_; intro o' ho') | (refine QD ?_ <;> (try constructor) <;> intro hb <;> try intro hb1) | fail) | ((with_reducible apply (ck_gen Tryz.call164)); (focus exact List.Perm.refl _); (focus exact hS.out _); (focus exact LEL.refl _); (focus exact hSx.out _); (rintro d st' (⟨hn, Y1, Y2, rfl, rfl⟩ | ⟨y, hy, rfl, rfl⟩))) | fail)
        all_goals first
         | (have hRn := hnn.out hn
            subst hRn
            exact Qret
            done)
         | skip
        all_goals (
         obtain ⟨q1, q2⟩ := hyy.out y hy
         refine ⟨j + 1, .room o' 147 2 (OC ++ [y.cells]).length :: .box b3 147 [.sl .shared X1, .sl .shared X2] :: st, .cons _ (List.Sublist.refl _), ⟨hjl, ?_, ?_, ?_, O ++ [y], o', y, ho', ?_, ?_, q1, q2, ?_, ?_⟩, by omega⟩
         · exact Qf
         · exact Qf
         · exact Qf
         · rw [List.length_append, hOl.out]; rfl
         · show (O ++ [y])[j + 1]? = some y
           rw [List.getElem?_append_right (by rw [hOl.out]; omega), hOl.out, Nat.sub_self]; rfl
         · have h1 := hOy.out y
           show _ = D.sl o' (List.map Vr.cells (O ++ [y]))
           rw [h1]
           unfold Vr.cells
           exact Qf
         · have h1 := hOy.out y
           show _ = Res.room o' _ 2 (List.map Vr.cells (O ++ [y])).length :: _
           rw [h1])
      · have hVd := hVO.out
        rw [List.drop_of_length_le (by omega), Sch.versL, List.append_nil] at hVd
        have hRf := hfin.out (by rw [hVd, hOl]; omega)
        subst hVd
        subst hRf
        clear hVO hOj hzz hot2 hcp hfin hbad
        repeat' (with_reducible first | refine Q1 ?_ | refine Qe ?_ | refine QQ ?_ | (refine al_go ?_; intro b) | (refine Qa ?_; intro o' ho') | (refine Qp ?_; intro o' ho') | (refine QD ?_ <;> (try constructor) <;> intro hb <;> try intro hb1) | fail)
        all_goals exact retA_mk (by first | exact .inl rfl | exact .inr rfl) (by first | rfl | assumption) (by (repeat (first | exact List.Sublist.refl _ | with_reducible apply List.Sublist.cons_cons | apply List.Sublist.cons))) (LE.trans (LE.of_eq (by (try simp (disch := omega) only [push_cast, simprocAttr, *]); (try exact rfl); done)) (LE.sl o (RV.map Vr.cells))) ⟨rfl, rfl⟩
end Go.Proofs.YtgcienlfpnpbgaaGreat
end
section
namespace Go.Proofs.YtgcienlfpnpbgaaGreat
open Go.RowKit
theorem take_eq_stepI {α : Type} {xs ys : List α} {k : Nat} (h : xs.take k = ys.take k) (hx : k < xs.length) (hy : k < ys.length) (e : xs[k] = ys[k]) : xs.take (k + 1) = ys.take (k + 1) := by
 rw [take_snoc xs k hx, take_snoc ys k hy, h, e]
set_option maxHeartbeats 400000 in
theorem ints_any (u v : Value) (xs ys : List Int) (w : World) (hu : Sees iv w u xs) (hv : Sees iv w v ys) :
 Calls Tryz.prog 36 #[u, v] w fun e w' => e = .returned (.bool (decide (xs = ys))) ∧ ∃ n, w' = w.drewN n := by
 obtain ⟨a, cap, rfl, h1, h2, h3, h4⟩ := hu
 obtain ⟨a', cap', rfl, h1', h2', h3', h4'⟩ := hv
 unfold maxLen at h2 h2'
 by_cases hl : xs.length = ys.length
 · have hl' : ((xs.length : Int) != (ys.length : Int)) = false := by rw [bne_eq_false_iff_eq]; omega
   have HL := Lib.hid hl
   have i1 : xs.length ≤ ys.length := by omega
   have i2 : ys.length ≤ xs.length := by omega
   clear hl
   obtain ⟨q, hq⟩ : ∃ q, decide (xs = ys) = q := ⟨_, rfl⟩
   rw [hq]
   have HQ := Lib.hid hq; clear hq
   go_enter Tryz.func36, Tryz.ntmps36
   go_wp2
   go_loopw [5] (fun i wr => ∃ k : Nat, k ≤ xs.length ∧ i = .int .i64 k ∧ xs.take k = ys.take k ∧ ∃ n, wr = w.drewN n) (fun i _ => xs.length - (intOf i).toNat)
   case atStart => exact ⟨0, Nat.zero_le _, rfl, rfl, 0, rfl⟩
   case round =>
    obtain ⟨k, hk, rfl, htk, n, rfl⟩ := hrel
    have HT := Lib.hid htk; clear htk
    by_cases hlt : k < xs.length
    · have hlt' : k < ys.length := by omega
      obtain ⟨⟨b, off, s⟩, rfl⟩ : ∃ b, a = some b := by
       cases a with
       | none => have := h3 rfl; omega
       | some b => exact ⟨b, rfl⟩
      obtain ⟨⟨b', off', s'⟩, rfl⟩ : ∃ b, a' = some b := by
       cases a' with
       | none => have := h3' rfl; omega
       | some b => exact ⟨b, rfl⟩
      obtain ⟨e1, e2, e3⟩ := h4 _ rfl (by omega)
      obtain ⟨e1', e2', e3'⟩ := h4' _ rfl (by omega)
      dsimp only at e1 e2 e3 e1' e2' e3'
      subst e1 e1'
      have hc := e3 k hlt
      have hc' := e3' k hlt'
      have HX := Lib.hid (fun e : xs[k] = ys[k] => take_eq_stepI HT.out hlt hlt' e)
      have HN := Lib.hid (fun (h : xs[k] ≠ ys[k]) (e : xs = ys) => h (by simp only [e]))
      clear h4 h4' e3 e3' h3 h3'
      generalize xs[k] = x at *
      generalize ys[k] = y at *
      unfold iv at hc hc'
      by_cases hxy : x = y
      · subst hxy
        go_wp2
        go_quiet (fail)
        go_wp2
        go_roundw
        case rel => exact ⟨k + 1, by omega, by go_num, HX.out trivial, _, rfl⟩
        case measure => simp [intOf]; omega
      · have hn : (x != y) = true := by rw [bne_iff_ne]; exact hxy
        have hne : decide (xs = ys) = false := by rw [decide_eq_false_iff_not]; exact HN.out hxy
        have HE := Lib.hid (HQ.out.symm.trans hne)
        clear hne hxy
        go_wp2
        go_quiet (fail)
        go_wp2
        go_ret
        exact ⟨ret_bool HE.out.symm, _, by first | rfl | exact World.drewN_drewN _ _ _⟩
    · clear h4 h4' h3 h3'
      have HE : Hid (q = true) := by
       have := HT.out
       rw [List.take_of_length_le (by omega), List.take_of_length_le (by omega)] at this
       show q = true
       rw [← HQ.out, this]; simp
      go_wp2
      go_ret
      exact ⟨ret_bool HE.out.symm, _, by first | rfl | exact World.drewN_drewN _ _ _⟩
 · have hl' : ((xs.length : Int) != (ys.length : Int)) = true := by rw [bne_iff_ne]; omega
   have hne : decide (xs = ys) = false := by rw [decide_eq_false_iff_not]; intro e; exact hl (by rw [e])
   rw [hne]
   clear hne hl
   go_enter Tryz.func36, Tryz.ntmps36
   go_wp2
   go_ret
   exact ⟨rfl, 0, rfl⟩
end Go.Proofs.YtgcienlfpnpbgaaGreat
end
section
namespace Go.Proofs.YtgcienlfpnpbgaaGreat
attribute [local push_cast] encB encI encC V.cells_mk V.cells_len Nat.mul_one Int.sub_zero List.map_nil beq_self_eq_true bne_self_eq_false List.head?_cons
open Go.RowKit
set_option maxHeartbeats 8000000
set_option maxRecDepth 10000
theorem refIntsL (o o' : Own) (a b : List Int) (st : St) : TrF Tryz.prog 36 [.sl o (a.map encI), .sl o' (b.map encI)] st fun d st' => d = .b (decide (a = b)) ∧ st' = st :=
 trF_pure fun vs w hv => by
  obtain ⟨v, v', rfl, h1, h2⟩ := args2 hv
  exact ⟨_, fun _ _ => .s _ rfl, (ints_any v v' a b w (sees_of_rep (f := iv) h1) (sees_of_rep (f := iv) h2)).mono fun _ _ ⟨h, n, e⟩ => ⟨h, by subst e; exact ⟨rfl, rfl, rfl, Nat.le_refl _, fun _ _ => rfl⟩⟩⟩
theorem refVers_len (t : Tm) : decide (0 < (Sch.refVers t).length) = decide (0 < Sch.last t) := by
 unfold Sch.refVers
 by_cases h : 0 < Sch.last t
 · rw [if_pos h]
   have := (Sch.last_len h).1
   rw [decide_eq_true h]
   exact decide_eq_true (by omega)
 · rw [if_neg h, decide_eq_false h]; rfl
theorem ref10RightF (t : Tm) (ht : TQ t) (st : St) : TrF Tryz.prog 51 [.agg t.cells] st fun d st' => d = .b (decide (0 < Sch.last t)) ∧ st' = st := by
 have hV := refVersF t ht
 rw [← refVers_len]
 have hm : ((Sch.refVers t).map Vr.cells).length = (Sch.refVers t).length := List.length_map ..
 have h9 : (Sch.refVers t).length ≤ 9 := by
  unfold Sch.refVers
  split
  · exact (Sch.vers_len t).2
  · exact Nat.zero_le _
 generalize (Sch.refVers t).map Vr.cells = VS at *
 generalize (Sch.refVers t).length = n at *
 unfold Tm.cells at *
 generalize t.slots.map Sl.cells = SL at *
 generalize t.steps.map Stp.cells = TL at *
 generalize t.name = nm at *
 replace hV := Lib.hid hV
 rw [show decide (0 < n) = decide (0 < (n : Int)) by simp]
 refine Qin [2] Tryz.func51 Tryz.results51 Tryz.ntmps51 ?_
 exact WR
namespace Reg
theorem right_not_last {L : List Tm} {t : Tm} (h : t ∈ L) (k : ¬ 0 < Sch.last t) : right L = false := by
 cases hr : right L with
 | false => rfl
 | true => exact absurd ((right_iff.1 hr).2.1 t h) k
theorem right_not_name {L : List Tm} {i j : Nat} {t u : Tm} (h : L[i]? = some t) (k : L[j]? = some u) (hij : j < i) (he : (t.name.toList == u.name.toList) = true) : right L = false := by
 cases hr : right L with
 | false => rfl
 | true => have := (right_iff.1 hr).2.2 i j t u h k (beq_iff_eq.1 he); omega
def RightTo (L : List Tm) (i : Nat) : Prop := ∀ (j : Nat) (t : Tm), j < i → L[j]? = some t → 0 < Sch.last t ∧ ∀ (k : Nat) (u : Tm), k < j → L[k]? = some u → (t.name.toList == u.name.toList) = false
theorem right_all {L : List Tm} (h : RightTo L L.length) : right L = decide ((L.length : Int) ≤ 6) := by
 by_cases h6 : (L.length : Int) ≤ 6
 · rw [decide_eq_true h6]
   refine right_iff.2 ⟨by omega, fun t ht => ?_, fun i j t u hi hj he => ?_⟩
   · obtain ⟨i, hi⟩ := List.getElem?_of_mem ht
     exact (h i t (List.getElem?_eq_some_iff.1 hi).1 hi).1
   · rcases Nat.lt_trichotomy i j with hl | he2 | hl
     · have := (h j u (List.getElem?_eq_some_iff.1 hj).1 hj).2 i t hl hi
       rw [he, beq_self_eq_true] at this
       cases this
     · exact he2
     · have := (h i t (List.getElem?_eq_some_iff.1 hi).1 hi).2 j u hl hj
       rw [he, beq_self_eq_true] at this
       cases this
 · rw [decide_eq_false h6]
   cases hr : right L with
   | false => rfl
   | true => have := (right_iff.1 hr).1; omega
end Reg
theorem ref13RightF (L : List Tm) (hQ : ∀ t ∈ L, TQ t) (hl : L.length ≤ 1000000) (st : St) : TrF Tryz.prog 17 [.sl .shared (L.map Tm.cells)] st fun d st' => d = .b (Reg.right L) ∧ st' = st := by
 have hm : (L.map Tm.cells).length = L.length := List.length_map ..
 have hc := hMp Tm.cells L
 have hR := Lib.hid fun (t : Tm) (ht : t ∈ L) => ref10RightF t (hQ t ht)
 obtain ⟨F, hF⟩ : ∃ F, Reg.right L = F := ⟨_, rfl⟩
 have n1 : Hid (∀ t ∈ L, ¬ 0 < Sch.last t → F = false) := fun t ht hk => by rw [← hF]; exact Reg.right_not_last ht hk
 have n2 : Hid (∀ (i j : Nat) (t u : Tm), L[i]? = some t → L[j]? = some u → j < i → (t.name.toList == u.name.toList) = true → F = false) := fun i j t u h1 h2 h3 h4 => by rw [← hF]; exact Reg.right_not_name h1 h2 h3 h4
 have n3 : Hid (Reg.RightTo L L.length → F = decide ((L.length : Int) ≤ 6)) := fun h => by rw [← hF]; exact Reg.right_all h
 rw [hF]
 clear hF hQ
 generalize L.map Tm.cells = LS at *
 refine Qin [2] Tryz.func17 Tryz.results17 Tryz.ntmps17 ?_
 repeat' (with_reducible first | refine Q1 ?_ | refine Qe ?_ | refine QQ ?_ | (refine al_go ?_; intro b) | (refine QD ?_ <;> (try constructor) <;> intro hb <;> try intro hb1) | fail)
 refine tr_loopd (ι := Nat) (fun i A st' => i ≤ L.length ∧ Hid (Reg.RightTo L i) ∧ A.df = [] ∧ A.e 0 = .sl .shared LS ∧ A.e 3 = .i i ∧ st = st') (fun i => L.length - i) 0 ⟨Nat.zero_le _, Lib.hid fun j t hj => by omega, Qf, Qf, Qf, rfl⟩ ?_
 rintro i A st' ⟨hi, HT, hdf, e0, e3, rfl⟩
 by_cases hlt : i < L.length
 · obtain ⟨t, ht⟩ := gEx hlt
   have h1 := hc.out i t ht
   have hRt := hR.out t (List.mem_of_getElem? ht)
   have hn := n1.out t (List.mem_of_getElem? ht)
   have hnn := n2.out i
   have hgo : Hid (0 < Sch.last t → (∀ (k : Nat) (u : Tm), k < i → L[k]? = some u → (t.name.toList == u.name.toList) = false) → Reg.RightTo L (i + 1)) := fun a b j v hj hv => by
    rcases Nat.lt_or_ge j i with hl | hl
    · exact HT.out j v hl hv
    · obtain rfl : j = i := by omega
      rw [ht] at hv
      cases hv
      exact ⟨a, b⟩
   have hnt : Hid (∀ (j : Nat) (u : Tm), L[j]? = some u → j < i → (t.name.toList == u.name.toList) = true → F = false) := fun j u h2 h3 h4 => hnn j t u ht h2 h3 h4
   clear HT hnn n1 n2 hR ht
   generalize Sch.last t = la at *
   unfold Tm.cells at h1 hRt
   generalize t.slots.map Sl.cells = SL at *
   generalize t.steps.map Stp.cells = TL at *
   generalize t.name = nm at *
   by_cases hla : 0 < la
   · rw [decide_eq_true hla] at hRt
     replace hRt := Lib.hid hRt
     clear hn
     repeat' (with_reducible first | refine Q1 ?_ | refine Qe ?_ | refine QQ ?_ | (refine al_go ?_; intro b) | (refine QD ?_ <;> (try constructor) <;> intro hb <;> try intro hb1) | fail)
     clear hRt
     refine tr_loopd (ι := Nat) (fun k A st' => k ≤ i ∧ Hid (∀ (m : Nat) (u : Tm), m < k → L[m]? = some u → (nm.toList == u.name.toList) = false) ∧ A.df = [] ∧ A.e 0 = .sl .shared LS ∧ A.e 3 = .i i ∧ A.e 4 = .i k ∧ st = st') (fun k => i - k) 0 ⟨Nat.zero_le _, Lib.hid fun m u hm => by omega, Qf, Qf, Qf, Qf, rfl⟩ ?_
     clear e0 e3 hdf A
     rintro k A st' ⟨hk, HK, hdf, e0, e3, e4, rfl⟩
     by_cases hkl : k < i
     · obtain ⟨u, hu⟩ := gEx (l := L) (i := k) (by omega)
       have h2 := hc.out k u hu
       have hFu := hnt.out k u hu hkl
       have hHu : Hid ((nm.toList == u.name.toList) = false → ∀ (m : Nat) (v : Tm), m < k + 1 → L[m]? = some v → (nm.toList == v.name.toList) = false) := fun a m v hm hv => by
        rcases Nat.lt_or_ge m k with hl | hl
        · exact HK.out m v hl hv
        · obtain rfl : m = k := by omega
          rw [hu] at hv
          cases hv
          exact a
       clear HK hnt hu
       unfold Tm.cells at h2
       generalize u.slots.map Sl.cells = SL2 at *
       generalize u.steps.map Stp.cells = TL2 at *
       generalize u.name = nm2 at *
       cases hq : (nm.toList == nm2.toList) with
       | true =>
        have := hFu hq
        subst this
        clear hFu hHu hgo
        exact WR
       | false =>
        have hH := Lib.hid (hHu.out hq)
        clear hFu hHu
        repeat' (with_reducible first | refine Q1 ?_ | refine Qe ?_ | refine QQ ?_ | (refine al_go ?_; intro b) | (refine QD ?_ <;> (try constructor) <;> intro hb <;> try intro hb1) | fail)
        refine ⟨k + 1, st, (by (repeat (first | exact List.Sublist.refl _ | apply List.Sublist.cons))), ⟨hkl, hH, ?_, ?_, ?_, ?_, rfl⟩, by omega⟩
        all_goals exact Qf
     · obtain rfl : k = i := by omega
       have hH := Lib.hid (hgo.out hla HK.out)
       clear hgo HK hnt
       repeat' (with_reducible first | refine Q1 ?_ | refine Qe ?_ | refine QQ ?_ | (refine al_go ?_; intro b) | (refine QD ?_ <;> (try constructor) <;> intro hb <;> try intro hb1) | fail)
       refine ⟨k + 1, st, (by (repeat (first | exact List.Sublist.refl _ | apply List.Sublist.cons))), ⟨hlt, hH, ?_, ?_, ?_, rfl⟩, by omega⟩
       all_goals exact Qf
   · rw [decide_eq_false hla] at hRt
     have := hn hla
     subst this
     clear hn hgo hnt
     replace hRt := Lib.hid hRt
     exact WR
 · obtain rfl : i = L.length := by omega
   have := n3.out HT.out
   subst this
   clear n1 n2 n3 HT hR
   exact WR
theorem sameSlotsF (a b : List Sl) (hok : ∀ s ∈ a, s.dv.Ok) (hl : a.length ≤ 1000000) (hlb : b.length ≤ 1000000) (st : St) : TrF Tryz.prog 41 [.sl .shared (a.map Sl.cells), .sl .shared (b.map Sl.cells)] st fun d st' => d = .b (Reg.all2 Reg.slotS a b) ∧ st' = st := by
 obtain ⟨B, hB⟩ : ∃ B, Reg.all2 Reg.slotS a b = B := ⟨_, rfl⟩
 rw [hB]
 have hm1 : (a.map Sl.cells).length = a.length := List.length_map ..
 have hm2 : (b.map Sl.cells).length = b.length := List.length_map ..
 have hc1 := hMp Sl.cells a
 have hc2 := hMp Sl.cells b
 have hok2 := Lib.hid hok
 clear hok
 generalize a.map Sl.cells = AS at *
 generalize b.map Sl.cells = BS at *
 by_cases hlen : a.length = b.length
 · have HB : Hid (Reg.all2 Reg.slotS (a.drop 0) (b.drop 0) = B) := hB
   clear hB
   refine Qin [4] Tryz.func41 Tryz.results41 Tryz.ntmps41 ?_
   repeat' (with_reducible first | refine Q1 ?_ | refine Qe ?_ | refine QQ ?_ | (refine al_go ?_; intro b) | (refine QD ?_ <;> (try constructor) <;> intro hb <;> try intro hb1) | fail)
   refine tr_loopd (ι := Nat) (fun i A st' => i ≤ a.length ∧ Hid (Reg.all2 Reg.slotS (a.drop i) (b.drop i) = B) ∧ A.df = [] ∧ A.e 0 = .sl .shared AS ∧ A.e 1 = .sl .shared BS ∧ A.e 5 = .i i ∧ st = st') (fun i => a.length - i) 0 ⟨Nat.zero_le _, HB, Qf, Qf, Qf, Qf, rfl⟩ ?_
   rintro i A st' ⟨hi, HT, hdf, e0, e1, e5, rfl⟩
   clear HB
   by_cases hlt : i < a.length
   · obtain ⟨s, hs⟩ := gEx hlt
     obtain ⟨v, hv⟩ := gEx (l := b) (i := i) (by omega)
     have HE := HT.out
     rw [Reg.all2_drop hs hv] at HE
     have h1 := hc1.out i s hs
     have h2 := hc2.out i v hv
     have hF := refSameF s.dv v.dv (hok2.out s (List.mem_of_getElem? hs))
     clear HT hs hv
     obtain ⟨G, hGG⟩ : ∃ G, Reg.all2 Reg.slotS (a.drop (i + 1)) (b.drop (i + 1)) = G := ⟨_, rfl⟩
     rw [hGG] at HE
     replace hGG := Lib.hid hGG
     cases s with
     | mk an at_ ar av =>
     cases v with
     | mk bn bt br bv =>
     unfold Reg.slotS at HE
     dsimp only at HE hF
     generalize (av.cmp bv == 0) = q4 at *
     generalize hq1 : (an.toList == bn.toList) = q1 at *
     have hq1n : (an.toList != bn.toList) = !q1 := by rw [← hq1]; rfl
     cases av with
     | mk k n s l =>
     cases bv with
     | mk k' n' s' l' =>
     rw [Sl.cells_mk] at h1 h2
     rw [V.cells_mk] at hF
     rw [V.cells_mk] at hF
     replace hF := Lib.hid hF
     cases q1 with
     | false =>
      rw [Bool.false_and, Bool.false_and] at HE
      subst HE
      clear hGG
      repeat' (first | (with_reducible first | refine Q1 ?_ | refine Qe ?_ | fail) | ((with_reducible refine w_drawRN ?_ ?_ ?_ ?_); (iterate 3 (focus kernel_rfl)); intro hne; simp only [nes, ne1, and_assoc] at hne; repeat (have hq := hne.1; replace hne := hne.2)) | (with_reducible first | refine QQ ?_ | (refine al_go ?_; intro b) | (refine QD ?_ <;> (try constructor) <;> intro hb <;> try intro hb1) | fail) | fail)
      all_goals exact Qret
     | true =>
      by_cases ht : at_ = bt
      · subst ht
        have ht2 : (at_ != at_) = false := by simp
        rw [beq_self_eq_true, Bool.true_and, Bool.true_and] at HE
        by_cases hr : ar = br
        · subst hr
          have hr2 : (ar != ar) = false := by simp
          rw [beq_self_eq_true, Bool.true_and] at HE
          cases q4 with
          | true =>
           rw [Bool.true_and] at HE
           replace HE := Lib.hid (hGG.out.trans HE)
           clear hGG
           repeat' (first | (with_reducible first | refine Q1 ?_ | refine Qe ?_ | fail) | ((with_reducible refine w_drawRN ?_ ?_ ?_ ?_); (iterate 3 (focus kernel_rfl)); intro hne; simp only [nes, ne1, and_assoc] at hne; repeat (have hq := hne.1; replace hne := hne.2)) | (with_reducible first | refine QQ ?_ | (refine al_go ?_; intro b) | (refine QD ?_ <;> (try constructor) <;> intro hb <;> try intro hb1) | fail) | fail)
           refine ⟨i + 1, st, (by (repeat (first | exact List.Sublist.refl _ | apply List.Sublist.cons))), ⟨hlt, HE, ?_, ?_, ?_, ?_, rfl⟩, by omega⟩
           all_goals exact Qf
          | false =>
           rw [Bool.false_and] at HE
           subst HE
           clear hGG
           repeat' (first | (with_reducible first | refine Q1 ?_ | refine Qe ?_ | fail) | ((with_reducible refine w_drawRN ?_ ?_ ?_ ?_); (iterate 3 (focus kernel_rfl)); intro hne; simp only [nes, ne1, and_assoc] at hne; repeat (have hq := hne.1; replace hne := hne.2)) | (with_reducible first | refine QQ ?_ | (refine al_go ?_; intro b) | (refine QD ?_ <;> (try constructor) <;> intro hb <;> try intro hb1) | fail) | fail)
           all_goals exact Qret
        · have hr2 : (ar != br) = true := by rw [bne_iff_ne]; exact hr
          rw [beq_eq_false_iff_ne.2 hr, Bool.false_and, Bool.false_and] at HE
          subst HE
          clear hGG
          repeat' (first | (with_reducible first | refine Q1 ?_ | refine Qe ?_ | fail) | ((with_reducible refine w_drawRN ?_ ?_ ?_ ?_); (iterate 3 (focus kernel_rfl)); intro hne; simp only [nes, ne1, and_assoc] at hne; repeat (have hq := hne.1; replace hne := hne.2)) | (with_reducible first | refine QQ ?_ | (refine al_go ?_; intro b) | (refine QD ?_ <;> (try constructor) <;> intro hb <;> try intro hb1) | fail) | fail)
          all_goals exact Qret
      · have ht2 : (at_ != bt) = true := by rw [bne_iff_ne]; exact ht
        rw [beq_eq_false_iff_ne.2 ht, Bool.false_and, Bool.true_and, Bool.false_and] at HE
        subst HE
        clear hGG
        repeat' (first | (with_reducible first | refine Q1 ?_ | refine Qe ?_ | fail) | ((with_reducible refine w_drawRN ?_ ?_ ?_ ?_); (iterate 3 (focus kernel_rfl)); intro hne; simp only [nes, ne1, and_assoc] at hne; repeat (have hq := hne.1; replace hne := hne.2)) | (with_reducible first | refine QQ ?_ | (refine al_go ?_; intro b) | (refine QD ?_ <;> (try constructor) <;> intro hb <;> try intro hb1) | fail) | fail)
        all_goals exact Qret
   · have HE := HT.out
     rw [List.drop_of_length_le (by omega), List.drop_of_length_le (by omega), Reg.all2] at HE
     subst HE
     clear HT
     exact WR
 · have hBf : B = false := by
    cases B with
    | false => rfl
    | true => exact absurd (Reg.all2_len _ _ hB) hlen
   subst hBf
   clear hB
   have hl2 : ¬ (a.length : Int) = (b.length : Int) := by omega
   clear hlen
   refine Qin [4] Tryz.func41 Tryz.results41 Tryz.ntmps41 ?_
   exact WR
structure Reg.TmR (t : Tm) : Prop where
 ls : t.slots.length ≤ 1000000
 lt : t.steps.length ≤ 1000000
 os : ∀ s ∈ t.slots, s.dv.Ok
 ot : ∀ s ∈ t.steps, s.slot.dv.Ok
theorem ref13SameF (a b : List Tm) (ha : ∀ t ∈ a, Reg.TmR t) (hb : ∀ t ∈ b, Reg.TmR t) (hl : a.length ≤ 1000000) (hlb : b.length ≤ 1000000) (st : St) : TrF Tryz.prog 24 [.sl .shared (a.map Tm.cells), .sl .shared (b.map Tm.cells)] st fun d st' => d = .b (Reg.same a b) ∧ st' = st := by
 unfold Reg.same
 obtain ⟨B, hB⟩ : ∃ B, Reg.all2 Reg.tmS a b = B := ⟨_, rfl⟩
 rw [hB]
 have hm1 : (a.map Tm.cells).length = a.length := List.length_map ..
 have hm2 : (b.map Tm.cells).length = b.length := List.length_map ..
 have hc1 := hMp Tm.cells a
 have hc2 := hMp Tm.cells b
 have ha2 := Lib.hid ha
 have hb2 := Lib.hid hb
 clear ha hb
 generalize a.map Tm.cells = AS at *
 generalize b.map Tm.cells = BS at *
 by_cases hlen : a.length = b.length
 · have HB : Hid (Reg.all2 Reg.tmS (a.drop 0) (b.drop 0) = B) := hB
   clear hB
   refine Qin [4] Tryz.func24 Tryz.results24 Tryz.ntmps24 ?_
   repeat' (with_reducible first | refine Q1 ?_ | refine Qe ?_ | refine QQ ?_ | (refine al_go ?_; intro b) | (refine QD ?_ <;> (try constructor) <;> intro hb <;> try intro hb1) | fail)
   refine tr_loopd (ι := Nat) (fun i A st' => i ≤ a.length ∧ Hid (Reg.all2 Reg.tmS (a.drop i) (b.drop i) = B) ∧ A.df = [] ∧ A.e 0 = .sl .shared AS ∧ A.e 1 = .sl .shared BS ∧ A.e 5 = .i i ∧ st = st') (fun i => a.length - i) 0 ⟨Nat.zero_le _, HB, Qf, Qf, Qf, Qf, rfl⟩ ?_
   rintro i A st' ⟨hi, HT, hdf, e0, e1, e5, rfl⟩
   clear HB
   by_cases hlt : i < a.length
   · obtain ⟨t, ht⟩ := gEx hlt
     obtain ⟨u, hu⟩ := gEx (l := b) (i := i) (by omega)
     have HE := HT.out
     rw [Reg.all2_drop ht hu] at HE
     have h1 := hc1.out i t ht
     have h2 := hc2.out i u hu
     obtain ⟨tl1, tl2, tl3, tl4⟩ := ha2.out t (List.mem_of_getElem? ht)
     obtain ⟨ul1, ul2, ul3, ul4⟩ := hb2.out u (List.mem_of_getElem? hu)
     have hF := sameSlotsF t.slots u.slots tl3 tl1 ul1
     clear HT ht hu ha2 hb2 hc1 hc2
     obtain ⟨G, hGG⟩ : ∃ G, Reg.all2 Reg.tmS (a.drop (i + 1)) (b.drop (i + 1)) = G := ⟨_, rfl⟩
     rw [hGG] at HE
     replace hGG := Lib.hid hGG
     unfold Reg.tmS at HE
     unfold Tm.cells at h1 h2
     cases t with
     | mk n1 ss1 ts1 =>
     cases u with
     | mk n2 ss2 ts2 =>
     dsimp only at *
     generalize Reg.all2 Reg.slotS ss1 ss2 = q2 at *
     generalize ss1.map Sl.cells = S1 at *
     generalize ss2.map Sl.cells = S2 at *
     have hk1 : (ts1.map Stp.cells).length = ts1.length := List.length_map ..
     have hk2 : (ts2.map Stp.cells).length = ts2.length := List.length_map ..
     have hd1 := hMp Stp.cells ts1
     have hd2 := hMp Stp.cells ts2
     generalize ts1.map Stp.cells = T1 at *
     generalize ts2.map Stp.cells = T2 at *
     generalize hq1 : (n1.toList == n2.toList) = q1 at *
     have hq1n : (n1.toList != n2.toList) = !q1 := by rw [← hq1]; rfl
     replace hF := Lib.hid hF
     replace tl4 := Lib.hid tl4
     clear ul3 ul4 tl3 tl1 ul1
     cases q1 with
     | false =>
      rw [Bool.false_and, Bool.false_and] at HE
      subst HE
      clear hGG hd1 hd2
      repeat' (first | (with_reducible first | refine Q1 ?_ | refine Qe ?_ | fail) | ((with_reducible refine w_drawRN ?_ ?_ ?_ ?_); (iterate 3 (focus kernel_rfl)); intro hne; simp only [nes, ne1, and_assoc] at hne; repeat (have hq := hne.1; replace hne := hne.2)) | (with_reducible first | refine QQ ?_ | (refine al_go ?_; intro b) | (refine QD ?_ <;> (try constructor) <;> intro hb <;> try intro hb1) | fail) | fail)
      all_goals exact Qret
     | true =>
      rw [Bool.true_and] at HE
      cases q2 with
      | false =>
       rw [Bool.false_and, Bool.false_and] at HE
       subst HE
       clear hGG hd1 hd2
       repeat' (first | (with_reducible first | refine Q1 ?_ | refine Qe ?_ | fail) | ((with_reducible refine w_drawRN ?_ ?_ ?_ ?_); (iterate 3 (focus kernel_rfl)); intro hne; simp only [nes, ne1, and_assoc] at hne; repeat (have hq := hne.1; replace hne := hne.2)) | (with_reducible first | refine QQ ?_ | (refine al_go ?_; intro b) | (refine QD ?_ <;> (try constructor) <;> intro hb <;> try intro hb1) | fail) | fail)
       all_goals exact Qret
      | true =>
       rw [Bool.true_and] at HE
       obtain ⟨Q, hQ⟩ : ∃ Q, Reg.all2 Reg.stepS ts1 ts2 = Q := ⟨_, rfl⟩
       rw [hQ] at HE
       by_cases hts : ts1.length = ts2.length
       · have HQ : Hid (Reg.all2 Reg.stepS (ts1.drop 0) (ts2.drop 0) = Q) := hQ
         clear hQ
         replace HE := Lib.hid HE
         repeat' (first | (with_reducible first | refine Q1 ?_ | refine Qe ?_ | fail) | ((with_reducible refine w_drawRN ?_ ?_ ?_ ?_); (iterate 3 (focus kernel_rfl)); intro hne; simp only [nes, ne1, and_assoc] at hne; repeat (have hq := hne.1; replace hne := hne.2)) | (with_reducible first | refine QQ ?_ | (refine al_go ?_; intro b) | (refine QD ?_ <;> (try constructor) <;> intro hb <;> try intro hb1) | fail) | fail)
         clear hF
         refine tr_loopd (ι := Nat) (fun k A st' => k ≤ ts1.length ∧ Hid (Reg.all2 Reg.stepS (ts1.drop k) (ts2.drop k) = Q) ∧ A.df = [] ∧ A.e 0 = .sl .shared AS ∧ A.e 1 = .sl .shared BS ∧ A.e 5 = .i i ∧ A.e 6 = .i k ∧ st = st') (fun k => ts1.length - k) 0 ⟨Nat.zero_le _, HQ, Qf, Qf, Qf, Qf, Qf, rfl⟩ ?_
         clear e0 e1 e5 hdf A HQ
         rintro k A st' ⟨hk, HQ, hdf, e0, e1, e5, e6, rfl⟩
         by_cases hkl : k < ts1.length
         · obtain ⟨x, hx⟩ := gEx hkl
           obtain ⟨y, hy⟩ := gEx (l := ts2) (i := k) (by omega)
           have HS := HQ.out
           rw [Reg.all2_drop hx hy] at HS
           have g1 := hd1.out k x hx
           have g2 := hd2.out k y hy
           have hSS := sameSlotsF [x.slot] [y.slot] (fun s hs => by rw [List.mem_singleton.1 hs]; exact tl4.out x (List.mem_of_getElem? hx)) (by show 1 ≤ _; omega) (by show 1 ≤ _; omega)
           rw [show Reg.all2 Reg.slotS [x.slot] [y.slot] = Reg.slotS x.slot y.slot by rw [Reg.all2, Reg.all2, Bool.and_true]] at hSS
           have hI := refIntsL .shared .shared x.order y.order
           rw [show decide (x.order = y.order) = Reg.all2 (· == ·) x.order y.order by
            cases hq : Reg.all2 (· == ·) x.order y.order with
            | true => exact decide_eq_true ((Reg.all2_iff (fun a b => beq_iff_eq) _ _).1 hq)
            | false => exact decide_eq_false fun h => by rw [(Reg.all2_iff (fun a b => beq_iff_eq) _ _).2 h] at hq; cases hq] at hI
           clear HQ hx hy hd1 hd2 tl4
           obtain ⟨H, hHH⟩ : ∃ H, Reg.all2 Reg.stepS (ts1.drop (k + 1)) (ts2.drop (k + 1)) = H := ⟨_, rfl⟩
           rw [hHH] at HS
           replace hHH := Lib.hid hHH
           unfold Reg.stepS at HS
           cases x with
           | mk ak ac as_ ao =>
           cases y with
           | mk bk bc bs bo =>
           dsimp only at *
           generalize Reg.slotS as_ bs = q3 at *
           generalize Reg.all2 (· == ·) ao bo = q4 at *
           cases as_ with
           | mk an at_ ar av =>
           cases bs with
           | mk bn bt br bv =>
           cases av with
           | mk k1 n s l =>
           cases bv with
           | mk k' n' s' l' =>
           unfold Stp.cells at g1 g2
           rw [List.map_cons, List.map_nil, List.map_cons, List.map_nil] at hSS
           dsimp only at g1 g2
           rw [Sl.cells_mk] at g1 hSS
           rw [Sl.cells_mk] at g2 hSS
           dsimp only [List.cons_append, List.nil_append] at g1 g2
           generalize ao.map encI = AO at *
           generalize bo.map encI = BO at *
           replace hSS := Lib.hid hSS
           replace hI := Lib.hid hI
           by_cases h1k : ak = bk ∧ ac = bc ∧ q3 = true ∧ q4 = true
           · obtain ⟨rfl, rfl, rfl, rfl⟩ := h1k
             rw [beq_self_eq_true, beq_self_eq_true, Bool.true_and, Bool.true_and, Bool.true_and, Bool.true_and] at HS
             replace HS := Lib.hid (hHH.out.trans HS)
             clear hHH
             have z1 : (ak != ak) = false := by simp
             have z2 : (ac != ac) = false := by simp
             repeat' (first | (with_reducible first | refine Q1 ?_ | refine Qe ?_ | fail) | ((with_reducible apply (w_drawT (.node [0, 1, 2, 3, 4, 5, 6, 7, 8, 9, 10, 11, 12, 13, 14, 15] 16 17 (.leaf [17, 16, 18, 19]) (.leaf [16, 17, 18, 19])) 70)); rfl; (iterate 3 kernel_rfl); (focus (simp only [Plan.lists, pickL, List.getElem?_cons_zero, List.getElem?_cons_succ]; exact rfl)); intro hne; (try simp only [nes, ne1, and_assoc] at hne); (repeat (have hq := hne.1; replace hne := hne.2)); simp only [wPL]) | with_reducible refine both_go ?_ ?_ | (with_reducible first | refine QQ ?_ | (refine al_go ?_; intro b) | (refine QD ?_ <;> (try constructor) <;> intro hb <;> try intro hb1) | fail) | refine QL Tryz.call41 (hSS.out _) ?_ | fail)
             all_goals (refine ⟨k + 1, st, (by (repeat (first | exact List.Sublist.refl _ | apply List.Sublist.cons))), ⟨hkl, HS, ?_, ?_, ?_, ?_, ?_, rfl⟩, by omega⟩; all_goals exact Qf)
           · by_cases z1 : ak = bk
             · subst z1
               have z1 : (ak != ak) = false := by simp
               by_cases z2 : ac = bc
               · subst z2
                 have z2 : (ac != ac) = false := by simp
                 rw [beq_self_eq_true, beq_self_eq_true, Bool.true_and, Bool.true_and] at HS
                 cases q3 with
                 | false =>
                  rw [Bool.false_and, Bool.false_and] at HS
                  subst HS
                  rw [Bool.false_and] at HE
                  have HF := HE.out
                  subst HF
                  clear hHH hGG HE
                  repeat' (first | (with_reducible first | refine Q1 ?_ | refine Qe ?_ | fail) | ((with_reducible apply (w_drawT (.node [0, 1, 2, 3, 4, 5, 6, 7, 8, 9, 10, 11, 12, 13, 14, 15] 16 17 (.leaf [17, 16, 18, 19]) (.leaf [16, 17, 18, 19])) 70)); rfl; (iterate 3 kernel_rfl); (focus (simp only [Plan.lists, pickL, List.getElem?_cons_zero, List.getElem?_cons_succ]; exact rfl)); intro hne; (try simp only [nes, ne1, and_assoc] at hne); (repeat (have hq := hne.1; replace hne := hne.2)); simp only [wPL]) | with_reducible refine both_go ?_ ?_ | (with_reducible first | refine QQ ?_ | (refine al_go ?_; intro b) | (refine QD ?_ <;> (try constructor) <;> intro hb <;> try intro hb1) | fail) | refine QL Tryz.call41 (hSS.out _) ?_ | fail)
                  all_goals exact Qret
                 | true =>
                  cases q4 with
                  | true => exact absurd ⟨rfl, rfl, rfl, rfl⟩ h1k
                  | false =>
                   rw [Bool.true_and, Bool.false_and] at HS
                   subst HS
                   rw [Bool.false_and] at HE
                   have HF := HE.out
                   subst HF
                   clear hHH hGG HE
                   repeat' (first | (with_reducible first | refine Q1 ?_ | refine Qe ?_ | fail) | ((with_reducible apply (w_drawT (.node [0, 1, 2, 3, 4, 5, 6, 7, 8, 9, 10, 11, 12, 13, 14, 15] 16 17 (.leaf [17, 16, 18, 19]) (.leaf [16, 17, 18, 19])) 70)); rfl; (iterate 3 kernel_rfl); (focus (simp only [Plan.lists, pickL, List.getElem?_cons_zero, List.getElem?_cons_succ]; exact rfl)); intro hne; (try simp only [nes, ne1, and_assoc] at hne); (repeat (have hq := hne.1; replace hne := hne.2)); simp only [wPL]) | with_reducible refine both_go ?_ ?_ | (with_reducible first | refine QQ ?_ | (refine al_go ?_; intro b) | (refine QD ?_ <;> (try constructor) <;> intro hb <;> try intro hb1) | fail) | refine QL Tryz.call41 (hSS.out _) ?_ | fail)
                   all_goals exact Qret
               · have z3 : (ac != bc) = true := by rw [bne_iff_ne]; exact z2
                 rw [beq_eq_false_iff_ne.2 z2, Bool.false_and, Bool.and_false, Bool.false_and] at HS
                 subst HS
                 rw [Bool.false_and] at HE
                 have HF := HE.out
                 subst HF
                 clear hHH hGG HE
                 repeat' (first | (with_reducible first | refine Q1 ?_ | refine Qe ?_ | fail) | ((with_reducible apply (w_drawT (.node [0, 1, 2, 3, 4, 5, 6, 7, 8, 9, 10, 11, 12, 13, 14, 15] 16 17 (.leaf [17, 16, 18, 19]) (.leaf [16, 17, 18, 19])) 70)); rfl; (iterate 3 kernel_rfl); (focus (simp only [Plan.lists, pickL, List.getElem?_cons_zero, List.getElem?_cons_succ]; exact rfl)); intro hne; (try simp only [nes, ne1, and_assoc] at hne); (repeat (have hq := hne.1; replace hne := hne.2)); simp only [wPL]) | with_reducible refine both_go ?_ ?_ | (with_reducible first | refine QQ ?_ | (refine al_go ?_; intro b) | (refine QD ?_ <;> (try constructor) <;> intro hb <;> try intro hb1) | fail) | refine QL Tryz.call41 (hSS.out _) ?_ | fail)
                 all_goals exact Qret
             · have z3 : (ak != bk) = true := by rw [bne_iff_ne]; exact z1
               rw [beq_eq_false_iff_ne.2 z1, Bool.false_and, Bool.false_and] at HS
               subst HS
               rw [Bool.false_and] at HE
               have HF := HE.out
               subst HF
               clear hHH hGG HE
               repeat' (first | (with_reducible first | refine Q1 ?_ | refine Qe ?_ | fail) | ((with_reducible apply (w_drawT (.node [0, 1, 2, 3, 4, 5, 6, 7, 8, 9, 10, 11, 12, 13, 14, 15] 16 17 (.leaf [17, 16, 18, 19]) (.leaf [16, 17, 18, 19])) 70)); rfl; (iterate 3 kernel_rfl); (focus (simp only [Plan.lists, pickL, List.getElem?_cons_zero, List.getElem?_cons_succ]; exact rfl)); intro hne; (try simp only [nes, ne1, and_assoc] at hne); (repeat (have hq := hne.1; replace hne := hne.2)); simp only [wPL]) | with_reducible refine both_go ?_ ?_ | (with_reducible first | refine QQ ?_ | (refine al_go ?_; intro b) | (refine QD ?_ <;> (try constructor) <;> intro hb <;> try intro hb1) | fail) | refine QL Tryz.call41 (hSS.out _) ?_ | fail)
               all_goals exact Qret
         · have HS := HQ.out
           rw [List.drop_of_length_le (by omega), List.drop_of_length_le (by omega), Reg.all2] at HS
           subst HS
           have HF := HE.out
           rw [Bool.true_and] at HF
           replace HF := Lib.hid (hGG.out.trans HF)
           clear HQ HE hGG
           repeat' (with_reducible first | refine Q1 ?_ | refine Qe ?_ | refine QQ ?_ | (refine al_go ?_; intro b) | (refine QD ?_ <;> (try constructor) <;> intro hb <;> try intro hb1) | fail)
           refine ⟨i + 1, st, (by (repeat (first | exact List.Sublist.refl _ | apply List.Sublist.cons))), ⟨hlt, HF, ?_, ?_, ?_, ?_, rfl⟩, by omega⟩
           all_goals exact Qf
       · have hQf : Q = false := by
          cases Q with
          | false => rfl
          | true => exact absurd (Reg.all2_len _ _ hQ) hts
         subst hQf
         rw [Bool.false_and] at HE
         subst HE
         clear hGG hQ hd1 hd2
         have hts2 : ¬ (ts1.length : Int) = (ts2.length : Int) := by omega
         repeat' (first | (with_reducible first | refine Q1 ?_ | refine Qe ?_ | fail) | ((with_reducible refine w_drawRN ?_ ?_ ?_ ?_); (iterate 3 (focus kernel_rfl)); intro hne; simp only [nes, ne1, and_assoc] at hne; repeat (have hq := hne.1; replace hne := hne.2)) | (with_reducible first | refine QQ ?_ | (refine al_go ?_; intro b) | (refine QD ?_ <;> (try constructor) <;> intro hb <;> try intro hb1) | fail) | fail)
         all_goals exact Qret
   · have HE := HT.out
     rw [List.drop_of_length_le (by omega), List.drop_of_length_le (by omega), Reg.all2] at HE
     subst HE
     clear HT
     exact WR
 · have hBf : B = false := by
    cases B with
    | false => rfl
    | true => exact absurd (Reg.all2_len _ _ hB) hlen
   subst hBf
   clear hB
   have hl2 : ¬ (a.length : Int) = (b.length : Int) := by omega
   clear hlen
   refine Qin [4] Tryz.func24 Tryz.results24 Tryz.ntmps24 ?_
   exact WR
end Go.Proofs.YtgcienlfpnpbgaaGreat
end
section
namespace Go.Proofs.YtgcienlfpnpbgaaGreat
open Go.RowKit
theorem readsBs : Reads Tryz.prog 26 (fun l : List UInt8 => [D.sl .shared (l.map encB)]) fun l => (∀ x ∈ l, True) ∧ l.length ≤ maxLen :=
 reads_slice' (sz := 1) Tryz.underlying26 (by kernel_rfl) (by omega) (reads_u8 Tryz.underlying5) (fun _ => rfl) fun _ d hd => by
  rw [encB, List.mem_singleton] at hd; subst hd; rfl
end Go.Proofs.YtgcienlfpnpbgaaGreat
end
section
namespace Go.Proofs.YtgcienlfpnpbgaaGreat
set_option linter.unusedSimpArgs false
attribute [local push_cast] encB encI Nat.mul_one
open Go.RowKit B
set_option maxRecDepth 10000
set_option maxHeartbeats 4000000
structure TS where
 o : Own
 l : List UInt8
 a : Nat
 bad : Bool
namespace TS
def cells (t : TS) : List D := [.sl t.o (t.l.map encB), .i t.a, .b t.bad]
attribute [local push_cast] TS.cells
def fail (t : TS) : TS := ⟨t.o, t.l, t.a, true⟩
def go (t : TS) (n : Nat) : TS := ⟨t.o, t.l, t.a + n, t.bad⟩
def left (t : TS) : Nat := t.l.length - t.a
def rd (t : TS) (n : Nat) : Nat × Bool × TS := if t.bad = true ∨ t.left < n then (0, false, t.fail) else (num ((t.l.drop t.a).take n), true, t.go n)
end TS
attribute [local push_cast] TS.cells
abbrev rfR (b : Nat) (t : TS) : Res := .box b 42 t.cells
theorem num_take_lt (l : List UInt8) (i : Nat) (h : i ≤ 8) : num (l.take i) < 18446744073709551616 := by
 have h1 := num_lt (l.take i)
 rw [List.length_take] at h1
 exact Nat.lt_of_lt_of_le h1 (Nat.pow_le_pow_right (by omega) (show min i l.length ≤ 8 by omega))
theorem refNumberF (b : Nat) (t : TS) (ha : t.a ≤ t.l.length) (hl : t.l.length ≤ 4611686018427387904) (n : Nat) (hn : n ≤ 8) (st : St) : TrF Tryz.prog 147 [.ptr b 0, .i n] (rfR b t :: st) fun x st' => x = .tup [.s (.int .u64 ((t.rd n).1 : Nat)), .b (t.rd n).2.1] ∧ st' = rfR b (t.rd n).2.2 :: st := by
 obtain ⟨o, l, a, bad⟩ := t
 unfold TS.rd TS.left TS.fail TS.go
 dsimp only at *
 cases bad with
 | true =>
  rw [if_pos (.inl rfl)]
  refine Qin [4,5] Tryz.func147 Tryz.results147 Tryz.ntmps147 ?_
  repeat' (first | (with_reducible first | refine Q1 ?_ | refine Qe ?_ | fail) | ((with_reducible refine w_draw [(b, [.sl o (l.map encB), .i a, .b true])] ?_ ?_ ?_ ?_ ?_); (iterate 3 (focus kernel_rfl)); (focus exact keep_one (by repeat (first | exact mm_h | apply mm_t)))) | ((with_reducible refine And.intro ?_ ?_); (focus exact keep_one (by repeat (first | exact mm_h | apply mm_t)))) | (with_reducible first | refine QQ ?_ | (refine al_go ?_; intro b) | (refine QD ?_ <;> (try constructor) <;> intro hb <;> try intro hb1) | fail) | fail)
  all_goals exact Qret
 | false =>
  by_cases h : l.length - a < n
  · rw [if_pos (.inr h)]
    refine Qin [4,5] Tryz.func147 Tryz.results147 Tryz.ntmps147 ?_
    repeat' (first | (with_reducible first | refine Q1 ?_ | refine Qe ?_ | fail) | ((with_reducible refine w_draw [(b, [.sl o (l.map encB), .i a, .b false])] ?_ ?_ ?_ ?_ ?_); (iterate 3 (focus kernel_rfl)); (focus exact keep_one (by repeat (first | exact mm_h | apply mm_t)))) | ((with_reducible refine And.intro ?_ ?_); (focus exact keep_one (by repeat (first | exact mm_h | apply mm_t)))) | (with_reducible first | refine QQ ?_ | (refine al_go ?_; intro b) | (refine QD ?_ <;> (try constructor) <;> intro hb <;> try intro hb1) | fail) | fail)
    all_goals exact Qret
  · rw [if_neg (by simp; omega)]
    dsimp only
    refine Qin [4,5] Tryz.func147 Tryz.results147 Tryz.ntmps147 ?_
    repeat' (first | (with_reducible first | refine Q1 ?_ | refine Qe ?_ | fail) | ((with_reducible refine w_draw [(b, [.sl o (l.map encB), .i a, .b false])] ?_ ?_ ?_ ?_ ?_); (iterate 3 (focus kernel_rfl)); (focus exact keep_one (by repeat (first | exact mm_h | apply mm_t)))) | ((with_reducible refine And.intro ?_ ?_); (focus exact keep_one (by repeat (first | exact mm_h | apply mm_t)))) | (with_reducible first | refine QQ ?_ | (refine al_go ?_; intro b) | (refine QD ?_ <;> (try constructor) <;> intro hb <;> try intro hb1) | fail) | fail)
    refine tr_loopd (ι := Nat) (fun i A st' => i ≤ n ∧ A.df = [] ∧ A.e 0 = .ptr b 0 ∧ A.e 1 = .i n ∧ A.e 7 = .i i ∧ ∃ q : Nat, Hid (num ((l.drop a).take i) = q) ∧ A.e 6 = .s (.int .u64 (q : Int)) ∧ st' = rfR b ⟨o, l, a, false⟩ :: st) (fun i => n - i) 0 ⟨Nat.zero_le _, Qf, Qf, Qf, Qf, 0, rfl, Qf, rfl⟩ ?_
    rintro i A st' ⟨hi, hdf, e0, e1, e7, q0, hq, e6, rfl⟩
    have hqq := hq.out
    by_cases hlt : i < n
    · obtain ⟨x, hx⟩ : ∃ x, l[a + i]? = some x := ⟨_, List.getElem?_eq_getElem (by omega)⟩
      have hs : num ((l.drop a).take (i + 1)) = num ((l.drop a).take i) * 256 + x.toNat := by
       rw [List.take_add_one, List.getElem?_drop, hx]; exact num_snoc _ _
      have hn1 := num_take_lt (l.drop a) (i + 1) (by omega)
      have hx2 := x.toNat_lt
      rw [hqq] at hs
      rw [hs] at hn1
      replace hs := Lib.hid hs
      clear hqq hq
      have hxi : ((a : Int) + (i : Int)).toNat = a + i := by omega
      have hw1 : IntKind.u64.wrap ((q0 : Int) * 256) = (q0 : Int) * 256 := by
       simp [IntKind.wrap, IntKind.bits, IntKind.signed]; omega
      have hw2 : IntKind.u64.wrap (x.toNat : Int) = x.toNat := by
       simp [IntKind.wrap, IntKind.bits, IntKind.signed]; omega
      have hw3 : IntKind.u64.wrap ((q0 : Int) * 256 + x.toNat) = (q0 : Int) * 256 + x.toNat := by
       simp [IntKind.wrap, IntKind.bits, IntKind.signed]; omega
      repeat' (first | (with_reducible first | refine Q1 ?_ | refine Qe ?_ | fail) | ((with_reducible refine w_draw [(b, [.sl o (l.map encB), .i a, .b false])] ?_ ?_ ?_ ?_ ?_); (iterate 3 (focus kernel_rfl)); (focus exact keep_one (by repeat (first | exact mm_h | apply mm_t)))) | ((with_reducible refine And.intro ?_ ?_); (focus exact keep_one (by repeat (first | exact mm_h | apply mm_t)))) | (with_reducible first | refine QQ ?_ | (refine al_go ?_; intro b) | (refine QD ?_ <;> (try constructor) <;> intro hb <;> try intro hb1) | fail) | fail)
      refine ⟨i + 1, _, .refl _, ⟨hlt, ?_, ?_, ?_, ?_, q0 * 256 + x.toNat, hs, ?_, rfl⟩, ?_⟩
      all_goals exact Qf
    · obtain rfl : i = n := by omega
      rw [hqq]
      clear hqq hq
      repeat' (first | (with_reducible first | refine Q1 ?_ | refine Qe ?_ | fail) | ((with_reducible refine w_draw [(b, [.sl o (l.map encB), .i a, .b false])] ?_ ?_ ?_ ?_ ?_); (iterate 3 (focus kernel_rfl)); (focus exact keep_one (by repeat (first | exact mm_h | apply mm_t)))) | ((with_reducible refine And.intro ?_ ?_); (focus exact keep_one (by repeat (first | exact mm_h | apply mm_t)))) | (with_reducible first | refine QQ ?_ | (refine al_go ?_; intro b) | (refine QD ?_ <;> (try constructor) <;> intro hb <;> try intro hb1) | fail) | fail)
      all_goals exact Qret
end Go.Proofs.YtgcienlfpnpbgaaGreat
end
section
namespace Go.Proofs.YtgcienlfpnpbgaaGreat
attribute [local push_cast] encB encI TS.cells TS.fail TS.go Nat.mul_one
open Go.RowKit B
set_option maxHeartbeats 4000000
set_option maxRecDepth 10000
namespace TS
def Ok (t : TS) : Prop := t.a ≤ t.l.length ∧ t.l.length ≤ 1000000
def byte (t : TS) : Int × TS := ((t.rd 1).1, (t.rd 1).2.2)
def rnum (t : TS) : Int × TS := if (t.rd 4).2.1 = true ∧ 2147483647 < (t.rd 4).1 then (0, (t.rd 4).2.2.fail) else ((t.rd 4).1, (t.rd 4).2.2)
def long (t : TS) : Int × TS := (IntKind.i64.wrap (t.rd 8).1, (t.rd 8).2.2)
def textN (t : TS) (n : Int) : ByteArray × TS := if t.bad = true ∨ t.left < n then (⟨#[]⟩, t.fail) else (⟨((t.l.drop t.a).take n.toNat).toArray⟩, t.go n.toNat)
def text (t : TS) : ByteArray × TS := t.rnum.2.textN t.rnum.1
theorem rd_lt (t : TS) (n : Nat) : (t.rd n).1 < 256 ^ n := by
 unfold rd
 split
 · exact Nat.pow_pos (by decide)
 · have h1 := num_lt ((t.l.drop t.a).take n)
   rw [List.length_take] at h1
   exact Nat.lt_of_lt_of_le h1 (Nat.pow_le_pow_right (by omega) (Nat.min_le_left _ _))
theorem rd_ok {t : TS} (h : t.Ok) (n : Nat) : (t.rd n).2.2.Ok := by
 unfold rd
 split
 · exact h
 · rename_i hb
   refine ⟨?_, h.2⟩
   show t.a + n ≤ t.l.length
   have := h.1
   have : ¬ t.left < n := fun x => hb (.inr x)
   unfold left at this
   omega
theorem rnum_ok {t : TS} (h : t.Ok) : t.rnum.2.Ok := by
 unfold rnum; split
 · exact rd_ok h 4
 · exact rd_ok h 4
theorem textN_ok {t : TS} (h : t.Ok) (n : Int) (hn : 0 ≤ n) : (t.textN n).2.Ok := by
 unfold textN
 split
 · exact h
 · rename_i hb
   refine ⟨?_, h.2⟩
   show t.a + n.toNat ≤ t.l.length
   have := h.1
   have : ¬ (t.left : Int) < n := fun x => hb (.inr x)
   unfold left at this
   omega
theorem rnum_pos (t : TS) : 0 ≤ t.rnum.1 := by
 unfold rnum; split
 · exact Int.le_refl _
 · exact Int.natCast_nonneg _
end TS
theorem rfLeftF (b : Nat) (t : TS) (h : t.Ok) (st : St) : TrF Tryz.prog 31 [.ptr b 0] (rfR b t :: st) fun x st' => x = .i (if t.bad = true then 0 else t.left : Nat) ∧ st' = rfR b t :: st := by
 obtain ⟨o, l, a, bad⟩ := t
 obtain ⟨h1, h2⟩ := h
 unfold TS.left
 dsimp only at *
 cases bad with
 | true =>
  rw [if_pos rfl]
  refine Qin [2] Tryz.func31 Tryz.results31 Tryz.ntmps31 ?_
  repeat' (first | (with_reducible first | refine Q1 ?_ | refine Qe ?_ | fail) | ((with_reducible refine w_draw [(b, [.sl o (l.map encB), .i a, .b true])] ?_ ?_ ?_ ?_ ?_); (iterate 3 (focus kernel_rfl)); (focus exact keep_one (by repeat (first | exact mm_h | apply mm_t)))) | ((with_reducible refine And.intro ?_ ?_); (focus exact keep_one (by repeat (first | exact mm_h | apply mm_t)))) | (with_reducible first | refine QQ ?_ | (refine al_go ?_; intro b) | (refine QD ?_ <;> (try constructor) <;> intro hb <;> try intro hb1) | fail) | fail)
  all_goals exact Qret
 | false =>
  rw [if_neg Bool.false_ne_true]
  have hs : ((l.length - a : Nat) : Int) = (l.length : Int) - a := by omega
  rw [hs]
  refine Qin [2] Tryz.func31 Tryz.results31 Tryz.ntmps31 ?_
  repeat' (first | (with_reducible first | refine Q1 ?_ | refine Qe ?_ | fail) | ((with_reducible refine w_draw [(b, [.sl o (l.map encB), .i a, .b false])] ?_ ?_ ?_ ?_ ?_); (iterate 3 (focus kernel_rfl)); (focus exact keep_one (by repeat (first | exact mm_h | apply mm_t)))) | ((with_reducible refine And.intro ?_ ?_); (focus exact keep_one (by repeat (first | exact mm_h | apply mm_t)))) | (with_reducible first | refine QQ ?_ | (refine al_go ?_; intro b) | (refine QD ?_ <;> (try constructor) <;> intro hb <;> try intro hb1) | fail) | fail)
  all_goals exact Qret
theorem rfDoneF (b : Nat) (t : TS) (h : t.Ok) (st : St) : TrF Tryz.prog 71 [.ptr b 0] (rfR b t :: st) fun x st' => x = .b (!t.bad && decide (t.left = 0)) ∧ st' = rfR b t :: st := by
 obtain ⟨o, l, a, bad⟩ := t
 obtain ⟨h1, h2⟩ := h
 unfold TS.left
 dsimp only at *
 have hs : (l.length - a = 0) = ((a : Int) = l.length) := propext (by omega)
 cases bad with
 | true =>
  refine Qin [2] Tryz.func71 Tryz.results71 Tryz.ntmps71 ?_
  repeat' (first | (with_reducible first | refine Q1 ?_ | refine Qe ?_ | fail) | ((with_reducible refine w_draw [(b, [.sl o (l.map encB), .i a, .b true])] ?_ ?_ ?_ ?_ ?_); (iterate 3 (focus kernel_rfl)); (focus exact keep_one (by repeat (first | exact mm_h | apply mm_t)))) | ((with_reducible refine And.intro ?_ ?_); (focus exact keep_one (by repeat (first | exact mm_h | apply mm_t)))) | (with_reducible first | refine QQ ?_ | (refine al_go ?_; intro b) | (refine QD ?_ <;> (try constructor) <;> intro hb <;> try intro hb1) | fail) | fail)
  all_goals (refine Qret (hd := ?_); (try simp (disch := omega) only [push_cast, simprocAttr, *]); try (first | exact LE.refl _ | exact LE.sl _ _ | ((first | refine LE.tup ?_ | refine LE.agg ?_); (repeat' (first | exact LEL.nil | refine LEL.cons ?_ ?_ | exact LE.refl _ | exact LE.sl _ _ | refine LE.agg ?_)); done) | refine LE.of_eq ?_))
  all_goals (first | rfl | (refine congrArg D.b ?_; rw [Bool.eq_iff_iff]; simp only [Bool.true_and, Bool.false_and, Bool.and_true, Bool.and_false, Bool.or_false, Bool.or_true, Bool.true_or, Bool.false_or, true_and, and_true, Bool.not_eq_true', Bool.not_eq_false', decide_eq_true_eq, decide_eq_false_iff_not, beq_iff_eq, beq_eq_false_iff_ne, bne_iff_ne, ne_eq, reduceCtorEq, iff_true, true_iff, iff_false, false_iff, Bool.and_eq_true, Bool.or_eq_true, Bool.false_eq_true, Bool.true_eq_false]; first | done | omega))
 | false =>
  refine Qin [2] Tryz.func71 Tryz.results71 Tryz.ntmps71 ?_
  repeat' (first | (with_reducible first | refine Q1 ?_ | refine Qe ?_ | fail) | ((with_reducible refine w_draw [(b, [.sl o (l.map encB), .i a, .b false])] ?_ ?_ ?_ ?_ ?_); (iterate 3 (focus kernel_rfl)); (focus exact keep_one (by repeat (first | exact mm_h | apply mm_t)))) | ((with_reducible refine And.intro ?_ ?_); (focus exact keep_one (by repeat (first | exact mm_h | apply mm_t)))) | (with_reducible first | refine QQ ?_ | (refine al_go ?_; intro b) | (refine QD ?_ <;> (try constructor) <;> intro hb <;> try intro hb1) | fail) | fail)
  all_goals (refine Qret (hd := ?_); (try simp (disch := omega) only [push_cast, simprocAttr, *]); try (first | exact LE.refl _ | exact LE.sl _ _ | ((first | refine LE.tup ?_ | refine LE.agg ?_); (repeat' (first | exact LEL.nil | refine LEL.cons ?_ ?_ | exact LE.refl _ | exact LE.sl _ _ | refine LE.agg ?_)); done) | refine LE.of_eq ?_))
  all_goals (first | rfl | (refine congrArg D.b ?_; rw [Bool.eq_iff_iff]; simp only [Bool.true_and, Bool.false_and, Bool.and_true, Bool.and_false, Bool.or_false, Bool.or_true, Bool.true_or, Bool.false_or, true_and, and_true, Bool.not_eq_true', Bool.not_eq_false', decide_eq_true_eq, decide_eq_false_iff_not, beq_iff_eq, beq_eq_false_iff_ne, bne_iff_ne, ne_eq, reduceCtorEq, iff_true, true_iff, iff_false, false_iff, Bool.and_eq_true, Bool.or_eq_true, Bool.false_eq_true, Bool.true_eq_false]; (try simp only [hs, true_and, and_true, true_or, or_true, false_or, or_false, false_and, and_false, not_true, not_false_eq_true, ne_eq]); first | done | omega))
theorem rfByteF (b : Nat) (t : TS) (h : t.Ok) (st : St) : TrF Tryz.prog 84 [.ptr b 0] (rfR b t :: st) fun x st' => x = .i t.byte.1 ∧ st' = rfR b t.byte.2 :: st := by
 have hC := Lib.hid (refNumberF b t h.1 (by have := h.2; omega) 1 (by omega))
 have hw := TS.rd_lt t 1
 unfold TS.byte
 generalize t.rd 1 = q at *
 obtain ⟨m, k, t2⟩ := q
 dsimp only at *
 refine Qin [2] Tryz.func84 Tryz.results84 Tryz.ntmps84 ?_
 repeat' (first | (with_reducible first | refine Q1 ?_ | refine Qe ?_ | refine QQ ?_ | (refine al_go ?_; intro b) | (refine QD ?_ <;> (try constructor) <;> intro hb <;> try intro hb1) | fail) | refine Qc Tryz.call147 ((hC.out _)) ?_ | fail)
 all_goals exact Qret
theorem rfLongF (b : Nat) (t : TS) (h : t.Ok) (st : St) : TrF Tryz.prog 129 [.ptr b 0] (rfR b t :: st) fun x st' => x = .i t.long.1 ∧ st' = rfR b t.long.2 :: st := by
 have hC := Lib.hid (refNumberF b t h.1 (by have := h.2; omega) 8 (by omega))
 unfold TS.long
 generalize t.rd 8 = q at *
 obtain ⟨m, k, t2⟩ := q
 dsimp only at *
 refine Qin [2] Tryz.func129 Tryz.results129 Tryz.ntmps129 ?_
 repeat' (first | (with_reducible first | refine Q1 ?_ | refine Qe ?_ | refine QQ ?_ | (refine al_go ?_; intro b) | (refine QD ?_ <;> (try constructor) <;> intro hb <;> try intro hb1) | fail) | refine Qc Tryz.call147 ((hC.out _)) ?_ | fail)
 all_goals exact Qret
theorem rfNumF (b : Nat) (t : TS) (h : t.Ok) (st : St) : TrF Tryz.prog 81 [.ptr b 0] (rfR b t :: st) fun x st' => x = .i t.rnum.1 ∧ st' = rfR b t.rnum.2 :: st := by
 have hC := Lib.hid (refNumberF b t h.1 (by have := h.2; omega) 4 (by omega))
 have hw := TS.rd_lt t 4
 unfold TS.rnum
 generalize t.rd 4 = q at *
 obtain ⟨m, k, o, l, a, bad⟩ := q
 dsimp only at *
 by_cases hm : k = true ∧ 2147483647 < m
 · rw [if_pos hm]
   obtain ⟨rfl, hm⟩ := hm
   refine Qin [2] Tryz.func81 Tryz.results81 Tryz.ntmps81 ?_
   repeat' (first | (with_reducible first | refine Q1 ?_ | refine Qe ?_ | refine QQ ?_ | (refine al_go ?_; intro b) | (refine QD ?_ <;> (try constructor) <;> intro hb <;> try intro hb1) | fail) | refine Qc Tryz.call147 ((hC.out _)) ?_ | fail)
   all_goals exact Qret
 · rw [if_neg hm]
   cases k with
   | true =>
    have hm : m ≤ 2147483647 := by simpa using hm
    refine Qin [2] Tryz.func81 Tryz.results81 Tryz.ntmps81 ?_
    repeat' (first | (with_reducible first | refine Q1 ?_ | refine Qe ?_ | refine QQ ?_ | (refine al_go ?_; intro b) | (refine QD ?_ <;> (try constructor) <;> intro hb <;> try intro hb1) | fail) | refine Qc Tryz.call147 ((hC.out _)) ?_ | fail)
    all_goals exact Qret
   | false =>
    clear hm
    refine Qin [2] Tryz.func81 Tryz.results81 Tryz.ntmps81 ?_
    repeat' (first | (with_reducible first | refine Q1 ?_ | refine Qe ?_ | refine QQ ?_ | (refine al_go ?_; intro b) | (refine QD ?_ <;> (try constructor) <;> intro hb <;> try intro hb1) | fail) | refine Qc Tryz.call147 ((hC.out _)) ?_ | fail)
    all_goals exact Qret
theorem rfTextF (b : Nat) (t : TS) (h : t.Ok) (st : St) : TrF Tryz.prog 82 [.ptr b 0] (rfR b t :: st) fun x st' => x = .str t.text.1 ∧ st' = rfR b t.text.2 :: st := by
 have hC := Lib.hid (rfNumF b t h)
 have hq := TS.rnum_ok h
 have hp := TS.rnum_pos t
 unfold TS.text TS.textN TS.left
 generalize t.rnum = q at *
 obtain ⟨n, o, l, a, bad⟩ := q
 obtain ⟨h1, h2⟩ := hq
 obtain ⟨n, rfl⟩ : ∃ m : Nat, n = m := ⟨n.toNat, by dsimp only at hp; omega⟩
 dsimp only at *
 rw [Int.toNat_natCast]
 cases bad with
 | true =>
  rw [if_pos (.inl rfl)]
  refine Qin [2] Tryz.func82 Tryz.results82 Tryz.ntmps82 ?_
  repeat' (first | (with_reducible first | refine Q1 ?_ | refine Qe ?_ | fail) | ((with_reducible refine w_draw [(b, [.sl o (l.map encB), .i a, .b true])] ?_ ?_ ?_ ?_ ?_); (iterate 3 (focus kernel_rfl)); (focus exact keep_one (by repeat (first | exact mm_h | apply mm_t)))) | ((with_reducible refine And.intro ?_ ?_); (focus exact keep_one (by repeat (first | exact mm_h | apply mm_t)))) | (with_reducible first | refine QQ ?_ | (refine al_go ?_; intro b) | (refine QD ?_ <;> (try constructor) <;> intro hb <;> try intro hb1) | fail) | fail)
  all_goals exact Qret
 | false =>
  by_cases hlt : ((l.length - a : Nat) : Int) < n
  · rw [if_pos (.inr hlt)]
    have hlt2 : (l.length : Int) - a < n := by omega
    refine Qin [2] Tryz.func82 Tryz.results82 Tryz.ntmps82 ?_
    repeat' (first | (with_reducible first | refine Q1 ?_ | refine Qe ?_ | fail) | ((with_reducible refine w_draw [(b, [.sl o (l.map encB), .i a, .b false])] ?_ ?_ ?_ ?_ ?_); (iterate 3 (focus kernel_rfl)); (focus exact keep_one (by repeat (first | exact mm_h | apply mm_t)))) | ((with_reducible refine And.intro ?_ ?_); (focus exact keep_one (by repeat (first | exact mm_h | apply mm_t)))) | (with_reducible first | refine QQ ?_ | (refine al_go ?_; intro b) | (refine QD ?_ <;> (try constructor) <;> intro hb <;> try intro hb1) | fail) | fail)
    all_goals exact Qret
  · rw [if_neg (by simp; omega)]
    have hlt2 : ¬ (l.length : Int) - a < n := by omega
    have e1 : ((a : Int) + n).toNat = a + n := by omega
    have e2 : ((a : Int) + n - n).toNat = a := by omega
    have e3 : a + n ≤ l.length := by omega
    have e4 : List.take n (List.drop a (List.map encB l)) = List.map encB ((l.drop a).take n) := by rw [← List.map_drop, ← List.map_take]
    generalize (l.drop a).take n = l2 at *
    refine Qin [2] Tryz.func82 Tryz.results82 Tryz.ntmps82 ?_
    repeat' (first | (with_reducible first | refine Q1 ?_ | refine Qe ?_ | fail) | ((with_reducible refine w_draw [(b, [.sl o (l.map encB), .i a, .b false])] ?_ ?_ ?_ ?_ ?_); (iterate 3 (focus kernel_rfl)); (focus exact keep_one (by repeat (first | exact mm_h | apply mm_t)))) | ((with_reducible refine And.intro ?_ ?_); (focus exact keep_one (by repeat (first | exact mm_h | apply mm_t)))) | ((with_reducible refine w_draw [(b, [.sl o (l.map encB), .i ((a : Int) + n), .b false])] ?_ ?_ ?_ ?_ ?_); (iterate 3 (focus kernel_rfl)); (focus exact keep_one (by repeat (first | exact mm_h | apply mm_t)))) | ((with_reducible refine And.intro ?_ ?_); (focus exact keep_one (by repeat (first | exact mm_h | apply mm_t)))) | (with_reducible first | refine QQ ?_ | (refine al_go ?_; intro b) | (refine QD ?_ <;> (try constructor) <;> intro hb <;> try intro hb1) | fail) | fail)
    all_goals exact Qret
end Go.Proofs.YtgcienlfpnpbgaaGreat
end
section
namespace Go.Proofs.YtgcienlfpnpbgaaGreat
set_option linter.unusedSimpArgs false
attribute [local push_cast] encB encI TS.cells TS.fail V.cells_mk V.cells_take V.cells_len Nat.mul_one
open Go.RowKit B
set_option maxRecDepth 10000
set_option maxHeartbeats 4000000
namespace TS
def vals (f : TS → V × TS) : Nat → TS → List V × TS
 | 0, s => ([], s)
 | n + 1, s => if s.bad = true then ([], s) else ((f s).1 :: (vals f n (f s).2).1, (vals f n (f s).2).2)
def list5 (f : Option (TS → V × TS)) (n : Int) (s : TS) : V × TS :=
 match f with
 | none => (.mk 5 0 ⟨#[]⟩ [], s.fail)
 | some f => if 20 < n then (.mk 5 0 ⟨#[]⟩ [], s.fail) else (.mk 5 0 ⟨#[]⟩ (vals f n.toNat s).1, (vals f n.toNat s).2)
def body (f : Option (TS → V × TS)) (s : TS) : V × TS :=
 if s.byte.1 = 1 then (.mk 1 s.byte.2.byte.1 ⟨#[]⟩ [], s.byte.2.byte.2)
 else if s.byte.1 = 2 then (.mk 2 s.byte.2.long.1 ⟨#[]⟩ [], s.byte.2.long.2)
 else if s.byte.1 = 3 ∨ s.byte.1 = 4 then (.mk s.byte.1 0 s.byte.2.text.1 [], s.byte.2.text.2)
 else if s.byte.1 = 5 then list5 f s.byte.2.rnum.1 s.byte.2.rnum.2
 else (.mk s.byte.1 0 ⟨#[]⟩ [], s.byte.2)
def value : Nat → TS → V × TS
 | 0 => body none
 | d + 1 => body (some (value d))
def sub : Nat → Option (TS → V × TS)
 | 0 => none
 | e + 1 => some (value e)
theorem value_eq (d : Nat) (s : TS) : value d s = body (sub d) s := by cases d <;> rfl
theorem text_ok {t : TS} (h : t.Ok) : t.text.2.Ok := textN_ok (rnum_ok h) _ (rnum_pos t)
theorem vals_ok {f : TS → V × TS} (hf : ∀ t, t.Ok → (f t).2.Ok) : ∀ n t, t.Ok → (vals f n t).2.Ok
 | 0, _, h => h
 | n + 1, t, h => by
  unfold vals
  split
  · exact h
  · exact vals_ok hf n _ (hf t h)
theorem body_ok {f : Option (TS → V × TS)} (hf : ∀ g, f = some g → ∀ t, t.Ok → (g t).2.Ok) (t : TS) (h : t.Ok) : (body f t).2.Ok := by
 have h1 : t.byte.2.Ok := rd_ok h 1
 unfold body
 split
 · exact rd_ok h1 1
 split
 · exact rd_ok h1 8
 split
 · exact text_ok h1
 split
 · unfold list5
   cases f with
   | none => exact rnum_ok h1
   | some g =>
    dsimp only
    split
    · exact rnum_ok h1
    · exact vals_ok (hf g rfl) _ _ (rnum_ok h1)
 · exact h1
theorem value_ok : ∀ d t, t.Ok → (value d t).2.Ok
 | 0 => body_ok fun _ h => by cases h
 | d + 1 => body_ok fun g h => by cases h; exact value_ok d
end TS
open TS in
theorem rfGetF : ∀ (d : Nat), d ≤ 4 → ∀ (rb : Nat) (s : TS) (hs : s.Ok) (st : St), TrF Tryz.prog 173 [.ptr rb 0, .i d] (rfR rb s :: st) fun x st' => x = .agg (TS.value d s).1.cells ∧ st' = rfR rb (TS.value d s).2 :: st := fun d => by
 induction d using Nat.strongRecOn with
 | _ d IHd =>
 intro hd4 rb s hs st
 have IH : ∀ f, sub d = some f → (∀ s, s.Ok → (f s).2.Ok) ∧ ∀ b s, s.Ok → ∀ st, TrF Tryz.prog 173 [.ptr b 0, .i ((d : Int) - 1)] (rfR b s :: st) fun x st' => x = .agg (f s).1.cells ∧ st' = rfR b (f s).2 :: st := by
  intro f hf
  cases d with
  | zero => cases hf
  | succ e =>
   cases hf
   refine ⟨value_ok e, fun b s hs st => ?_⟩
   have := IHd e (by omega) (by omega) b s hs st
   rwa [show (((e + 1 : Nat) : Int) - 1) = (e : Int) by omega]
 have hd0 : d = 0 ↔ sub d = none := by cases d <;> simp [sub]
 rw [value_eq]
 clear IHd
 generalize sub d = f? at *
 have hB := Lib.hid (rfByteF rb s hs)
 have hs1 : s.byte.2.Ok := rd_ok hs 1
 unfold body
 generalize s.byte = q at *
 obtain ⟨k, s1⟩ := q
 dsimp only at *
 refine QinC 4 73 Tryz.func173 Tryz.ntmps173 ?_
 refine tr_room 73 4 0 ?_
 by_cases k1 : k = 1
 · subst k1
   rw [if_pos rfl]
   have hB2 := Lib.hid (rfByteF rb s1 hs1)
   generalize s1.byte = q2 at *
   clear IH hd0
   repeat' (first | (with_reducible first | refine Q1 ?_ | refine Qe ?_ | refine QQ ?_ | (refine al_go ?_; intro b) | (refine Qa ?_; intro o' ho') | (refine Qp ?_; intro o' ho') | (refine QD ?_ <;> (try constructor) <;> intro hb <;> try intro hb1) | fail) | refine QR Tryz.call84 hB.out ?_ | refine QR Tryz.call84 hB2.out ?_ | fail)
   all_goals exact QretC
 rw [if_neg k1]
 have b1 : (k == 1) = false := by simpa using k1
 by_cases k2 : k = 2
 · subst k2
   rw [if_pos rfl]
   have hB2 := Lib.hid (rfLongF rb s1 hs1)
   generalize s1.long = q2 at *
   clear IH hd0
   repeat' (with_reducible first | refine Q1 ?_ | refine Qe ?_ | refine QQ ?_ | (refine al_go ?_; intro b) | (refine Qa ?_; intro o' ho') | (refine Qp ?_; intro o' ho') | (refine QD ?_ <;> (try constructor) <;> intro hb <;> try intro hb1) | fail)
   all_goals exact QretC
 rw [if_neg k2]
 have b2 : (k == 2) = false := by simpa using k2
 by_cases k3 : k = 3 ∨ k = 4
 · rw [if_pos k3]
   have hB2 := Lib.hid (rfTextF rb s1 hs1)
   generalize s1.text = q2 at *
   clear IH hd0 b1 b2 k1 k2
   rcases k3 with rfl | rfl
   · repeat' (with_reducible first | refine Q1 ?_ | refine Qe ?_ | refine QQ ?_ | (refine al_go ?_; intro b) | (refine Qa ?_; intro o' ho') | (refine Qp ?_; intro o' ho') | (refine QD ?_ <;> (try constructor) <;> intro hb <;> try intro hb1) | fail)
     all_goals exact QretC
   · repeat' (with_reducible first | refine Q1 ?_ | refine Qe ?_ | refine QQ ?_ | (refine al_go ?_; intro b) | (refine Qa ?_; intro o' ho') | (refine Qp ?_; intro o' ho') | (refine QD ?_ <;> (try constructor) <;> intro hb <;> try intro hb1) | fail)
     all_goals exact QretC
 rw [if_neg k3]
 have b3 : (k == 3) = false := by simp; omega
 have b4 : (k == 4) = false := by simp; omega
 by_cases k5 : k = 5
 case neg =>
  rw [if_neg k5]
  have b5 : (k == 5) = false := by simpa using k5
  clear IH hd0
  repeat' (with_reducible first | refine Q1 ?_ | refine Qe ?_ | refine QQ ?_ | (refine al_go ?_; intro b) | (refine Qa ?_; intro o' ho') | (refine Qp ?_; intro o' ho') | (refine QD ?_ <;> (try constructor) <;> intro hb <;> try intro hb1) | fail)
  all_goals exact QretC
 subst k5
 rw [if_pos rfl]
 have hN := Lib.hid (rfNumF rb s1 hs1)
 have hnp := rnum_pos s1
 have hs2 := rnum_ok hs1
 clear k1 k2 k3 b1 b2 b3 b4
 generalize s1.rnum = q2 at *
 obtain ⟨n, s2⟩ := q2
 dsimp only at *
 by_cases hbad : d = 0 ∨ 20 < n
 · have hres : list5 f? n s2 = (V.mk 5 0 ⟨#[]⟩ [], s2.fail) := by
    unfold list5
    cases f? with
    | none => rfl
    | some f =>
     have : d ≠ 0 := fun h => by have := hd0.1 h; cases this
     exact if_pos (by omega)
   rw [hres]
   clear hres hd0 IH
   have hbad' : (d : Int) = 0 ∨ 20 < n := by omega
   clear hbad
   obtain ⟨o2, l2, a2, bad2⟩ := s2
   unfold TS.fail
   dsimp only
   repeat' (with_reducible first | refine Q1 ?_ | refine Qe ?_ | refine QQ ?_ | (refine al_go ?_; intro b) | (refine Qa ?_; intro o' ho') | (refine Qp ?_; intro o' ho') | (refine QD ?_ <;> (try constructor) <;> intro hb <;> try intro hb1) | fail)
   all_goals
    refine tr_once ?_
    by_cases hn0 : 0 < n
    · repeat' (with_reducible first | refine Q1 ?_ | refine Qe ?_ | refine QQ ?_ | (refine al_go ?_; intro b) | (refine Qa ?_; intro o' ho') | (refine Qp ?_; intro o' ho') | (refine QD ?_ <;> (try constructor) <;> intro hb <;> try intro hb1) | fail)
      all_goals exact QretC
    · repeat' (with_reducible first | refine Q1 ?_ | refine Qe ?_ | refine QQ ?_ | (refine al_go ?_; intro b) | (refine Qa ?_; intro o' ho') | (refine Qp ?_; intro o' ho') | (refine QD ?_ <;> (try constructor) <;> intro hb <;> try intro hb1) | fail)
      all_goals exact QretC
 obtain ⟨f, rfl⟩ : ∃ f, f? = some f := by
  cases f? with
  | none => exact absurd (.inl (hd0.2 rfl)) hbad
  | some f => exact ⟨f, rfl⟩
 obtain ⟨hfo, hI⟩ := IH f rfl
 replace hI := Lib.hid (hI rb)
 obtain ⟨m, rfl⟩ : ∃ m : Nat, n = m := ⟨n.toNat, by omega⟩
 rw [show list5 (some f) m s2 = (V.mk 5 0 ⟨#[]⟩ (vals f m s2).1, (vals f m s2).2) from if_neg (by omega)]
 have hd1 : ¬ (d : Int) = 0 := by omega
 have hm20 : m ≤ 20 := by omega
 obtain ⟨res, hres⟩ : ∃ r, vals f m s2 = r := ⟨_, rfl⟩
 have hE : Hid ([] ++ (vals f (m - 0) s2).1 = res.1 ∧ (vals f (m - 0) s2).2 = res.2) := by
  show _ ∧ _
  rw [Nat.sub_zero, hres]
  exact ⟨rfl, rfl⟩
 rw [hres]
 clear hres
 clear IH hd0 hbad
 repeat' (with_reducible first | refine Q1 ?_ | refine Qe ?_ | refine QQ ?_ | (refine al_go ?_; intro b) | (refine Qa ?_; intro o' ho') | (refine Qp ?_; intro o' ho') | (refine QD ?_ <;> (try constructor) <;> intro hb <;> try intro hb1) | fail)
 rename_i b4 _
 clear hB hN
 refine tr_loopd (ι := Nat) (fun i A st' => i ≤ m ∧ A.df = [] ∧ A.e 0 = .ptr rb 0 ∧ A.e 1 = .i d ∧ A.e 4 = .ptr b4 0 ∧ A.e 5 = .ptr b 0 ∧ A.e 6 = .i m ∧ A.e 7 = .i i ∧ ∃ o' L s' zs, o' ≠ .shared ∧ L.length ≤ i ∧ zs.length = 4 ∧ s'.Ok ∧ Hid (L ++ (vals f (m - i) s').1 = res.1 ∧ (vals f (m - i) s').2 = res.2) ∧ st' = .box b 73 [.i 5, .i 0, .str ⟨#[]⟩, .sl o' (L.map V.cells)] :: .box b4 73 zs :: .room o' 73 4 (L.map V.cells).length :: rfR rb s' :: st) (fun i => m - i) 0 ⟨Nat.zero_le _, Qf, Qf, Qf, Qf, Qf, Qf, Qf, .tight, [], s2, _, by simp, Nat.le_refl _, rfl, hs2, hE, rfl⟩ ?_
 clear hE hnp
 rintro i A st' ⟨hi, hdf, e0, e1, e4, e5, e6, e7, o', L, s', zs, ho', hLi, hzs, hok', hE, rfl⟩
 have hLc : (L.map V.cells).length = L.length := List.length_map _
 by_cases hlt : i < m
 · have hHE := hE.out
   rw [show m - i = (m - (i + 1)) + 1 by omega, vals] at hHE
   cases hsb : s'.bad with
   | true =>
    rw [hsb, if_pos rfl] at hHE
    obtain ⟨r1, r2⟩ := res
    obtain ⟨hr1, hr2⟩ := hHE
    dsimp only at hr1 hr2
    rw [List.append_nil] at hr1
    subst hr1 hr2
    clear hE hI
    repeat' (with_reducible first | refine Q1 ?_ | refine Qe ?_ | refine QQ ?_ | (refine al_go ?_; intro b) | (refine Qa ?_; intro o' ho') | (refine Qp ?_; intro o' ho') | (refine QD ?_ <;> (try constructor) <;> intro hb <;> try intro hb1) | fail)
    all_goals exact QretC
   | false =>
    rw [hsb, if_neg Bool.false_ne_true] at hHE
    have hIs := hI.out s' hok'
    have hok3 := hfo s' hok'
    generalize f s' = x3 at *
    obtain ⟨⟨k1, n1, t1, l1⟩, s3⟩ := x3
    dsimp only at hHE hIs
    rw [V.cells_mk] at hIs
    have hE2 : Hid ((L ++ [V.mk k1 n1 t1 l1]) ++ (vals f (m - (i + 1)) s3).1 = res.1 ∧ (vals f (m - (i + 1)) s3).2 = res.2) := by
     show _ ∧ _
     rw [List.append_assoc]
     exact hHE
    replace hIs := Lib.hid hIs
    clear hE hI hHE
    have hL4 : ∀ a ∈ L.map V.cells, a.length = 4 := fun a ha => by
     obtain ⟨x, -, rfl⟩ := List.mem_map.1 ha
     exact V.cells_len x
    repeat' (first | (with_reducible first | refine Q1 ?_ | refine Qe ?_ | fail) | ((with_reducible refine w_draw [(b, [.i 5, .i 0, .str ⟨#[]⟩, .sl o' (L.map V.cells)])] ?_ ?_ ?_ ?_ ?_); (focus kernel_rfl); (focus kernel_rfl); (focus kernel_rfl); (focus exact keep_one (List.Mem.head _))) | ((with_reducible refine And.intro ?_ ?_); (focus exact keep_one (by repeat (first | exact mm_h | apply mm_t)))) | ((with_reducible apply (a2_go ho')); (focus (intro o'; repeat (first | exact ra_h | apply ra_t))); (focus exact hL4); (focus exact len_one rfl); (focus (simp only [List.length_map, List.length_cons, List.length_nil]; omega)); (focus (simp only [List.length_map, List.length_cons, List.length_nil]; omega)); intro o' ho') | (with_reducible first | refine QQ ?_ | (refine al_go ?_; intro b) | (refine Qa ?_; intro o' ho') | (refine Qp ?_; intro o' ho') | (refine QD ?_ <;> (try constructor) <;> intro hb <;> try intro hb1) | fail) | fail)
    refine ⟨i + 1, .box b 73 [.i 5, .i 0, .str ⟨#[]⟩, .sl o' ((L ++ [V.mk k1 n1 t1 l1]).map V.cells)] :: .box b4 73 zs :: .room o' 73 4 ((L ++ [V.mk k1 n1 t1 l1]).map V.cells).length :: rfR rb s3 :: st, ?_, ⟨hlt, ?_, ?_, ?_, ?_, ?_, ?_, ?_, o', L ++ [V.mk k1 n1 t1 l1], s3, zs, ho', ?_, hzs, hok3, hE2, rfl⟩, ?_⟩
    · simp only [List.map_append, List.map_cons, List.map_nil, V.cells_mk]; (repeat (first | exact List.Sublist.refl _ | apply List.Sublist.cons))
    · exact Qf
    · exact Qf
    · exact Qf
    · exact Qf
    · exact Qf
    · exact Qf
    · exact Qf
    · rw [List.length_append, List.length_singleton]; omega
    · omega
 · have hHE := hE.out
   rw [show m - i = 0 by omega, vals] at hHE
   obtain ⟨r1, r2⟩ := res
   obtain ⟨hr1, hr2⟩ := hHE
   dsimp only at hr1 hr2
   rw [List.append_nil] at hr1
   subst hr1 hr2
   clear hE hI
   repeat' (with_reducible first | refine Q1 ?_ | refine Qe ?_ | refine QQ ?_ | (refine al_go ?_; intro b) | (refine Qa ?_; intro o' ho') | (refine Qp ?_; intro o' ho') | (refine QD ?_ <;> (try constructor) <;> intro hb <;> try intro hb1) | fail)
   all_goals exact QretC
end Go.Proofs.YtgcienlfpnpbgaaGreat
end
section
namespace Go.Proofs.YtgcienlfpnpbgaaGreat
attribute [local push_cast] encB encI TS.cells TS.fail V.cells_mk V.cells_take V.cells_len Nat.mul_one
open Go.RowKit B
set_option maxHeartbeats 4000000
set_option maxRecDepth 10000
def TS.val (t : TS) : V × TS := if t.bad = true then (V.zero, t) else if (TS.value 4 t).2.bad = true ∨ (TS.value 4 t).1.right = false then (V.zero, (TS.value 4 t).2.fail) else TS.value 4 t
end Go.Proofs.YtgcienlfpnpbgaaGreat
end
section
namespace Go.Proofs.YtgcienlfpnpbgaaGreat
open Go.RowKit B
set_option maxHeartbeats 1000000
def Sim (s : RS) (t : TS) : Prop := t.Ok ∧ s.bad = t.bad ∧ s.l = if t.bad = true then [] else t.l.drop t.a
theorem sim_fail {t : TS} (h : t.Ok) : Sim RS.fail t.fail := ⟨h, rfl, rfl⟩
theorem sim_left {s : RS} {t : TS} (h : Sim s t) : s.l.length = if t.bad = true then 0 else t.left := by
 obtain ⟨-, -, h3⟩ := h
 rw [h3]; split
 · rfl
 · rw [List.length_drop]; rfl
theorem sim_rd {s : RS} {t : TS} (h : Sim s t) (n : Nat) : (s.bad = true ∨ s.l.length < n → t.rd n = (0, false, t.fail)) ∧ (¬ (s.bad = true ∨ s.l.length < n) → t.rd n = (num (s.l.take n), true, t.go n) ∧ Sim (s.cut n) (t.go n)) := by
 have hl := sim_left h
 have hok := h.1
 obtain ⟨o, sl, bad⟩ := s
 obtain ⟨-, h2, h3⟩ := h
 dsimp only at h2 h3 hl
 subst h2
 unfold TS.rd
 refine ⟨fun hb => if_pos ?_, fun hb => ?_⟩
 · rcases hb with hb | hb
   · exact .inl hb
   · cases hbb : t.bad with
     | true => exact .inl rfl
     | false => rw [hbb, if_neg Bool.false_ne_true] at hl; exact .inr (by dsimp only at hb; omega)
 · have hb1 : ¬ t.bad = true := fun x => hb (.inl x)
   have hb2 : ¬ sl.length < n := fun x => hb (.inr x)
   rw [if_neg hb1] at hl h3
   subst h3
   rw [if_neg (fun x => x.elim hb1 (by omega))]
   refine ⟨rfl, ⟨?_, hok.2⟩, rfl, ?_⟩
   · have := hok.1
     have : t.left = t.l.length - t.a := rfl
     show t.a + n ≤ t.l.length
     omega
   · show (t.l.drop t.a).drop n = if t.bad = true then [] else t.l.drop (t.a + n)
     rw [if_neg hb1, List.drop_drop]
abbrev SimF {α : Type} (f : RS → α × RS) (g : TS → α × TS) : Prop := ∀ {s t}, Sim s t → (f s).1 = (g t).1 ∧ Sim (f s).2 (g t).2
theorem sim_byte : SimF RS.byte TS.byte := fun {s t} h => by
 obtain ⟨h1, h2⟩ := sim_rd h 1
 have hf := sim_fail h.1
 unfold TS.byte RS.byte
 by_cases hb : s.bad = true ∨ s.l.length < 1
 · rw [h1 hb]
   by_cases hc : s.bad = true
   · rw [if_pos hc]; exact ⟨rfl, hf⟩
   · rw [if_neg hc]
     have : s.l = [] := List.length_eq_zero_iff.1 (by have := hb.resolve_left hc; omega)
     rw [this]; exact ⟨rfl, hf⟩
 · obtain ⟨h3, h4⟩ := h2 hb
   rw [h3, if_neg (fun x => hb (.inl x))]
   cases hs : s.l with
   | nil => exact absurd (.inr (by rw [hs]; decide)) hb
   | cons c l => exact ⟨by show (c.toNat : Int) = ((num [c] : Nat) : Int); unfold num; simp, h4⟩
theorem sim_rnum : SimF RS.rnum TS.rnum := fun {s t} h => by
 obtain ⟨h1, h2⟩ := sim_rd h 4
 have hf := sim_fail h.1
 unfold TS.rnum RS.rnum
 by_cases hb : s.bad = true ∨ s.l.length < 4
 · rw [h1 hb, if_pos hb, if_neg (fun x => by cases x.1)]
   exact ⟨rfl, hf⟩
 · obtain ⟨h3, h4⟩ := h2 hb
   rw [h3, if_neg hb]
   dsimp only
   by_cases hm : num (s.l.take 4) ≤ 2147483647
   · rw [if_pos hm, if_neg (fun x => by have := x.2; omega)]
     exact ⟨rfl, h4⟩
   · rw [if_neg hm, if_pos ⟨rfl, by omega⟩]
     exact ⟨rfl, sim_fail h4.1⟩
theorem sim_long : SimF RS.long TS.long := fun {s t} h => by
 obtain ⟨h1, h2⟩ := sim_rd h 8
 have hf := sim_fail h.1
 unfold TS.long RS.long
 by_cases hb : s.bad = true ∨ s.l.length < 8
 · rw [h1 hb, if_pos hb]
   exact ⟨by show (0 : Int) = IntKind.i64.wrap ((0 : Nat) : Int); decide, hf⟩
 · obtain ⟨h3, h4⟩ := h2 hb
   rw [h3, if_neg hb]
   exact ⟨rfl, h4⟩
theorem sim_textN (n : Int) (hn : 0 ≤ n) : SimF (fun s => RS.textN s n) (fun t => TS.textN t n) := fun {s t} h => by
 have hl := sim_left h
 have hf := sim_fail h.1
 obtain ⟨-, h2⟩ := sim_rd h n.toNat
 obtain ⟨-, h3, h5⟩ := h
 show (RS.textN s n).1 = (TS.textN t n).1 ∧ Sim (RS.textN s n).2 (TS.textN t n).2
 unfold TS.textN RS.textN
 rw [h3]
 by_cases hb : t.bad = true
 · rw [if_pos (.inl hb), if_pos (.inl hb)]
   exact ⟨rfl, hf⟩
 rw [if_neg hb] at hl h5
 by_cases hb2 : (s.l.length : Int) < n
 · rw [if_pos (.inr (.inr hb2)), if_pos (.inr (by omega))]
   exact ⟨rfl, hf⟩
 · obtain ⟨-, h4⟩ := h2 (fun x => x.elim (fun x => hb (h3.symm.trans x)) (by omega))
   rw [if_neg (fun x => x.elim hb (fun x => by omega)), if_neg (fun x => x.elim hb (by omega)), h5]
   exact ⟨rfl, h4⟩
theorem sim_text : SimF RS.text TS.text := fun {s t} h => by
 obtain ⟨h1, h2⟩ := sim_rnum h
 have hp := TS.rnum_pos t
 unfold RS.text TS.text
 rw [h1]
 exact sim_textN _ hp h2
theorem sim_vals {f : RS → V × RS} {g : TS → V × TS} (hf : SimF f g) : ∀ n, SimF (RS.vals f n) (TS.vals g n)
 | 0, s, t, h => ⟨rfl, h⟩
 | n + 1, s, t, h => by
  unfold RS.vals TS.vals
  have hb := h.2.1
  rw [hb]
  split
  · exact ⟨rfl, h⟩
  · obtain ⟨h1, h2⟩ := hf h
    obtain ⟨h3, h4⟩ := sim_vals hf n h2
    dsimp only
    rw [h1, h3]
    exact ⟨rfl, h4⟩
def SimO : Option (RS → V × RS) → Option (TS → V × TS) → Prop
 | none, none => True
 | some f, some g => SimF f g
 | _, _ => False
theorem sim_body {f : Option (RS → V × RS)} {g : Option (TS → V × TS)} (hfg : SimO f g) : SimF (RS.body f) (TS.body g) := fun {s t} h => by
 obtain ⟨h1, h2⟩ := sim_byte h
 unfold RS.body TS.body
 rw [h1]
 generalize s.byte = q at *
 generalize t.byte = r at *
 obtain ⟨k, s1⟩ := q
 obtain ⟨k', t1⟩ := r
 dsimp only at *
 subst h1
 split
 · obtain ⟨h3, h4⟩ := sim_byte h2
   exact ⟨by rw [h3], h4⟩
 split
 · obtain ⟨h3, h4⟩ := sim_long h2
   exact ⟨by rw [h3], h4⟩
 split
 · obtain ⟨h3, h4⟩ := sim_text h2
   exact ⟨by rw [h3], h4⟩
 split
 · obtain ⟨h3, h4⟩ := sim_rnum h2
   rw [h3]
   unfold RS.list5 TS.list5
   cases f with
   | none =>
    cases g with
    | none => exact ⟨rfl, sim_fail h4.1⟩
    | some g => exact hfg.elim
   | some f =>
    cases g with
    | none => exact hfg.elim
    | some g =>
     dsimp only
     split
     · exact ⟨rfl, sim_fail h4.1⟩
     · obtain ⟨h5, h6⟩ := sim_vals hfg t1.rnum.1.toNat h4
       exact ⟨by rw [h5], h6⟩
 · exact ⟨rfl, h2⟩
theorem sim_value : ∀ d, SimF (RS.value d) (TS.value d)
 | 0 => sim_body (f := none) (g := none) trivial
 | d + 1 => sim_body (f := some (RS.value d)) (g := some (TS.value d)) (sim_value d)
theorem sim_val : SimF RS.val TS.val := fun {s t} h => by
 obtain ⟨h1, h2⟩ := sim_value 4 h
 unfold RS.val TS.val
 rw [h.2.1, h1, h2.2.1]
 split
 · exact ⟨rfl, h⟩
 split
 · exact ⟨rfl, sim_fail h2.1⟩
 · exact ⟨h1, h2⟩
def Good {α : Type} (P : α → Prop) (c : α → Nat) (f : RS → α × RS) : Prop := ∀ s, s.l.length ≤ 1000000 → P (f s).1 ∧ (f s).2.l.length ≤ s.l.length ∧ ((f s).2.bad = false → s.bad = false ∧ c (f s).1 + (f s).2.l.length ≤ s.l.length)
theorem fail_no {A : Prop} (h : RS.fail.bad = false) : A := by cases h
theorem good_byte : Good (fun n : Int => 0 ≤ n ∧ n ≤ 255) (fun _ => 1) RS.byte := fun s _ => by
 unfold RS.byte
 split
 · exact ⟨by dsimp only; omega, Nat.zero_le _, fail_no⟩
 rename_i hb
 obtain ⟨o, l, bad⟩ := s
 cases l with
 | nil => exact ⟨by dsimp only; omega, Nat.zero_le _, fail_no⟩
 | cons c l =>
  have := c.toNat_lt
  refine ⟨?_, ?_, fun _ => ⟨by simpa using hb, ?_⟩⟩
  · show (0 : Int) ≤ c.toNat ∧ (c.toNat : Int) ≤ 255; omega
  · show l.length ≤ l.length + 1; omega
  · show 1 + l.length ≤ l.length + 1; omega
theorem cut_good {s : RS} {n : Nat} (hb : ¬ (s.bad = true ∨ s.l.length < n)) : (s.cut n).l.length ≤ s.l.length ∧ ((s.cut n).bad = false → s.bad = false ∧ 0 + (s.cut n).l.length ≤ s.l.length) := by
 show (s.l.drop n).length ≤ _ ∧ (s.bad = false → s.bad = false ∧ 0 + (s.l.drop n).length ≤ _)
 rw [List.length_drop]
 exact ⟨by omega, fun h => ⟨h, by omega⟩⟩
theorem good_rnum : Good (fun n : Int => 0 ≤ n) (fun _ => 0) RS.rnum := fun s _ => by
 unfold RS.rnum
 split
 · exact ⟨by dsimp only; omega, Nat.zero_le _, fail_no⟩
 rename_i hb
 split
 · exact ⟨Int.natCast_nonneg _, cut_good hb⟩
 · exact ⟨by dsimp only; omega, Nat.zero_le _, fail_no⟩
theorem wrap_i64 (n : Int) : -9223372036854775808 ≤ IntKind.i64.wrap n ∧ IntKind.i64.wrap n ≤ 9223372036854775807 := by
 simp [IntKind.wrap, IntKind.bits, IntKind.signed]; omega
theorem good_long : Good (fun n : Int => -9223372036854775808 ≤ n ∧ n ≤ 9223372036854775807) (fun _ => 0) RS.long := fun s _ => by
 unfold RS.long
 split
 · exact ⟨by dsimp only; omega, Nat.zero_le _, fail_no⟩
 rename_i hb
 exact ⟨wrap_i64 _, cut_good hb⟩
theorem good_text : Good (fun b : ByteArray => b.size ≤ maxLen) (fun _ => 0) RS.text := fun s hs => by
 obtain ⟨-, h2, h3⟩ := good_rnum s hs
 unfold RS.text RS.textN
 have hm : 1000000 ≤ maxLen := by unfold maxLen; omega
 split
 · exact ⟨Nat.zero_le _, Nat.zero_le _, fail_no⟩
 rename_i hb
 obtain ⟨h4, h5⟩ := cut_good (s := s.rnum.2) (n := s.rnum.1.toNat) (fun x => hb (x.imp id fun x => .inr (by omega)))
 refine ⟨?_, by dsimp only at *; omega, fun h => ?_⟩
 · show (s.rnum.2.l.take s.rnum.1.toNat).toArray.size ≤ _
   rw [List.size_toArray, List.length_take]; omega
 · obtain ⟨h6, h7⟩ := h5 h
   obtain ⟨h8, h9⟩ := h3 h6
   exact ⟨h8, by dsimp only at *; omega⟩
theorem good_vals {f : RS → V × RS} (hf : Good V.Ok V.nodes f) : ∀ n, Good (fun l : List V => l.length ≤ n ∧ ∀ x ∈ l, V.Ok x) V.nodesL (RS.vals f n)
 | 0 => fun s _ => ⟨⟨Nat.le_refl _, fun x h => by cases h⟩, Nat.le_refl _, fun h => ⟨h, by show 0 + s.l.length ≤ _; omega⟩⟩
 | n + 1 => fun s hs => by
  unfold RS.vals
  split
  · rename_i hb
    exact ⟨⟨Nat.zero_le _, fun x h => by cases h⟩, Nat.le_refl _, fun h => absurd hb (by rw [h]; decide)⟩
  obtain ⟨h1, h2, h3⟩ := hf s hs
  obtain ⟨⟨h4, h5⟩, h6, h7⟩ := good_vals hf n (f s).2 (by omega)
  refine ⟨⟨by show _ + 1 ≤ _; omega, fun x hx => ?_⟩, by dsimp only at *; omega, fun h => ?_⟩
  · cases hx with
    | head => exact h1
    | tail _ hx => exact h5 x hx
  · obtain ⟨h8, h9⟩ := h7 h
    obtain ⟨h10, h11⟩ := h3 h8
    refine ⟨h10, ?_⟩
    dsimp only at *
    rw [V.nodesL]
    omega
theorem ok_mk {k n : Int} {s : ByteArray} {l : List V} (hk : 0 ≤ k ∧ k ≤ 255) (hn : -9223372036854775808 ≤ n ∧ n ≤ 9223372036854775807) (hs : s.size ≤ maxLen) (hl : l.length ≤ 20) (h : ∀ x ∈ l, V.Ok x) : V.Ok (.mk k n s l) := .mk (by omega) hn hs (by unfold maxLen; omega) h
theorem good_body {f : Option (RS → V × RS)} (hf : ∀ g, f = some g → Good V.Ok V.nodes g) : Good V.Ok V.nodes (RS.body f) := fun s hs => by
 obtain ⟨h1, h2, h3⟩ := good_byte s hs
 unfold RS.body
 generalize s.byte = q at *
 obtain ⟨k, s1⟩ := q
 dsimp only at *
 have h0 : (⟨#[]⟩ : ByteArray).size ≤ maxLen := Nat.zero_le _
 have hnil : ∀ x ∈ ([] : List V), V.Ok x := fun x h => by cases h
 split
 · obtain ⟨h4, h5, h6⟩ := good_byte s1 (by omega)
   refine ⟨ok_mk (by omega) (by omega) h0 (Nat.zero_le _) hnil, by dsimp only at *; omega, fun h => ?_⟩
   obtain ⟨h7, h8⟩ := h6 h
   obtain ⟨h9, h10⟩ := h3 h7
   exact ⟨h9, by dsimp only at *; rw [V.nodes, V.nodesL]; omega⟩
 split
 · obtain ⟨h4, h5, h6⟩ := good_long s1 (by omega)
   refine ⟨ok_mk (by omega) h4 h0 (Nat.zero_le _) hnil, by dsimp only at *; omega, fun h => ?_⟩
   obtain ⟨h7, h8⟩ := h6 h
   obtain ⟨h9, h10⟩ := h3 h7
   exact ⟨h9, by dsimp only at *; rw [V.nodes, V.nodesL]; omega⟩
 split
 · obtain ⟨h4, h5, h6⟩ := good_text s1 (by omega)
   refine ⟨ok_mk (by omega) (by omega) h4 (Nat.zero_le _) hnil, by dsimp only at *; omega, fun h => ?_⟩
   obtain ⟨h7, h8⟩ := h6 h
   obtain ⟨h9, h10⟩ := h3 h7
   exact ⟨h9, by dsimp only at *; rw [V.nodes, V.nodesL]; omega⟩
 split
 · obtain ⟨h4, h5, h6⟩ := good_rnum s1 (by omega)
   unfold RS.list5
   have hF := ok_mk (k := 5) (n := 0) (by omega) (by omega) h0 (Nat.zero_le _) hnil
   cases f with
   | none => exact ⟨hF, Nat.zero_le _, fail_no⟩
   | some g =>
    dsimp only
    split
    · exact ⟨hF, Nat.zero_le _, fail_no⟩
    · rename_i hn
      obtain ⟨⟨h7, h8⟩, h9, h10⟩ := good_vals (hf g rfl) s1.rnum.1.toNat s1.rnum.2 (by omega)
      refine ⟨ok_mk (by omega) (by omega) h0 (by omega) h8, by dsimp only at *; omega, fun h => ?_⟩
      obtain ⟨h11, h12⟩ := h10 h
      obtain ⟨h13, h14⟩ := h6 h11
      obtain ⟨h15, h16⟩ := h3 h13
      exact ⟨h15, by dsimp only at *; rw [V.nodes]; omega⟩
 · refine ⟨ok_mk h1 (by omega) h0 (Nat.zero_le _) hnil, by dsimp only at *; omega, fun h => ?_⟩
   obtain ⟨h9, h10⟩ := h3 h
   exact ⟨h9, by dsimp only at *; rw [V.nodes, V.nodesL]; omega⟩
theorem good_value : ∀ d, Good V.Ok V.nodes (RS.value d)
 | 0 => good_body fun _ h => by cases h
 | d + 1 => good_body fun g h => by cases h; exact good_value d
end Go.Proofs.YtgcienlfpnpbgaaGreat
end
section
namespace Go.Proofs.YtgcienlfpnpbgaaGreat
attribute [local push_cast] encB encI TS.cells TS.fail V.cells_mk V.cells_take V.cells_len Nat.mul_one
open Go.RowKit B
set_option maxHeartbeats 4000000
set_option maxRecDepth 10000
theorem refNodesG (v : V) (hok : v.Ok) (hd : v.deep ≤ 1000) (st : St) : TrF Tryz.prog 189 [.agg v.cells] st fun x st' => x = .i (if v.nodes ≤ 1001 then v.nodes else 1002 : Nat) ∧ st' = st := by
 have hC := refCountF v.nodes v (Nat.le_refl _) hok 1001 1000 (by omega) (by omega) (by omega) (by omega)
 have hE : 1001 - v.cnt 1001 1000 = ((if v.nodes ≤ 1001 then v.nodes else 1002 : Nat) : Int) ∧ -1 ≤ v.cnt 1001 1000 ∧ v.cnt 1001 1000 ≤ 1001 := by
  have h1 := V.cnt_eq v 1001 1000
  have h2 := V.cnt_le v 1001 1000 (by omega)
  have h3 := V.cnt_all v 1001 1000
  refine ⟨?_, h2⟩
  split
  · rw [h3 (by omega) (by omega)]; omega
  · have : ¬ 0 ≤ v.cnt 1001 1000 := fun h => by have := h1 h; omega
    omega
 generalize (if v.nodes ≤ 1001 then v.nodes else 1002 : Nat) = N at *
 generalize v.cnt 1001 1000 = c at *
 cases v with
 | mk k n s l =>
 rw [V.cells_mk] at *
 generalize l.map V.cells = VL at *
 obtain ⟨e1, e2, e3⟩ := hE
 replace hC := Lib.hid hC
 refine Qin [2] Tryz.func189 Tryz.results189 Tryz.ntmps189 ?_
 exact WR
theorem refRightG (v : V) (hok : v.Ok) (hd : v.deep ≤ 1000) (hn : v.nodes ≤ 1000000) (st : St) : TrF Tryz.prog 156 [.agg v.cells] st fun x st' => x = .b v.right ∧ st' = st := by
 have hE := refEachF v.nodes v (Nat.le_refl _)
 have hD := refDeepF v.nodes v (Nat.le_refl _) (by omega)
 have hN := refNodesG v hok hd
 have e1 : v.right = (v.parts && (decide (v.deep ≤ 4) && decide ((if v.nodes ≤ 1001 then v.nodes else 1002) ≤ 100))) := by
  unfold V.right
  congr 2
  refine decide_eq_decide.2 ?_
  split <;> omega
 rw [e1]
 generalize (if v.nodes ≤ 1001 then v.nodes else 1002) = nn at *
 cases v with
 | mk k n s l =>
 rw [V.cells_mk] at *
 replace hE := Lib.hid hE
 replace hD := Lib.hid hD
 replace hN := Lib.hid hN
 generalize (V.mk k n s l).deep = dd at *
 generalize (V.mk k n s l).parts = p at *
 generalize l.map V.cells = VL at *
 refine Qin [2] Tryz.func156 Tryz.results156 Tryz.ntmps156 ?_
 repeat' (with_reducible first | refine Q1 ?_ | refine Qe ?_ | refine QQ ?_ | (refine al_go ?_; intro b) | (refine QD ?_ <;> (try constructor) <;> intro hb <;> try intro hb1) | fail)
 all_goals (refine Qret (hd := ?_); (try simp (disch := omega) only [push_cast, simprocAttr, *]); try (first | exact LE.refl _ | exact LE.sl _ _ | ((first | refine LE.tup ?_ | refine LE.agg ?_); (repeat' (first | exact LEL.nil | refine LEL.cons ?_ ?_ | exact LE.refl _ | exact LE.sl _ _ | refine LE.agg ?_)); done) | refine LE.of_eq ?_))
 all_goals (cases p <;> (first | rfl | (refine congrArg D.b ?_; rw [Bool.eq_iff_iff]; simp only [Bool.true_and, Bool.false_and, Bool.and_true, Bool.and_false, Bool.or_false, Bool.or_true, Bool.true_or, Bool.false_or, true_and, and_true, Bool.not_eq_true', Bool.not_eq_false', decide_eq_true_eq, decide_eq_false_iff_not, beq_iff_eq, beq_eq_false_iff_ne, bne_iff_ne, ne_eq, reduceCtorEq, iff_true, true_iff, iff_false, false_iff, Bool.and_eq_true, Bool.or_eq_true, Bool.false_eq_true, Bool.true_eq_false]; first | done | omega)))
namespace TS
theorem vals_deep {f : TS → V × TS} {d : Nat} (hf : ∀ t, (f t).1.deep ≤ d) : ∀ n t, V.deepL (vals f n t).1 ≤ d
 | 0, _ => Nat.zero_le _
 | n + 1, t => by
  rw [vals]
  split
  · exact Nat.zero_le _
  · rw [V.deepL]
    have := vals_deep hf n (f t).2
    have := hf t
    omega
theorem body_deep {f : Option (TS → V × TS)} {d : Nat} (hf : ∀ g, f = some g → ∀ t, (g t).1.deep ≤ d) (t : TS) : (body f t).1.deep ≤ d + 1 := by
 have h0 : ∀ (k n : Int) (s : ByteArray), k ≠ 5 → (V.mk k n s []).deep ≤ d + 1 := fun k n s h => by
  rw [V.deep, if_neg (by rintro (h2 | h2); exact h h2; exact h2 rfl)]; omega
 have h5 : ∀ (l : List V) (s : ByteArray), V.deepL l ≤ d → (V.mk 5 0 s l).deep ≤ d + 1 := fun l s h => by
  rw [V.deep, if_pos (.inl rfl)]; omega
 unfold body
 split
 · exact h0 _ _ _ (by decide)
 split
 · exact h0 _ _ _ (by decide)
 split
 · rename_i h; exact h0 _ _ _ (by omega)
 split
 · unfold list5
   split
   · exact h5 _ _ (Nat.zero_le _)
   · rename_i g
     split
     · exact h5 _ _ (Nat.zero_le _)
     · exact h5 _ _ (vals_deep (hf g rfl) _ _)
 · rename_i h; exact h0 _ _ _ h
theorem value_deep : ∀ d t, (value d t).1.deep ≤ d + 1
 | 0, t => body_deep (d := 0) (fun _ h => by cases h) t
 | d + 1, t => body_deep (d := d + 1) (fun g h t => by cases h; exact value_deep d t) t
def rs (t : TS) : RS := ⟨.shared, if t.bad = true then [] else t.l.drop t.a, t.bad⟩
theorem rs_sim {t : TS} (h : t.Ok) : Sim t.rs t := ⟨h, rfl, rfl⟩
theorem rs_len {t : TS} (h : t.Ok) : t.rs.l.length ≤ 1000000 := by
 unfold rs
 dsimp only
 split
 · exact Nat.zero_le _
 · have := h.2
   rw [List.length_drop]; omega
theorem val_facts {t : TS} (h : t.Ok) : (value 4 t).1.Ok ∧ (value 4 t).1.deep ≤ 5 ∧ (value 4 t).2.Ok ∧ ((value 4 t).2.bad = false → (value 4 t).1.nodes ≤ 1000000) := by
 have h1 := good_value 4 t.rs (rs_len h)
 have h2 := sim_value 4 (rs_sim h)
 rw [h2.1, h2.2.2.1] at h1
 refine ⟨h1.1, value_deep 4 t, value_ok 4 t h, fun hb => ?_⟩
 have := (h1.2.2 hb).2
 have := rs_len h
 omega
end TS
theorem rfValG (b : Nat) (t : TS) (ht : t.Ok) (st : St) : TrF Tryz.prog 131 [.ptr b 0] (rfR b t :: st) fun x st' => x = .agg t.val.1.cells ∧ st' = rfR b t.val.2 :: st := by
 have hV : Hid (∀ st, TrF Tryz.prog 173 [.ptr b 0, .i 4] (rfR b t :: st) fun x st' => x = .agg (TS.value 4 t).1.cells ∧ st' = rfR b (TS.value 4 t).2 :: st) := Lib.hid (rfGetF 4 (Nat.le_refl _) b t ht)
 obtain ⟨f1, f2, -, f3⟩ := TS.val_facts ht
 unfold TS.val
 cases hsb : t.bad with
 | true =>
  rw [if_pos rfl]
  clear hV f1 f2 f3
  have hz : V.zero.cells = [.i 0, .i 0, .str ⟨#[]⟩, .sl .shared []] := V.cells_mk ..
  obtain ⟨o, l, a, bad⟩ := t
  dsimp only at hsb
  subst hsb
  refine QinC 2 73 Tryz.func131 Tryz.ntmps131 ?_
  repeat' (with_reducible first | refine Q1 ?_ | refine Qe ?_ | refine QQ ?_ | (refine al_go ?_; intro b) | (refine QD ?_ <;> (try constructor) <;> intro hb <;> try intro hb1) | fail)
  all_goals exact QretC
 | false =>
  rw [if_neg Bool.false_ne_true]
  generalize TS.value 4 t = q at *
  obtain ⟨⟨k, n, s, l⟩, o2, l2, a2, bad2⟩ := q
  dsimp only at *
  cases bad2 with
  | true =>
   rw [if_pos (.inl rfl)]
   rw [V.cells_mk] at *
   clear f1 f2 f3
   have hz : V.zero.cells = [.i 0, .i 0, .str ⟨#[]⟩, .sl .shared []] := V.cells_mk ..
   refine QinC 2 73 Tryz.func131 Tryz.ntmps131 ?_
   repeat' (with_reducible first | refine Q1 ?_ | refine Qe ?_ | refine QQ ?_ | (refine al_go ?_; intro b) | (refine QD ?_ <;> (try constructor) <;> intro hb <;> try intro hb1) | fail)
   all_goals exact QretC
  | false =>
   have hR := refRightG (V.mk k n s l) f1 (by omega) (f3 rfl)
   rw [V.cells_mk] at *
   generalize (V.mk k n s l).right = r at *
   replace hR := Lib.hid hR
   clear f1 f2 f3
   cases r with
   | false =>
    rw [if_pos (.inr rfl)]
    have hz : V.zero.cells = [.i 0, .i 0, .str ⟨#[]⟩, .sl .shared []] := V.cells_mk ..
    refine QinC 2 73 Tryz.func131 Tryz.ntmps131 ?_
    repeat' (with_reducible first | refine Q1 ?_ | refine Qe ?_ | refine QQ ?_ | (refine al_go ?_; intro b) | (refine QD ?_ <;> (try constructor) <;> intro hb <;> try intro hb1) | fail)
    all_goals exact QretC
   | true =>
    rw [if_neg (by simp)]
    rw [V.cells_mk]
    refine QinC 2 73 Tryz.func131 Tryz.ntmps131 ?_
    repeat' (with_reducible first | refine Q1 ?_ | refine Qe ?_ | refine QQ ?_ | (refine al_go ?_; intro b) | (refine QD ?_ <;> (try constructor) <;> intro hb <;> try intro hb1) | fail)
    all_goals exact QretC
end Go.Proofs.YtgcienlfpnpbgaaGreat
end
section
namespace Go.Proofs.YtgcienlfpnpbgaaGreat
open Go.RowKit B
set_option maxHeartbeats 4000000
namespace Reg
def rdT {α : Type} (f : TS → α × TS) : Nat → TS → List α × TS
 | 0, s => ([], s)
 | n + 1, s => if s.bad = true then ([], s) else ((f s).1 :: (rdT f n (f s).2).1, (rdT f n (f s).2).2)
def tlist {α : Type} (f : TS → α × TS) (k : Int) (s : TS) : List α × TS := rdT f (if k < s.rnum.1 then k else s.rnum.1).toNat s.rnum.2
def markT (s : TS) : TS := if 1 < s.byte.1 then s.byte.2.fail else s.byte.2
def getSlotT (s : TS) : Sl × TS := (⟨s.text.1, s.text.2.byte.1, s.text.2.byte.2.byte.1 == 1, (markT s.text.2.byte.2).val.1⟩, (markT s.text.2.byte.2).val.2)
def getStepT (s : TS) : Stp × TS :=
 if s.byte.1 = 1 then (⟨1, 0, (getSlotT s.byte.2).1, []⟩, (getSlotT s.byte.2).2)
 else if s.byte.1 = 2 then (⟨2, s.byte.2.byte.1, slot0, []⟩, s.byte.2.byte.2)
 else if s.byte.1 = 3 then (⟨3, s.byte.2.byte.1, { slot0 with name := s.byte.2.byte.2.text.1 }, []⟩, s.byte.2.byte.2.text.2)
 else if s.byte.1 = 4 then (⟨4, s.byte.2.byte.1, { slot0 with types := s.byte.2.byte.2.byte.1 }, []⟩, s.byte.2.byte.2.byte.2)
 else if s.byte.1 = 5 then (⟨5, 0, slot0, (tlist TS.byte 9 s.byte.2).1⟩, (tlist TS.byte 9 s.byte.2).2)
 else (⟨s.byte.1, 0, slot0, []⟩, s.byte.2)
def getTmT (s : TS) : Tm × TS :=
 (⟨s.text.1, (tlist getSlotT 9 s.text.2).1, (tlist getStepT 9 (tlist getSlotT 9 s.text.2).2).1⟩, (tlist getStepT 9 (tlist getSlotT 9 s.text.2).2).2)
def readT (s : TS) : Option (List Tm) × TS :=
 if (tlist getTmT 7 s).2.bad = true ∨ right (tlist getTmT 7 s).1 = false then (none, (tlist getTmT 7 s).2) else (some (tlist getTmT 7 s).1, (tlist getTmT 7 s).2)
def Stk {α : Type} (g : TS → α × TS) : Prop := ∀ t, t.Ok → (g t).2.Ok ∧ (t.bad = true → (g t).2.bad = true)
def SimP {α : Type} (P : α → Prop) (f : RS → α × RS) (g : TS → α × TS) : Prop := Stk g ∧ ∀ s t, Sim s t → ((f s).1 = (g t).1 ∧ Sim (f s).2 (g t).2) ∨ ((g t).2.bad = true ∧ P (f s).1)
theorem stk_of {α : Type} {f : RS → α × RS} {g : TS → α × TS} (h : SimF f g) (hb : ∀ s, s.bad = true → (f s).2.bad = true) : Stk g := fun t ht => by
 have h1 := h (TS.rs_sim ht)
 refine ⟨h1.2.1, fun hq => ?_⟩
 rw [← h1.2.2.1]
 exact hb _ hq
theorem byte_bad (s : RS) (h : s.bad = true) : s.byte.2.bad = true := by unfold RS.byte; rw [if_pos h]; rfl
theorem rnum_bad (s : RS) (h : s.bad = true) : s.rnum.2.bad = true := by unfold RS.rnum; rw [if_pos (.inl h)]; rfl
theorem text_bad (s : RS) (h : s.bad = true) : s.text.2.bad = true := by
 unfold RS.text RS.textN
 rw [if_pos (.inl (rnum_bad s h))]; rfl
theorem val_bad (s : RS) (h : s.bad = true) : s.val.2.bad = true := by unfold RS.val; rw [if_pos h]; exact h
theorem stk_byte : Stk TS.byte := stk_of sim_byte byte_bad
theorem stk_rnum : Stk TS.rnum := stk_of sim_rnum rnum_bad
theorem stk_text : Stk TS.text := stk_of sim_text text_bad
theorem stk_val : Stk TS.val := stk_of sim_val val_bad
theorem stk_mark {t : TS} (h : t.Ok) : (markT t).Ok ∧ (t.bad = true → (markT t).bad = true) := by
 have h1 := stk_byte t h
 unfold markT
 split
 · exact ⟨h1.1, fun _ => rfl⟩
 · exact h1
theorem stk_list {α : Type} {g : TS → α × TS} (h : Stk g) : ∀ n, Stk (rdT g n)
 | 0, t, ht => ⟨ht, id⟩
 | n + 1, t, ht => by
  rw [rdT]
  split
  · exact ⟨ht, id⟩
  · rename_i hb
    have h1 := h t ht
    exact ⟨(stk_list h n _ h1.1).1, fun hq => absurd hq hb⟩
theorem stk_tlist {α : Type} {g : TS → α × TS} (h : Stk g) (k : Int) : Stk (tlist g k) := fun t ht => by
 have h1 := stk_rnum t ht
 have h2 := stk_list h (if k < t.rnum.1 then k else t.rnum.1).toNat _ h1.1
 exact ⟨h2.1, fun hb => h2.2 (h1.2 hb)⟩
theorem stk_slot : Stk getSlotT := fun t ht => by
 have h1 := stk_text t ht
 have h2 := stk_byte _ h1.1
 have h3 := stk_mark h2.1
 have h4 := stk_val _ h3.1
 exact ⟨h4.1, fun hb => h4.2 (h3.2 (h2.2 (h1.2 hb)))⟩
theorem stk_step : Stk getStepT := fun t ht => by
 have h1 := stk_byte t ht
 have h2 := stk_slot _ h1.1
 have h3 := stk_byte _ h1.1
 have h4 := stk_text _ h3.1
 have h5 := stk_byte _ h3.1
 have h6 := stk_tlist stk_byte 9 _ h1.1
 unfold getStepT
 split
 · exact ⟨h2.1, fun hb => h2.2 (h1.2 hb)⟩
 split
 · exact ⟨h3.1, fun hb => h3.2 (h1.2 hb)⟩
 split
 · exact ⟨h4.1, fun hb => h4.2 (h3.2 (h1.2 hb))⟩
 split
 · exact ⟨h5.1, fun hb => h5.2 (h3.2 (h1.2 hb))⟩
 split
 · exact ⟨h6.1, fun hb => h6.2 (h1.2 hb)⟩
 · exact ⟨h1.1, h1.2⟩
theorem stk_tm : Stk getTmT := fun t ht => by
 have h1 := stk_text t ht
 have h2 := stk_tlist stk_slot 9 _ h1.1
 have h3 := stk_tlist stk_step 9 _ h2.1
 exact ⟨h3.1, fun hb => h3.2 (h2.2 (h1.2 hb))⟩
def PSl (s : Sl) : Prop := s.name = ⟨#[]⟩
def PSt (p : Stp) : Prop := p.kind = 1 ∧ PSl p.slot
def PL {α : Type} (P : α → Prop) (l : List α) : Prop := ∃ x ∈ l, P x
def PTm (t : Tm) : Prop := PL PSl t.slots ∨ PL PSt t.steps
theorem sim_list {α : Type} {P : α → Prop} {f : RS → α × RS} {g : TS → α × TS} (h : SimP P f g) : ∀ n, SimP (PL P) (rdL f n) (rdT g n)
 | 0 => ⟨stk_list h.1 0, fun s t hs => .inl ⟨rfl, hs⟩⟩
 | n + 1 => ⟨stk_list h.1 _, fun s t hs => by
  rw [rdL, rdT, hs.2.1]
  split
  · exact .inl ⟨rfl, hs⟩
  · rename_i hb
    rcases h.2 s t hs with ⟨h1, h2⟩ | ⟨h1, h2⟩
    · rcases (sim_list h n).2 _ _ h2 with ⟨h3, h4⟩ | ⟨h3, x, hx, hp⟩
      · exact .inl ⟨by rw [h1, h3], h4⟩
      · exact .inr ⟨h3, x, List.mem_cons_of_mem _ hx, hp⟩
    · exact .inr ⟨((stk_list h.1 n) _ (h.1 t hs.1).1).2 h1, _, List.mem_cons_self .., h2⟩⟩
theorem sim_rlist {α : Type} {P : α → Prop} {f : RS → α × RS} {g : TS → α × TS} (h : SimP P f g) (k : Int) : SimP (PL P) (rlist f k) (tlist g k) := ⟨stk_tlist h.1 k, fun s t hs => by
 have h1 := sim_rnum hs
 unfold rlist tlist
 rw [h1.1]
 exact (sim_list h _).2 _ _ h1.2⟩
theorem simp_of {α : Type} {f : RS → α × RS} {g : TS → α × TS} (h : SimF f g) (hs : Stk g) : SimP (fun _ => False) f g := ⟨hs, fun _ _ k => .inl (h k)⟩
theorem sim_slot : SimP PSl getSlot getSlotT := ⟨stk_slot, fun s t hs => by
 have h1 := sim_text hs
 have h2 := sim_byte h1.2
 have h3 := sim_byte h2.2
 unfold getSlot getSlotT markT
 rw [h1.1, h2.1, h3.1]
 by_cases hq : 1 < t.text.2.byte.2.byte.1
 · rw [if_pos hq, if_pos hq]
   refine .inr ⟨(stk_val _ ?_).2 rfl, rfl⟩
   exact h3.2.1
 · rw [if_neg hq, if_neg hq]
   have h4 := sim_val h3.2
   rw [h4.1]
   exact .inl ⟨rfl, h4.2⟩⟩
theorem sim_step : SimP PSt getStep getStepT := ⟨stk_step, fun s t hs => by
 have h1 := sim_byte hs
 have h3 := sim_byte h1.2
 have h4 := sim_text h3.2
 have h5 := sim_byte h3.2
 unfold getStep getStepT
 rw [h1.1]
 split
 · rcases sim_slot.2 _ _ h1.2 with ⟨k1, k2⟩ | ⟨k1, k2⟩
   · rw [k1]; exact .inl ⟨rfl, k2⟩
   · exact .inr ⟨k1, rfl, k2⟩
 split
 · rw [h3.1]; exact .inl ⟨rfl, h3.2⟩
 split
 · rw [h3.1, h4.1]; exact .inl ⟨rfl, h4.2⟩
 split
 · rw [h3.1, h5.1]; exact .inl ⟨rfl, h5.2⟩
 split
 · rcases (sim_rlist (simp_of sim_byte stk_byte) 9).2 _ _ h1.2 with ⟨k1, k2⟩ | ⟨-, x, -, k⟩
   · rw [k1]; exact .inl ⟨rfl, k2⟩
   · exact k.elim
 · exact .inl ⟨rfl, h1.2⟩⟩
theorem sim_tm : SimP PTm getTm getTmT := ⟨stk_tm, fun s t hs => by
 have h1 := sim_text hs
 unfold getTm getTmT
 rw [h1.1]
 rcases (sim_rlist sim_slot 9).2 _ _ h1.2 with ⟨k1, k2⟩ | ⟨k1, k2⟩
 · rw [k1]
   rcases (sim_rlist sim_step 9).2 _ _ k2 with ⟨m1, m2⟩ | ⟨m1, m2⟩
   · rw [m1]; exact .inl ⟨rfl, m2⟩
   · exact .inr ⟨m1, .inr m2⟩
 · refine .inr ⟨?_, .inl k2⟩
   have h2 := (stk_tlist stk_slot 9) _ h1.2.1
   exact ((stk_tlist stk_step 9) _ h2.1).2 k1⟩
theorem sound_name {s : Sl} (h : Sch.sound s = true) : ¬ PSl s := fun hp => by
 unfold Sch.sound at h
 rw [Bool.and_eq_true, Bool.and_eq_true] at h
 have := h.1.1
 rw [hp] at this
 exact absurd this (by decide)
end Reg
end Go.Proofs.YtgcienlfpnpbgaaGreat
end
section
namespace Go.Proofs.YtgcienlfpnpbgaaGreat
attribute [local push_cast] encB encI TS.cells TS.fail V.cells_mk V.cells_len Nat.mul_one Int.sub_zero List.map_nil beq_self_eq_true bne_self_eq_false List.head?_cons
open Go.RowKit B
set_option maxHeartbeats 16000000
set_option maxRecDepth 10000
theorem ref13GetSlotF (rb : Nat) (t : TS) (ht : t.Ok) (st : St) : TrF Tryz.prog 83 [.ptr rb 0] (rfR rb t :: st) fun x st' => x = .agg (Reg.getSlotT t).1.cells ∧ st' = rfR rb (Reg.getSlotT t).2 :: st := by
 have hT := rfTextF rb t ht
 have o1 := (Reg.stk_text t ht).1
 have hB1 := rfByteF rb t.text.2 o1
 have o2 := (Reg.stk_byte _ o1).1
 have hB2 := rfByteF rb t.text.2.byte.2 o2
 have o3 := (Reg.stk_mark o2).1
 have hV := rfValG rb (Reg.markT t.text.2.byte.2) o3
 unfold Reg.getSlotT
 clear o1 o2 o3 ht
 unfold Reg.markT at *
 generalize t.text = q1 at *
 obtain ⟨nm, t1⟩ := q1
 dsimp only at *
 generalize t1.byte = q2 at *
 obtain ⟨ty, t2⟩ := q2
 dsimp only at *
 generalize t2.byte = q3 at *
 obtain ⟨rq, o3, l3, a3, bd3⟩ := q3
 dsimp only at *
 by_cases h1 : 1 < rq
 · rw [if_pos h1] at hV ⊢
   generalize TS.val _ = q4 at *
   obtain ⟨⟨k, n, sv, lv⟩, t4⟩ := q4
   dsimp only at *
   rw [V.cells_mk] at hV
   rw [Sl.cells_mk]
   generalize lv.map V.cells = VL at *
   replace hT := Lib.hid hT
   replace hB1 := Lib.hid hB1
   replace hB2 := Lib.hid hB2
   replace hV := Lib.hid hV
   have h2 : (rq == 1) = false := beq_eq_false_iff_ne.2 (by omega)
   refine QinC 2 75 Tryz.func83 Tryz.ntmps83 ?_
   repeat' (first | (with_reducible first | refine Q1 ?_ | refine Qe ?_ | refine QQ ?_ | (refine al_go ?_; intro b) | (refine QD ?_ <;> (try constructor) <;> intro hb <;> try intro hb1) | fail) | refine QR Tryz.call82 hT.out ?_ | refine QR Tryz.call84 hB1.out ?_ | refine QR Tryz.call84 hB2.out ?_ | refine QR Tryz.call131 hV.out ?_ | fail)
   all_goals exact QretC
 · rw [if_neg h1] at hV ⊢
   generalize TS.val _ = q4 at *
   obtain ⟨⟨k, n, sv, lv⟩, t4⟩ := q4
   dsimp only at *
   rw [V.cells_mk] at hV
   rw [Sl.cells_mk]
   generalize lv.map V.cells = VL at *
   replace hT := Lib.hid hT
   replace hB1 := Lib.hid hB1
   replace hB2 := Lib.hid hB2
   replace hV := Lib.hid hV
   refine QinC 2 75 Tryz.func83 Tryz.ntmps83 ?_
   repeat' (first | (with_reducible first | refine Q1 ?_ | refine Qe ?_ | refine QQ ?_ | (refine al_go ?_; intro b) | (refine QD ?_ <;> (try constructor) <;> intro hb <;> try intro hb1) | fail) | refine QR Tryz.call82 hT.out ?_ | refine QR Tryz.call84 hB1.out ?_ | refine QR Tryz.call84 hB2.out ?_ | refine QR Tryz.call131 hV.out ?_ | fail)
   all_goals exact QretC
end Go.Proofs.YtgcienlfpnpbgaaGreat
end
section
namespace Go.Proofs.YtgcienlfpnpbgaaGreat
set_option linter.unusedSimpArgs false
attribute [local push_cast] encB encI encBs V.cells_mk V.cells_take V.cells_len Nat.mul_one Int.sub_zero
open Go.RowKit B
set_option maxRecDepth 10000
set_option maxHeartbeats 4000000
end Go.Proofs.YtgcienlfpnpbgaaGreat
end
section
namespace Go.Proofs.YtgcienlfpnpbgaaGreat
set_option linter.unusedSimpArgs false
attribute [local push_cast] encB encI encBs V.cells_mk V.cells_take V.cells_len Nat.mul_one Int.sub_zero
open Go.RowKit B
set_option maxRecDepth 10000
set_option maxHeartbeats 4000000
end Go.Proofs.YtgcienlfpnpbgaaGreat
end
section
namespace Go.Proofs.YtgcienlfpnpbgaaGreat
attribute [local push_cast] encB encI encC encBs V.cells_mk V.cells_len Nat.mul_one Int.sub_zero List.map_nil beq_self_eq_true bne_self_eq_false List.head?_cons
open Go.RowKit B
set_option maxHeartbeats 8000000
set_option maxRecDepth 10000
namespace Reg
end Reg
end Go.Proofs.YtgcienlfpnpbgaaGreat
end
section
namespace Go.Proofs.YtgcienlfpnpbgaaGreat
attribute [local push_cast] encB encI encC encBs V.cells_mk V.cells_len Nat.mul_one Int.sub_zero List.map_nil beq_self_eq_true bne_self_eq_false List.head?_cons
open Go.RowKit B
set_option maxHeartbeats 16000000
set_option maxRecDepth 10000
namespace Reg
def upTo {α : Type} (f : α → List UInt8) (X : List UInt8) (l : List α) (i : Nat) : List UInt8 := X ++ ((l.take i).map f).flatten
end Reg
end Go.Proofs.YtgcienlfpnpbgaaGreat
end
section
namespace Go.Proofs.YtgcienlfpnpbgaaGreat
attribute [local push_cast] encB encI encC V.cells_mk V.cells_len Nat.mul_one Int.sub_zero List.map_nil beq_self_eq_true bne_self_eq_false List.head?_cons
open Go.RowKit B
set_option maxHeartbeats 8000000
set_option maxRecDepth 10000
namespace Reg
structure KnR (t : Tm) : Prop where
 q : TQ t
 r : TmR t
end Reg
end Go.Proofs.YtgcienlfpnpbgaaGreat
end
section
namespace Go.Proofs.YtgcienlfpnpbgaaGreat
open Go.RowKit B
set_option maxHeartbeats 4000000
namespace Reg
theorem step_sound {x y : Vr} {s : Stp} (h : Sch.stepV x s = some y) (hk : s.kind = 1) : Sch.sound s.slot = true := by
 unfold Sch.stepV at h
 rw [if_pos hk] at h
 unfold Sch.addS at h
 split at h
 · rename_i hc
   exact hc.2.2.2.1
 · cases h
theorem versL_sound : ∀ (l : List Stp) (x : Vr), (Sch.versL x l).length = l.length → ∀ s ∈ l, s.kind = 1 → Sch.sound s.slot = true
 | [], _, _, _, h, _ => by cases h
 | a :: l, x, hl, s, hs, hk => by
  rw [Sch.versL] at hl
  cases hv : Sch.stepV x a with
  | none => rw [hv] at hl; cases hl
  | some y =>
   rw [hv] at hl
   rcases List.mem_cons.1 hs with rfl | hs
   · exact step_sound hv hk
   · exact versL_sound l y (by simpa using hl) s hs hk
theorem last_sound {t : Tm} (h : 0 < Sch.last t) : ¬ PTm t := by
 have h1 : (Sch.vers t).length = t.steps.length + 1 := by
  unfold Sch.last at h
  split at h
  · assumption
  · omega
 unfold Sch.vers at h1
 cases hf : Sch.firstV t with
 | none => rw [hf] at h1; cases h1
 | some x =>
  rw [hf] at h1
  have h2 : (Sch.versL x t.steps).length = t.steps.length := by simpa using h1
  rintro (⟨s, hs, hp⟩ | ⟨s, hs, hk, hp⟩)
  · unfold Sch.firstV at hf
    split at hf
    · exact sound_name (Sch.firstL_good _ _ _ hf s hs) hp
    · cases hf
  · exact sound_name (versL_sound _ _ h2 s hs hk) hp
theorem poison_right {L : List Tm} (h : PL PTm L) : right L = false := by
 obtain ⟨t, ht, hp⟩ := h
 cases hr : right L with
 | false => rfl
 | true => exact absurd hp (last_sound ((right_iff.1 hr).2.1 t ht))
theorem read_sim {s : RS} {t : TS} (h : Sim s t) : (read s).1 = (readT t).1 ∧ ((read s).1.isSome = true → Sim (read s).2 (readT t).2) := by
 unfold read readT
 rcases (sim_rlist sim_tm 7).2 _ _ h with ⟨k1, k2⟩ | ⟨k1, k2⟩
 · rw [k1, k2.2.1]
   split
   · exact ⟨rfl, fun h => by cases h⟩
   · exact ⟨rfl, fun _ => k2⟩
 · rw [if_pos (.inr (poison_right k2)), if_pos (.inl k1)]
   exact ⟨rfl, fun h => by cases h⟩
def All {α : Type} (Q : α → Prop) (f : RS → α × RS) : Prop := ∀ s, s.l.length ≤ 1000000 → Q (f s).1 ∧ (f s).2.l.length ≤ s.l.length
theorem all_of {α : Type} {P : α → Prop} {c : α → Nat} {f : RS → α × RS} (h : Good P c f) : All P f := fun s hs => ⟨(h s hs).1, (h s hs).2.1⟩
theorem all_val : All VQ RS.val := fun s hs => by
 have h1 := good_value 4 s hs
 have hz : VQ V.zero := ⟨.mk (by omega) (by omega) (Nat.zero_le _) (Nat.zero_le _) (fun x h => by cases h), by decide, by decide⟩
 unfold RS.val
 split
 · exact ⟨hz, Nat.le_refl _⟩
 split
 · exact ⟨hz, Nat.zero_le _⟩
 · rename_i hq
   have hr : (RS.value 4 s).1.right = true := by
    cases h : (RS.value 4 s).1.right with
    | true => rfl
    | false => exact absurd (.inr h) hq
   have h2 := V.right_iff.1 hr
   exact ⟨⟨h1.1, by have := h2.2.2; omega, by have := h2.2.1; omega⟩, h1.2.1⟩
theorem all_rdL {α : Type} {Q : α → Prop} {f : RS → α × RS} (h : All Q f) : ∀ n s, s.l.length ≤ 1000000 → (∀ x ∈ (rdL f n s).1, Q x) ∧ (rdL f n s).2.l.length ≤ s.l.length
 | 0, s, _ => ⟨(fun x h => by cases h), Nat.le_refl _⟩
 | n + 1, s, hs => by
  rw [rdL]
  split
  · exact ⟨(fun x h => by cases h), Nat.le_refl _⟩
  · have h1 := h s hs
    have h2 := all_rdL h n (f s).2 (by omega)
    refine ⟨fun x hx => ?_, by dsimp only; omega⟩
    rcases List.mem_cons.1 hx with rfl | hx
    · exact h1.1
    · exact h2.1 x hx
theorem all_rlist {α : Type} {Q : α → Prop} {f : RS → α × RS} (h : All Q f) (k : Int) : All (fun l => (∀ x ∈ l, Q x) ∧ l.length ≤ k.toNat) (rlist f k) := fun s hs => by
 have h1 := (good_rnum s hs).2.1
 have h2 := all_rdL h (if k < s.rnum.1 then k else s.rnum.1).toNat s.rnum.2 (by omega)
 exact ⟨⟨h2.1, rlist_len f k s⟩, by unfold rlist; omega⟩
def QSl (s : Sl) : Prop := VQ s.dv ∧ (-9223372036854775808 ≤ s.types ∧ s.types ≤ 9223372036854775807)
def QSt (s : Stp) : Prop := VQ s.slot.dv ∧ (-9223372036854775808 ≤ s.slot.types ∧ s.slot.types ≤ 9223372036854775807) ∧ s.order.length ≤ 1000
theorem all_slot : All QSl getSlot := fun s hs => by
 have h1 := (good_text s hs).2.1
 have h2 := good_byte s.text.2 (by omega)
 have h3 := (good_byte s.text.2.byte.2 (by omega)).2.1
 have h4 := all_val s.text.2.byte.2.byte.2 (by omega)
 exact ⟨⟨h4.1, by have := h2.1; unfold getSlot; dsimp only; omega⟩, by unfold getSlot; dsimp only; omega⟩
theorem slot0_q : QSl slot0 := ⟨⟨.mk (by omega) (by omega) (Nat.zero_le _) (Nat.zero_le _) (fun x h => by cases h), by decide, by decide⟩, by decide, by decide⟩
theorem all_step : All QSt getStep := fun s hs => by
 have h1 := good_byte s hs
 have h2 := all_slot s.byte.2 (by omega)
 have h3 := good_byte s.byte.2 (by omega)
 have h4 := good_text s.byte.2.byte.2 (by omega)
 have h5 := good_byte s.byte.2.byte.2 (by omega)
 have h6 := all_rlist (all_of good_byte) 9 s.byte.2 (by omega)
 have h7 := h6.1.2
 unfold getStep
 split
 · exact ⟨⟨h2.1.1, h2.1.2, Nat.zero_le _⟩, by dsimp only; omega⟩
 split
 · exact ⟨⟨slot0_q.1, slot0_q.2, Nat.zero_le _⟩, by dsimp only; omega⟩
 split
 · exact ⟨⟨slot0_q.1, slot0_q.2, Nat.zero_le _⟩, by dsimp only; omega⟩
 split
 · exact ⟨⟨slot0_q.1, by have := h5.1; dsimp only; omega, Nat.zero_le _⟩, by dsimp only; omega⟩
 split
 · exact ⟨⟨slot0_q.1, slot0_q.2, by dsimp only; omega⟩, by dsimp only; omega⟩
 · exact ⟨⟨slot0_q.1, slot0_q.2, Nat.zero_le _⟩, by dsimp only; omega⟩
def QTm (t : Tm) : Prop := TOk t ∧ TQ t ∧ TmR t
theorem all_tm : All QTm getTm := fun s hs => by
 have h1 := (good_text s hs).2.1
 have h2 := all_rlist all_slot 9 s.text.2 (by omega)
 have h3 := all_rlist all_step 9 (rlist getSlot 9 s.text.2).2 (by omega)
 have k1 : (rlist getSlot 9 s.text.2).1.length ≤ 9 := h2.1.2
 have k2 : (rlist getStep 9 (rlist getSlot 9 s.text.2).2).1.length ≤ 9 := h3.1.2
 refine ⟨⟨⟨?_, ?_, ?_, ?_⟩, ⟨?_, ?_, ?_, ?_⟩, ⟨?_, ?_, ?_, ?_⟩⟩, by unfold getTm; dsimp only; omega⟩ <;> unfold getTm <;> dsimp only
 · omega
 · omega
 · exact fun x hx => (h2.1.1 x hx).1.nodes
 · exact fun x hx => ⟨(h3.1.1 x hx).1.nodes, (h3.1.1 x hx).1.ok.bg, (h3.1.1 x hx).2.2⟩
 · omega
 · omega
 · exact fun x hx => h2.1.1 x hx
 · exact fun x hx => h3.1.1 x hx
 · omega
 · omega
 · exact fun x hx => (h2.1.1 x hx).1.ok
 · exact fun x hx => (h3.1.1 x hx).1.ok
theorem read_known {s : RS} (hs : s.l.length ≤ 1000000) : (∀ t ∈ (rlist getTm 7 s).1, QTm t) ∧ (rlist getTm 7 s).1.length ≤ 7 := (all_rlist all_tm 7 s hs).1
end Reg
end Go.Proofs.YtgcienlfpnpbgaaGreat
end
section
namespace Go.Proofs.YtgcienlfpnpbgaaGreat
set_option linter.unusedSimpArgs false
attribute [local push_cast] encB encI TS.cells TS.fail V.cells_mk V.cells_len Nat.mul_one Int.sub_zero List.map_nil beq_self_eq_true bne_self_eq_false List.head?_cons
open Go.RowKit B
set_option maxRecDepth 10000
set_option maxHeartbeats 32000000
section
variable {P : Program} {N : Nat} {r : Option Nat} {A : AA} {st : St} {Q : Exit → AA → St → Prop}
theorem tr_cutF (id : Nat) (K : AA → St → Prop) {ops : Array Oper} {b : Bool} {y c : Code} (h1 : Tr P N r (.seq (.region id ops b) y) A st (thenA K fun _ _ _ => False)) (h2 : ∀ A' st', K A' st' → Tr P N r c A' st' Q) : Tr P N r (.seq (.seq (.region id ops b) y) c) A st Q :=
 tr_seq (tr_mono h1 fun ex A' st' h => by
  cases ex with
  | normal => exact h2 A' st' h
  | exit id => exact h.elim
  | goto l => exact h.elim
  | ret => exact h.elim
  | panic c => exact h.elim
  | outgrown => exact h.elim)
theorem tr_cutE (id : Nat) (K : AA → St → Prop) {ops : Array Oper} {y : Code} (h1 : W P r none ops (fun A' st' => Tr P N r y A' st' (thenA K fun _ _ _ => False)) ops.toList A st) (h2 : ∀ A' st', K A' st' → Q .normal A' st') (hok : opsOk N ops.toList = true := by kernel_rfl) : Tr P N r (.seq (.region id ops false) y) A st Q :=
 tr_mono (Q := thenA K fun _ _ _ => False) (tr_seq (w_region (l := ops.toList) hok h1)) fun ex A' st' h => by
  cases ex with
  | normal => exact h2 A' st' h
  | exit id => exact h.elim
  | goto l => exact h.elim
  | ret => exact h.elim
  | panic c => exact h.elim
  | outgrown => exact h.elim
end
namespace Reg
theorem rdT_step {α : Type} {g : TS → α × TS} {m i : Nat} {t : TS} (h : i < m) (hb : t.bad = false) : rdT g (m - i) t = ((g t).1 :: (rdT g (m - (i + 1)) (g t).2).1, (rdT g (m - (i + 1)) (g t).2).2) := by
 rw [show m - i = (m - (i + 1)) + 1 by omega, rdT, hb, if_neg Bool.false_ne_true]
theorem rdT_bad {α : Type} {g : TS → α × TS} {n : Nat} {t : TS} (hb : t.bad = true) : rdT g n t = ([], t) := by
 cases n with
 | zero => rfl
 | succ n => rw [rdT, hb, if_pos rfl]
theorem rdT_end {α : Type} {g : TS → α × TS} {m : Nat} {t : TS} : rdT g (m - m) t = ([], t) := by rw [Nat.sub_self]; rfl
theorem lim {k n : Int} (hk : 0 ≤ k) (hn : 0 ≤ n) : ∃ m : Nat, (if k < n then k else n).toNat = m ∧ (m : Int) ≤ k ∧ ∀ i : Nat, (i < m ↔ ((i : Int) < n ∧ (i : Int) < k)) := by
 refine ⟨_, rfl, ?_, fun i => ?_⟩ <;> split <;> omega
theorem lim0 {k n : Int} {m i : Nat} (h : ∀ i : Nat, (i < m ↔ ((i : Int) < n ∧ (i : Int) < k))) (hi : ¬ i < m) : ¬ (i : Int) < n ∨ ((i : Int) < n ∧ ¬ (i : Int) < k) := by
 by_cases h1 : (i : Int) < n
 · exact .inr ⟨h1, fun h2 => hi ((h i).2 ⟨h1, h2⟩)⟩
 · exact .inl h1
end Reg
theorem ref13ReadF (rb : Nat) (t : TS) (ht : t.Ok) (hQ : (Reg.tlist Reg.getTmT 7 t).2.bad = false → ∀ x ∈ (Reg.tlist Reg.getTmT 7 t).1, TQ x) (st : St) : TrF Tryz.prog 29 [.ptr rb 0] (rfR rb t :: st) fun x st' => x = .tup [.sl .shared (((Reg.readT t).1.getD []).map Tm.cells), .b (Reg.readT t).1.isSome] ∧ st' = rfR rb (Reg.readT t).2 :: st := by
 have hR : (Reg.tlist Reg.getTmT 7 t).2.bad = false → ∀ st, TrF Tryz.prog 17 [.sl .shared ((Reg.tlist Reg.getTmT 7 t).1.map Tm.cells)] st fun d st' => d = .b (Reg.right (Reg.tlist Reg.getTmT 7 t).1) ∧ st' = st := fun hb => ref13RightF _ (hQ hb) (by
  have : ∀ (n : Nat) (t : TS), (Reg.rdT Reg.getTmT n t).1.length ≤ n := fun n => by
   induction n with
   | zero => intro t; exact Nat.le_refl _
   | succ n ih =>
    intro t
    rw [Reg.rdT]
    split
    · exact Nat.zero_le _
    · have := ih (Reg.getTmT t).2
      rw [List.length_cons]; omega
  have := this (if 7 < t.rnum.1 then 7 else t.rnum.1).toNat t.rnum.2
  unfold Reg.tlist
  have h7 : (if 7 < t.rnum.1 then 7 else t.rnum.1).toNat ≤ 7 := by split <;> omega
  omega)
 unfold Reg.readT
 have hN0 := rfNumF rb t ht
 have o0 := (Reg.stk_rnum t ht).1
 obtain ⟨m, hm, hm7, hlim⟩ := Reg.lim (k := 7) (by omega) (TS.rnum_pos t)
 have hres : Reg.tlist Reg.getTmT 7 t = Reg.rdT Reg.getTmT (m - 0) t.rnum.2 := by unfold Reg.tlist; rw [hm, Nat.sub_zero]
 obtain ⟨res, hre⟩ : ∃ r, Reg.tlist Reg.getTmT 7 t = r := ⟨_, rfl⟩
 rw [hre] at hR hres ⊢
 clear hre hm hQ
 generalize t.rnum = q at *
 obtain ⟨n, t0⟩ := q
 dsimp only at *
 have hE : Hid ([] ++ (Reg.rdT Reg.getTmT (m - 0) t0).1 = res.1 ∧ (Reg.rdT Reg.getTmT (m - 0) t0).2 = res.2) := Lib.hid (by rw [← hres]; exact ⟨rfl, rfl⟩)
 clear hres
 replace hN0 := Lib.hid hN0
 replace hlim := Lib.hid hlim
 have hNum := Lib.hid fun t h => rfNumF rb t h
 have hTex := Lib.hid fun t h => rfTextF rb t h
 have hByt := Lib.hid fun t h => rfByteF rb t h
 have hSlo := Lib.hid fun t h => ref13GetSlotF rb t h
 refine Qin [2,3] Tryz.func29 Tryz.results29 Tryz.ntmps29 ?_
 refine tr_room 36 3 (([] : List Tm).map Tm.cells).length ?_
 repeat' (first | (with_reducible first | refine Q1 ?_ | refine Qe ?_ | fail) | (refine tr_cutF 3 (fun A' st' => A'.df = [] ∧ A'.e 0 = .ptr rb 0 ∧ ∃ o', A'.e 4 = .sl o' (res.1.map Tm.cells) ∧ st' = .room o' 36 3 (res.1.map Tm.cells).length :: rfR rb res.2 :: st) ?_ ?_) | (with_reducible first | refine QQ ?_ | (refine al_go ?_; intro b) | (refine Qa ?_; intro o' ho') | (refine Qp ?_; intro o' ho') | (refine QD ?_ <;> (try constructor) <;> intro hb <;> try intro hb1) | fail) | fail)
 rotate_left
 · clear hNum hTex hByt hSlo hN0 hE hlim
   rintro A st' ⟨hdf, e0, o', e4, rfl⟩
   obtain ⟨L, o2, l2, a2, b2⟩ := res
   dsimp only at *
   cases b2 with
   | true =>
    rw [if_pos (.inl rfl)]
    clear hR
    dsimp only [Option.getD, Option.isSome]
    generalize L.map Tm.cells = LS at *
    exact WRa
   | false =>
    replace hR := hR rfl
    generalize Reg.right L = qr at *
    cases qr with
    | false =>
     rw [if_pos (.inr rfl)]
     dsimp only [Option.getD, Option.isSome]
     generalize L.map Tm.cells = LS at *
     replace hR := Lib.hid hR
     repeat' (first | (with_reducible first | refine Q1 ?_ | refine Qe ?_ | refine QQ ?_ | (refine al_go ?_; intro b) | (refine Qa ?_; intro o' ho') | (refine Qp ?_; intro o' ho') | (refine QD ?_ <;> (try constructor) <;> intro hb <;> try intro hb1) | fail) | refine QL Tryz.call17 (hR.out _) ?_ | fail)
     all_goals exact Qret
    | true =>
     rw [if_neg (by rintro (h | h) <;> cases h)]
     dsimp only [Option.getD, Option.isSome]
     generalize L.map Tm.cells = LS at *
     replace hR := Lib.hid hR
     repeat' (first | (with_reducible first | refine Q1 ?_ | refine Qe ?_ | refine QQ ?_ | (refine al_go ?_; intro b) | (refine Qa ?_; intro o' ho') | (refine Qp ?_; intro o' ho') | (refine QD ?_ <;> (try constructor) <;> intro hb <;> try intro hb1) | fail) | refine QL Tryz.call17 (hR.out _) ?_ | fail)
     all_goals exact Qret
 clear hN0 hR
 refine tr_loopd (ι := Nat) (fun i A st' => i ≤ m ∧ A.df = [] ∧ A.e 0 = .ptr rb 0 ∧ A.e 5 = .i n ∧ A.e 6 = .i i ∧ ∃ o' L t, o' ≠ .shared ∧ TS.Ok t ∧ L.length ≤ i ∧ Hid (L ++ (Reg.rdT Reg.getTmT (m - i) t).1 = res.1 ∧ (Reg.rdT Reg.getTmT (m - i) t).2 = res.2) ∧ A.e 4 = .sl o' (L.map Tm.cells) ∧ st' = .room o' 36 3 (L.map Tm.cells).length :: rfR rb t :: st) (fun i => m - i) 0 ⟨Nat.zero_le _, Qf, Qf, Qf, Qf, .tight, [], t0, by decide, o0, Nat.zero_le _, hE, Qf, rfl⟩ ?_
 clear hE o0
 rintro i A st' ⟨hi, hdf, e0, e5, e6, oL, L, t, hoL, hok, hLi, hE, e4, rfl⟩
 have hLc : (L.map Tm.cells).length = L.length := List.length_map ..
 by_cases hout : i < m ∧ t.bad = false
 case neg =>
  have hEE := hE.out
  have hres : res.1 = L ∧ res.2 = t := by
   by_cases hb : t.bad = true
   · rw [Reg.rdT_bad hb] at hEE
     exact ⟨hEE.1.symm.trans (List.append_nil _), hEE.2.symm⟩
   · have : i = m := by
      rw [Bool.not_eq_true] at hb
      by_cases h : i < m
      · exact absurd ⟨h, hb⟩ hout
      · omega
     subst this
     rw [Reg.rdT_end] at hEE
     exact ⟨hEE.1.symm.trans (List.append_nil _), hEE.2.symm⟩
  obtain ⟨res1, res2⟩ := res
  obtain ⟨h1, h2⟩ := hres
  dsimp only at h1 h2
  subst h1 h2
  have h4 : (¬ (i : Int) < n ∨ ((i : Int) < n ∧ ¬ (i : Int) < 7)) ∨ ((i : Int) < n ∧ (i : Int) < 7 ∧ res2.bad = true) := by
   by_cases h : i < m
   · refine .inr ⟨((hlim.out i).1 h).1, ((hlim.out i).1 h).2, ?_⟩
     cases hb : res2.bad with
     | true => rfl
     | false => exact absurd ⟨h, hb⟩ hout
   · exact .inl (Reg.lim0 hlim.out h)
  obtain ⟨o2, l2, a2, b2⟩ := res2
  clear hE hEE hout hlim hNum hTex hByt hSlo
  dsimp only at h4
  generalize res1.map Tm.cells = LS at *
  rcases h4 with (h4 | ⟨h4, h5⟩) | ⟨h4, h5, rfl⟩
  all_goals (
   repeat' (with_reducible first | refine Q1 ?_ | refine Qe ?_ | refine QQ ?_ | (refine al_go ?_; intro b) | (refine Qa ?_; intro o' ho') | (refine Qp ?_; intro o' ho') | (refine QD ?_ <;> (try constructor) <;> intro hb <;> try intro hb1) | fail)
   all_goals exact ⟨Qf, Qf, _, Qf, rfl⟩)
 case pos =>
 obtain ⟨hlt, hbad⟩ := hout
 obtain ⟨hin, hi7⟩ := (hlim.out i).1 hlt
 have hEE := hE.out
 rw [Reg.rdT_step hlt hbad] at hEE
 clear hE
 have k1 := Lib.hid (hTex.out t hok)
 have s1 := (Reg.stk_text t hok).1
 have k2 := Lib.hid (hNum.out t.text.2 s1)
 have s2 := (Reg.stk_rnum _ s1).1
 have s3 := (Reg.stk_tlist Reg.stk_slot 9 _ s1).1
 have s4 := (Reg.stk_rnum _ s3).1
 have s5 := (Reg.stk_tlist Reg.stk_step 9 _ s3).1
 have k3 := Lib.hid (Lib.hid (hNum.out _ s3))
 obtain ⟨m2, hm2, hm29, hlim2⟩ := Reg.lim (k := 9) (by omega) (TS.rnum_pos t.text.2)
 obtain ⟨m3, hm3, hm39, hlim3⟩ := Reg.lim (k := 9) (by omega) (TS.rnum_pos (Reg.tlist Reg.getSlotT 9 t.text.2).2)
 have r2 : Reg.tlist Reg.getSlotT 9 t.text.2 = Reg.rdT Reg.getSlotT (m2 - 0) t.text.2.rnum.2 := by unfold Reg.tlist; rw [hm2, Nat.sub_zero]
 have r3 : Reg.tlist Reg.getStepT 9 (Reg.tlist Reg.getSlotT 9 t.text.2).2 = Reg.rdT Reg.getStepT (m3 - 0) (Reg.tlist Reg.getSlotT 9 t.text.2).2.rnum.2 := by
  rw [show Reg.tlist Reg.getStepT 9 (Reg.tlist Reg.getSlotT 9 t.text.2).2 = Reg.rdT Reg.getStepT (if 9 < (Reg.tlist Reg.getSlotT 9 t.text.2).2.rnum.1 then 9 else (Reg.tlist Reg.getSlotT 9 t.text.2).2.rnum.1).toNat (Reg.tlist Reg.getSlotT 9 t.text.2).2.rnum.2 from rfl, hm3, Nat.sub_zero]
 unfold Reg.getTmT at hEE
 clear hm2 hm3
 generalize Reg.tlist Reg.getStepT 9 (Reg.tlist Reg.getSlotT 9 t.text.2).2 = z3 at *
 generalize Reg.tlist Reg.getSlotT 9 t.text.2 = z2 at *
 generalize t.text = z1 at *
 obtain ⟨nm, t1⟩ := z1
 dsimp only at *
 obtain ⟨SS, t2⟩ := z2
 obtain ⟨PP, t3⟩ := z3
 dsimp only at *
 generalize t1.rnum = w1 at *
 obtain ⟨n2, t1'⟩ := w1
 generalize t2.rnum = w2 at *
 obtain ⟨n3, t2'⟩ := w2
 dsimp only at *
 have hE2 : Hid ([] ++ (Reg.rdT Reg.getSlotT (m2 - 0) t1').1 = SS ∧ (Reg.rdT Reg.getSlotT (m2 - 0) t1').2 = t2) := Lib.hid (by rw [← r2]; exact ⟨rfl, rfl⟩)
 have hE3 : Hid ([] ++ (Reg.rdT Reg.getStepT (m3 - 0) t2').1 = PP ∧ (Reg.rdT Reg.getStepT (m3 - 0) t2').2 = t3) := Lib.hid (by rw [← r3]; exact ⟨rfl, rfl⟩)
 clear r2 r3
 replace hlim2 := Lib.hid hlim2
 replace hlim3 := Lib.hid hlim3
 have hE' : Hid ((L ++ [Tm.mk nm SS PP]) ++ (Reg.rdT Reg.getTmT (m - (i + 1)) t3).1 = res.1 ∧ (Reg.rdT Reg.getTmT (m - (i + 1)) t3).2 = res.2) := Lib.hid (by
  refine ⟨?_, hEE.2⟩
  rw [← hEE.1, List.append_assoc]; rfl)
 clear hEE hlim
 obtain ⟨o4, l4, a4, b4⟩ := t
 dsimp only at hbad
 subst hbad
 refine tr_room 75 7 (([] : List Sl).map Sl.cells).length ?_
 refine tr_room 79 10 (([] : List Stp).map Stp.cells).length ?_
 repeat' (first | (with_reducible first | refine Q1 ?_ | refine Qe ?_ | fail) | (refine tr_cutF 9 (fun A' st' => A'.df = [] ∧ A'.e 0 = .ptr rb 0 ∧ A'.e 4 = .sl oL (L.map Tm.cells) ∧ A'.e 5 = .i n ∧ A'.e 6 = .i i ∧ ∃ bt oS, oS ≠ .shared ∧ A'.e 7 = .ptr bt 0 ∧ st' = .box bt 36 [.str nm, .sl oS (SS.map Sl.cells), .sl .tight []] :: .room .tight 79 10 (([] : List Stp).map Stp.cells).length :: .room oS 75 7 (SS.map Sl.cells).length :: .room oL 36 3 (L.map Tm.cells).length :: rfR rb t2 :: st) ?_ ?_) | (with_reducible first | refine QQ ?_ | (refine al_go ?_; intro b) | (refine Qa ?_; intro o' ho') | (refine Qp ?_; intro o' ho') | (refine QD ?_ <;> (try constructor) <;> intro hb <;> try intro hb1) | fail) | fail)
 · revert b
   intro bt
   refine tr_loopd (ι := Nat) (fun k A st' => k ≤ m2 ∧ A.df = [] ∧ A.e 0 = .ptr rb 0 ∧ A.e 4 = .sl oL (L.map Tm.cells) ∧ A.e 5 = .i n ∧ A.e 6 = .i i ∧ A.e 7 = .ptr bt 0 ∧ A.e 8 = .i n2 ∧ A.e 9 = .i k ∧ ∃ oS S t, oS ≠ .shared ∧ TS.Ok t ∧ S.length ≤ k ∧ Hid (S ++ (Reg.rdT Reg.getSlotT (m2 - k) t).1 = SS ∧ (Reg.rdT Reg.getSlotT (m2 - k) t).2 = t2) ∧ st' = .box bt 36 [.str nm, .sl oS (S.map Sl.cells), .sl .tight []] :: .room .tight 79 10 (([] : List Stp).map Stp.cells).length :: .room oS 75 7 (S.map Sl.cells).length :: .room oL 36 3 (L.map Tm.cells).length :: rfR rb t :: st) (fun k => m2 - k) 0 ⟨Nat.zero_le _, Qf, Qf, Qf, Qf, Qf, Qf, Qf, Qf, .tight, [], t1', by decide, s2, Nat.zero_le _, hE2, rfl⟩ ?_
   clear hE2 hE3 k1 k2 k3 hE' hlim3 hTex hdf e0 e4 e5 e6 A s1 s2 s3 s4 s5
   rintro k A st' ⟨hk, hdf, e0, e4, e5, e6, e7, e8, e9, oS, S, t, hoS, hok, hSk, hE, rfl⟩
   have hSc : (S.map Sl.cells).length = S.length := List.length_map ..
   by_cases hout : k < m2 ∧ t.bad = false
   case neg =>
    have hEE := hE.out
    have hres : SS = S ∧ t2 = t := by
     by_cases hb : t.bad = true
     · rw [Reg.rdT_bad hb] at hEE
       exact ⟨hEE.1.symm.trans (List.append_nil _), hEE.2.symm⟩
     · have : k = m2 := by
        rw [Bool.not_eq_true] at hb
        by_cases h : k < m2
        · exact absurd ⟨h, hb⟩ hout
        · omega
       subst this
       rw [Reg.rdT_end] at hEE
       exact ⟨hEE.1.symm.trans (List.append_nil _), hEE.2.symm⟩
    obtain ⟨h1, h2⟩ := hres
    subst h1 h2
    have h4 : (¬ (k : Int) < n2 ∨ ((k : Int) < n2 ∧ ¬ (k : Int) < 9)) ∨ ((k : Int) < n2 ∧ (k : Int) < 9 ∧ t2.bad = true) := by
     by_cases h : k < m2
     · refine .inr ⟨((hlim2.out k).1 h).1, ((hlim2.out k).1 h).2, ?_⟩
       cases hb : t2.bad with
       | true => rfl
       | false => exact absurd ⟨h, hb⟩ hout
     · exact .inl (Reg.lim0 hlim2.out h)
    obtain ⟨o2, l2, a2, b2⟩ := t2
    clear hE hEE hout hlim2 hNum hByt hSlo
    dsimp only at h4
    rcases h4 with (h4 | ⟨h4, h5⟩) | ⟨h4, h5, rfl⟩
    all_goals (
     repeat' (with_reducible first | refine Q1 ?_ | refine Qe ?_ | refine QQ ?_ | (refine al_go ?_; intro b) | (refine Qa ?_; intro o' ho') | (refine Qp ?_; intro o' ho') | (refine QD ?_ <;> (try constructor) <;> intro hb <;> try intro hb1) | fail)
     all_goals exact ⟨Qf, Qf, Qf, Qf, Qf, _, _, hoS, Qf, rfl⟩)
   case pos =>
   obtain ⟨hlt2, hbad⟩ := hout
   obtain ⟨hkn, hk9⟩ := (hlim2.out k).1 hlt2
   have hEE := hE.out
   rw [Reg.rdT_step hlt2 hbad] at hEE
   have k1 := hSlo.out t hok
   have s1 := (Reg.stk_slot t hok).1
   clear hE hlim2 hNum hByt hSlo hok
   generalize Reg.getSlotT t = z at *
   obtain ⟨x, t'⟩ := z
   dsimp only at *
   have hE' : Hid ((S ++ [x]) ++ (Reg.rdT Reg.getSlotT (m2 - (k + 1)) t').1 = SS ∧ (Reg.rdT Reg.getSlotT (m2 - (k + 1)) t').2 = t2) := Lib.hid (by
    refine ⟨?_, hEE.2⟩
    rw [← hEE.1, List.append_assoc]; rfl)
   clear hEE
   obtain ⟨o4, l4, a4, b4⟩ := t
   dsimp only at hbad
   subst hbad
   cases x with
   | mk xn xt xr xd =>
   cases xd with
   | mk k1' n1 sv lv =>
   have hS7 := slots_each S
   have hcx : (S ++ [Sl.mk xn xt xr (.mk k1' n1 sv lv)]).map Sl.cells = S.map Sl.cells ++ [[.str xn, .i xt, .b xr, .i k1', .i n1, .str sv, .sl .shared (lv.map V.cells)]] := by
    rw [List.map_append, List.map_cons, List.map_nil, Sl.cells_mk]
   rw [Sl.cells_mk] at k1
   generalize lv.map V.cells = VL at *
   replace k1 := Lib.hid k1
   repeat' (first | (with_reducible first | refine Q1 ?_ | refine Qe ?_ | fail) | ((with_reducible refine w_draw [(bt, [.str nm, .sl oS (S.map Sl.cells), .sl .tight []])] ?_ ?_ ?_ ?_ ?_); (iterate 3 (focus kernel_rfl)); (focus exact keep_one (by repeat (first | exact mm_h | apply mm_t)))) | ((with_reducible refine And.intro ?_ ?_); (focus exact keep_one (by repeat (first | exact mm_h | apply mm_t)))) | (with_reducible first | refine QQ ?_ | (refine al_go ?_; intro b) | (refine Qa ?_; intro o' ho') | (refine Qp ?_; intro o' ho') | (refine QD ?_ <;> (try constructor) <;> intro hb <;> try intro hb1) | fail) | fail)
   refine ⟨k + 1, .box bt 36 [.str nm, .sl o' ((S ++ [Sl.mk xn xt xr (.mk k1' n1 sv lv)]).map Sl.cells), .sl .tight []] :: .room .tight 79 10 (([] : List Stp).map Stp.cells).length :: .room o' 75 7 ((S ++ [Sl.mk xn xt xr (.mk k1' n1 sv lv)]).map Sl.cells).length :: .room oL 36 3 (L.map Tm.cells).length :: rfR rb t' :: st, ?_, ⟨hlt2, ?_, ?_, ?_, ?_, ?_, ?_, ?_, ?_, o', _, t', by assumption, s1, by rw [List.length_append]; show _ + 1 ≤ _; omega, hE', rfl⟩, by omega⟩
   · rw [hcx]; (repeat (first | exact List.Sublist.refl _ | with_reducible apply List.Sublist.cons_cons | apply List.Sublist.cons))
   all_goals exact Qf
 clear hE2 s2 k1 k2 hlim2 hdf e0 e4 e5 e6 A hin hi7
 rintro A st' ⟨hdf, e0, e4, e5, e6, bt, oS, hoS, e7, rfl⟩
 replace k3 := k3.out
 repeat' (first | (with_reducible first | refine Q1 ?_ | refine Qe ?_ | fail) | (refine tr_cutF 14 (fun A' st' => A'.df = [] ∧ A'.e 0 = .ptr rb 0 ∧ A'.e 4 = .sl oL (L.map Tm.cells) ∧ A'.e 5 = .i n ∧ A'.e 6 = .i i ∧ A'.e 7 = .ptr bt 0 ∧ ∃ oP, oP ≠ .shared ∧ st' = .box bt 36 [.str nm, .sl oS (SS.map Sl.cells), .sl oP (PP.map Stp.cells)] :: .room oP 79 10 (PP.map Stp.cells).length :: .room oS 75 7 (SS.map Sl.cells).length :: .room oL 36 3 (L.map Tm.cells).length :: rfR rb t3 :: st) ?_ ?_) | (with_reducible first | refine QQ ?_ | (refine al_go ?_; intro b) | (refine Qa ?_; intro o' ho') | (refine Qp ?_; intro o' ho') | (refine QD ?_ <;> (try constructor) <;> intro hb <;> try intro hb1) | fail) | fail)
 rotate_left
 · clear hE3 s4 k3 hlim3 hdf e0 e4 e5 e6 e7 A hNum hByt hTex hSlo
   rintro A st' ⟨hdf, e0, e4, e5, e6, e7, oP, hoP, rfl⟩
   have hcx : (L ++ [Tm.mk nm SS PP]).map Tm.cells = L.map Tm.cells ++ [[.str nm, .sl .shared (SS.map Sl.cells), .sl .shared (PP.map Stp.cells)]] := by rw [List.map_append]; rfl
   generalize SS.map Sl.cells = SC at *
   generalize PP.map Stp.cells = PC at *
   repeat' (with_reducible first | refine Q1 ?_ | refine Qe ?_ | refine QQ ?_ | (refine al_go ?_; intro b) | (refine Qa ?_; intro o' ho') | (refine Qp ?_; intro o' ho') | (refine QD ?_ <;> (try constructor) <;> intro hb <;> try intro hb1) | fail)
   refine ⟨i + 1, .room o' 36 3 ((L ++ [Tm.mk nm SS PP]).map Tm.cells).length :: rfR rb t3 :: st, ?_, ⟨hlt, ?_, ?_, ?_, ?_, o', _, t3, by assumption, s5, by rw [List.length_append]; show _ + 1 ≤ _; omega, hE', ?_, rfl⟩, by omega⟩
   · rw [hcx]; (repeat (first | exact List.Sublist.refl _ | with_reducible apply List.Sublist.cons_cons | apply List.Sublist.cons))
   rotate_right 1
   · rw [hcx]; exact Qf
   all_goals exact Qf
 refine tr_loopd (ι := Nat) (fun j A st' => j ≤ m3 ∧ A.df = [] ∧ A.e 0 = .ptr rb 0 ∧ A.e 4 = .sl oL (L.map Tm.cells) ∧ A.e 5 = .i n ∧ A.e 6 = .i i ∧ A.e 7 = .ptr bt 0 ∧ A.e 8 = .i n3 ∧ A.e 10 = .i j ∧ ∃ oP P t, oP ≠ .shared ∧ TS.Ok t ∧ P.length ≤ j ∧ Hid (P ++ (Reg.rdT Reg.getStepT (m3 - j) t).1 = PP ∧ (Reg.rdT Reg.getStepT (m3 - j) t).2 = t3) ∧ st' = .box bt 36 [.str nm, .sl oS (SS.map Sl.cells), .sl oP (P.map Stp.cells)] :: .room oP 79 10 (P.map Stp.cells).length :: .room oS 75 7 (SS.map Sl.cells).length :: .room oL 36 3 (L.map Tm.cells).length :: rfR rb t :: st) (fun j => m3 - j) 0 ⟨Nat.zero_le _, Qf, Qf, Qf, Qf, Qf, Qf, Qf, Qf, .tight, [], t2', by decide, s4, Nat.zero_le _, hE3, rfl⟩ ?_
 clear hE3 s4 k3 hE' s1 s3 s5 hdf e0 e4 e5 e6 e7 A
 rintro j A st' ⟨hj, hdf, e0, e4, e5, e6, e7, e8, e10, oP, P, t, hoP, hok, hPj, hE, rfl⟩
 have hPc : (P.map Stp.cells).length = P.length := List.length_map ..
 have hP10 : ∀ a ∈ P.map Stp.cells, a.length = 10 := fun a ha => by
  obtain ⟨x, -, rfl⟩ := List.mem_map.1 ha
  exact Stp.cells_len2 x
 by_cases hout : j < m3 ∧ t.bad = false
 case neg =>
  have hEE := hE.out
  have hres : PP = P ∧ t3 = t := by
   by_cases hb : t.bad = true
   · rw [Reg.rdT_bad hb] at hEE
     exact ⟨hEE.1.symm.trans (List.append_nil _), hEE.2.symm⟩
   · have : j = m3 := by
      rw [Bool.not_eq_true] at hb
      by_cases h : j < m3
      · exact absurd ⟨h, hb⟩ hout
      · omega
     subst this
     rw [Reg.rdT_end] at hEE
     exact ⟨hEE.1.symm.trans (List.append_nil _), hEE.2.symm⟩
  obtain ⟨h1, h2⟩ := hres
  subst h1 h2
  have h4 : (¬ (j : Int) < n3 ∨ ((j : Int) < n3 ∧ ¬ (j : Int) < 9)) ∨ ((j : Int) < n3 ∧ (j : Int) < 9 ∧ t3.bad = true) := by
   by_cases h : j < m3
   · refine .inr ⟨((hlim3.out j).1 h).1, ((hlim3.out j).1 h).2, ?_⟩
     cases hb : t3.bad with
     | true => rfl
     | false => exact absurd ⟨h, hb⟩ hout
   · exact .inl (Reg.lim0 hlim3.out h)
  obtain ⟨o2, l2, a2, b2⟩ := t3
  clear hE hEE hout hlim3 hNum hByt hTex hSlo
  dsimp only at h4
  generalize SS.map Sl.cells = SC at *
  rcases h4 with (h4 | ⟨h4, h5⟩) | ⟨h4, h5, rfl⟩
  all_goals (
   repeat' (with_reducible first | refine Q1 ?_ | refine Qe ?_ | refine QQ ?_ | (refine al_go ?_; intro b) | (refine Qa ?_; intro o' ho') | (refine Qp ?_; intro o' ho') | (refine QD ?_ <;> (try constructor) <;> intro hb <;> try intro hb1) | fail)
   all_goals exact ⟨Qf, Qf, Qf, Qf, Qf, Qf, _, hoP, rfl⟩)
 case pos =>
 obtain ⟨hlt3, hbad⟩ := hout
 obtain ⟨hjn, hj9⟩ := (hlim3.out j).1 hlt3
 have hEE := hE.out
 rw [Reg.rdT_step hlt3 hbad] at hEE
 have k1 := Lib.hid (hByt.out t hok)
 have s1 := (Reg.stk_byte t hok).1
 clear hE hlim3 hok
 unfold Reg.getStepT at hEE
 generalize t.byte = z at *
 obtain ⟨kind, t1⟩ := z
 dsimp only at *
 have hadd : ∀ (x : Stp) (t' : TS), (P ++ (x, t').1 :: (Reg.rdT Reg.getStepT (m3 - (j + 1)) (x, t').2).1 = PP ∧ (Reg.rdT Reg.getStepT (m3 - (j + 1)) (x, t').2).2 = t3) → Hid ((P ++ [x]) ++ (Reg.rdT Reg.getStepT (m3 - (j + 1)) t').1 = PP ∧ (Reg.rdT Reg.getStepT (m3 - (j + 1)) t').2 = t3) := fun x t' h => Lib.hid (by
  refine ⟨?_, h.2⟩
  rw [← h.1, List.append_assoc]; rfl)
 have hmap : ∀ (x : Stp) (c : List D), x.cells = c → (P ++ [x]).map Stp.cells = P.map Stp.cells ++ [c] := fun x c h => by
  rw [List.map_append, ← h]; rfl
 have hs0 : ∀ k c a b, (Stp.mk k c ⟨a, b, false, V.zero⟩ []).cells = [.i k, .i c, .str a, .i b, .b false, .i 0, .i 0, .str ⟨#[]⟩, .sl .shared [], .sl .shared []] := fun k c a b => by
  unfold V.zero; rw [Stp.cells_mk]; rfl
 have hso : ∀ o : List Int, (Stp.mk 5 0 Reg.slot0 o).cells = [.i 5, .i 0, .str ⟨#[]⟩, .i 0, .b false, .i 0, .i 0, .str ⟨#[]⟩, .sl .shared [], .sl .shared (o.map encI)] := fun o => by
  unfold Reg.slot0 V.zero; rw [Stp.cells_mk]; rfl
 obtain ⟨o4, l4, a4, b4⟩ := t
 dsimp only at hbad
 subst hbad
 generalize hSC : SS.map Sl.cells = SC at *
 clear hSC
 by_cases c1 : kind = 1
 · subst c1
   rw [if_pos rfl] at hEE
   have k2 := hSlo.out t1 s1
   have s2 := (Reg.stk_slot t1 s1).1
   clear hByt hTex hNum hSlo hs0 hso
   generalize Reg.getSlotT t1 = z at *
   obtain ⟨x, t'⟩ := z
   dsimp only at *
   have hE' := hadd _ _ hEE
   clear hEE hadd
   cases x with
   | mk xn xt xr xd =>
   cases xd with
   | mk k1' n1 sv lv =>
   have hcx := hmap _ _ (Stp.cells_mk 1 0 xn xt xr k1' n1 sv lv [])
   rw [List.map_nil] at hcx
   clear hmap
   rw [Sl.cells_mk] at k2
   generalize lv.map V.cells = VL at *
   replace k2 := Lib.hid k2
   repeat' (with_reducible first | refine Q1 ?_ | refine Qe ?_ | refine QQ ?_ | (refine al_go ?_; intro b) | (refine Qa ?_; intro o' ho') | (refine Qp ?_; intro o' ho') | (refine QD ?_ <;> (try constructor) <;> intro hb <;> try intro hb1) | fail)
   refine ⟨j + 1, .box bt 36 [.str nm, .sl oS (SC), .sl o' ((P ++ [Stp.mk 1 0 (Sl.mk xn xt xr (.mk k1' n1 sv lv)) []]).map Stp.cells)] :: .room o' 79 10 ((P ++ [Stp.mk 1 0 (Sl.mk xn xt xr (.mk k1' n1 sv lv)) []]).map Stp.cells).length :: .room oS 75 7 (SC).length :: .room oL 36 3 (L.map Tm.cells).length :: rfR rb t' :: st, ?_, ⟨hlt3, ?_, ?_, ?_, ?_, ?_, ?_, ?_, ?_, o', _, t', by assumption, s2, by rw [List.length_append]; show _ + 1 ≤ _; omega, hE', rfl⟩, by omega⟩
   · rw [hcx]; (repeat (first | exact List.Sublist.refl _ | with_reducible apply List.Sublist.cons_cons | apply List.Sublist.cons))
   all_goals exact Qf
 rw [if_neg c1] at hEE
 have b1 : (kind == 1) = false := beq_eq_false_iff_ne.2 c1
 by_cases c2 : kind = 2
 · subst c2
   rw [if_pos rfl] at hEE
   have k2 := Lib.hid (hByt.out t1 s1)
   have s2 := (Reg.stk_byte t1 s1).1
   clear hByt hTex hNum hSlo hso
   generalize t1.byte = z at *
   obtain ⟨c, t'⟩ := z
   dsimp only at *
   have hE' := hadd _ _ hEE
   have hcx := hmap _ _ (hs0 2 c ⟨#[]⟩ 0)
   clear hEE hadd hmap hs0
   repeat' (first | (with_reducible first | refine Q1 ?_ | refine Qe ?_ | refine QQ ?_ | (refine al_go ?_; intro b) | (refine Qa ?_; intro o' ho') | (refine Qp ?_; intro o' ho') | (refine QD ?_ <;> (try constructor) <;> intro hb <;> try intro hb1) | fail) | refine QR Tryz.call84 k1.out ?_ | refine QR Tryz.call84 k2.out ?_ | fail)
   refine ⟨j + 1, .box bt 36 [.str nm, .sl oS (SC), .sl o' ((P ++ [Stp.mk 2 c ⟨⟨#[]⟩, 0, false, V.zero⟩ []]).map Stp.cells)] :: .room o' 79 10 ((P ++ [Stp.mk 2 c ⟨⟨#[]⟩, 0, false, V.zero⟩ []]).map Stp.cells).length :: .room oS 75 7 (SC).length :: .room oL 36 3 (L.map Tm.cells).length :: rfR rb t' :: st, ?_, ⟨hlt3, ?_, ?_, ?_, ?_, ?_, ?_, ?_, ?_, o', _, t', by assumption, s2, by rw [List.length_append]; show _ + 1 ≤ _; omega, hE', rfl⟩, by omega⟩
   · rw [hcx]; (repeat (first | exact List.Sublist.refl _ | with_reducible apply List.Sublist.cons_cons | apply List.Sublist.cons))
   all_goals exact Qf
 rw [if_neg c2] at hEE
 have b2 : (kind == 2) = false := beq_eq_false_iff_ne.2 c2
 by_cases c3 : kind = 3
 · subst c3
   rw [if_pos rfl] at hEE
   have k2 := Lib.hid (hByt.out t1 s1)
   have s2 := (Reg.stk_byte t1 s1).1
   have k3 := Lib.hid (hTex.out _ s2)
   have s3 := (Reg.stk_text _ s2).1
   clear hByt hTex hNum hSlo hso
   generalize t1.byte = z at *
   obtain ⟨c, t2⟩ := z
   dsimp only at *
   generalize t2.text = z at *
   obtain ⟨tn, t'⟩ := z
   dsimp only at *
   have hE' := hadd _ _ hEE
   have hcx := hmap _ _ (hs0 3 c tn 0)
   clear hEE hadd hmap hs0
   repeat' (first | (with_reducible first | refine Q1 ?_ | refine Qe ?_ | refine QQ ?_ | (refine al_go ?_; intro b) | (refine Qa ?_; intro o' ho') | (refine Qp ?_; intro o' ho') | (refine QD ?_ <;> (try constructor) <;> intro hb <;> try intro hb1) | fail) | refine QR Tryz.call84 k1.out ?_ | refine QR Tryz.call84 k2.out ?_ | refine QR Tryz.call82 k3.out ?_ | fail)
   refine ⟨j + 1, .box bt 36 [.str nm, .sl oS (SC), .sl o' ((P ++ [Stp.mk 3 c ⟨tn, 0, false, V.zero⟩ []]).map Stp.cells)] :: .room o' 79 10 ((P ++ [Stp.mk 3 c ⟨tn, 0, false, V.zero⟩ []]).map Stp.cells).length :: .room oS 75 7 (SC).length :: .room oL 36 3 (L.map Tm.cells).length :: rfR rb t' :: st, ?_, ⟨hlt3, ?_, ?_, ?_, ?_, ?_, ?_, ?_, ?_, o', _, t', by assumption, s3, by rw [List.length_append]; show _ + 1 ≤ _; omega, hE', rfl⟩, by omega⟩
   · rw [hcx]; (repeat (first | exact List.Sublist.refl _ | with_reducible apply List.Sublist.cons_cons | apply List.Sublist.cons))
   all_goals exact Qf
 rw [if_neg c3] at hEE
 have b3 : (kind == 3) = false := beq_eq_false_iff_ne.2 c3
 by_cases c4 : kind = 4
 · subst c4
   rw [if_pos rfl] at hEE
   have k2 := Lib.hid (hByt.out t1 s1)
   have s2 := (Reg.stk_byte t1 s1).1
   have k3 := Lib.hid (hByt.out _ s2)
   have s3 := (Reg.stk_byte _ s2).1
   clear hByt hTex hNum hSlo hso
   generalize t1.byte = z at *
   obtain ⟨c, t2⟩ := z
   dsimp only at *
   generalize t2.byte = z at *
   obtain ⟨ty, t'⟩ := z
   dsimp only at *
   have hE' := hadd _ _ hEE
   have hcx := hmap _ _ (hs0 4 c ⟨#[]⟩ ty)
   clear hEE hadd hmap hs0
   repeat' (first | (with_reducible first | refine Q1 ?_ | refine Qe ?_ | refine QQ ?_ | (refine al_go ?_; intro b) | (refine Qa ?_; intro o' ho') | (refine Qp ?_; intro o' ho') | (refine QD ?_ <;> (try constructor) <;> intro hb <;> try intro hb1) | fail) | refine QR Tryz.call84 k1.out ?_ | refine QR Tryz.call84 k2.out ?_ | refine QR Tryz.call84 k3.out ?_ | fail)
   refine ⟨j + 1, .box bt 36 [.str nm, .sl oS (SC), .sl o' ((P ++ [Stp.mk 4 c ⟨⟨#[]⟩, ty, false, V.zero⟩ []]).map Stp.cells)] :: .room o' 79 10 ((P ++ [Stp.mk 4 c ⟨⟨#[]⟩, ty, false, V.zero⟩ []]).map Stp.cells).length :: .room oS 75 7 (SC).length :: .room oL 36 3 (L.map Tm.cells).length :: rfR rb t' :: st, ?_, ⟨hlt3, ?_, ?_, ?_, ?_, ?_, ?_, ?_, ?_, o', _, t', by assumption, s3, by rw [List.length_append]; show _ + 1 ≤ _; omega, hE', rfl⟩, by omega⟩
   · rw [hcx]; (repeat (first | exact List.Sublist.refl _ | with_reducible apply List.Sublist.cons_cons | apply List.Sublist.cons))
   all_goals exact Qf
 rw [if_neg c4] at hEE
 have b4 : (kind == 4) = false := beq_eq_false_iff_ne.2 c4
 by_cases c5 : kind = 5
 rotate_left
 · rw [if_neg c5] at hEE
   have b5 : (kind == 5) = false := beq_eq_false_iff_ne.2 c5
   have hE' := hadd _ _ hEE
   have hcx := hmap _ _ (hs0 kind 0 ⟨#[]⟩ 0)
   clear hEE hadd hmap hs0 hso hByt hTex hNum hSlo
   by_cases d1 : kind < 1
   · repeat' (with_reducible first | refine Q1 ?_ | refine Qe ?_ | refine QQ ?_ | (refine al_go ?_; intro b) | (refine Qa ?_; intro o' ho') | (refine Qp ?_; intro o' ho') | (refine QD ?_ <;> (try constructor) <;> intro hb <;> try intro hb1) | fail)
     refine ⟨j + 1, .box bt 36 [.str nm, .sl oS (SC), .sl o' ((P ++ [Stp.mk kind 0 ⟨⟨#[]⟩, 0, false, V.zero⟩ []]).map Stp.cells)] :: .room o' 79 10 ((P ++ [Stp.mk kind 0 ⟨⟨#[]⟩, 0, false, V.zero⟩ []]).map Stp.cells).length :: .room oS 75 7 (SC).length :: .room oL 36 3 (L.map Tm.cells).length :: rfR rb t1 :: st, ?_, ⟨hlt3, ?_, ?_, ?_, ?_, ?_, ?_, ?_, ?_, o', _, t1, by assumption, s1, by rw [List.length_append]; show _ + 1 ≤ _; omega, hE', rfl⟩, by omega⟩
     · rw [hcx]; (repeat (first | exact List.Sublist.refl _ | with_reducible apply List.Sublist.cons_cons | apply List.Sublist.cons))
     all_goals exact Qf
   · have d2 : 5 < kind := by omega
     repeat' (with_reducible first | refine Q1 ?_ | refine Qe ?_ | refine QQ ?_ | (refine al_go ?_; intro b) | (refine Qa ?_; intro o' ho') | (refine Qp ?_; intro o' ho') | (refine QD ?_ <;> (try constructor) <;> intro hb <;> try intro hb1) | fail)
     refine ⟨j + 1, .box bt 36 [.str nm, .sl oS (SC), .sl o' ((P ++ [Stp.mk kind 0 ⟨⟨#[]⟩, 0, false, V.zero⟩ []]).map Stp.cells)] :: .room o' 79 10 ((P ++ [Stp.mk kind 0 ⟨⟨#[]⟩, 0, false, V.zero⟩ []]).map Stp.cells).length :: .room oS 75 7 (SC).length :: .room oL 36 3 (L.map Tm.cells).length :: rfR rb t1 :: st, ?_, ⟨hlt3, ?_, ?_, ?_, ?_, ?_, ?_, ?_, ?_, o', _, t1, by assumption, s1, by rw [List.length_append]; show _ + 1 ≤ _; omega, hE', rfl⟩, by omega⟩
     · rw [hcx]; (repeat (first | exact List.Sublist.refl _ | with_reducible apply List.Sublist.cons_cons | apply List.Sublist.cons))
     all_goals exact Qf
 subst c5
 rw [if_pos rfl] at hEE
 have k2 := Lib.hid (hNum.out t1 s1)
 have s2 := (Reg.stk_rnum t1 s1).1
 have s3 := (Reg.stk_tlist Reg.stk_byte 9 _ s1).1
 obtain ⟨m4, hm4, hm49, hlim4⟩ := Reg.lim (k := 9) (by omega) (TS.rnum_pos t1)
 have r4 : Reg.tlist TS.byte 9 t1 = Reg.rdT TS.byte (m4 - 0) t1.rnum.2 := by unfold Reg.tlist; rw [hm4, Nat.sub_zero]
 clear hm4 hNum hTex hSlo hs0
 generalize Reg.tlist TS.byte 9 t1 = z4 at *
 obtain ⟨OO, t4⟩ := z4
 generalize t1.rnum = w4 at *
 obtain ⟨n4, t1'⟩ := w4
 dsimp only at *
 have hE4 : Hid ([] ++ (Reg.rdT TS.byte (m4 - 0) t1').1 = OO ∧ (Reg.rdT TS.byte (m4 - 0) t1').2 = t4) := Lib.hid (by rw [← r4]; exact ⟨rfl, rfl⟩)
 have hE' := hadd _ _ hEE
 have hcx := hmap _ _ (hso OO)
 clear r4 hEE hadd hmap hso
 replace hlim4 := Lib.hid hlim4
 refine tr_room 3 1 (([] : List Int).map encI).length ?_
 repeat' (first | (with_reducible first | refine Q1 ?_ | refine Qe ?_ | fail) | (refine tr_cutE 29 (fun A' st' => A'.df = [] ∧ A'.e 0 = .ptr rb 0 ∧ A'.e 4 = .sl oL (L.map Tm.cells) ∧ A'.e 5 = .i n ∧ A'.e 6 = .i i ∧ A'.e 7 = .ptr bt 0 ∧ A'.e 8 = .i n3 ∧ A'.e 10 = .i j ∧ ∃ bs oO, oO ≠ .shared ∧ A'.e 11 = .ptr bs 0 ∧ st' = .box bs 79 [.i 5, .i 0, .str ⟨#[]⟩, .i 0, .b false, .i 0, .i 0, .str ⟨#[]⟩, .sl .tight [], .sl oO (OO.map encI)] :: .room oO 3 1 (OO.map encI).length :: .box bt 36 [.str nm, .sl oS (SC), .sl oP (P.map Stp.cells)] :: .room oP 79 10 (P.map Stp.cells).length :: .room oS 75 7 (SC).length :: .room oL 36 3 (L.map Tm.cells).length :: rfR rb t4 :: st) ?_ ?_) | (with_reducible first | refine QQ ?_ | (refine al_go ?_; intro b) | (refine Qa ?_; intro o' ho') | (refine Qp ?_; intro o' ho') | (refine QD ?_ <;> (try constructor) <;> intro hb <;> try intro hb1) | fail) | fail)
 rotate_left
 · clear hE4 s1 s2 k1 k2 hlim4 hdf e0 e4 e5 e6 e7 e8 e10 A hByt
   rintro A st' ⟨hdf, e0, e4, e5, e6, e7, e8, e10, bs, oO, hoO, e11, rfl⟩
   generalize OO.map encI = OC at *
   repeat' (with_reducible first | refine Q1 ?_ | refine Qe ?_ | refine QQ ?_ | (refine al_go ?_; intro b) | (refine Qa ?_; intro o' ho') | (refine Qp ?_; intro o' ho') | (refine QD ?_ <;> (try constructor) <;> intro hb <;> try intro hb1) | fail)
   refine ⟨j + 1, .box bt 36 [.str nm, .sl oS (SC), .sl o' ((P ++ [Stp.mk 5 0 Reg.slot0 OO]).map Stp.cells)] :: .room o' 79 10 ((P ++ [Stp.mk 5 0 Reg.slot0 OO]).map Stp.cells).length :: .room oS 75 7 (SC).length :: .room oL 36 3 (L.map Tm.cells).length :: rfR rb t4 :: st, ?_, ⟨hlt3, ?_, ?_, ?_, ?_, ?_, ?_, ?_, ?_, o', _, t4, by assumption, s3, by rw [List.length_append]; show _ + 1 ≤ _; omega, hE', rfl⟩, by omega⟩
   · rw [hcx]; (repeat (first | exact List.Sublist.refl _ | with_reducible apply List.Sublist.cons_cons | apply List.Sublist.cons))
   all_goals exact Qf
 revert b
 intro bs
 refine tr_loopd (ι := Nat) (fun q A st' => q ≤ m4 ∧ A.df = [] ∧ A.e 0 = .ptr rb 0 ∧ A.e 4 = .sl oL (L.map Tm.cells) ∧ A.e 5 = .i n ∧ A.e 6 = .i i ∧ A.e 7 = .ptr bt 0 ∧ A.e 8 = .i n3 ∧ A.e 10 = .i j ∧ A.e 11 = .ptr bs 0 ∧ A.e 12 = .i n4 ∧ A.e 13 = .i q ∧ ∃ oO O t, oO ≠ .shared ∧ TS.Ok t ∧ O.length ≤ q ∧ Hid (O ++ (Reg.rdT TS.byte (m4 - q) t).1 = OO ∧ (Reg.rdT TS.byte (m4 - q) t).2 = t4) ∧ st' = .box bs 79 [.i 5, .i 0, .str ⟨#[]⟩, .i 0, .b false, .i 0, .i 0, .str ⟨#[]⟩, .sl .tight [], .sl oO (O.map encI)] :: .room oO 3 1 (O.map encI).length :: .box bt 36 [.str nm, .sl oS (SC), .sl oP (P.map Stp.cells)] :: .room oP 79 10 (P.map Stp.cells).length :: .room oS 75 7 (SC).length :: .room oL 36 3 (L.map Tm.cells).length :: rfR rb t :: st) (fun q => m4 - q) 0 ⟨Nat.zero_le _, Qf, Qf, Qf, Qf, Qf, Qf, Qf, Qf, Qf, Qf, Qf, .tight, [], t1', by decide, s2, Nat.zero_le _, hE4, rfl⟩ ?_
 clear hE4 s2 k1 k2 hE' s1 s3 hdf e0 e4 e5 e6 e7 e8 e10 A hcx
 rintro q A st' ⟨hq, hdf, e0, e4, e5, e6, e7, e8, e10, e11, e12, e13, oO, O, t, hoO, hok, hOq, hE, rfl⟩
 have hOc : (O.map encI).length = O.length := List.length_map ..
 by_cases hout : q < m4 ∧ t.bad = false
 case neg =>
  have hEE := hE.out
  have hres : OO = O ∧ t4 = t := by
   by_cases hb : t.bad = true
   · rw [Reg.rdT_bad hb] at hEE
     exact ⟨hEE.1.symm.trans (List.append_nil _), hEE.2.symm⟩
   · have : q = m4 := by
      rw [Bool.not_eq_true] at hb
      by_cases h : q < m4
      · exact absurd ⟨h, hb⟩ hout
      · omega
     subst this
     rw [Reg.rdT_end] at hEE
     exact ⟨hEE.1.symm.trans (List.append_nil _), hEE.2.symm⟩
  obtain ⟨h1, h2⟩ := hres
  subst h1 h2
  have h4 : (¬ (q : Int) < n4 ∨ ((q : Int) < n4 ∧ ¬ (q : Int) < 9)) ∨ ((q : Int) < n4 ∧ (q : Int) < 9 ∧ t4.bad = true) := by
   by_cases h : q < m4
   · refine .inr ⟨((hlim4.out q).1 h).1, ((hlim4.out q).1 h).2, ?_⟩
     cases hb : t4.bad with
     | true => rfl
     | false => exact absurd ⟨h, hb⟩ hout
   · exact .inl (Reg.lim0 hlim4.out h)
  obtain ⟨o2, l2, a2, b2⟩ := t4
  clear hE hEE hout hlim4 hByt
  dsimp only at h4
  rcases h4 with (h4 | ⟨h4, h5⟩) | ⟨h4, h5, rfl⟩
  all_goals (
   repeat' (with_reducible first | refine Q1 ?_ | refine Qe ?_ | refine QQ ?_ | (refine al_go ?_; intro b) | (refine Qa ?_; intro o' ho') | (refine Qp ?_; intro o' ho') | (refine QD ?_ <;> (try constructor) <;> intro hb <;> try intro hb1) | fail)
   all_goals exact ⟨Qf, Qf, Qf, Qf, Qf, Qf, Qf, Qf, _, _, hoO, Qf, rfl⟩)
 case pos =>
 obtain ⟨hlt4, hbad⟩ := hout
 obtain ⟨hqn, hq9⟩ := (hlim4.out q).1 hlt4
 have hEE := hE.out
 rw [Reg.rdT_step hlt4 hbad] at hEE
 have k1 := Lib.hid (hByt.out t hok)
 have s1 := (Reg.stk_byte t hok).1
 clear hE hlim4 hok hByt
 generalize t.byte = z at *
 obtain ⟨x, t'⟩ := z
 dsimp only at *
 have hE' : Hid ((O ++ [x]) ++ (Reg.rdT TS.byte (m4 - (q + 1)) t').1 = OO ∧ (Reg.rdT TS.byte (m4 - (q + 1)) t').2 = t4) := Lib.hid (by
  refine ⟨?_, hEE.2⟩
  rw [← hEE.1, List.append_assoc]; rfl)
 clear hEE
 have hcx : (O ++ [x]).map encI = O.map encI ++ [[.i x]] := by rw [List.map_append]; rfl
 obtain ⟨o4, l4, a4, b4⟩ := t
 dsimp only at hbad
 subst hbad
 repeat' (first | (with_reducible first | refine Q1 ?_ | refine Qe ?_ | fail) | ((with_reducible refine w_draw [(bs, [.i 5, .i 0, .str ⟨#[]⟩, .i 0, .b false, .i 0, .i 0, .str ⟨#[]⟩, .sl .tight [], .sl oO (O.map encI)])] ?_ ?_ ?_ ?_ ?_); (iterate 3 (focus kernel_rfl)); (focus exact keep_one (by repeat (first | exact mm_h | apply mm_t)))) | ((with_reducible refine And.intro ?_ ?_); (focus exact keep_one (by repeat (first | exact mm_h | apply mm_t)))) | (with_reducible first | refine QQ ?_ | (refine al_go ?_; intro b) | (refine Qa ?_; intro o' ho') | (refine Qp ?_; intro o' ho') | (refine QD ?_ <;> (try constructor) <;> intro hb <;> try intro hb1) | fail) | fail)
 refine ⟨q + 1, .box bs 79 [.i 5, .i 0, .str ⟨#[]⟩, .i 0, .b false, .i 0, .i 0, .str ⟨#[]⟩, .sl .tight [], .sl o' ((O ++ [x]).map encI)] :: .room o' 3 1 ((O ++ [x]).map encI).length :: .box bt 36 [.str nm, .sl oS (SC), .sl oP (P.map Stp.cells)] :: .room oP 79 10 (P.map Stp.cells).length :: .room oS 75 7 (SC).length :: .room oL 36 3 (L.map Tm.cells).length :: rfR rb t' :: st, ?_, ⟨hlt4, ?_, ?_, ?_, ?_, ?_, ?_, ?_, ?_, ?_, ?_, ?_, o', _, t', by assumption, s1, by rw [List.length_append]; show _ + 1 ≤ _; omega, hE', rfl⟩, by omega⟩
 · rw [hcx]; (repeat (first | exact List.Sublist.refl _ | with_reducible apply List.Sublist.cons_cons | apply List.Sublist.cons))
 all_goals exact Qf
end Go.Proofs.YtgcienlfpnpbgaaGreat
end
