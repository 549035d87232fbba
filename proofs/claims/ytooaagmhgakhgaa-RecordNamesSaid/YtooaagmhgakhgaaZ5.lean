/- Texts put together: RefC, SchD, SchE, RefD, RefE, ReoL, RefF, RefG, RecN, SchI, RefH, SchF, SchG, SchH, SchJ. No statement is proved here. -/
import Derived.Test.YtooaagmhgakhgaaZ4
set_option linter.all false
section
namespace Go.Proofs.Ytooaagmhgakhgaa
set_option linter.unusedSimpArgs false
attribute [local push_cast] encB encI encC V.cells_mk V.cells_len Nat.mul_one Int.sub_zero List.map_nil beq_self_eq_true List.head?_cons
open Go.RowKit
set_option maxRecDepth 10000
set_option maxHeartbeats 4000000
theorem refLoseF (x : Vr) (s : Stp) (h : RefP x s) (hk : s.kind = 2) (st : St) : TrF Try.prog 80 [.agg x.cells, .agg s.cells] st (RefStepR x s st) := by
  obtain ⟨⟨hl, hp, hcp, hcl, hcs⟩, hq, hty, ho⟩ := h
  have hC := refCopyAF x hp hcp hl (by omega)
  have hR := refRestF s hq.ok (by omega) ho
  have hF : Hid (Sch.stepV x s = if Sch.column x s = true ∧ Sch.bare s.slot false false = true ∧ x.cols.length ≠ 1 then some ⟨x.slots, x.cols.eraseIdx s.col.toNat⟩ else none) := Lib.hid (by unfold Sch.stepV; rw [if_neg (show ¬ s.kind = 1 by omega), if_pos hk]; rfl)
  have hrv : Sch.restV s = (Sch.bare s.slot false false && decide (s.order.length = 0)) := by unfold Sch.restV; rw [if_neg (show ¬ s.kind = 1 by omega), if_pos hk]
  rw [hrv] at hR
  clear hrv
  unfold RefStepR
  have l2 : (x.cols.map encC).length = x.cols.length := List.length_map ..
  have hEr : Hid (∀ c : Nat, c < x.cols.length → List.take c (x.cols.map encC) ++ List.take (x.cols.length - (c + 1)) (List.drop (c + 1) (x.cols.map encC)) = (x.cols.eraseIdx c).map encC) := fun c hc => by
    rw [List.eraseIdx_eq_take_drop_succ, List.map_append, List.map_take, List.map_drop, List.take_of_length_le (l := List.drop _ _) (by rw [List.length_drop, l2]; omega)]
  have hall : (x.cols.map encC).all (fun e => e.length == 1) = true := by
    rw [List.all_eq_true]
    intro e he
    obtain ⟨n, -, rfl⟩ := List.mem_map.1 he
    rfl
  have e2 := cols_each x.cols
  have ht1 : ∀ c : Nat, ∀ e ∈ List.take c (x.cols.map encC), e.length = 1 := fun c e he => e2 e (List.mem_of_mem_take he)
  have ht2 : ∀ a b : Nat, ∀ e ∈ List.take a (List.drop b (x.cols.map encC)), e.length = 1 := fun a b e he => e2 e (List.mem_of_mem_drop (List.mem_of_mem_take he))
  unfold Sch.column at hF
  by_cases hb : Sch.bare s.slot false false = true ∧ s.order.length = 0
  · obtain ⟨hb1, hb2⟩ := hb
    rw [hb1, hb2] at hR hF
    by_cases hcr : 0 ≤ s.col ∧ s.col < x.cols.length
    · obtain ⟨hc1, hc2⟩ := hcr
      obtain ⟨c, hcE⟩ := Int.eq_ofNat_of_zero_le hc1
      have hclt : c < x.cols.length := by omega
      by_cases hm : x.cols.length = 1
      · have hFn : Hid (Sch.stepV x s = none) := Lib.hid (by rw [hF.out, if_neg]; rintro ⟨-, -, h⟩; exact h hm)
        clear hF hEr hcs ht1 ht2
        unfold Vr.cells Stp.cells at *
        generalize Sch.stepV x s = F at *
        cases s with
        | mk kd col slot order =>
        cases slot with
        | mk nm ty rq dv =>
        cases dv with
        | mk k n sv lv =>
        dsimp only at hC hR hk ho hcE hb2 hc1 hc2 ⊢
        subst hk hcE
        rw [Sl.cells_mk] at *
        dsimp only [List.cons_append, List.nil_append] at *
        generalize x.slots.map Sl.cells = L1 at *
        generalize x.cols.map encC = L2 at *
        generalize x.cols.length = m2 at *
        replace hC := Lib.hid hC
        replace hR := Lib.hid hR
        replace hb1 := Lib.hid hb1
        replace hb2 := Lib.hid hb2
        refine trF_enterG (G := twoA Try.prog (.cell 4 52) (.tmp 5)) Try.func80 rfl (by rw [Try.ntmps80]; exact Nat.le_of_ble_eq_true rfl) (fun h1 h2 h3 => res_two rfl h1 h2 h3) ?_
        simp only [Try.ntmps80]
        repeat' (first | with_reducible refine Go1.go ?_ | ((with_reducible apply ev_go); (focus ((try simp (disch := omega) only [push_cast, simprocAttr, *]); (try exact rfl); done))) | ((with_reducible refine w_last ?_ ?_ ?_); kernel_rfl; rfl) | with_reducible refine Go2.go ?_ | ((with_reducible first | apply w_stepG | refine s_bi ?_ ?_ | refine blk_ne ?_ ?_); rfl) | ((with_reducible refine al_go ?_); intro b) | ((with_reducible apply (ck_le Try.call96)); exact LEL.refl _; exact hC.out _) | ((with_reducible apply (ck_le Try.call97)); exact LEL.refl _; exact hR.out _) | ((with_reducible apply a2_go); (focus (first | assumption | (intro h; cases h))); (focus (intro o'; repeat (first | exact ra_h | apply ra_t))); (iterate 2 (focus (first | assumption | exact len_nil | exact len_one rfl | (intro a ha; obtain ⟨x, -, rfl⟩ := List.mem_map.1 ha; first | rfl | simp) | (intro a ha; simp at ha; simp [ha])))); (iterate 2 (focus (first | omega | (simp only [List.length_map, List.length_cons, List.length_nil, List.length_append]; omega)))); intro o' ho') | ((with_reducible first | refine w_region ?_ ?_ | refine w_dra ?_ ?_); kernel_rfl) | ((with_reducible refine Go3.go ?_ ?_); all_goals (intro hb; (try with_reducible intro hb1); (try (exfalso; first | contradiction | omega)))) | fail)
        all_goals (refine retG_mk (rs := []) (by first | exact .inl rfl | exact .inr rfl) (by first | rfl | assumption) (List.Perm.refl _) ⟨_, _, rfl, cell_mk (by simp (disch := omega) only [push_cast, simprocAttr, *]; exact rfl) (by repeat (first | exact mm_h | apply mm_t)) (by simp (disch := omega) only [push_cast, simprocAttr, *]; exact rfl) (by (try simp (disch := omega) only [push_cast, simprocAttr, *]); (try exact rfl); done), (by show _ = _; (try simp (disch := omega) only [push_cast, simprocAttr, *]); (try exact rfl); done)⟩ (by (repeat (first | exact List.Sublist.refl _ | with_reducible apply List.Sublist.cons_cons | apply List.Sublist.cons))) (LE.refl _) (.inl ⟨hFn.out, _, _, rfl, rfl⟩))
      · have hFs : Hid (Sch.stepV x s = some ⟨x.slots, x.cols.eraseIdx c⟩) := Lib.hid (by
          rw [hF.out, if_pos ⟨by simp [hc1, hc2], rfl, hm⟩, hcE, Int.toNat_natCast])
        have hEr2 := Lib.hid (hEr.out c hclt)
        clear hF hEr hcs
        obtain ⟨y, hy⟩ : ∃ y : Vr, y = ⟨x.slots, x.cols.eraseIdx c⟩ := ⟨_, rfl⟩
        have hyc : Hid (y.cells = [.sl .shared (x.slots.map Sl.cells), .sl .shared ((x.cols.eraseIdx c).map encC)]) := Lib.hid (by rw [hy]; rfl)
        rw [← hy] at hFs
        rw [← hEr2.out] at hyc
        clear hy hEr2
        unfold Vr.cells Stp.cells at *
        generalize Sch.stepV x s = F at *
        cases s with
        | mk kd col slot order =>
        cases slot with
        | mk nm ty rq dv =>
        cases dv with
        | mk k n sv lv =>
        dsimp only at hC hR hk ho hcE hb2 hc1 hc2 ⊢
        subst hk hcE
        rw [Sl.cells_mk] at *
        dsimp only [List.cons_append, List.nil_append] at *
        generalize x.slots.map Sl.cells = L1 at *
        generalize x.cols.map encC = L2 at *
        generalize x.cols.length = m2 at *
        replace hC := Lib.hid hC
        replace hR := Lib.hid hR
        replace hb1 := Lib.hid hb1
        replace hb2 := Lib.hid hb2
        have t1 := ht1 c
        have t2 := ht2 (m2 - (c + 1)) (c + 1)
        have t3 : (List.take c L2).length ≤ 1000 ∧ (List.take (m2 - (c + 1)) (List.drop (c + 1) L2)).length ≤ 1000 := by
          rw [List.length_take, List.length_take]; omega
        obtain ⟨t3, t4⟩ := t3
        obtain ⟨c1, hcc⟩ : ∃ c1, c + 1 = c1 := ⟨_, rfl⟩
        have hcI : (c : Int) + 1 = (c1 : Int) := by omega
        have hc1l : c1 ≤ m2 := by omega
        rw [hcc] at t2 t4 hyc
        replace hcc := Lib.hid hcc
        clear ht1 ht2 e2
        refine trF_enterG (G := twoA Try.prog (.cell 4 52) (.tmp 5)) Try.func80 rfl (by rw [Try.ntmps80]; exact Nat.le_of_ble_eq_true rfl) (fun h1 h2 h3 => res_two rfl h1 h2 h3) ?_
        simp only [Try.ntmps80]
        refine tr_room 3 1 ([] : List (List D)).length ?_
        repeat' (first | with_reducible refine Go1.go ?_ | ((with_reducible apply ev_go); (focus ((try simp (disch := omega) only [push_cast, simprocAttr, *]); (try exact rfl); done))) | ((with_reducible apply (w_drawN [(b, [.sl .shared L1, .sl .shared L2])])); (iterate 3 (focus kernel_rfl)); (focus ((repeat (first | exact keep_nil | refine keep_more (by (repeat (first | exact mm_h | apply mm_t)); done) ?_)); done)); intro hne; simp only [nes, ne1, and_assoc] at hne; repeat (have hq := hne.1; replace hne := hne.2)) | ((with_reducible refine And.intro ?_ ?_); (focus ((repeat (first | exact keep_nil | refine keep_more (by (repeat (first | exact mm_h | apply mm_t)); done) ?_)); done))) | ((with_reducible refine w_last ?_ ?_ ?_); kernel_rfl; rfl) | with_reducible refine Go2.go ?_ | ((with_reducible first | apply w_stepG | refine s_bi ?_ ?_ | refine blk_ne ?_ ?_); rfl) | ((with_reducible refine al_go ?_); intro b) | ((with_reducible apply (ck_le Try.call96)); exact LEL.refl _; exact hC.out _) | ((with_reducible apply (ck_le Try.call97)); exact LEL.refl _; exact hR.out _) | ((with_reducible apply a2_go); (focus (first | assumption | (intro h; cases h))); (focus (intro o'; repeat (first | exact ra_h | apply ra_t))); (iterate 2 (focus (first | assumption | exact len_nil | exact len_one rfl | (intro a ha; obtain ⟨x, -, rfl⟩ := List.mem_map.1 ha; first | rfl | simp) | (intro a ha; simp at ha; simp [ha])))); (iterate 2 (focus (first | omega | (simp only [List.length_map, List.length_cons, List.length_nil, List.length_append]; omega)))); intro o' ho') | ((with_reducible first | refine w_region ?_ ?_ | refine w_dra ?_ ?_); kernel_rfl) | ((with_reducible refine Go3.go ?_ ?_); all_goals (intro hb; (try with_reducible intro hb1); (try (exfalso; first | contradiction | omega)))) | fail)
        all_goals (refine retG_mk (rs := []) (by first | exact .inl rfl | exact .inr rfl) (by first | rfl | assumption) (List.Perm.refl _) ⟨_, _, rfl, cell_mk (by simp (disch := omega) only [push_cast, simprocAttr, *]; exact rfl) (by repeat (first | exact mm_h | apply mm_t)) (by simp (disch := omega) only [push_cast, simprocAttr, *]; exact rfl) (by (try simp (disch := omega) only [push_cast, simprocAttr, *]); (try exact rfl); done), (by show _ = _; (try simp (disch := omega) only [push_cast, simprocAttr, *]); (try exact rfl); done)⟩ (by (repeat (first | exact List.Sublist.refl _ | with_reducible apply List.Sublist.cons_cons | apply List.Sublist.cons))) (retR _ _ _ _ _) (.inr ⟨y, hFs.out, by rw [hyc.out], rfl⟩))
    · have hFn : Hid (Sch.stepV x s = none) := Lib.hid (by
        rw [hF.out, if_neg]
        rintro ⟨h1, -⟩
        simp at h1
        omega)
      clear hF hEr hcs ht1 ht2
      unfold Vr.cells Stp.cells at *
      generalize Sch.stepV x s = F at *
      cases s with
      | mk kd col slot order =>
      cases slot with
      | mk nm ty rq dv =>
      cases dv with
      | mk k n sv lv =>
      dsimp only at hC hR hk ho hb2 hcr ⊢
      subst hk
      rw [Sl.cells_mk] at *
      dsimp only [List.cons_append, List.nil_append] at *
      generalize x.slots.map Sl.cells = L1 at *
      generalize x.cols.map encC = L2 at *
      generalize x.cols.length = m2 at *
      replace hC := Lib.hid hC
      replace hR := Lib.hid hR
      replace hb1 := Lib.hid hb1
      replace hb2 := Lib.hid hb2
      have hcr' : col < 0 ∨ (0 ≤ col ∧ (m2 : Int) ≤ col) := by omega
      clear hcr
      rcases hcr' with h1 | ⟨h1, h2⟩
      all_goals skip
      all_goals (
        refine trF_enterG (G := twoA Try.prog (.cell 4 52) (.tmp 5)) Try.func80 rfl (by rw [Try.ntmps80]; exact Nat.le_of_ble_eq_true rfl) (fun h1 h2 h3 => res_two rfl h1 h2 h3) ?_
        simp only [Try.ntmps80]
        repeat' (first | with_reducible refine Go1.go ?_ | ((with_reducible apply ev_go); (focus ((try simp (disch := omega) only [push_cast, simprocAttr, *]); (try exact rfl); done))) | ((with_reducible refine w_last ?_ ?_ ?_); kernel_rfl; rfl) | with_reducible refine Go2.go ?_ | ((with_reducible first | apply w_stepG | refine s_bi ?_ ?_ | refine blk_ne ?_ ?_); rfl) | ((with_reducible refine al_go ?_); intro b) | ((with_reducible apply (ck_le Try.call96)); exact LEL.refl _; exact hC.out _) | ((with_reducible apply (ck_le Try.call97)); exact LEL.refl _; exact hR.out _) | ((with_reducible apply a2_go); (focus (first | assumption | (intro h; cases h))); (focus (intro o'; repeat (first | exact ra_h | apply ra_t))); (iterate 2 (focus (first | assumption | exact len_nil | exact len_one rfl | (intro a ha; obtain ⟨x, -, rfl⟩ := List.mem_map.1 ha; first | rfl | simp) | (intro a ha; simp at ha; simp [ha])))); (iterate 2 (focus (first | omega | (simp only [List.length_map, List.length_cons, List.length_nil, List.length_append]; omega)))); intro o' ho') | ((with_reducible first | refine w_region ?_ ?_ | refine w_dra ?_ ?_); kernel_rfl) | ((with_reducible refine Go3.go ?_ ?_); all_goals (intro hb; (try with_reducible intro hb1); (try (exfalso; first | contradiction | omega)))) | fail)
        all_goals (refine retG_mk (rs := []) (by first | exact .inl rfl | exact .inr rfl) (by first | rfl | assumption) (List.Perm.refl _) ⟨_, _, rfl, cell_mk (by simp (disch := omega) only [push_cast, simprocAttr, *]; exact rfl) (by repeat (first | exact mm_h | apply mm_t)) (by simp (disch := omega) only [push_cast, simprocAttr, *]; exact rfl) (by (try simp (disch := omega) only [push_cast, simprocAttr, *]); (try exact rfl); done), (by show _ = _; (try simp (disch := omega) only [push_cast, simprocAttr, *]); (try exact rfl); done)⟩ (by (repeat (first | exact List.Sublist.refl _ | with_reducible apply List.Sublist.cons_cons | apply List.Sublist.cons))) (LE.refl _) (.inl ⟨hFn.out, _, _, rfl, rfl⟩)))
  · have hrr : (Sch.bare s.slot false false && decide (s.order.length = 0)) = false := by
      cases h1 : Sch.bare s.slot false false with
      | false => rfl
      | true => rw [Bool.true_and, decide_eq_false fun h2 => hb ⟨h1, h2⟩]
    rw [hrr] at hR
    have hFn : Hid (Sch.stepV x s = none) := Lib.hid (by
      rw [hF.out, if_neg]
      rintro ⟨h1, h2, -⟩
      simp at h1
      exact hb ⟨h2, by rw [h1.2]; rfl⟩)
    clear hF hEr hcs ht1 ht2 hb hrr
    unfold Vr.cells Stp.cells at *
    generalize Sch.stepV x s = F at *
    cases s with
    | mk kd col slot order =>
    cases slot with
    | mk nm ty rq dv =>
    cases dv with
    | mk k n sv lv =>
    dsimp only at hC hR hk ho ⊢
    subst hk
    rw [Sl.cells_mk] at *
    dsimp only [List.cons_append, List.nil_append] at *
    generalize x.slots.map Sl.cells = L1 at *
    generalize x.cols.map encC = L2 at *
    generalize x.cols.length = m2 at *
    replace hC := Lib.hid hC
    replace hR := Lib.hid hR
    refine trF_enterG (G := twoA Try.prog (.cell 4 52) (.tmp 5)) Try.func80 rfl (by rw [Try.ntmps80]; exact Nat.le_of_ble_eq_true rfl) (fun h1 h2 h3 => res_two rfl h1 h2 h3) ?_
    simp only [Try.ntmps80]
    repeat' (first | with_reducible refine Go1.go ?_ | ((with_reducible apply ev_go); (focus ((try simp (disch := omega) only [push_cast, simprocAttr, *]); (try exact rfl); done))) | ((with_reducible refine w_last ?_ ?_ ?_); kernel_rfl; rfl) | with_reducible refine Go2.go ?_ | ((with_reducible first | apply w_stepG | refine s_bi ?_ ?_ | refine blk_ne ?_ ?_); rfl) | ((with_reducible refine al_go ?_); intro b) | ((with_reducible apply (ck_le Try.call96)); exact LEL.refl _; exact hC.out _) | ((with_reducible apply (ck_le Try.call97)); exact LEL.refl _; exact hR.out _) | ((with_reducible apply a2_go); (focus (first | assumption | (intro h; cases h))); (focus (intro o'; repeat (first | exact ra_h | apply ra_t))); (iterate 2 (focus (first | assumption | exact len_nil | exact len_one rfl | (intro a ha; obtain ⟨x, -, rfl⟩ := List.mem_map.1 ha; first | rfl | simp) | (intro a ha; simp at ha; simp [ha])))); (iterate 2 (focus (first | omega | (simp only [List.length_map, List.length_cons, List.length_nil, List.length_append]; omega)))); intro o' ho') | ((with_reducible first | refine w_region ?_ ?_ | refine w_dra ?_ ?_); kernel_rfl) | ((with_reducible refine Go3.go ?_ ?_); all_goals (intro hb; (try with_reducible intro hb1); (try (exfalso; first | contradiction | omega)))) | fail)
    all_goals (refine retG_mk (rs := []) (by first | exact .inl rfl | exact .inr rfl) (by first | rfl | assumption) (List.Perm.refl _) ⟨_, _, rfl, cell_mk (by simp (disch := omega) only [push_cast, simprocAttr, *]; exact rfl) (by repeat (first | exact mm_h | apply mm_t)) (by simp (disch := omega) only [push_cast, simprocAttr, *]; exact rfl) (by (try simp (disch := omega) only [push_cast, simprocAttr, *]); (try exact rfl); done), (by show _ = _; (try simp (disch := omega) only [push_cast, simprocAttr, *]); (try exact rfl); done)⟩ (by (repeat (first | exact List.Sublist.refl _ | with_reducible apply List.Sublist.cons_cons | apply List.Sublist.cons))) (LE.refl _) (.inl ⟨hFn.out, _, _, rfl, rfl⟩))
end Go.Proofs.Ytooaagmhgakhgaa
end

section
namespace Go.Proofs.Ytooaagmhgakhgaa
set_option linter.unusedSimpArgs false
attribute [local push_cast] encB encI encC V.cells_mk V.cells_len Nat.mul_one Int.sub_zero List.map_nil beq_self_eq_true List.head?_cons
open Go.RowKit
set_option maxRecDepth 10000
set_option maxHeartbeats 4000000
theorem row_drop {sz o : Nat} {e : List D} (zs : List D) : ∀ (es : List (List D)) (c : Nat), (∀ x ∈ es, x.length = sz) → es[c]? = some e → o ≤ sz → ∃ tl, (es.flatten ++ zs).drop (c * sz + o) = e.drop o ++ tl
  | [], c, _, h, _ => by simp at h
  | x :: es, 0, hs, h, ho => by
    simp only [List.getElem?_cons_zero, Option.some.injEq] at h
    subst h
    have hx := hs x (List.mem_cons_self ..)
    refine ⟨es.flatten ++ zs, ?_⟩
    rw [List.flatten_cons, List.append_assoc, Nat.zero_mul, Nat.zero_add, List.drop_append_of_le_length (by omega)]
  | x :: es, c + 1, hs, h, ho => by
    rw [List.getElem?_cons_succ] at h
    obtain ⟨tl, ht⟩ := row_drop zs es c (fun y hy => hs y (List.mem_cons_of_mem _ hy)) h ho
    have hx := hs x (List.mem_cons_self ..)
    refine ⟨tl, ?_⟩
    rw [List.flatten_cons, List.append_assoc, show (c + 1) * sz + o = sz + (c * sz + o) by rw [Nat.succ_mul]; omega, ← List.drop_drop, List.drop_left' hx, ht]
theorem splice_app {e R ds : List D} {sz o : Nat} (he : e.length = sz) : splice (e ++ R) (sz + o) ds = e ++ splice R o ds := by
  unfold splice
  rw [List.take_append, List.take_of_length_le (l := e) (by omega), show sz + o - e.length = o by omega, show sz + o + ds.length = sz + (o + ds.length) by omega, ← List.drop_drop, List.drop_left' he]
  simp only [List.append_assoc]
theorem row_splice {sz o : Nat} {e ds : List D} (zs : List D) : ∀ (es : List (List D)) (c : Nat), (∀ x ∈ es, x.length = sz) → es[c]? = some e → o + ds.length ≤ sz → splice (es.flatten ++ zs) (c * sz + o) ds = (es.set c (splice e o ds)).flatten ++ zs
  | [], c, _, h, _ => by simp at h
  | x :: es, 0, hs, h, ho => by
    simp only [List.getElem?_cons_zero, Option.some.injEq] at h
    subst h
    have hx := hs x (List.mem_cons_self ..)
    rw [List.set_cons_zero, List.flatten_cons, List.flatten_cons, Nat.zero_mul, Nat.zero_add]
    unfold splice
    rw [show x ++ es.flatten ++ zs = x ++ (es.flatten ++ zs) from List.append_assoc .., List.take_append_of_le_length (by omega), List.drop_append_of_le_length (by omega)]
    simp only [List.append_assoc]
  | x :: es, c + 1, hs, h, ho => by
    rw [List.getElem?_cons_succ] at h
    have := row_splice zs es c (fun y hy => hs y (List.mem_cons_of_mem _ hy)) h ho
    have hx := hs x (List.mem_cons_self ..)
    rw [List.set_cons_succ, List.flatten_cons, List.flatten_cons, List.append_assoc, List.append_assoc, show (c + 1) * sz + o = sz + (c * sz + o) by rw [Nat.succ_mul]; omega, splice_app hx, this]
theorem w_draw_ne3 {P : Program} {N : Nat} {r : Option Nat} {A : AA} {b b' b'' : Nat} {ty ty' ty'' : TypeId} {cs cs' cs'' : List D} {s : St} {Q : Exit → AA → St → Prop} {l : List Oper} {id : Nat} (hm : P.follows .mixedOrders = true) (hB : mixBA .any l.toArray = true) (hok : opsOk N l = true)
    (h : (b' == b) = false → (b'' == b) = false → (b'' == b') = false → W P r (some (roOf (.box b ty cs :: .box b' ty' cs' :: .box b'' ty'' cs'' :: s))) l.toArray (Q .normal) l A (.box b ty cs :: .box b' ty' cs' :: .box b'' ty'' cs'' :: s)) : Tr P N r (.region id l.toArray true) A (.box b ty cs :: .box b' ty' cs' :: .box b'' ty'' cs'' :: s) Q := by
  intro a w ha hh
  have h1 := List.pairwise_cons.1 hh.1
  have h2 := List.pairwise_cons.1 h1.2
  have n1 : b' ≠ b := fun e => h1.1 (.box b' ty' cs') (List.Mem.head _) b rfl (by rw [← e]; rfl)
  have n2 : b'' ≠ b := fun e => h1.1 (.box b'' ty'' cs'') (List.Mem.tail _ (List.Mem.head _)) b rfl (by rw [← e]; rfl)
  have n3 : b'' ≠ b' := fun e => h2.1 (.box b'' ty'' cs'') (List.Mem.head _) b' rfl (by rw [← e]; rfl)
  exact w_draw _ hm hB hok (keeps_roOf _) (h (beq_eq_false_iff_ne.2 n1) (beq_eq_false_iff_ne.2 n2) (beq_eq_false_iff_ne.2 n3)) a w ha hh
theorem lendP {st : St} {bx gs gc m1 m2 cS cC : Nat} {T T1 T2 : TypeId} {R1 R2 zS zC : List D} {L1 L2 : List (List D)} (h1 : Res.box bx T [.ar gs 0 m1 cS, .ar gc 0 m2 cC] ∈ st) (h2 : Res.box gs T1 (R1 ++ zS) ∈ st) (h3 : Res.box gc T2 (R2 ++ zC) ∈ st)
    (f1 : L1.flatten = R1) (e1 : ∀ e ∈ L1, e.length = 7) (l1 : L1.length = m1) (f2 : L2.flatten = R2) (e2 : ∀ e ∈ L2, e.length = 1) (l2 : L2.length = m2) : Lend st (.ptr bx 0) (.ip [.sl .shared L1, .sl .shared L2]) :=
  Lend.ptr h1 ⟨Lend.rowE h2 f1 (by decide) e1 l1, Lend.rowE h3 f2 (by decide) e2 l2, trivial⟩ (by
    intro d hd
    simp only [List.mem_cons, List.not_mem_nil, or_false] at hd
    rcases hd with rfl | rfl <;> rfl)
theorem schLoseF (bx gs cS gc cC : Nat) (zS zC : List D) (x : Vr) (stp : Stp) (hx : VW x) (hs : stp.Ok) (hz : VL cS zS cC zC x) (s : St) : TrF Try.prog 91 [.ptr bx 0, .agg stp.cells] (VB bx gs cS zS gc cC zC x s) (StepR Sch.loseS x stp bx s) := by
  obtain ⟨ls, lc, hcs⟩ := hx
  obtain ⟨hn, hbg, ho⟩ := hs
  obtain ⟨hz1, hz2⟩ := hz
  have hK := schColumnF x stp [] (by omega) (by omega)
  have hB := schBareF stp.slot false false hbg
  have hF : Hid (Sch.loseS x stp = if Sch.column x stp = true ∧ Sch.bare stp.slot false false = true ∧ x.cols.length ≠ 1 then some ⟨x.slots, x.cols.eraseIdx stp.col.toNat⟩ else none) := rfl
  have e1 := Lib.hid (slots_each x.slots)
  have e2 := Lib.hid (cols_each x.cols)
  have f1 := Lib.hid (slotC_flat x)
  have f2 := Lib.hid (colC_flat x)
  have l1 : Hid ((x.slots.map Sl.cells).length = x.slots.length) := List.length_map ..
  have l2 : Hid ((x.cols.map encC).length = x.cols.length) := List.length_map ..
  unfold StepR VL VB Stp.cells
  generalize Sch.loseS x stp = F at *
  cases hcl : Sch.column x stp with
  | false =>
    rw [hcl] at hK hF
    unfold Vr.cells Stp.cells at hK
    clear hcl
    cases stp with
    | mk kd col slot order =>
    cases slot with
    | mk nm ty rq dv =>
    cases dv with
    | mk k n sv l =>
    dsimp only at ho ⊢
    generalize slotC x.slots = R1 at *
    generalize colC x.cols = R2 at *
    generalize x.slots.map Sl.cells = L1 at *
    generalize x.cols.map encC = L2 at *
    rw [Sl.cells_mk] at *
    dsimp only [List.cons_append, List.nil_append] at hK ⊢
    generalize x.slots.length = m1 at *
    generalize x.cols.length = m2 at *
    replace hK := Lib.hid hK
    refine trF_enter (ts := [4]) Try.func91 rfl (by rw [Try.ntmps91]; exact Nat.le_of_ble_eq_true rfl) (fun tmps w => by simp [results, Try.results91, go_sem, resVal]) ?_
    simp only [Try.ntmps91]
    repeat' (first | with_reducible refine Go1.go ?_ | ((with_reducible apply ev_go); (focus ((try simp (disch := omega) only [push_cast, simprocAttr, *]); (try exact rfl); done))) | ((with_reducible refine w_last ?_ ?_ ?_); kernel_rfl; rfl) | with_reducible refine Go2.go ?_ | ((with_reducible first | apply w_stepG | refine s_bi ?_ ?_ | refine blk_ne ?_ ?_); rfl) | ((with_reducible refine al_go ?_); intro b) | ((with_reducible apply (ck_lend Try.call103)); (focus exact hK.out); (focus exact ⟨lendP (by repeat (first | exact mm_h | apply mm_t)) (by repeat (first | exact mm_h | apply mm_t)) (by repeat (first | exact mm_h | apply mm_t)) f1.out e1.out l1.out f2.out e2.out l2.out, Lend.refl _, trivial⟩)) | ((with_reducible first | refine w_region ?_ ?_ | refine w_dra ?_ ?_); kernel_rfl) | ((with_reducible refine Go3.go ?_ ?_); all_goals (intro hb; (try with_reducible intro hb1); (try (exfalso; first | contradiction | omega)))) | fail)
    all_goals ((refine retA_mk (by first | exact .inl rfl | exact .inr rfl) (by first | rfl | assumption) (by (repeat (first | exact List.Sublist.refl _ | apply List.Sublist.cons))) (LE.of_eq ?_) (.inl ⟨?_, rfl, rfl⟩)); (focus simp (disch := omega) only [push_cast, simprocAttr, *]); (focus (rw [hF.out]; refine if_neg ?_; rintro ⟨h1, h2, h3⟩; (first | omega | exact Bool.noConfusion (h1.symm.trans (by assumption) : true = false) | exact Bool.noConfusion (h2.symm.trans (by assumption) : true = false) | exact Bool.noConfusion (h3.symm.trans (by assumption) : true = false) | (exact Bool.noConfusion (h1 : false = true))))))
  | true =>
    obtain ⟨hk1, hk2, hk3⟩ : 0 ≤ stp.col ∧ stp.col < x.cols.length ∧ stp.order.length = 0 := by
      unfold Sch.column at hcl
      simpa [and_assoc] using hcl
    obtain ⟨i, hi⟩ := Int.eq_ofNat_of_zero_le hk1
    have hlt : i < x.cols.length := by omega
    rw [hcl] at hK hF
    unfold Vr.cells Stp.cells at hK
    clear hcl hk1 hk2
    have hD := fun s => deleteF gc cC i x.cols zC hlt hz2 s
    have hcl2 := colC_len (x.cols.eraseIdx i)
    have hcl := colC_len x.cols
    have hel : (x.cols.eraseIdx i).length + 1 = x.cols.length := by rw [List.length_eraseIdx_of_lt hlt]; omega
    obtain ⟨x', hx'⟩ : ∃ x' : Vr, x' = ⟨x.slots, x.cols.eraseIdx stp.col.toNat⟩ := ⟨_, rfl⟩
    rw [← hx'] at hF
    rw [hi, Int.toNat_natCast] at hx'
    have s1 : Hid (x'.slots = x.slots) := Lib.hid (by rw [hx'])
    have s2 : Hid (x'.cols = x.cols.eraseIdx i) := Lib.hid (by rw [hx'])
    clear hx'
    generalize hE : x.cols.eraseIdx i = ec at *
    generalize Sch.bare stp.slot false false = q at *
    generalize hRE : colC ec = RE at *
    generalize hme : ec.length = me at *
    replace hE := Lib.hid hE
    replace hRE := Lib.hid hRE
    replace hme := Lib.hid hme
    replace hel := Lib.hid hel
    replace hcl2 := Lib.hid hcl2
    replace hcl := Lib.hid hcl
    cases stp with
    | mk kd col slot order =>
    cases slot with
    | mk nm ty rq dv =>
    cases dv with
    | mk k n sv l =>
    dsimp only at hB ho hi hF ⊢
    subst hi
    generalize hR1 : slotC x.slots = R1 at *
    generalize hR2 : colC x.cols = R2 at *
    generalize x.slots.map Sl.cells = L1 at *
    generalize x.cols.map encC = L2 at *
    rw [Sl.cells_mk] at *
    dsimp only [List.cons_append, List.nil_append] at hK ⊢
    generalize hm1 : x.slots.length = m1 at *
    generalize hm2 : x.cols.length = m2 at *
    replace hR1 := Lib.hid hR1
    replace hR2 := Lib.hid hR2
    replace hm1 := Lib.hid hm1
    replace hm2 := Lib.hid hm2
    replace hK := Lib.hid hK
    replace hB := Lib.hid hB
    replace hD := Lib.hid hD
    refine trF_enter (ts := [4]) Try.func91 rfl (by rw [Try.ntmps91]; exact Nat.le_of_ble_eq_true rfl) (fun tmps w => by simp [results, Try.results91, go_sem, resVal]) ?_
    simp only [Try.ntmps91]
    repeat' (first | with_reducible refine Go1.go ?_ | ((with_reducible apply ev_go); (focus ((try simp (disch := omega) only [push_cast, simprocAttr, *]); (try exact rfl); done))) | ((with_reducible refine w_draw [(bx, [.ar gs 0 m1 cS, .ar gc 0 m2 cC])] ?_ ?_ ?_ ?_ ?_); (iterate 3 (focus kernel_rfl)); (focus ((repeat (first | exact keep_nil | refine keep_more (by repeat (first | exact mm_h | apply mm_t)) ?_)); done))) | ((with_reducible refine And.intro ?_ ?_); (focus ((repeat (first | exact keep_nil | refine keep_more (by (repeat (first | exact mm_h | apply mm_t)); done) ?_)); done))) | ((with_reducible refine w_last ?_ ?_ ?_); kernel_rfl; rfl) | with_reducible refine Go2.go ?_ | ((with_reducible first | apply w_stepG | refine s_bi ?_ ?_ | refine blk_ne ?_ ?_); rfl) | ((with_reducible refine al_go ?_); intro b) | ((with_reducible apply (ck_lend Try.call103)); (focus exact hK.out); (focus exact ⟨lendP (by repeat (first | exact mm_h | apply mm_t)) (by repeat (first | exact mm_h | apply mm_t)) (by repeat (first | exact mm_h | apply mm_t)) f1.out e1.out l1.out f2.out e2.out l2.out, Lend.refl _, trivial⟩)) | ((with_reducible apply (ck_le Try.call104)); exact LEL.refl _; exact hB.out _) | ((with_reducible apply (ck_at Try.call105)); exact LEL.refl _; exact hD.out; (focus ((repeat (first | exact ra_h | apply ra_t)); done))) | ((with_reducible first | refine w_region ?_ ?_ | refine w_dra ?_ ?_); kernel_rfl) | ((with_reducible refine Go3.go ?_ ?_); all_goals (intro hb; (try with_reducible intro hb1); (try (exfalso; first | contradiction | omega)))) | fail)
    all_goals first
      | ((refine retA_mk (by first | exact .inl rfl | exact .inr rfl) (by first | rfl | assumption) (by (repeat (first | exact List.Sublist.refl _ | apply List.Sublist.cons))) (LE.of_eq ?_) (.inl ⟨?_, rfl, rfl⟩)); (focus simp (disch := omega) only [push_cast, simprocAttr, *]); (focus (rw [hF.out]; refine if_neg ?_; rintro ⟨h1, h2, h3⟩; (first | omega | exact Bool.noConfusion (h1.symm.trans (by assumption) : true = false) | exact Bool.noConfusion (h2.symm.trans (by assumption) : true = false) | exact Bool.noConfusion (h3.symm.trans (by assumption) : true = false) | (exact Bool.noConfusion (h1 : false = true))))))
      | ((refine retA_mk (by first | exact .inl rfl | exact .inr rfl) (by first | rfl | assumption) (List.Sublist.refl _) (LE.of_eq ?_) (.inr ⟨x', gs, cS, zS, gc, cC, D.i 0 :: zC, ?_, ⟨?_, ?_⟩, rfl, ?_⟩)); (focus simp (disch := omega) only [push_cast, simprocAttr, *]); (focus (rw [hF.out]; refine if_pos ⟨rfl, ?_, ?_⟩ <;> first | assumption | omega)); (focus (rw [s1.out, hR1.out]; exact hz1)); (focus (rw [s2.out, hRE.out]; have h1 := hel.out; have h2 := hcl2.out; have h3 := hcl.out; rw [List.length_append] at hz2 ⊢; rw [List.length_cons]; omega)); (focus (rw [s1.out, s2.out, hR1.out, hRE.out, hm1.out, hme.out])))
end Go.Proofs.Ytooaagmhgakhgaa
end

section
namespace Go.Proofs.Ytooaagmhgakhgaa
set_option linter.unusedSimpArgs false
attribute [local push_cast] encB encI encC V.cells_mk V.cells_len Nat.mul_one Int.sub_zero List.map_nil beq_self_eq_true List.head?_cons
open Go.RowKit
set_option maxRecDepth 10000
set_option maxHeartbeats 4000000
theorem modify_set {α : Type} {l : List α} {f : α → α} {i : Nat} {y : α} (h : l[i]? = some y) : l.modify i f = l.set i (f y) := by
  apply List.ext_getElem?
  intro j
  rw [List.getElem?_modify, List.getElem?_set]
  by_cases hj : i = j
  · subst hj
    obtain ⟨hlt, rfl⟩ := List.getElem?_eq_some_iff.1 h
    simp [hlt]
  · simp [hj]
theorem schRenameF (bx gs cS gc cC : Nat) (zS zC : List D) (x : Vr) (stp : Stp) (hx : VW x) (hs : stp.Ok) (hz : VL cS zS cC zC x) (s : St) : TrF Try.prog 92 [.ptr bx 0, .agg stp.cells] (VB bx gs cS zS gc cC zC x s) (StepR Sch.renameS x stp bx s) := by
  obtain ⟨ls, lc, hcs⟩ := hx
  obtain ⟨hn, hbg, ho⟩ := hs
  obtain ⟨hz1, hz2⟩ := hz
  have hK := schColumnF x stp [] (by omega) (by omega)
  have hB := schBareF stp.slot true false hbg
  have hN := valIsNameF stp.slot.name
  have hC := schColF x.slots x.cols stp.slot.name (by omega) (by omega) []
  have hF : Hid (Sch.renameS x stp = if Sch.column x stp = true ∧ Sch.bare stp.slot true false = true ∧ V.isName stp.slot.name.data.toList = true ∧ Sch.colL x.slots stp.slot.name x.cols < 0 then some ⟨x.slots.modify (Sch.at_ x stp) fun y => { y with name := stp.slot.name }, x.cols⟩ else none) := rfl
  have e1 := Lib.hid (slots_each x.slots)
  have e2 := Lib.hid (cols_each x.cols)
  have f1 := Lib.hid (slotC_flat x)
  have f2 := Lib.hid (colC_flat x)
  have l1 : Hid ((x.slots.map Sl.cells).length = x.slots.length) := List.length_map ..
  have l2 : Hid ((x.cols.map encC).length = x.cols.length) := List.length_map ..
  unfold StepR VL VB Stp.cells
  generalize Sch.renameS x stp = F at *
  cases hcl : Sch.column x stp with
  | false =>
    rw [hcl] at hK hF
    unfold Vr.cells Stp.cells at hK
    clear hcl
    cases stp with
    | mk kd col slot order =>
    cases slot with
    | mk nm ty rq dv =>
    cases dv with
    | mk k n sv l =>
    dsimp only at ho ⊢
    generalize slotC x.slots = R1 at *
    generalize colC x.cols = R2 at *
    generalize x.slots.map Sl.cells = L1 at *
    generalize x.cols.map encC = L2 at *
    rw [Sl.cells_mk] at *
    dsimp only [List.cons_append, List.nil_append] at hK ⊢
    generalize x.slots.length = m1 at *
    generalize x.cols.length = m2 at *
    replace hK := Lib.hid hK
    refine trF_enter (ts := [4]) Try.func92 rfl (by rw [Try.ntmps92]; exact Nat.le_of_ble_eq_true rfl) (fun tmps w => by simp [results, Try.results92, go_sem, resVal]) ?_
    simp only [Try.ntmps92]
    repeat' (first | with_reducible refine Go1.go ?_ | ((with_reducible apply ev_go); (focus ((try simp (disch := omega) only [push_cast, simprocAttr, *]); (try exact rfl); done))) | ((with_reducible refine w_last ?_ ?_ ?_); kernel_rfl; rfl) | with_reducible refine Go2.go ?_ | ((with_reducible first | apply w_stepG | refine s_bi ?_ ?_ | refine blk_ne ?_ ?_); rfl) | ((with_reducible refine al_go ?_); intro b) | ((with_reducible apply (ck_lend Try.call103)); (focus exact hK.out); (focus exact ⟨lendP (by repeat (first | exact mm_h | apply mm_t)) (by repeat (first | exact mm_h | apply mm_t)) (by repeat (first | exact mm_h | apply mm_t)) f1.out e1.out l1.out f2.out e2.out l2.out, Lend.refl _, trivial⟩)) | ((with_reducible first | refine w_region ?_ ?_ | refine w_dra ?_ ?_); kernel_rfl) | ((with_reducible refine Go3.go ?_ ?_); all_goals (intro hb; (try with_reducible intro hb1); (try (exfalso; first | contradiction | omega)))) | fail)
    all_goals ((refine retA_mk (by first | exact .inl rfl | exact .inr rfl) (by first | rfl | assumption) (by (repeat (first | exact List.Sublist.refl _ | apply List.Sublist.cons))) (LE.of_eq ?_) (.inl ⟨?_, rfl, rfl⟩)); (focus simp (disch := omega) only [push_cast, simprocAttr, *]); (focus (rw [hF.out]; refine if_neg ?_; rintro ⟨h1, h2, h3, h4⟩; (first | omega | exact Bool.noConfusion (h1.symm.trans (by assumption) : true = false) | exact Bool.noConfusion (h2.symm.trans (by assumption) : true = false) | exact Bool.noConfusion (h3.symm.trans (by assumption) : true = false) | exact Bool.noConfusion (h4.symm.trans (by assumption) : true = false) | (exact Bool.noConfusion (h1 : false = true))))))
  | true =>
    obtain ⟨hk1, hk2, hk3⟩ : 0 ≤ stp.col ∧ stp.col < x.cols.length ∧ stp.order.length = 0 := by
      unfold Sch.column at hcl
      simpa [and_assoc] using hcl
    obtain ⟨i, hi⟩ := Int.eq_ofNat_of_zero_le hk1
    have hlt : i < x.cols.length := by omega
    rw [hcl] at hK hF
    unfold Vr.cells Stp.cells at hK
    clear hcl hk1 hk2
    obtain ⟨c, hc⟩ : ∃ c, x.cols[i]? = some c := ⟨_, List.getElem?_eq_getElem hlt⟩
    have hcm : c < x.slots.length := hcs c (List.mem_of_getElem? hc)
    obtain ⟨y, hy⟩ : ∃ y, x.slots[c]? = some y := ⟨_, List.getElem?_eq_getElem hcm⟩
    have hat : Sch.at_ x stp = c := by
      unfold Sch.at_
      rw [hi, Int.toNat_natCast, List.getD_eq_getElem?_getD, hc]; rfl
    have hL2 : (x.cols.map encC)[i]? = some [D.i c] := by rw [List.getElem?_map, hc]; rfl
    have hL1 : (x.slots.map Sl.cells)[c]? = some y.cells := by rw [List.getElem?_map, hy]; rfl
    obtain ⟨t1, hld⟩ : ∃ tl, List.drop i (colC x.cols ++ zC) = D.i c :: tl := by
      obtain ⟨tl, h⟩ := row_drop (sz := 1) (o := 0) zC _ i (cols_each x.cols) hL2 (by omega)
      rw [Nat.mul_one, Nat.add_zero] at h
      exact ⟨tl, h⟩
    obtain ⟨x', hx'⟩ : ∃ x' : Vr, x' = ⟨x.slots.modify (Sch.at_ x stp) fun y => { y with name := stp.slot.name }, x.cols⟩ := ⟨_, rfl⟩
    rw [← hx'] at hF
    rw [hat, modify_set hy] at hx'
    have s1 : Hid (x'.slots = x.slots.set c { y with name := stp.slot.name }) := Lib.hid (by rw [hx'])
    have s2 : Hid (x'.cols = x.cols) := Lib.hid (by rw [hx'])
    have s3 : Hid ((x.slots.set c { y with name := stp.slot.name }).length = x.slots.length) := List.length_set
    have hsp : List.take (c * 7) (slotC x.slots ++ zS) ++ [D.str stp.slot.name] ++ List.drop (c * 7 + 1) (slotC x.slots ++ zS) = slotC (x.slots.set c { y with name := stp.slot.name }) ++ zS := by
      have h := row_splice (o := 0) (ds := [D.str stp.slot.name]) zS _ c (slots_each x.slots) hL1 (by simp)
      rw [show splice y.cells 0 [D.str stp.slot.name] = Sl.cells { y with name := stp.slot.name } from rfl, show (x.slots.map Sl.cells).set c (Sl.cells { y with name := stp.slot.name }) = (x.slots.set c { y with name := stp.slot.name }).map Sl.cells from (List.map_set ..).symm] at h
      exact h
    have hle : c * 7 + 1 ≤ cS * 7 := by
      have := slotC_len x.slots
      rw [List.length_append] at hz1
      omega
    have hl3 : (slotC (x.slots.set c { y with name := stp.slot.name }) ++ zS).length = cS * 7 := by
      rw [List.length_append] at hz1 ⊢
      rw [slotC_len, List.length_set, ← slotC_len]; exact hz1
    clear hx' hat hL1 hL2 hy hc
    generalize Sch.bare stp.slot true false = q at *
    generalize V.isName stp.slot.name.data.toList = qn at *
    generalize Sch.colL x.slots stp.slot.name x.cols = cv at *
    generalize hRE : slotC (x.slots.set c { y with name := stp.slot.name }) = RE at *
    replace hRE := Lib.hid hRE
    replace hl3 := Lib.hid hl3
    cases stp with
    | mk kd col slot order =>
    cases slot with
    | mk nm ty rq dv =>
    cases dv with
    | mk k n sv l =>
    dsimp only at hB hN hC ho hi hF ⊢
    subst hi
    generalize hR1 : slotC x.slots = R1 at *
    generalize hR2 : colC x.cols = R2 at *
    generalize x.slots.map Sl.cells = L1 at *
    generalize x.cols.map encC = L2 at *
    rw [Sl.cells_mk] at *
    dsimp only [List.cons_append, List.nil_append] at hK ⊢
    generalize hm1 : x.slots.length = m1 at *
    generalize hm2 : x.cols.length = m2 at *
    replace hR1 := Lib.hid hR1
    replace hR2 := Lib.hid hR2
    replace hm1 := Lib.hid hm1
    replace hm2 := Lib.hid hm2
    replace hK := Lib.hid hK
    replace hB := Lib.hid hB
    replace hN := Lib.hid hN
    replace hC := Lib.hid hC
    refine trF_enter (ts := [4]) Try.func92 rfl (by rw [Try.ntmps92]; exact Nat.le_of_ble_eq_true rfl) (fun tmps w => by simp [results, Try.results92, go_sem, resVal]) ?_
    simp only [Try.ntmps92]
    repeat' (first | with_reducible refine Go1.go ?_ | ((with_reducible apply ev_go); (focus ((try simp (disch := omega) only [push_cast, simprocAttr, *]); (try exact rfl); done))) | ((with_reducible refine w_draw_ne3 ?_ ?_ ?_ ?_); (iterate 3 (focus kernel_rfl)); intro hne1 hne2 hne3) | ((with_reducible refine w_last ?_ ?_ ?_); kernel_rfl; rfl) | with_reducible refine Go2.go ?_ | ((with_reducible first | apply w_stepG | refine s_bi ?_ ?_ | refine blk_ne ?_ ?_); rfl) | ((with_reducible refine al_go ?_); intro b) | ((with_reducible apply (ck_lend Try.call103)); (focus exact hK.out); (focus exact ⟨lendP (by repeat (first | exact mm_h | apply mm_t)) (by repeat (first | exact mm_h | apply mm_t)) (by repeat (first | exact mm_h | apply mm_t)) f1.out e1.out l1.out f2.out e2.out l2.out, Lend.refl _, trivial⟩)) | ((with_reducible apply (ck_lend Try.call38)); (focus exact hC.out); (focus exact ⟨Lend.agg ⟨Lend.rowE (by repeat (first | exact mm_h | apply mm_t)) f1.out (by decide) e1.out l1.out, Lend.rowE (by repeat (first | exact mm_h | apply mm_t)) f2.out (by decide) e2.out l2.out, trivial⟩, Lend.refl _, trivial⟩)) | ((with_reducible apply (ck_le Try.call104)); exact LEL.refl _; exact hB.out _) | ((with_reducible apply (ck_le Try.call86)); exact LEL.refl _; exact hN.out _) | ((with_reducible first | refine w_region ?_ ?_ | refine w_dra ?_ ?_); kernel_rfl) | ((with_reducible refine Go3.go ?_ ?_); all_goals (intro hb; (try with_reducible intro hb1); (try (exfalso; first | contradiction | omega)))) | fail)
    all_goals first
      | ((refine retA_mk (by first | exact .inl rfl | exact .inr rfl) (by first | rfl | assumption) (by (repeat (first | exact List.Sublist.refl _ | apply List.Sublist.cons))) (LE.of_eq ?_) (.inl ⟨?_, rfl, rfl⟩)); (focus simp (disch := omega) only [push_cast, simprocAttr, *]); (focus (rw [hF.out]; refine if_neg ?_; rintro ⟨h1, h2, h3, h4⟩; (first | omega | exact Bool.noConfusion (h1.symm.trans (by assumption) : true = false) | exact Bool.noConfusion (h2.symm.trans (by assumption) : true = false) | exact Bool.noConfusion (h3.symm.trans (by assumption) : true = false) | exact Bool.noConfusion (h4.symm.trans (by assumption) : true = false) | (exact Bool.noConfusion (h1 : false = true))))))
      | ((refine retA_mk (by first | exact .inl rfl | exact .inr rfl) (by first | rfl | assumption) (List.Sublist.refl _) (LE.of_eq ?_) (.inr ⟨x', gs, cS, zS, gc, cC, zC, ?_, ⟨?_, ?_⟩, rfl, ?_⟩)); (focus simp (disch := omega) only [push_cast, simprocAttr, *]); (focus (rw [hF.out]; refine if_pos ⟨rfl, ?_, ?_, ?_⟩ <;> first | assumption | omega)); (focus (rw [s1.out, hRE.out]; exact hl3.out)); (focus (rw [s2.out, hR2.out]; exact hz2)); (focus (rw [s1.out, s2.out, s3.out, hRE.out, hR2.out, hm2.out])))
end Go.Proofs.Ytooaagmhgakhgaa
end

section
namespace Go.Proofs.Ytooaagmhgakhgaa
set_option linter.unusedSimpArgs false
attribute [local push_cast] encB encI encC V.cells_mk V.cells_len Nat.mul_one Int.sub_zero List.map_nil beq_self_eq_true List.head?_cons
open Go.RowKit
set_option maxRecDepth 10000
set_option maxHeartbeats 4000000
def CopyS (x : Vr) (st : St) (d : D) (st' : St) : Prop := ∃ gs cS zS, (slotC x.slots ++ zS).length = cS * 7 ∧ d = D.agg [.ar gs 0 x.slots.length cS, .sl .shared (x.cols.map encC)] ∧ st' = Res.box gs 26 (slotC x.slots ++ zS) :: st
theorem copyS_ex (x : Vr) (st : St) : ∃ d st', CopyS x st d st' := ⟨_, _, 0, x.slots.length, [], by rw [List.append_nil, slotC_len], rfl, rfl⟩
theorem refCopySF' (x : Vr) (h1 : 1 ≤ x.slots.length) (h2 : 1 ≤ x.cols.length) (hl : x.slots.length ≤ 1000) (hc : x.cols.length ≤ 1000) (st : St) : TrF Try.prog 96 [.agg x.cells] st (CopyS x st) :=
  (refCopySF x h1 h2 hl hc st).mono fun d st' ⟨⟨gs, cS, zS⟩, k1, k2, k3⟩ => ⟨gs, cS, zS, k1, k2, k3⟩
def Raw1 (x : Vr) (s : Stp) (st : St) (d : D) (st' : St) : Prop := ∃ i : (Bool × Vr) × RI, (Sch.stepV x s = if i.1.1 then some i.1.2 else none) ∧ d = .tup [.agg [.ar i.2.1 0 i.1.2.slots.length i.2.2.1, .sl .shared (i.1.2.cols.map encC)], .b i.1.1] ∧ st' = .box i.2.1 26 ((i.1.2.slots.map Sl.cells).flatten ++ i.2.2.2) :: st
theorem raw1_rest {x : Vr} {s : Stp} {st : St} {f : FuncId} {args : List D} (h : TrF Try.prog f args st (Raw1 x s st)) : TrF Try.prog f args st (RefStepR x s st) := by
  have h1 := TrF.rest (ι := (Bool × Vr) × RI) (g := fun i => i.2.1) (n := fun i => i.1.2.slots.length) (cap := fun i => i.2.2.1) (es := fun i => i.1.2.slots.map Sl.cells) (F' := fun i => .tup [.agg i.1.2.cells, .b i.1.1]) (sz := 7) (by decide) (fun i _ => ⟨slots_each i.1.2.slots, List.length_map ..⟩) (fun i => .tup _ _ (.cons _ _ _ _ (.agg _ _ (.cons _ _ _ _ .ar (.cons _ _ _ _ (.same _) .nil))) (.cons _ _ _ _ (.same _) .nil))) h
  refine h1.mono fun d st' ⟨i, k1, k2, k3⟩ => ?_
  obtain ⟨⟨ok, y⟩, i2⟩ := i
  cases ok with
  | true => exact .inr ⟨y, k1, k2, k3⟩
  | false => exact .inl ⟨k1, _, _, k2, k3⟩
theorem refRenameF (x : Vr) (s : Stp) (h : RefP x s) (hk : s.kind = 3) (st : St) : TrF Try.prog 80 [.agg x.cells, .agg s.cells] st (RefStepR x s st) := by
  refine raw1_rest ?_
  obtain ⟨⟨hl, hp, hcp, hcl, hcs⟩, hq, hty, ho⟩ := h
  have hC := refCopySF' x hp hcp hl (by omega)
  have hE := copyS_ex x
  have hR := refRestF s hq.ok (by omega) ho
  have hF : Hid (Sch.stepV x s = Sch.renameS x s) := Lib.hid (by unfold Sch.stepV; rw [if_neg (show ¬ s.kind = 1 by omega), if_neg (show ¬ s.kind = 2 by omega), if_pos hk])
  have hrv : Sch.restV s = (Sch.bare s.slot true false && decide (s.order.length = 0)) := by unfold Sch.restV; rw [if_neg (show ¬ s.kind = 1 by omega), if_neg (show ¬ s.kind = 2 by omega), if_pos hk]
  rw [hrv] at hR
  clear hrv
  unfold Raw1
  have hC := fun st => hC st
  unfold CopyS at hC hE
  have l2 : (x.cols.map encC).length = x.cols.length := List.length_map ..
  have hN := Lib.hid (refIsNameF s.slot.name)
  have hL := Lib.hid (refColF x.slots x.cols s.slot.name (by omega) (by omega) hcs [])
  have e1 := Lib.hid (slots_each x.slots)
  have f1 : Hid ((x.slots.map Sl.cells).flatten = slotC x.slots) := rfl
  have l1 : Hid ((x.slots.map Sl.cells).length = x.slots.length) := List.length_map ..
  unfold Sch.renameS Sch.col at hF
  by_cases hb : Sch.bare s.slot true false = true ∧ s.order.length = 0
  · obtain ⟨hb1, hb2⟩ := hb
    rw [hb1, hb2] at hR
    rw [hb1] at hF
    by_cases hcr : 0 ≤ s.col ∧ s.col < x.cols.length
    · obtain ⟨hc1, hc2⟩ := hcr
      have hcol : Sch.column x s = true := by unfold Sch.column; simp [hc1, hc2, hb2]
      rw [hcol] at hF
      obtain ⟨i, hi⟩ := Int.eq_ofNat_of_zero_le hc1
      have hilt : i < x.cols.length := by omega
      obtain ⟨c, hc⟩ : ∃ c, x.cols[i]? = some c := ⟨_, List.getElem?_eq_getElem hilt⟩
      have hcm : c < x.slots.length := hcs c (List.mem_of_getElem? hc)
      obtain ⟨z, hz⟩ : ∃ z, x.slots[c]? = some z := ⟨_, List.getElem?_eq_getElem hcm⟩
      have hat : Sch.at_ x s = c := by
        unfold Sch.at_
        rw [hi, Int.toNat_natCast, List.getD_eq_getElem?_getD, hc]; rfl
      rw [hat, modify_set hz] at hF
      have hL2i : (x.cols.map encC)[i]? = some [D.i c] := by rw [List.getElem?_map, hc]; rfl
      have hL1c : (x.slots.map Sl.cells)[c]? = some z.cells := by rw [List.getElem?_map, hz]; rfl
      obtain ⟨y, hy⟩ : ∃ y : Vr, y = ⟨x.slots.set c { z with name := s.slot.name }, x.cols⟩ := ⟨_, rfl⟩
      rw [← hy] at hF
      have hsp : Hid (∀ zS, List.take (c * 7) (slotC x.slots ++ zS) ++ [D.str s.slot.name] ++ List.drop (c * 7 + 1) (slotC x.slots ++ zS) = (y.slots.map Sl.cells).flatten ++ zS) := fun zS => by
        have h := row_splice (o := 0) (ds := [D.str s.slot.name]) zS _ c (slots_each x.slots) hL1c (by simp)
        rw [show splice z.cells 0 [D.str s.slot.name] = Sl.cells { z with name := s.slot.name } from rfl, show (x.slots.map Sl.cells).set c (Sl.cells { z with name := s.slot.name }) = (x.slots.set c { z with name := s.slot.name }).map Sl.cells from (List.map_set ..).symm] at h
        rw [hy]
        exact h
      have hys : Hid (y.slots.length = x.slots.length) := Lib.hid (by rw [hy]; simp)
      have hyc : Hid (y.cols.map encC = x.cols.map encC) := Lib.hid (by rw [hy])
      have hrl := slotC_len x.slots
      have hle : Hid (∀ (zS : List D) (cS : Nat), (slotC x.slots ++ zS).length = cS * 7 → c * 7 + 1 ≤ cS * 7) := fun zS cS h => by
        rw [List.length_append] at h
        omega
      clear hy hcs hq hty hat hc hz hL1c hcol
      unfold Vr.cells Stp.cells at *
      generalize Sch.stepV x s = F at *
      cases s with
      | mk kd col slot order =>
      cases slot with
      | mk nm ty rq dv =>
      cases dv with
      | mk k n sv lv =>
      dsimp only at hC hE hR hF hk ho hi hb2 hc1 hc2 hsp hN hL ⊢
      subst hk
      rw [Sl.cells_mk] at *
      dsimp only [List.cons_append, List.nil_append] at *
      generalize r1e : slotC x.slots = R1 at *
      generalize m1e : x.slots.length = m1 at *
      generalize m2e : x.cols.length = m2 at *
      generalize hL1 : x.slots.map Sl.cells = L1 at *
      generalize hL2 : x.cols.map encC = L2 at *
      have r1e : Hid ((x.slots.map Sl.cells).flatten = R1) := r1e
      replace m1e := Lib.hid m1e
      replace m2e := Lib.hid m2e
      replace hL1 := Lib.hid hL1
      replace hL2 := Lib.hid hL2
      replace hC := Lib.hid hC
      replace hE := Lib.hid hE
      replace hR := Lib.hid hR
      subst hi
      replace hb1 := Lib.hid hb1
      replace hb2 := Lib.hid hb2
      generalize V.isName nm.data.toList = qn at *
      generalize Sch.colL x.slots nm x.cols = cv at *
      refine trF_enterG (G := twoA Try.prog (.cell 4 52) (.tmp 5)) Try.func80 rfl (by rw [Try.ntmps80]; exact Nat.le_of_ble_eq_true rfl) (fun h1 h2 h3 => res_two rfl h1 h2 h3) ?_
      simp only [Try.ntmps80]
      repeat' (first | with_reducible refine Go1.go ?_ | ((with_reducible apply ev_go); (focus ((try simp (disch := omega) only [push_cast, simprocAttr, *]); (try exact rfl); done))) | ((with_reducible apply (w_drawN [(b, [.ar gs 0 m1 cS, .sl .shared L2])])); (iterate 3 (focus kernel_rfl)); (focus ((repeat (first | exact keep_nil | refine keep_more (by (repeat (first | exact mm_h | apply mm_t)); done) ?_)); done)); intro hne; simp only [nes, ne1, and_assoc] at hne; repeat (have hq := hne.1; replace hne := hne.2)) | ((with_reducible refine And.intro ?_ ?_); (focus ((repeat (first | exact keep_nil | refine keep_more (by (repeat (first | exact mm_h | apply mm_t)); done) ?_)); done))) | ((with_reducible refine w_last ?_ ?_ ?_); kernel_rfl; rfl) | with_reducible refine Go2.go ?_ | ((with_reducible first | apply w_stepG | refine s_bi ?_ ?_ | refine blk_ne ?_ ?_); rfl) | ((with_reducible refine al_go ?_); intro b) | ((with_reducible apply (ck_gen Try.call96)); (focus exact List.Perm.refl _); (focus exact hC.out _); (focus exact LEL.refl _); (focus exact hE.out _); (rintro d st' ⟨gs, cS, zS, hz1, rfl, rfl⟩); (have hle2 := hle.out zS cS hz1; have hsp2 := hsp.out zS)) | ((with_reducible apply (ck_le Try.call97)); exact LEL.refl _; exact hR.out _) | ((with_reducible apply (ck_le Try.call77)); exact LEL.refl _; exact hN.out _) | ((with_reducible apply (ck_lend Try.call79)); (focus exact hL.out); (focus exact ⟨Lend.agg ⟨Lend.rowE (by repeat (first | exact mm_h | apply mm_t)) f1.out (by decide) e1.out l1.out, Lend.refl _, trivial⟩, Lend.refl _, trivial⟩)) | ((with_reducible first | refine w_region ?_ ?_ | refine w_dra ?_ ?_); kernel_rfl) | ((with_reducible refine Go3.go ?_ ?_); all_goals (intro hb; (try with_reducible intro hb1); (try (exfalso; first | contradiction | omega)))) | fail)
      all_goals first
        | ((refine retG_mk (rs := []) (by first | exact .inl rfl | exact .inr rfl) (by first | rfl | assumption) (.swap _ _ _) ⟨_, _, rfl, cell_mk (by simp (disch := omega) only [push_cast, simprocAttr, *]; exact rfl) (by repeat (first | exact mm_h | apply mm_t)) (by simp (disch := omega) only [push_cast, simprocAttr, *]; exact rfl) (by (try simp (disch := omega) only [push_cast, simprocAttr, *]); (try exact rfl); done), (by show _ = _; (try simp (disch := omega) only [push_cast, simprocAttr, *]); (try exact rfl); done)⟩ (((List.Sublist.refl _).cons _).cons _ |>.cons_cons _) (LE.refl _) ⟨((false, x), (gs, cS, zS)), ?_, by simp only [m1e.out, hL2.out], by simp only [r1e.out]⟩); (rw [hF.out]; refine if_neg ?_; rintro ⟨h1, h2, h3, h4⟩; first | omega | exact Bool.noConfusion (h3.symm.trans (by assumption) : true = false)))
        | ((refine retG_mk (rs := []) (by first | exact .inl rfl | exact .inr rfl) (by first | rfl | assumption) (.swap _ _ _) ⟨_, _, rfl, cell_mk (by simp (disch := omega) only [push_cast, simprocAttr, *]; exact rfl) (by repeat (first | exact mm_h | apply mm_t)) (by simp (disch := omega) only [push_cast, simprocAttr, *]; exact rfl) (by (try simp (disch := omega) only [push_cast, simprocAttr, *]); (try exact rfl); done), (by show _ = _; (try simp (disch := omega) only [push_cast, simprocAttr, *]); (try exact rfl); done)⟩ (((List.Sublist.refl _).cons _).cons _ |>.cons_cons _) (LE.refl _) ⟨((true, y), (gs, cS, zS)), ?_, by simp only [hys.out, hyc.out], rfl⟩); (rw [hF.out]; exact if_pos (by refine ⟨rfl, rfl, ?_, ?_⟩ <;> first | assumption | omega)))
    · have hFn : Hid (Sch.stepV x s = none) := Lib.hid (by
        rw [hF.out, if_neg]
        rintro ⟨h1, -⟩
        unfold Sch.column at h1
        simp at h1
        omega)
      clear hF hcs hN hL hq hty
      unfold Vr.cells Stp.cells at *
      generalize Sch.stepV x s = F at *
      cases s with
      | mk kd col slot order =>
      cases slot with
      | mk nm ty rq dv =>
      cases dv with
      | mk k n sv lv =>
      dsimp only at hC hE hR hk ho hb2 hcr ⊢
      subst hk
      rw [Sl.cells_mk] at *
      dsimp only [List.cons_append, List.nil_append] at *
      generalize r1e : slotC x.slots = R1 at *
      generalize m1e : x.slots.length = m1 at *
      generalize m2e : x.cols.length = m2 at *
      generalize hL1 : x.slots.map Sl.cells = L1 at *
      generalize hL2 : x.cols.map encC = L2 at *
      have r1e : Hid ((x.slots.map Sl.cells).flatten = R1) := r1e
      replace m1e := Lib.hid m1e
      replace m2e := Lib.hid m2e
      replace hL1 := Lib.hid hL1
      replace hL2 := Lib.hid hL2
      replace hC := Lib.hid hC
      replace hE := Lib.hid hE
      replace hR := Lib.hid hR
      replace hb1 := Lib.hid hb1
      replace hb2 := Lib.hid hb2
      have hcr' : col < 0 ∨ (0 ≤ col ∧ (m2 : Int) ≤ col) := by omega
      clear hcr
      rcases hcr' with h1 | ⟨h1, h2⟩
      all_goals skip
      all_goals (
        refine trF_enterG (G := twoA Try.prog (.cell 4 52) (.tmp 5)) Try.func80 rfl (by rw [Try.ntmps80]; exact Nat.le_of_ble_eq_true rfl) (fun h1 h2 h3 => res_two rfl h1 h2 h3) ?_
        simp only [Try.ntmps80]
        repeat' (first | with_reducible refine Go1.go ?_ | ((with_reducible apply ev_go); (focus ((try simp (disch := omega) only [push_cast, simprocAttr, *]); (try exact rfl); done))) | ((with_reducible refine w_last ?_ ?_ ?_); kernel_rfl; rfl) | with_reducible refine Go2.go ?_ | ((with_reducible first | apply w_stepG | refine s_bi ?_ ?_ | refine blk_ne ?_ ?_); rfl) | ((with_reducible refine al_go ?_); intro b) | ((with_reducible apply (ck_gen Try.call96)); (focus exact List.Perm.refl _); (focus exact hC.out _); (focus exact LEL.refl _); (focus exact hE.out _); (rintro d st' ⟨gs, cS, zS, hz1, rfl, rfl⟩)) | ((with_reducible apply (ck_le Try.call97)); exact LEL.refl _; exact hR.out _) | ((with_reducible first | refine w_region ?_ ?_ | refine w_dra ?_ ?_); kernel_rfl) | ((with_reducible refine Go3.go ?_ ?_); all_goals (intro hb; (try with_reducible intro hb1); (try (exfalso; first | contradiction | omega)))) | fail)
        all_goals (refine retG_mk (rs := []) (by first | exact .inl rfl | exact .inr rfl) (by first | rfl | assumption) (.swap _ _ _) ⟨_, _, rfl, cell_mk (by simp (disch := omega) only [push_cast, simprocAttr, *]; exact rfl) (by repeat (first | exact mm_h | apply mm_t)) (by simp (disch := omega) only [push_cast, simprocAttr, *]; exact rfl) (by (try simp (disch := omega) only [push_cast, simprocAttr, *]); (try exact rfl); done), (by show _ = _; (try simp (disch := omega) only [push_cast, simprocAttr, *]); (try exact rfl); done)⟩ (((List.Sublist.refl _).cons _).cons _ |>.cons_cons _) (LE.refl _) ⟨((false, x), (gs, cS, zS)), hFn.out, by simp only [m1e.out, hL2.out], by simp only [r1e.out]⟩))
  · have hrr : (Sch.bare s.slot true false && decide (s.order.length = 0)) = false := by
      cases h1 : Sch.bare s.slot true false with
      | false => rfl
      | true => rw [Bool.true_and, decide_eq_false fun h2 => hb ⟨h1, h2⟩]
    rw [hrr] at hR
    have hFn : Hid (Sch.stepV x s = none) := Lib.hid (by
      rw [hF.out, if_neg]
      rintro ⟨h1, h2, -⟩
      unfold Sch.column at h1
      simp at h1
      exact hb ⟨h2, by rw [h1.2]; rfl⟩)
    clear hF hcs hN hL hb hrr hq hty
    unfold Vr.cells Stp.cells at *
    generalize Sch.stepV x s = F at *
    cases s with
    | mk kd col slot order =>
    cases slot with
    | mk nm ty rq dv =>
    cases dv with
    | mk k n sv lv =>
    dsimp only at hC hE hR hk ho ⊢
    subst hk
    rw [Sl.cells_mk] at *
    dsimp only [List.cons_append, List.nil_append] at *
    generalize r1e : slotC x.slots = R1 at *
    generalize m1e : x.slots.length = m1 at *
    generalize m2e : x.cols.length = m2 at *
    generalize hL1 : x.slots.map Sl.cells = L1 at *
    generalize hL2 : x.cols.map encC = L2 at *
    have r1e : Hid ((x.slots.map Sl.cells).flatten = R1) := r1e
    replace m1e := Lib.hid m1e
    replace m2e := Lib.hid m2e
    replace hL1 := Lib.hid hL1
    replace hL2 := Lib.hid hL2
    replace hC := Lib.hid hC
    replace hE := Lib.hid hE
    replace hR := Lib.hid hR
    refine trF_enterG (G := twoA Try.prog (.cell 4 52) (.tmp 5)) Try.func80 rfl (by rw [Try.ntmps80]; exact Nat.le_of_ble_eq_true rfl) (fun h1 h2 h3 => res_two rfl h1 h2 h3) ?_
    simp only [Try.ntmps80]
    repeat' (first | with_reducible refine Go1.go ?_ | ((with_reducible apply ev_go); (focus ((try simp (disch := omega) only [push_cast, simprocAttr, *]); (try exact rfl); done))) | ((with_reducible refine w_last ?_ ?_ ?_); kernel_rfl; rfl) | with_reducible refine Go2.go ?_ | ((with_reducible first | apply w_stepG | refine s_bi ?_ ?_ | refine blk_ne ?_ ?_); rfl) | ((with_reducible refine al_go ?_); intro b) | ((with_reducible apply (ck_gen Try.call96)); (focus exact List.Perm.refl _); (focus exact hC.out _); (focus exact LEL.refl _); (focus exact hE.out _); (rintro d st' ⟨gs, cS, zS, hz1, rfl, rfl⟩)) | ((with_reducible apply (ck_le Try.call97)); exact LEL.refl _; exact hR.out _) | ((with_reducible first | refine w_region ?_ ?_ | refine w_dra ?_ ?_); kernel_rfl) | ((with_reducible refine Go3.go ?_ ?_); all_goals (intro hb; (try with_reducible intro hb1); (try (exfalso; first | contradiction | omega)))) | fail)
    all_goals (refine retG_mk (rs := []) (by first | exact .inl rfl | exact .inr rfl) (by first | rfl | assumption) (.swap _ _ _) ⟨_, _, rfl, cell_mk (by simp (disch := omega) only [push_cast, simprocAttr, *]; exact rfl) (by repeat (first | exact mm_h | apply mm_t)) (by simp (disch := omega) only [push_cast, simprocAttr, *]; exact rfl) (by (try simp (disch := omega) only [push_cast, simprocAttr, *]); (try exact rfl); done), (by show _ = _; (try simp (disch := omega) only [push_cast, simprocAttr, *]); (try exact rfl); done)⟩ (((List.Sublist.refl _).cons _).cons _ |>.cons_cons _) (LE.refl _) ⟨((false, x), (gs, cS, zS)), hFn.out, by simp only [m1e.out, hL2.out], by simp only [r1e.out]⟩)
end Go.Proofs.Ytooaagmhgakhgaa
end

section
namespace Go.Proofs.Ytooaagmhgakhgaa
set_option linter.unusedSimpArgs false
attribute [local push_cast] encB encI encC V.cells_mk V.cells_len Nat.mul_one Int.sub_zero List.map_nil beq_self_eq_true List.head?_cons
open Go.RowKit
set_option maxRecDepth 10000
set_option maxHeartbeats 4000000
def wt (t s : Nat) : Nat → Nat
  | 0 => t
  | k + 1 => if Sch.has s k && !Sch.has (wt t s k) k then wt t s k + 2 ^ k else wt t s k
def wm (t s : Nat) : Nat → Bool
  | 0 => false
  | k + 1 => if Sch.has s k && !Sch.has (wt t s k) k then true else wm t s k
theorem wt_all : ∀ t s : Fin 64, wt t s 6 = t.val ||| s.val ∧ wm t s 6 = (t.val ||| s.val != t.val) := by decide +kernel
theorem wt_le (t s : Nat) : ∀ k, wt t s k + 1 ≤ t + 2 ^ k
  | 0 => by rw [wt]; omega
  | k + 1 => by
    have := wt_le t s k
    rw [wt, Nat.pow_succ]
    split <;> omega
theorem refWidenF (x : Vr) (s : Stp) (h : RefP x s) (hxt : ∀ z ∈ x.slots, Sch.takes z.types = true) (hk : s.kind = 4) (st : St) : TrF Try.prog 80 [.agg x.cells, .agg s.cells] st (RefStepR x s st) := by
  refine raw1_rest ?_
  obtain ⟨⟨hl, hp, hcp, hcl, hcs⟩, hq, hty, ho⟩ := h
  have hC := refCopySF' x hp hcp hl (by omega)
  have hE := copyS_ex x
  have hR := refRestF s hq.ok (by omega) ho
  have hF : Hid (Sch.stepV x s = Sch.widenS x s) := Lib.hid (by unfold Sch.stepV; rw [if_neg (show ¬ s.kind = 1 by omega), if_neg (show ¬ s.kind = 2 by omega), if_neg (show ¬ s.kind = 3 by omega), if_pos hk])
  have hrv : Sch.restV s = (Sch.bare s.slot false true && decide (s.order.length = 0)) := by unfold Sch.restV; rw [if_neg (show ¬ s.kind = 1 by omega), if_neg (show ¬ s.kind = 2 by omega), if_neg (show ¬ s.kind = 3 by omega), if_pos hk]
  rw [hrv] at hR
  clear hrv
  unfold Raw1
  have hC := fun st => hC st
  unfold CopyS at hC hE
  have l2 : (x.cols.map encC).length = x.cols.length := List.length_map ..
  unfold Sch.widenS at hF
  by_cases hb : Sch.bare s.slot false true = true ∧ s.order.length = 0
  · obtain ⟨hb1, hb2⟩ := hb
    rw [hb1, hb2] at hR
    rw [hb1] at hF
    by_cases hcr : 0 ≤ s.col ∧ s.col < x.cols.length
    · obtain ⟨hc1, hc2⟩ := hcr
      have hcol : Sch.column x s = true := by unfold Sch.column; simp [hc1, hc2, hb2]
      rw [hcol] at hF
      obtain ⟨i, hi⟩ := Int.eq_ofNat_of_zero_le hc1
      have hilt : i < x.cols.length := by omega
      obtain ⟨c, hc⟩ : ∃ c, x.cols[i]? = some c := ⟨_, List.getElem?_eq_getElem hilt⟩
      have hcm : c < x.slots.length := hcs c (List.mem_of_getElem? hc)
      obtain ⟨z, hz⟩ : ∃ z, x.slots[c]? = some z := ⟨_, List.getElem?_eq_getElem hcm⟩
      have hat : Sch.at_ x s = c := by
        unfold Sch.at_
        rw [hi, Int.toNat_natCast, List.getD_eq_getElem?_getD, hc]; rfl
      have hzt := hxt z (List.mem_of_getElem? hz)
      by_cases htk : Sch.takes s.slot.types = true
      · obtain ⟨tn, sn, ht1, hs1, htl, hsl, hor, hol⟩ := Sch.widen_nat hzt htk
        have hall := wt_all ⟨tn, htl⟩ ⟨sn, hsl⟩
        dsimp only at hall
        obtain ⟨hw1, hw2⟩ := hall
        rw [hat, modify_set hz, hz, Option.any_some, htk, hor] at hF
        have hL2i : (x.cols.map encC)[i]? = some [D.i c] := by rw [List.getElem?_map, hc]; rfl
        have hL1c : (x.slots.map Sl.cells)[c]? = some z.cells := by rw [List.getElem?_map, hz]; rfl
        obtain ⟨w, hw⟩ : ∃ w, tn ||| sn = w := ⟨_, rfl⟩
        rw [hw] at hF hw1 hw2 hol
        obtain ⟨y, hy⟩ : ∃ y : Vr, y = ⟨x.slots.set c { z with types := (w : Int) }, x.cols⟩ := ⟨_, rfl⟩
        rw [← hy] at hF
        have hFw : Hid (Sch.stepV x s = if (w != tn) = true then some y else none) := Lib.hid (by
          rw [hF.out]
          by_cases hwt : w = tn
          · rw [if_neg (by rw [ht1]; simp [hwt]), if_neg (by simp [hwt])]
          · rw [if_pos (by refine ⟨rfl, rfl, rfl, ?_⟩; rw [ht1, bne_iff_ne]; omega), if_pos (by simp [hwt])])
        have hsp : Hid (∀ zS, List.take (c * 7 + 1) (slotC x.slots ++ zS) ++ [D.i w] ++ List.drop (c * 7 + 1 + 1) (slotC x.slots ++ zS) = (y.slots.map Sl.cells).flatten ++ zS) := fun zS => by
          have h := row_splice (o := 1) (ds := [D.i w]) zS _ c (slots_each x.slots) hL1c (by simp)
          rw [show splice z.cells 1 [D.i w] = Sl.cells { z with types := (w : Int) } from rfl, show (x.slots.map Sl.cells).set c (Sl.cells { z with types := (w : Int) }) = (x.slots.set c { z with types := (w : Int) }).map Sl.cells from (List.map_set ..).symm] at h
          rw [hy]
          exact h
        have hld : Hid (∀ zS, ∃ tl, List.drop (c * 7 + 1) (slotC x.slots ++ zS) = D.i tn :: tl) := fun zS => by
          obtain ⟨tl, h⟩ := row_drop (sz := 7) (o := 1) zS _ c (slots_each x.slots) hL1c (by omega)
          rw [show z.cells.drop 1 = D.i z.types :: z.cells.drop 2 from rfl, ht1] at h
          exact ⟨_, h⟩
        have hys : Hid (y.slots.length = x.slots.length) := Lib.hid (by rw [hy]; simp)
        have hyc : Hid (y.cols.map encC = x.cols.map encC) := Lib.hid (by rw [hy])
        have hrl := slotC_len x.slots
        have hle : Hid (∀ (zS : List D) (cS : Nat), (slotC x.slots ++ zS).length = cS * 7 → c * 7 + 1 + 1 ≤ cS * 7) := fun zS cS h => by
          rw [List.length_append] at h
          omega
        have hHs := Lib.hid fun k (h : k ≤ 6) => refHasF sn k (by omega) (by omega)
        have hHt := Lib.hid fun k (h : k ≤ 6) => refHasF (wt tn sn k) k (by omega) (by have := wt_le tn sn k; have : 2 ^ k ≤ 2 ^ 6 := Nat.pow_le_pow_right (by decide) h; omega)
        have hwb : Hid (∀ k, k ≤ 6 → wt tn sn k ≤ 200 ∧ 2 ^ k ≤ 64) := fun k h => by
          have := wt_le tn sn k
          have : 2 ^ k ≤ 2 ^ 6 := Nat.pow_le_pow_right (by decide) h
          omega
        replace htk := Sch.takes_iff.1 htk
        clear hy hcs hq hty hat hc hz hL1c hcol hF hor hzt hxt ht1
        replace hw1 := Lib.hid hw1
        replace hw2 := Lib.hid hw2
        replace hw := Lib.hid hw
        unfold Vr.cells Stp.cells at *
        generalize Sch.stepV x s = F at *
        cases s with
        | mk kd col slot order =>
        cases slot with
        | mk nm ty rq dv =>
        cases dv with
        | mk k n sv lv =>
        dsimp only at hC hE hR hFw hk ho hi hb2 hc1 hc2 hsp hs1 htk ⊢
        subst hk
        rw [Sl.cells_mk] at *
        dsimp only [List.cons_append, List.nil_append] at *
        generalize r1e : slotC x.slots = R1 at *
        generalize m1e : x.slots.length = m1 at *
        generalize m2e : x.cols.length = m2 at *
        generalize hL1 : x.slots.map Sl.cells = L1 at *
        generalize hL2 : x.cols.map encC = L2 at *
        have r1e : Hid ((x.slots.map Sl.cells).flatten = R1) := r1e
        replace m1e := Lib.hid m1e
        replace m2e := Lib.hid m2e
        replace hL1 := Lib.hid hL1
        replace hL2 := Lib.hid hL2
        replace hC := Lib.hid hC
        replace hE := Lib.hid hE
        replace hR := Lib.hid hR
        subst hi hs1
        replace hb1 := Lib.hid hb1
        replace hb2 := Lib.hid hb2
        refine trF_enterG (G := twoA Try.prog (.cell 4 52) (.tmp 5)) Try.func80 rfl (by rw [Try.ntmps80]; exact Nat.le_of_ble_eq_true rfl) (fun h1 h2 h3 => res_two rfl h1 h2 h3) ?_
        simp only [Try.ntmps80]
        repeat' (first | with_reducible refine Go1.go ?_ | ((with_reducible apply ev_go); (focus ((try simp (disch := omega) only [push_cast, simprocAttr, *]); (try exact rfl); done))) | ((with_reducible apply (w_drawN [(b, [.ar gs 0 m1 cS, .sl .shared L2]), (gs, R1 ++ zS)])); (iterate 3 (focus kernel_rfl)); (focus ((repeat (first | exact keep_nil | refine keep_more (by (repeat (first | exact mm_h | apply mm_t)); done) ?_)); done)); intro hne; simp only [nes, ne1, and_assoc] at hne; repeat (have hq := hne.1; replace hne := hne.2)) | ((with_reducible refine And.intro ?_ ?_); (focus ((repeat (first | exact keep_nil | refine keep_more (by (repeat (first | exact mm_h | apply mm_t)); done) ?_)); done))) | ((with_reducible refine w_last ?_ ?_ ?_); kernel_rfl; rfl) | with_reducible refine Go2.go ?_ | ((with_reducible first | apply w_stepG | refine s_bi ?_ ?_ | refine blk_ne ?_ ?_); rfl) | ((with_reducible refine al_go ?_); intro b) | ((with_reducible apply (ck_gen Try.call96)); (focus exact List.Perm.refl _); (focus exact hC.out _); (focus exact LEL.refl _); (focus exact hE.out _); (rintro d st' ⟨gs, cS, zS, hz1, rfl, rfl⟩); (have hle2 := hle.out zS cS hz1; have hsp2 := hsp.out zS; obtain ⟨t2, hld2⟩ := hld.out zS; obtain ⟨b4, rfl⟩ : ∃ q, q = b := ⟨_, rfl⟩)) | ((with_reducible apply (ck_le Try.call97)); exact LEL.refl _; exact hR.out _) | ((with_reducible first | refine w_region ?_ ?_ | refine w_dra ?_ ?_); kernel_rfl) | ((with_reducible refine Go3.go ?_ ?_); all_goals (intro hb; (try with_reducible intro hb1); (try (exfalso; first | contradiction | omega)))) | fail)
        obtain ⟨b6, rfl⟩ : ∃ q, q = b := ⟨_, rfl⟩
        have hL2i' := hL2i
        refine tr_loopd (ι := Nat) (fun k' A st' => k' ≤ 6 ∧ A.df = [] ∧ A.e 3 = .ip [.i 4, .i i, .str nm, .i sn, .b rq, .i k, .i n, .str sv, .sl .shared (lv.map V.cells), .sl .shared (order.map encI)] ∧ A.e 4 = .ptr b4 0 ∧ A.e 6 = .ptr b6 0 ∧ A.e 10 = .i k' ∧ (∃ tk bk : Nat, Hid (wt tn sn k' = tk) ∧ Hid (2 ^ k' = bk) ∧ A.e 7 = .i tk ∧ A.e 8 = .i bk) ∧ (∃ mk : Bool, Hid (wm tn sn k' = mk) ∧ A.e 9 = .b mk) ∧
          st' = .box b6 52 [.ar gs 0 m1 cS, .sl .shared L2] :: .box gs 26 (R1 ++ zS) :: .box b4 52 [.sl .tight [], .sl .tight []] :: st) (fun k' => 6 - k') 0 ⟨Nat.zero_le _, by (first | rfl | assumption | omega | (simp (disch := omega) only [push_cast, simprocAttr, *]; try omega; done)), by (first | rfl | assumption | omega | (simp (disch := omega) only [push_cast, simprocAttr, *]; try omega; done)), by (first | rfl | assumption | omega | (simp (disch := omega) only [push_cast, simprocAttr, *]; try omega; done)), by (first | rfl | assumption | omega | (simp (disch := omega) only [push_cast, simprocAttr, *]; try omega; done)), by (first | rfl | assumption | omega | (simp (disch := omega) only [push_cast, simprocAttr, *]; try omega; done)), ⟨tn, 1, rfl, rfl, by (first | rfl | assumption | omega | (simp (disch := omega) only [push_cast, simprocAttr, *]; try omega; done)), by (first | rfl | assumption | omega | (simp (disch := omega) only [push_cast, simprocAttr, *]; try omega; done))⟩, ⟨false, rfl, by (first | rfl | assumption | omega | (simp (disch := omega) only [push_cast, simprocAttr, *]; try omega; done))⟩, rfl⟩ ?_
        rintro k' A st' ⟨hk', hdf, e3, e4, e6, e10, ⟨tk, bk, ht, hbk, e7, e8⟩, ⟨mk, hm, e9⟩, rfl⟩
        by_cases hlt : k' < 6
        · have hH1 := hHs.out k' hk'
          have hH2 := hHt.out k' hk'
          have hb := hwb.out k' hk'
          have hb' := hwb.out (k' + 1) hlt
          have hs1 : wt tn sn (k' + 1) = if Sch.has sn k' && !Sch.has (wt tn sn k') k' then wt tn sn k' + 2 ^ k' else wt tn sn k' := rfl
          have hs2 : wm tn sn (k' + 1) = if Sch.has sn k' && !Sch.has (wt tn sn k') k' then true else wm tn sn k' := rfl
          rw [Nat.pow_succ] at hb'
          have hp2 : 2 ^ (k' + 1) = bk * 2 := by rw [Nat.pow_succ, hbk.out]
          rw [hbk.out] at hb hb' hs1
          rw [ht.out] at hH2 hb hs1 hs2
          rw [hm.out] at hs2
          obtain ⟨hb7, hb8⟩ := hb
          clear hb'
          generalize Sch.has sn k' = q1 at *
          generalize Sch.has tk k' = q2 at *
          replace hH1 := Lib.hid hH1
          replace hH2 := Lib.hid hH2
          replace hp2 := Lib.hid hp2
          replace hs1 := Lib.hid hs1
          replace hs2 := Lib.hid hs2
          cases q1 <;> cases q2
          all_goals skip
          all_goals (
            repeat' (first | with_reducible refine Go1.go ?_ | ((with_reducible apply ev_go); (focus ((try simp (disch := omega) only [push_cast, simprocAttr, *]); (try exact rfl); done))) | ((with_reducible refine w_last ?_ ?_ ?_); kernel_rfl; rfl) | with_reducible refine Go2.go ?_ | ((with_reducible first | apply w_stepG | refine s_bi ?_ ?_ | refine blk_ne ?_ ?_); rfl) | ((with_reducible refine al_go ?_); intro b) | ((with_reducible apply (ck_le Try.call44)); exact LEL.refl _; exact hH1.out _) | ((with_reducible apply (ck_le Try.call44)); exact LEL.refl _; exact hH2.out _) | ((with_reducible first | refine w_region ?_ ?_ | refine w_dra ?_ ?_); kernel_rfl) | ((with_reducible refine Go3.go ?_ ?_); all_goals (intro hb; (try with_reducible intro hb1); (try (exfalso; first | contradiction | omega)))) | fail)
            refine ⟨k' + 1, _, List.Sublist.refl _, ⟨hlt, ?_, ?_, ?_, ?_, ?_, ⟨_, _, hs1.out, hp2.out, ?_, ?_⟩, ⟨_, hs2.out, ?_⟩, rfl⟩, by omega⟩
            all_goals (first | rfl | assumption | omega | (simp (disch := omega) only [push_cast, simprocAttr, *]; try omega; done)))
        · have hk6 : k' = 6 := by omega
          subst hk6
          have ht2 : tk = w := ht.out.symm.trans hw1.out
          have hm2 : mk = (w != tn) := hm.out.symm.trans hw2.out
          subst ht2
          subst hm2
          have hFw2 := hFw.out
          cases hwq : (tk != tn) with
          | true =>
            rw [hwq, if_pos rfl] at hFw2
            rw [hwq] at e9
            replace hFw2 := Lib.hid hFw2
            replace hwq := Lib.hid hwq
            repeat' (first | with_reducible refine Go1.go ?_ | ((with_reducible apply ev_go); (focus ((try simp (disch := omega) only [push_cast, simprocAttr, *]); (try exact rfl); done))) | ((with_reducible apply (w_drawN [(b6, [.ar gs 0 m1 cS, .sl .shared L2])])); (iterate 3 (focus kernel_rfl)); (focus ((repeat (first | exact keep_nil | refine keep_more (by (repeat (first | exact mm_h | apply mm_t)); done) ?_)); done)); intro hne; simp only [nes, ne1, and_assoc] at hne; repeat (have hq := hne.1; replace hne := hne.2)) | ((with_reducible refine And.intro ?_ ?_); (focus ((repeat (first | exact keep_nil | refine keep_more (by (repeat (first | exact mm_h | apply mm_t)); done) ?_)); done))) | ((with_reducible refine w_last ?_ ?_ ?_); kernel_rfl; rfl) | with_reducible refine Go2.go ?_ | ((with_reducible first | apply w_stepG | refine s_bi ?_ ?_ | refine blk_ne ?_ ?_); rfl) | ((with_reducible refine al_go ?_); intro b) | ((with_reducible first | refine w_region ?_ ?_ | refine w_dra ?_ ?_); kernel_rfl) | ((with_reducible refine Go3.go ?_ ?_); all_goals (intro hb; (try with_reducible intro hb1); (try (exfalso; first | contradiction | omega)))) | fail)
            all_goals (refine retG_mk (rs := []) (by first | exact .inl rfl | exact .inr rfl) (by first | rfl | assumption) (.swap _ _ _) ⟨_, _, rfl, cell_mk (by simp (disch := omega) only [push_cast, simprocAttr, *]; exact rfl) (by repeat (first | exact mm_h | apply mm_t)) (by simp (disch := omega) only [push_cast, simprocAttr, *]; exact rfl) (by (try simp (disch := omega) only [push_cast, simprocAttr, *]); (try exact rfl); done), (by show _ = _; (try simp (disch := omega) only [push_cast, simprocAttr, *]); (try exact rfl); done)⟩ (((List.Sublist.refl _).cons _).cons _ |>.cons_cons _) (LE.refl _) ⟨((true, y), (gs, cS, zS)), hFw2.out, by simp only [hys.out, hyc.out], rfl⟩)
          | false =>
            rw [hwq, if_neg Bool.false_ne_true] at hFw2
            rw [hwq] at e9
            have hFn := Lib.hid hFw2
            replace hFw2 := Lib.hid hFw2
            replace hwq := Lib.hid hwq
            repeat' (first | with_reducible refine Go1.go ?_ | ((with_reducible apply ev_go); (focus ((try simp (disch := omega) only [push_cast, simprocAttr, *]); (try exact rfl); done))) | ((with_reducible refine w_last ?_ ?_ ?_); kernel_rfl; rfl) | with_reducible refine Go2.go ?_ | ((with_reducible first | apply w_stepG | refine s_bi ?_ ?_ | refine blk_ne ?_ ?_); rfl) | ((with_reducible refine al_go ?_); intro b) | ((with_reducible first | refine w_region ?_ ?_ | refine w_dra ?_ ?_); kernel_rfl) | ((with_reducible refine Go3.go ?_ ?_); all_goals (intro hb; (try with_reducible intro hb1); (try (exfalso; first | contradiction | omega)))) | fail)
            all_goals (refine retG_mk (rs := []) (by first | exact .inl rfl | exact .inr rfl) (by first | rfl | assumption) (.swap _ _ _) ⟨_, _, rfl, cell_mk (by simp (disch := omega) only [push_cast, simprocAttr, *]; exact rfl) (by repeat (first | exact mm_h | apply mm_t)) (by simp (disch := omega) only [push_cast, simprocAttr, *]; exact rfl) (by (try simp (disch := omega) only [push_cast, simprocAttr, *]); (try exact rfl); done), (by show _ = _; (try simp (disch := omega) only [push_cast, simprocAttr, *]); (try exact rfl); done)⟩ (((List.Sublist.refl _).cons _).cons _ |>.cons_cons _) (LE.refl _) ⟨((false, x), (gs, cS, zS)), hFn.out, by simp only [m1e.out, hL2.out], by simp only [r1e.out]⟩)
      · have hFn : Hid (Sch.stepV x s = none) := Lib.hid (by
          rw [hF.out, if_neg]
          rintro ⟨-, -, h3, -⟩
          exact htk h3)
        have htk' : s.slot.types < 1 ∨ (1 ≤ s.slot.types ∧ 63 < s.slot.types) := by
          have : ¬ (1 ≤ s.slot.types ∧ s.slot.types ≤ 63) := fun h => htk (Sch.takes_iff.2 h)
          omega
        clear hF hcs hq hty hat hc hz hcol hzt hxt htk
        unfold Vr.cells Stp.cells at *
        generalize Sch.stepV x s = F at *
        cases s with
        | mk kd col slot order =>
        cases slot with
        | mk nm ty rq dv =>
        cases dv with
        | mk k n sv lv =>
        dsimp only at hC hE hR hk ho hi hb2 hc1 hc2 htk' ⊢
        subst hk
        rw [Sl.cells_mk] at *
        dsimp only [List.cons_append, List.nil_append] at *
        generalize r1e : slotC x.slots = R1 at *
        generalize m1e : x.slots.length = m1 at *
        generalize m2e : x.cols.length = m2 at *
        generalize hL1 : x.slots.map Sl.cells = L1 at *
        generalize hL2 : x.cols.map encC = L2 at *
        have r1e : Hid ((x.slots.map Sl.cells).flatten = R1) := r1e
        replace m1e := Lib.hid m1e
        replace m2e := Lib.hid m2e
        replace hL1 := Lib.hid hL1
        replace hL2 := Lib.hid hL2
        replace hC := Lib.hid hC
        replace hE := Lib.hid hE
        replace hR := Lib.hid hR
        subst hi
        replace hb1 := Lib.hid hb1
        replace hb2 := Lib.hid hb2
        rcases htk' with h1 | ⟨h1, h2⟩
        all_goals skip
        all_goals (
          refine trF_enterG (G := twoA Try.prog (.cell 4 52) (.tmp 5)) Try.func80 rfl (by rw [Try.ntmps80]; exact Nat.le_of_ble_eq_true rfl) (fun h1 h2 h3 => res_two rfl h1 h2 h3) ?_
          simp only [Try.ntmps80]
          repeat' (first | with_reducible refine Go1.go ?_ | ((with_reducible apply ev_go); (focus ((try simp (disch := omega) only [push_cast, simprocAttr, *]); (try exact rfl); done))) | ((with_reducible refine w_last ?_ ?_ ?_); kernel_rfl; rfl) | with_reducible refine Go2.go ?_ | ((with_reducible first | apply w_stepG | refine s_bi ?_ ?_ | refine blk_ne ?_ ?_); rfl) | ((with_reducible refine al_go ?_); intro b) | ((with_reducible apply (ck_gen Try.call96)); (focus exact List.Perm.refl _); (focus exact hC.out _); (focus exact LEL.refl _); (focus exact hE.out _); (rintro d st' ⟨gs, cS, zS, hz1, rfl, rfl⟩)) | ((with_reducible apply (ck_le Try.call97)); exact LEL.refl _; exact hR.out _) | ((with_reducible first | refine w_region ?_ ?_ | refine w_dra ?_ ?_); kernel_rfl) | ((with_reducible refine Go3.go ?_ ?_); all_goals (intro hb; (try with_reducible intro hb1); (try (exfalso; first | contradiction | omega)))) | fail)
          all_goals (refine retG_mk (rs := []) (by first | exact .inl rfl | exact .inr rfl) (by first | rfl | assumption) (.swap _ _ _) ⟨_, _, rfl, cell_mk (by simp (disch := omega) only [push_cast, simprocAttr, *]; exact rfl) (by repeat (first | exact mm_h | apply mm_t)) (by simp (disch := omega) only [push_cast, simprocAttr, *]; exact rfl) (by (try simp (disch := omega) only [push_cast, simprocAttr, *]); (try exact rfl); done), (by show _ = _; (try simp (disch := omega) only [push_cast, simprocAttr, *]); (try exact rfl); done)⟩ (((List.Sublist.refl _).cons _).cons _ |>.cons_cons _) (LE.refl _) ⟨((false, x), (gs, cS, zS)), hFn.out, by simp only [m1e.out, hL2.out], by simp only [r1e.out]⟩))
    · have hFn : Hid (Sch.stepV x s = none) := Lib.hid (by
        rw [hF.out, if_neg]
        rintro ⟨h1, -⟩
        unfold Sch.column at h1
        simp at h1
        omega)
      clear hF hcs hq hty hxt
      unfold Vr.cells Stp.cells at *
      generalize Sch.stepV x s = F at *
      cases s with
      | mk kd col slot order =>
      cases slot with
      | mk nm ty rq dv =>
      cases dv with
      | mk k n sv lv =>
      dsimp only at hC hE hR hk ho hb2 hcr ⊢
      subst hk
      rw [Sl.cells_mk] at *
      dsimp only [List.cons_append, List.nil_append] at *
      generalize r1e : slotC x.slots = R1 at *
      generalize m1e : x.slots.length = m1 at *
      generalize m2e : x.cols.length = m2 at *
      generalize hL1 : x.slots.map Sl.cells = L1 at *
      generalize hL2 : x.cols.map encC = L2 at *
      have r1e : Hid ((x.slots.map Sl.cells).flatten = R1) := r1e
      replace m1e := Lib.hid m1e
      replace m2e := Lib.hid m2e
      replace hL1 := Lib.hid hL1
      replace hL2 := Lib.hid hL2
      replace hC := Lib.hid hC
      replace hE := Lib.hid hE
      replace hR := Lib.hid hR
      replace hb1 := Lib.hid hb1
      replace hb2 := Lib.hid hb2
      have hcr' : col < 0 ∨ (0 ≤ col ∧ (m2 : Int) ≤ col) := by omega
      clear hcr
      rcases hcr' with h1 | ⟨h1, h2⟩
      all_goals skip
      all_goals (
        refine trF_enterG (G := twoA Try.prog (.cell 4 52) (.tmp 5)) Try.func80 rfl (by rw [Try.ntmps80]; exact Nat.le_of_ble_eq_true rfl) (fun h1 h2 h3 => res_two rfl h1 h2 h3) ?_
        simp only [Try.ntmps80]
        repeat' (first | with_reducible refine Go1.go ?_ | ((with_reducible apply ev_go); (focus ((try simp (disch := omega) only [push_cast, simprocAttr, *]); (try exact rfl); done))) | ((with_reducible refine w_last ?_ ?_ ?_); kernel_rfl; rfl) | with_reducible refine Go2.go ?_ | ((with_reducible first | apply w_stepG | refine s_bi ?_ ?_ | refine blk_ne ?_ ?_); rfl) | ((with_reducible refine al_go ?_); intro b) | ((with_reducible apply (ck_gen Try.call96)); (focus exact List.Perm.refl _); (focus exact hC.out _); (focus exact LEL.refl _); (focus exact hE.out _); (rintro d st' ⟨gs, cS, zS, hz1, rfl, rfl⟩)) | ((with_reducible apply (ck_le Try.call97)); exact LEL.refl _; exact hR.out _) | ((with_reducible first | refine w_region ?_ ?_ | refine w_dra ?_ ?_); kernel_rfl) | ((with_reducible refine Go3.go ?_ ?_); all_goals (intro hb; (try with_reducible intro hb1); (try (exfalso; first | contradiction | omega)))) | fail)
        all_goals (refine retG_mk (rs := []) (by first | exact .inl rfl | exact .inr rfl) (by first | rfl | assumption) (.swap _ _ _) ⟨_, _, rfl, cell_mk (by simp (disch := omega) only [push_cast, simprocAttr, *]; exact rfl) (by repeat (first | exact mm_h | apply mm_t)) (by simp (disch := omega) only [push_cast, simprocAttr, *]; exact rfl) (by (try simp (disch := omega) only [push_cast, simprocAttr, *]); (try exact rfl); done), (by show _ = _; (try simp (disch := omega) only [push_cast, simprocAttr, *]); (try exact rfl); done)⟩ (((List.Sublist.refl _).cons _).cons _ |>.cons_cons _) (LE.refl _) ⟨((false, x), (gs, cS, zS)), hFn.out, by simp only [m1e.out, hL2.out], by simp only [r1e.out]⟩))
  · have hrr : (Sch.bare s.slot false true && decide (s.order.length = 0)) = false := by
      cases h1 : Sch.bare s.slot false true with
      | false => rfl
      | true => rw [Bool.true_and, decide_eq_false fun h2 => hb ⟨h1, h2⟩]
    rw [hrr] at hR
    have hFn : Hid (Sch.stepV x s = none) := Lib.hid (by
      rw [hF.out, if_neg]
      rintro ⟨h1, h2, -⟩
      unfold Sch.column at h1
      simp at h1
      exact hb ⟨h2, by rw [h1.2]; rfl⟩)
    clear hF hcs hb hrr hq hty hxt
    unfold Vr.cells Stp.cells at *
    generalize Sch.stepV x s = F at *
    cases s with
    | mk kd col slot order =>
    cases slot with
    | mk nm ty rq dv =>
    cases dv with
    | mk k n sv lv =>
    dsimp only at hC hE hR hk ho ⊢
    subst hk
    rw [Sl.cells_mk] at *
    dsimp only [List.cons_append, List.nil_append] at *
    generalize r1e : slotC x.slots = R1 at *
    generalize m1e : x.slots.length = m1 at *
    generalize m2e : x.cols.length = m2 at *
    generalize hL1 : x.slots.map Sl.cells = L1 at *
    generalize hL2 : x.cols.map encC = L2 at *
    have r1e : Hid ((x.slots.map Sl.cells).flatten = R1) := r1e
    replace m1e := Lib.hid m1e
    replace m2e := Lib.hid m2e
    replace hL1 := Lib.hid hL1
    replace hL2 := Lib.hid hL2
    replace hC := Lib.hid hC
    replace hE := Lib.hid hE
    replace hR := Lib.hid hR
    refine trF_enterG (G := twoA Try.prog (.cell 4 52) (.tmp 5)) Try.func80 rfl (by rw [Try.ntmps80]; exact Nat.le_of_ble_eq_true rfl) (fun h1 h2 h3 => res_two rfl h1 h2 h3) ?_
    simp only [Try.ntmps80]
    repeat' (first | with_reducible refine Go1.go ?_ | ((with_reducible apply ev_go); (focus ((try simp (disch := omega) only [push_cast, simprocAttr, *]); (try exact rfl); done))) | ((with_reducible refine w_last ?_ ?_ ?_); kernel_rfl; rfl) | with_reducible refine Go2.go ?_ | ((with_reducible first | apply w_stepG | refine s_bi ?_ ?_ | refine blk_ne ?_ ?_); rfl) | ((with_reducible refine al_go ?_); intro b) | ((with_reducible apply (ck_gen Try.call96)); (focus exact List.Perm.refl _); (focus exact hC.out _); (focus exact LEL.refl _); (focus exact hE.out _); (rintro d st' ⟨gs, cS, zS, hz1, rfl, rfl⟩)) | ((with_reducible apply (ck_le Try.call97)); exact LEL.refl _; exact hR.out _) | ((with_reducible first | refine w_region ?_ ?_ | refine w_dra ?_ ?_); kernel_rfl) | ((with_reducible refine Go3.go ?_ ?_); all_goals (intro hb; (try with_reducible intro hb1); (try (exfalso; first | contradiction | omega)))) | fail)
    all_goals (refine retG_mk (rs := []) (by first | exact .inl rfl | exact .inr rfl) (by first | rfl | assumption) (.swap _ _ _) ⟨_, _, rfl, cell_mk (by simp (disch := omega) only [push_cast, simprocAttr, *]; exact rfl) (by repeat (first | exact mm_h | apply mm_t)) (by simp (disch := omega) only [push_cast, simprocAttr, *]; exact rfl) (by (try simp (disch := omega) only [push_cast, simprocAttr, *]); (try exact rfl); done), (by show _ = _; (try simp (disch := omega) only [push_cast, simprocAttr, *]); (try exact rfl); done)⟩ (((List.Sublist.refl _).cons _).cons _ |>.cons_cons _) (LE.refl _) ⟨((false, x), (gs, cS, zS)), hFn.out, by simp only [m1e.out, hL2.out], by simp only [r1e.out]⟩)
end Go.Proofs.Ytooaagmhgakhgaa
end

section
namespace Go.Proofs.Ytooaagmhgakhgaa
set_option linter.unusedSimpArgs false
open Go.RowKit
namespace Sch
theorem all_len : ∀ (m : Nat) (l : List Int), l.length = m → (∀ k : Nat, k < m → (k : Int) ∈ l) → l.Nodup ∧ ∀ a ∈ l, 0 ≤ a ∧ a < m
  | 0, l, h, _ => by
    obtain rfl := List.eq_nil_of_length_eq_zero h
    exact ⟨List.nodup_nil, fun a h => by cases h⟩
  | m + 1, l, h, hk => by
    have hm := hk m (Nat.lt_succ_self m)
    have hp := List.perm_cons_erase hm
    have hl : (l.erase (m : Int)).length = m := by rw [List.length_erase_of_mem hm]; omega
    obtain ⟨h1, h2⟩ := all_len m _ hl fun k hk' => (List.mem_erase_of_ne (by omega)).2 (hk k (by omega))
    have hn : (m : Int) ∉ l.erase (m : Int) := fun h => by have := (h2 _ h).2; omega
    refine ⟨hp.nodup_iff.2 (List.nodup_cons.2 ⟨hn, h1⟩), fun a ha => ?_⟩
    rcases List.mem_cons.1 (hp.mem_iff.1 ha) with rfl | h
    · omega
    · have := h2 a h; omega
theorem nodup_len : ∀ (m : Nat) (l : List Int), l.Nodup → (∀ a ∈ l, 0 ≤ a ∧ a < m) → l.length ≤ m
  | 0, l, _, h => by
    cases l with
    | nil => exact Nat.le_refl _
    | cons a l => have := h a (List.mem_cons_self ..); omega
  | m + 1, l, hn, h => by
    by_cases hm : (m : Int) ∈ l
    · have hp := List.perm_cons_erase hm
      have hn' := List.nodup_cons.1 (hp.nodup_iff.1 hn)
      have hl : (l.erase (m : Int)).length = l.length - 1 := List.length_erase_of_mem hm
      have := nodup_len m _ hn'.2 fun a ha => by
        have h1 := h a (List.mem_of_mem_erase ha)
        have : a ≠ m := fun e => hn'.1 (e ▸ ha)
        omega
      omega
    · have := nodup_len m l hn fun a ha => by
        have h1 := h a ha
        have : a ≠ m := fun e => hm (e ▸ ha)
        omega
      omega
def put (cols : List Nat) (l : List Int) : List Nat := l.map fun o => cols.getD o.toNat 0
theorem getD_inj {cols : List Nat} (hn : cols.Nodup) {a b : Int} (ha : 0 ≤ a ∧ a < cols.length) (hb : 0 ≤ b ∧ b < cols.length) (h : cols.getD a.toNat 0 = cols.getD b.toNat 0) : a = b := by
  have h1 : a.toNat < cols.length := by omega
  have h2 : b.toNat < cols.length := by omega
  rw [List.getD_eq_getElem?_getD, List.getD_eq_getElem?_getD, List.getElem?_eq_getElem h1, List.getElem?_eq_getElem h2, Option.getD_some, Option.getD_some] at h
  have h3 : a.toNat = b.toNat := (List.getElem?_inj h1 hn).1 (by rw [List.getElem?_eq_getElem h1, List.getElem?_eq_getElem h2, h])
  omega
theorem reo_yes {cols : List Nat} (hn : cols.Nodup) : ∀ (l p : List Int), (p ++ l).Nodup → (∀ a ∈ p ++ l, 0 ≤ a ∧ a < cols.length) → reo cols l (put cols p) = some (put cols (p ++ l))
  | [], p, _, _ => by rw [reo, List.append_nil]
  | k :: l, p, h, hr => by
    have hk := hr k (by simp)
    rw [reo, if_pos]
    · have := reo_yes hn l (p ++ [k]) (by simpa using h) (by simpa using hr)
      rw [show put cols p ++ [cols.getD k.toNat 0] = put cols (p ++ [k]) by unfold put; simp]
      simpa using this
    · refine ⟨hk.1, hk.2, fun hm => ?_⟩
      obtain ⟨a, ha, he⟩ := List.mem_map.1 hm
      have := getD_inj hn (hr a (by simp [ha])) hk he
      subst this
      rw [List.nodup_append] at h
      exact h.2.2 a ha a (by simp) rfl
theorem reo_no {cols : List Nat} : ∀ (l p : List Int) (r : List Nat), reo cols l (put cols p) = some r → p.Nodup → (∀ a ∈ p, 0 ≤ a ∧ a < cols.length) → (p ++ l).Nodup ∧ ∀ a ∈ p ++ l, 0 ≤ a ∧ a < cols.length
  | [], p, _, _, hn, hr => by rw [List.append_nil]; exact ⟨hn, hr⟩
  | k :: l, p, r, h, hn, hr => by
    rw [reo] at h
    split at h
    · rename_i hc
      rw [show put cols p ++ [cols.getD k.toNat 0] = put cols (p ++ [k]) by unfold put; simp] at h
      have := reo_no l (p ++ [k]) r h (by
        rw [List.nodup_append]
        refine ⟨hn, by simp, fun a ha b hb e => ?_⟩
        rw [List.mem_singleton] at hb
        subst hb e
        exact hc.2.2 (List.mem_map.2 ⟨a, ha, rfl⟩)) (fun a ha => by
        rcases List.mem_append.1 ha with h | h
        · exact hr a h
        · rw [List.mem_singleton] at h
          subst h; omega)
      simpa using this
    · cases h
theorem reo_count {cols : List Nat} (hn : cols.Nodup) {l : List Int} (hl : l.length = cols.length) : reo cols l [] = if ∀ k : Nat, k < cols.length → l.count (k : Int) = 1 then some (put cols l) else none := by
  split
  · rename_i h
    obtain ⟨h1, h2⟩ := all_len cols.length l hl fun k hk => List.count_pos_iff.1 (by rw [h k hk]; omega)
    exact reo_yes hn l [] (by simpa using h1) (by simpa using h2)
  · rename_i h
    cases hr : reo cols l [] with
    | none => rfl
    | some r =>
      exfalso
      obtain ⟨h1, h2⟩ := reo_no l [] r hr List.nodup_nil (fun a h => by cases h)
      rw [List.nil_append] at h1 h2
      refine h fun k hk => ?_
      have hm : (k : Int) ∈ l := by
        refine Decidable.by_contra fun hm => ?_
        have := nodup_len cols.length ((k : Int) :: l) (List.nodup_cons.2 ⟨hm, h1⟩) fun a ha => by
          rcases List.mem_cons.1 ha with rfl | h
          · omega
          · exact h2 a h
        rw [List.length_cons] at this
        omega
      rw [h1.count, if_pos hm]
end Sch
end Go.Proofs.Ytooaagmhgakhgaa
end

section
namespace Go.Proofs.Ytooaagmhgakhgaa
set_option linter.unusedSimpArgs false
attribute [local push_cast] encB encI encC V.cells_mk V.cells_len Nat.mul_one Int.sub_zero List.map_nil beq_self_eq_true List.head?_cons
open Go.RowKit
set_option maxRecDepth 10000
set_option maxHeartbeats 4000000
def CopyC (x : Vr) (st : St) (d : D) (st' : St) : Prop := ∃ gc cC zC, (colC x.cols ++ zC).length = cC * 1 ∧ d = D.agg [.sl .shared (x.slots.map Sl.cells), .ar gc 0 x.cols.length cC] ∧ st' = Res.box gc 3 (colC x.cols ++ zC) :: st
theorem copyC_ex (x : Vr) (st : St) : ∃ d st', CopyC x st d st' := ⟨_, _, 0, x.cols.length, [], by rw [List.append_nil, colC_len], rfl, rfl⟩
theorem refCopyCF' (x : Vr) (h1 : 1 ≤ x.slots.length) (h2 : 1 ≤ x.cols.length) (hl : x.slots.length ≤ 1000) (hc : x.cols.length ≤ 1000) (st : St) : TrF Try.prog 96 [.agg x.cells] st (CopyC x st) :=
  (refCopyCF x h1 h2 hl hc st).mono fun d st' ⟨⟨gc, cC, zC⟩, k1, k2, k3⟩ => ⟨gc, cC, zC, k1, k2, k3⟩
def RawC (x : Vr) (s : Stp) (st : St) (d : D) (st' : St) : Prop := ∃ i : (Bool × Vr) × RI, (Sch.stepV x s = if i.1.1 then some i.1.2 else none) ∧ d = .tup [.agg [.sl .shared (i.1.2.slots.map Sl.cells), .ar i.2.1 0 i.1.2.cols.length i.2.2.1], .b i.1.1] ∧ st' = .box i.2.1 3 ((i.1.2.cols.map encC).flatten ++ i.2.2.2) :: st
theorem rawC_rest {x : Vr} {s : Stp} {st : St} {f : FuncId} {args : List D} (h : TrF Try.prog f args st (RawC x s st)) : TrF Try.prog f args st (RefStepR x s st) := by
  have h1 := TrF.rest (ι := (Bool × Vr) × RI) (g := fun i => i.2.1) (n := fun i => i.1.2.cols.length) (cap := fun i => i.2.2.1) (es := fun i => i.1.2.cols.map encC) (F' := fun i => .tup [.agg i.1.2.cells, .b i.1.1]) (sz := 1) (by decide) (fun i _ => ⟨cols_each i.1.2.cols, List.length_map ..⟩) (fun i => .tup _ _ (.cons _ _ _ _ (.agg _ _ (.cons _ _ _ _ (.same _) (.cons _ _ _ _ .ar .nil))) (.cons _ _ _ _ (.same _) .nil))) h
  refine h1.mono fun d st' ⟨i, k1, k2, k3⟩ => ?_
  obtain ⟨⟨ok, y⟩, i2⟩ := i
  cases ok with
  | true => exact .inr ⟨y, k1, k2, k3⟩
  | false => exact .inl ⟨k1, _, _, k2, k3⟩
theorem count_take {l : List Int} {i : Nat} {a k : Int} (h : l[i]? = some a) : (l.take (i + 1)).count k = (l.take i).count k + if a = k then 1 else 0 := by
  rw [List.take_add_one, h, Option.toList_some, List.count_append, List.count_singleton]
  congr 1
  by_cases e : a = k
  · rw [if_pos e, if_pos (by simp [e])]
  · rw [if_neg e, if_neg (by simp [e])]
theorem refReorderF (x : Vr) (s : Stp) (h : RefP x s) (hnd : x.cols.Nodup) (hk : s.kind = 5) (st : St) : TrF Try.prog 80 [.agg x.cells, .agg s.cells] st (RefStepR x s st) := by
  refine rawC_rest ?_
  obtain ⟨⟨hl, hp, hcp, hcl, hcs⟩, hq, hty, ho⟩ := h
  have hC := refCopyCF' x hp hcp hl (by omega)
  have hE := copyC_ex x
  have hR := refRestF s hq.ok (by omega) ho
  have hF : Hid (Sch.stepV x s = Sch.reorderS x s) := Lib.hid (by unfold Sch.stepV; rw [if_neg (show ¬ s.kind = 1 by omega), if_neg (show ¬ s.kind = 2 by omega), if_neg (show ¬ s.kind = 3 by omega), if_neg (show ¬ s.kind = 4 by omega), if_pos hk])
  have hrv : Sch.restV s = (Sch.bare s.slot false false && (s.col == 0)) := by unfold Sch.restV; rw [if_neg (show ¬ s.kind = 1 by omega), if_neg (show ¬ s.kind = 2 by omega), if_neg (show ¬ s.kind = 3 by omega), if_neg (show ¬ s.kind = 4 by omega)]
  rw [hrv] at hR
  clear hrv
  unfold RawC
  have hC := fun st => hC st
  unfold CopyC at hC hE
  have l2 : (x.cols.map encC).length = x.cols.length := List.length_map ..
  unfold Sch.reorderS at hF
  by_cases hb : Sch.bare s.slot false false = true ∧ s.col = 0
  · obtain ⟨hb1, hb2⟩ := hb
    rw [hb1, hb2] at hR hF
    by_cases hol : s.order.length = x.cols.length
    · have hF2 : Hid (Sch.stepV x s = if ∀ k : Nat, k < x.cols.length → s.order.count (k : Int) = 1 then some ⟨x.slots, Sch.put x.cols s.order⟩ else none) := Lib.hid (by
        rw [hF.out, if_pos ⟨rfl, rfl, hol⟩, Sch.reo_count hnd hol]
        split <;> rfl)
      obtain ⟨y, hy⟩ : ∃ y : Vr, y = ⟨x.slots, Sch.put x.cols s.order⟩ := ⟨_, rfl⟩
      rw [← hy] at hF2
      have hys : Hid (y.slots = x.slots) := Lib.hid (by rw [hy])
      have hyc : Hid (y.cols = Sch.put x.cols s.order) := Lib.hid (by rw [hy])
      have hget := Lib.hid fun (i : Nat) (a : Int) (h : s.order[i]? = some a) => h
      have hrl := colC_len x.cols
      have hdup := Lib.hid hnd
      clear hF hy hcs hq hty hnd
      unfold Vr.cells Stp.cells at *
      generalize Sch.stepV x s = F at *
      cases s with
      | mk kd col slot order =>
      cases slot with
      | mk nm ty rq dv =>
      cases dv with
      | mk k n sv lv =>
      dsimp only at hC hE hR hF2 hk ho hb2 hol hyc hget ⊢
      subst hk
      rw [Sl.cells_mk] at *
      dsimp only [List.cons_append, List.nil_append] at *
      generalize r2e : colC x.cols = R2 at *
      generalize m1e : x.slots.length = m1 at *
      generalize m2e : x.cols.length = m2 at *
      generalize hL1 : x.slots.map Sl.cells = L1 at *
      generalize hL2 : x.cols.map encC = L2 at *
      have r2e : Hid ((x.cols.map encC).flatten = R2) := r2e
      replace m1e := Lib.hid m1e
      replace m2e := Lib.hid m2e
      replace hL1 := Lib.hid hL1
      replace hL2 := Lib.hid hL2
      replace hC := Lib.hid hC
      replace hE := Lib.hid hE
      replace hR := Lib.hid hR
      subst hb2
      replace hb1 := Lib.hid hb1
      refine trF_enterG (G := twoA Try.prog (.cell 4 52) (.tmp 5)) Try.func80 rfl (by rw [Try.ntmps80]; exact Nat.le_of_ble_eq_true rfl) (fun h1 h2 h3 => res_two rfl h1 h2 h3) ?_
      simp only [Try.ntmps80]
      repeat' (first | with_reducible refine Go1.go ?_ | ((with_reducible apply ev_go); (focus ((try simp (disch := omega) only [push_cast, simprocAttr, *]); (try exact rfl); done))) | ((with_reducible refine w_last ?_ ?_ ?_); kernel_rfl; rfl) | with_reducible refine Go2.go ?_ | ((with_reducible first | apply w_stepG | refine s_bi ?_ ?_ | refine blk_ne ?_ ?_); rfl) | ((with_reducible refine al_go ?_); intro b) | ((with_reducible apply (ck_gen Try.call96)); (focus exact List.Perm.refl _); (focus exact hC.out _); (focus exact LEL.refl _); (focus exact hE.out _); (rintro d st' ⟨gc, cC, zC, hz2, rfl, rfl⟩; (obtain ⟨b4, rfl⟩ : ∃ q, q = b := ⟨_, rfl⟩))) | ((with_reducible apply (ck_le Try.call97)); exact LEL.refl _; exact hR.out _) | ((with_reducible first | refine w_region ?_ ?_ | refine w_dra ?_ ?_); kernel_rfl) | ((with_reducible refine Go3.go ?_ ?_); all_goals (intro hb; (try with_reducible intro hb1); (try (exfalso; first | contradiction | omega)))) | fail)
      obtain ⟨b6, rfl⟩ : ∃ q, q = b := ⟨_, rfl⟩
      refine tr_loopd (ι := Nat) (fun j A st' => j ≤ m2 ∧ Hid (∀ j' : Nat, j' < j → order.count (j' : Int) = 1) ∧ A.df = [] ∧ A.e 2 = .ip [.sl .shared L1, .sl .shared L2] ∧ A.e 3 = .ip [.i 5, .i 0, .str nm, .i ty, .b rq, .i k, .i n, .str sv, .sl .shared (lv.map V.cells), .sl .shared (order.map encI)] ∧ A.e 4 = .ptr b4 0 ∧ A.e 6 = .ptr b6 0 ∧ A.e 11 = .i j ∧ st' = .box b6 52 [.sl .shared L1, .ar gc 0 m2 cC] :: .box gc 3 (R2 ++ zC) :: .box b4 52 [.sl .tight [], .sl .tight []] :: st) (fun j => m2 - j) 0 ⟨Nat.zero_le _, fun j h => absurd h (Nat.not_lt_zero _), ?_, ?_, ?_, ?_, ?_, ?_, rfl⟩ ?_
      iterate 6 (focus (first | rfl | assumption | omega | (simp (disch := omega) only [push_cast, simprocAttr, *]; try omega; done)))
      rintro j A st' ⟨hj, hcn, hdf, e2, e3, e4, e6, e11, rfl⟩
      by_cases hjl : j < m2
      · repeat' (first | with_reducible refine Go1.go ?_ | ((with_reducible apply ev_go); (focus ((try simp (disch := omega) only [push_cast, simprocAttr, *]); (try exact rfl); done))) | ((with_reducible refine w_last ?_ ?_ ?_); kernel_rfl; rfl) | with_reducible refine Go2.go ?_ | ((with_reducible first | apply w_stepG | refine s_bi ?_ ?_ | refine blk_ne ?_ ?_); rfl) | ((with_reducible refine al_go ?_); intro b) | ((with_reducible first | refine w_region ?_ ?_ | refine w_dra ?_ ?_); kernel_rfl) | ((with_reducible refine Go3.go ?_ ?_); all_goals (intro hb; (try with_reducible intro hb1); (try (exfalso; first | contradiction | omega)))) | fail)
        refine tr_loopd (ι := Nat) (fun i A st' => i ≤ m2 ∧ A.df = [] ∧ A.e 2 = .ip [.sl .shared L1, .sl .shared L2] ∧ A.e 3 = .ip [.i 5, .i 0, .str nm, .i ty, .b rq, .i k, .i n, .str sv, .sl .shared (lv.map V.cells), .sl .shared (order.map encI)] ∧ A.e 4 = .ptr b4 0 ∧ A.e 6 = .ptr b6 0 ∧ A.e 11 = .i j ∧ A.e 13 = .i i ∧ (∃ q : Nat, q ≤ i ∧ Hid ((order.take i).count (j : Int) = q) ∧ A.e 12 = .i q) ∧ st' = .box b6 52 [.sl .shared L1, .ar gc 0 m2 cC] :: .box gc 3 (R2 ++ zC) :: .box b4 52 [.sl .tight [], .sl .tight []] :: st) (fun i => m2 - i) 0 ⟨Nat.zero_le _, ?_, ?_, ?_, ?_, ?_, ?_, ?_, ⟨0, Nat.le_refl _, rfl, ?_⟩, rfl⟩ ?_
        iterate 8 (focus (first | rfl | assumption | omega | (simp (disch := omega) only [push_cast, simprocAttr, *]; try omega; done)))
        clear hdf e2 e3 e4 e6 e11
        rintro i A st' ⟨hi, hdf, e2, e3, e4, e6, e11, e13, ⟨q, hqi, hqc, e12⟩, rfl⟩
        by_cases hil : i < m2
        · obtain ⟨a, ha⟩ : ∃ a, order[i]? = some a := ⟨_, List.getElem?_eq_getElem (by omega)⟩
          have hct := count_take (k := (j : Int)) ha
          have hac : (order.map encI)[i]? = some [D.i a] := by rw [List.getElem?_map, ha]; rfl
          have hml : (order.map encI).length = order.length := List.length_map ..
          rw [hqc.out] at hct
          by_cases haj : a = (j : Int)
          · rw [if_pos haj] at hct
            replace hct := Lib.hid hct
            clear ha
            generalize order.map encI = OL at *
            repeat' (first | with_reducible refine Go1.go ?_ | ((with_reducible apply ev_go); (focus ((try simp (disch := omega) only [push_cast, simprocAttr, *]); (try exact rfl); done))) | ((with_reducible refine w_last ?_ ?_ ?_); kernel_rfl; rfl) | with_reducible refine Go2.go ?_ | ((with_reducible first | apply w_stepG | refine s_bi ?_ ?_ | refine blk_ne ?_ ?_); rfl) | ((with_reducible refine al_go ?_); intro b) | ((with_reducible first | refine w_region ?_ ?_ | refine w_dra ?_ ?_); kernel_rfl) | ((with_reducible refine Go3.go ?_ ?_); all_goals (intro hb; (try with_reducible intro hb1); (try (exfalso; first | contradiction | omega)))) | fail)
            refine ⟨i + 1, _, List.Sublist.refl _, ⟨hil, ?_, ?_, ?_, ?_, ?_, ?_, ?_, ⟨q + 1, by omega, hct, ?_⟩, rfl⟩, by omega⟩
            all_goals (first | rfl | assumption | omega | (simp (disch := omega) only [push_cast, simprocAttr, *]; try omega; done))
          · rw [if_neg haj, Nat.add_zero] at hct
            replace hct := Lib.hid hct
            clear ha
            generalize order.map encI = OL at *
            repeat' (first | with_reducible refine Go1.go ?_ | ((with_reducible apply ev_go); (focus ((try simp (disch := omega) only [push_cast, simprocAttr, *]); (try exact rfl); done))) | ((with_reducible refine w_last ?_ ?_ ?_); kernel_rfl; rfl) | with_reducible refine Go2.go ?_ | ((with_reducible first | apply w_stepG | refine s_bi ?_ ?_ | refine blk_ne ?_ ?_); rfl) | ((with_reducible refine al_go ?_); intro b) | ((with_reducible first | refine w_region ?_ ?_ | refine w_dra ?_ ?_); kernel_rfl) | ((with_reducible refine Go3.go ?_ ?_); all_goals (intro hb; (try with_reducible intro hb1); (try (exfalso; first | contradiction | omega)))) | fail)
            refine ⟨i + 1, _, List.Sublist.refl _, ⟨hil, ?_, ?_, ?_, ?_, ?_, ?_, ?_, ⟨q, by omega, hct, ?_⟩, rfl⟩, by omega⟩
            all_goals (first | rfl | assumption | omega | (simp (disch := omega) only [push_cast, simprocAttr, *]; try omega; done))
        · have him : i = m2 := by omega
          have hq := hqc.out
          rw [List.take_of_length_le (by omega)] at hq
          replace hol := Lib.hid hol
          replace him := Lib.hid him
          have hil' : ¬ (i : Int) < order.length := by have := hol.out; have := him.out; omega
          by_cases hq1 : q = 1
          · have hcn2 : Hid (∀ j' : Nat, j' < j + 1 → order.count (j' : Int) = 1) := fun j' h => by
              by_cases e : j' = j
              · subst e; rw [hq, hq1]
              · exact hcn.out j' (by omega)
            subst hq1
            replace hq := Lib.hid hq
            repeat' (first | with_reducible refine Go1.go ?_ | ((with_reducible apply ev_go); (focus ((try simp (disch := omega) only [push_cast, simprocAttr, *]); (try exact rfl); done))) | ((with_reducible refine w_last ?_ ?_ ?_); kernel_rfl; rfl) | with_reducible refine Go2.go ?_ | ((with_reducible first | apply w_stepG | refine s_bi ?_ ?_ | refine blk_ne ?_ ?_); rfl) | ((with_reducible refine al_go ?_); intro b) | ((with_reducible first | refine w_region ?_ ?_ | refine w_dra ?_ ?_); kernel_rfl) | ((with_reducible refine Go3.go ?_ ?_); all_goals (intro hb; (try with_reducible intro hb1); (try (exfalso; first | contradiction | omega)))) | fail)
            refine ⟨j + 1, _, List.Sublist.refl _, ⟨hjl, hcn2, ?_, ?_, ?_, ?_, ?_, ?_, rfl⟩, by omega⟩
            all_goals (first | rfl | assumption | omega | (simp (disch := omega) only [push_cast, simprocAttr, *]; try omega; done))
          · have hFn : Hid (F = none) := Lib.hid (by rw [hF2.out, if_neg fun h => hq1 (hq.symm.trans (h j hjl))])
            replace hq := Lib.hid hq
            repeat' (first | with_reducible refine Go1.go ?_ | ((with_reducible apply ev_go); (focus ((try simp (disch := omega) only [push_cast, simprocAttr, *]); (try exact rfl); done))) | ((with_reducible refine w_last ?_ ?_ ?_); kernel_rfl; rfl) | with_reducible refine Go2.go ?_ | ((with_reducible first | apply w_stepG | refine s_bi ?_ ?_ | refine blk_ne ?_ ?_); rfl) | ((with_reducible refine al_go ?_); intro b) | ((with_reducible first | refine w_region ?_ ?_ | refine w_dra ?_ ?_); kernel_rfl) | ((with_reducible refine Go3.go ?_ ?_); all_goals (intro hb; (try with_reducible intro hb1); (try (exfalso; first | contradiction | omega)))) | fail)
            all_goals (refine retG_mk (rs := []) (by first | exact .inl rfl | exact .inr rfl) (by first | rfl | assumption) (.swap _ _ _) ⟨_, _, rfl, cell_mk (by simp (disch := omega) only [push_cast, simprocAttr, *]; exact rfl) (by repeat (first | exact mm_h | apply mm_t)) (by simp (disch := omega) only [push_cast, simprocAttr, *]; exact rfl) (by (try simp (disch := omega) only [push_cast, simprocAttr, *]); (try exact rfl); done), (by show _ = _; (try simp (disch := omega) only [push_cast, simprocAttr, *]); (try exact rfl); done)⟩ (((List.Sublist.refl _).cons _).cons _ |>.cons_cons _) (LE.refl _) ⟨((false, x), (gc, cC, zC)), hFn.out, by simp only [m2e.out, hL1.out], by simp only [r2e.out]⟩)
      · have hjm : j = m2 := by omega
        have hFy : Hid (F = some y) := Lib.hid (by rw [hF2.out, if_pos (fun k h => hcn.out k (by omega))])
        have hrng : Hid (∀ a ∈ order, 0 ≤ a ∧ a < (m2 : Int)) := Lib.hid (Sch.all_len m2 order hol fun k h => List.count_pos_iff.1 (by rw [hcn.out k (by omega)]; omega)).2
        obtain ⟨CL, hCL⟩ : ∃ CL : Nat → List Nat, CL = fun i => Sch.put x.cols (order.take i) ++ x.cols.drop i := ⟨_, rfl⟩
        have hc0 : Hid (colC (CL 0) = R2) := Lib.hid (by rw [← r2e.out, hCL]; rfl)
        have hce : Hid (CL m2 = y.cols) := Lib.hid (by
          rw [hCL, hyc.out]
          show Sch.put x.cols (order.take m2) ++ x.cols.drop m2 = _
          rw [List.take_of_length_le (by omega), List.drop_of_length_le (by rw [m2e.out]; omega), List.append_nil])
        have hcl1 : Hid (∀ i, i ≤ m2 → (CL i).length = m2) := fun i h => by
          rw [hCL]
          show (Sch.put x.cols (order.take i) ++ x.cols.drop i).length = m2
          rw [List.length_append, List.length_drop, m2e.out, Sch.put, List.length_map, List.length_take]; omega
        have hnx : Hid (∀ (i an : Nat), order[i]? = some (an : Int) → an < m2 → ∃ c, x.cols[an]? = some c ∧ (CL i).set i c = CL (i + 1)) := fun i an h hlt => by
          have hi := (List.getElem?_eq_some_iff.1 h).1
          obtain ⟨c, hc⟩ : ∃ c, x.cols[an]? = some c := ⟨_, List.getElem?_eq_getElem (by rw [m2e.out]; exact hlt)⟩
          refine ⟨c, hc, ?_⟩
          have him : i < x.cols.length := by rw [m2e.out]; omega
          have hpl : (Sch.put x.cols (order.take i)).length = i := by rw [Sch.put, List.length_map, List.length_take]; omega
          rw [hCL]
          show (Sch.put x.cols (order.take i) ++ x.cols.drop i).set i c = Sch.put x.cols (order.take (i + 1)) ++ x.cols.drop (i + 1)
          rw [List.set_append_right i c (by omega), hpl, Nat.sub_self, List.drop_eq_getElem_cons him, List.set_cons_zero]
          rw [show Sch.put x.cols (order.take (i + 1)) = Sch.put x.cols (order.take i) ++ [c] by
            rw [List.take_add_one, h, Option.toList_some, Sch.put, List.map_append]
            show _ ++ [x.cols.getD ((an : Int)).toNat 0] = _
            rw [Int.toNat_natCast, List.getD_eq_getElem?_getD, hc]; rfl]
          rw [List.append_assoc]; rfl
        have hL2g : Hid (∀ (an c : Nat), x.cols[an]? = some c → L2[an]? = some [D.i c]) := fun an c h => by rw [← hL2.out, List.getElem?_map, h]; rfl
        have hrow : Hid (∀ (i c : Nat), i < m2 → List.take i (colC (CL i) ++ zC) ++ [D.i c] ++ List.drop (i + 1) (colC (CL i) ++ zC) = colC ((CL i).set i c) ++ zC) := fun i c h => by
          obtain ⟨w, hw⟩ : ∃ w, (CL i)[i]? = some w := ⟨_, List.getElem?_eq_getElem (by rw [hcl1.out i (by omega)]; exact h)⟩
          have h2 := row_splice (sz := 1) (o := 0) (e := [D.i w]) (ds := [D.i c]) zC ((CL i).map encC) i (cols_each _) (by rw [List.getElem?_map, hw]; rfl) (by simp)
          rw [Nat.mul_one, Nat.add_zero] at h2
          have h3 : ((CL i).map encC).set i (splice [D.i w] 0 [D.i c]) = ((CL i).set i c).map encC := by rw [List.map_set]; rfl
          rw [h3] at h2
          exact h2
        have hrl2 : Hid (∀ i, i ≤ m2 → (colC (CL i) ++ zC).length = cC * 1) := fun i h => by
          have h2 := hz2
          rw [List.length_append] at h2
          rw [List.length_append, colC_len, hcl1.out i h]
          omega
        have hcCm : m2 ≤ cC := by
          have h2 := hz2
          rw [List.length_append] at h2
          omega
        replace hjm := Lib.hid hjm
        clear hcn hF2 hCL
        repeat' (first | with_reducible refine Go1.go ?_ | ((with_reducible apply ev_go); (focus ((try simp (disch := omega) only [push_cast, simprocAttr, *]); (try exact rfl); done))) | ((with_reducible refine w_last ?_ ?_ ?_); kernel_rfl; rfl) | with_reducible refine Go2.go ?_ | ((with_reducible first | apply w_stepG | refine s_bi ?_ ?_ | refine blk_ne ?_ ?_); rfl) | ((with_reducible refine al_go ?_); intro b) | ((with_reducible first | refine w_region ?_ ?_ | refine w_dra ?_ ?_); kernel_rfl) | ((with_reducible refine Go3.go ?_ ?_); all_goals (intro hb; (try with_reducible intro hb1); (try (exfalso; first | contradiction | omega)))) | fail)
        refine tr_loopd (ι := Nat) (fun i A st' => i ≤ m2 ∧ A.df = [] ∧ A.e 2 = .ip [.sl .shared L1, .sl .shared L2] ∧ A.e 3 = .ip [.i 5, .i 0, .str nm, .i ty, .b rq, .i k, .i n, .str sv, .sl .shared (lv.map V.cells), .sl .shared (order.map encI)] ∧ A.e 4 = .ptr b4 0 ∧ A.e 6 = .ptr b6 0 ∧ A.e 14 = .i i ∧ st' = .box b6 52 [.sl .shared L1, .ar gc 0 m2 cC] :: .box gc 3 (colC (CL i) ++ zC) :: .box b4 52 [.sl .tight [], .sl .tight []] :: st) (fun i => m2 - i) 0 ⟨Nat.zero_le _, ?_, ?_, ?_, ?_, ?_, ?_, by rw [hc0.out]⟩ ?_
        iterate 6 (focus (first | rfl | assumption | omega | (simp (disch := omega) only [push_cast, simprocAttr, *]; try omega; done)))
        clear hdf e2 e3 e4 e6 e11
        rintro i A st' ⟨hi, hdf, e2, e3, e4, e6, e14, rfl⟩
        have hzl := hrl2.out i hi
        by_cases hil : i < m2
        · obtain ⟨a, ha⟩ : ∃ a, order[i]? = some a := ⟨_, List.getElem?_eq_getElem (by omega)⟩
          obtain ⟨ha1, ha2⟩ := hrng.out a (List.mem_of_getElem? ha)
          obtain ⟨an, rfl⟩ := Int.eq_ofNat_of_zero_le ha1
          obtain ⟨c, hc1, hc2⟩ := hnx.out i an ha (by omega)
          have hg := hL2g.out an c hc1
          have hac : (order.map encI)[i]? = some [D.i an] := by rw [List.getElem?_map, ha]; rfl
          have hml : (order.map encI).length = order.length := List.length_map ..
          have hsp := hrow.out i c hil
          rw [hc2] at hsp
          have hanl : an < m2 := by omega
          clear hc1 hc2 ha
          generalize hQ1 : colC (CL i) = Q1 at *
          generalize hQ2 : colC (CL (i + 1)) = Q2 at *
          generalize order.map encI = OL at *
          replace hQ1 := Lib.hid hQ1
          have hQ2 := Lib.hid hQ2
          repeat' (first | with_reducible refine Go1.go ?_ | ((with_reducible apply ev_go); (focus ((try simp (disch := omega) only [push_cast, simprocAttr, *]); (try exact rfl); done))) | ((with_reducible apply (w_drawN [(b6, [.sl .shared L1, .ar gc 0 m2 cC])])); (iterate 3 (focus kernel_rfl)); (focus ((repeat (first | exact keep_nil | refine keep_more (by (repeat (first | exact mm_h | apply mm_t)); done) ?_)); done)); intro hne; simp only [nes, ne1, and_assoc] at hne; repeat (have hq := hne.1; replace hne := hne.2)) | ((with_reducible refine And.intro ?_ ?_); (focus ((repeat (first | exact keep_nil | refine keep_more (by (repeat (first | exact mm_h | apply mm_t)); done) ?_)); done))) | ((with_reducible refine w_last ?_ ?_ ?_); kernel_rfl; rfl) | with_reducible refine Go2.go ?_ | ((with_reducible first | apply w_stepG | refine s_bi ?_ ?_ | refine blk_ne ?_ ?_); rfl) | ((with_reducible refine al_go ?_); intro b) | ((with_reducible first | refine w_region ?_ ?_ | refine w_dra ?_ ?_); kernel_rfl) | ((with_reducible refine Go3.go ?_ ?_); all_goals (intro hb; (try with_reducible intro hb1); (try (exfalso; first | contradiction | omega)))) | fail)
          refine ⟨i + 1, .box b6 52 [.sl .shared L1, .ar gc 0 m2 cC] :: .box gc 3 (Q2 ++ zC) :: .box b4 52 [.sl .tight [], .sl .tight []] :: st, List.Sublist.refl _, ⟨hil, ?_, ?_, ?_, ?_, ?_, ?_, by rw [hQ2.out]⟩, by omega⟩
          all_goals (first | rfl | assumption | omega | (simp (disch := omega) only [push_cast, simprocAttr, *]; try omega; done))
        · have him : i = m2 := by omega
          subst him
          generalize hQ1 : colC (CL i) = Q1 at *
          have hQ1 := Lib.hid hQ1
          repeat' (first | with_reducible refine Go1.go ?_ | ((with_reducible apply ev_go); (focus ((try simp (disch := omega) only [push_cast, simprocAttr, *]); (try exact rfl); done))) | ((with_reducible refine w_last ?_ ?_ ?_); kernel_rfl; rfl) | with_reducible refine Go2.go ?_ | ((with_reducible first | apply w_stepG | refine s_bi ?_ ?_ | refine blk_ne ?_ ?_); rfl) | ((with_reducible refine al_go ?_); intro b) | ((with_reducible first | refine w_region ?_ ?_ | refine w_dra ?_ ?_); kernel_rfl) | ((with_reducible refine Go3.go ?_ ?_); all_goals (intro hb; (try with_reducible intro hb1); (try (exfalso; first | contradiction | omega)))) | fail)
          all_goals (refine retG_mk (rs := []) (by first | exact .inl rfl | exact .inr rfl) (by first | rfl | assumption) (.swap _ _ _) ⟨_, _, rfl, cell_mk (by simp (disch := omega) only [push_cast, simprocAttr, *]; exact rfl) (by repeat (first | exact mm_h | apply mm_t)) (by simp (disch := omega) only [push_cast, simprocAttr, *]; exact rfl) (by (try simp (disch := omega) only [push_cast, simprocAttr, *]); (try exact rfl); done), (by show _ = _; (try simp (disch := omega) only [push_cast, simprocAttr, *]); (try exact rfl); done)⟩ (((List.Sublist.refl _).cons _).cons _ |>.cons_cons _) (LE.refl _) ⟨((true, y), (gc, cC, zC)), hFy.out, by simp only [hys.out, hL1.out, ← hce.out, hcl1.out _ (Nat.le_refl _)], by rw [← hce.out, ← hQ1.out]; rfl⟩)
    · have hFn : Hid (Sch.stepV x s = none) := Lib.hid (by
        rw [hF.out, if_neg]
        rintro ⟨-, -, h⟩
        exact hol h)
      clear hF hcs hq hty hnd
      unfold Vr.cells Stp.cells at *
      generalize Sch.stepV x s = F at *
      cases s with
      | mk kd col slot order =>
      cases slot with
      | mk nm ty rq dv =>
      cases dv with
      | mk k n sv lv =>
      dsimp only at hC hE hR hk ho hb2 hol ⊢
      subst hk
      rw [Sl.cells_mk] at *
      dsimp only [List.cons_append, List.nil_append] at *
      generalize r2e : colC x.cols = R2 at *
      generalize m1e : x.slots.length = m1 at *
      generalize m2e : x.cols.length = m2 at *
      generalize hL1 : x.slots.map Sl.cells = L1 at *
      generalize hL2 : x.cols.map encC = L2 at *
      have r2e : Hid ((x.cols.map encC).flatten = R2) := r2e
      replace m1e := Lib.hid m1e
      replace m2e := Lib.hid m2e
      replace hL1 := Lib.hid hL1
      replace hL2 := Lib.hid hL2
      replace hC := Lib.hid hC
      replace hE := Lib.hid hE
      replace hR := Lib.hid hR
      subst hb2
      replace hb1 := Lib.hid hb1
      have hol' : ¬ (order.length : Int) = (m2 : Int) := by omega
      clear hol
      refine trF_enterG (G := twoA Try.prog (.cell 4 52) (.tmp 5)) Try.func80 rfl (by rw [Try.ntmps80]; exact Nat.le_of_ble_eq_true rfl) (fun h1 h2 h3 => res_two rfl h1 h2 h3) ?_
      simp only [Try.ntmps80]
      repeat' (first | with_reducible refine Go1.go ?_ | ((with_reducible apply ev_go); (focus ((try simp (disch := omega) only [push_cast, simprocAttr, *]); (try exact rfl); done))) | ((with_reducible refine w_last ?_ ?_ ?_); kernel_rfl; rfl) | with_reducible refine Go2.go ?_ | ((with_reducible first | apply w_stepG | refine s_bi ?_ ?_ | refine blk_ne ?_ ?_); rfl) | ((with_reducible refine al_go ?_); intro b) | ((with_reducible apply (ck_gen Try.call96)); (focus exact List.Perm.refl _); (focus exact hC.out _); (focus exact LEL.refl _); (focus exact hE.out _); (rintro d st' ⟨gc, cC, zC, hz2, rfl, rfl⟩; (obtain ⟨b4, rfl⟩ : ∃ q, q = b := ⟨_, rfl⟩))) | ((with_reducible apply (ck_le Try.call97)); exact LEL.refl _; exact hR.out _) | ((with_reducible first | refine w_region ?_ ?_ | refine w_dra ?_ ?_); kernel_rfl) | ((with_reducible refine Go3.go ?_ ?_); all_goals (intro hb; (try with_reducible intro hb1); (try (exfalso; first | contradiction | omega)))) | fail)
      all_goals (refine retG_mk (rs := []) (by first | exact .inl rfl | exact .inr rfl) (by first | rfl | assumption) (.swap _ _ _) ⟨_, _, rfl, cell_mk (by simp (disch := omega) only [push_cast, simprocAttr, *]; exact rfl) (by repeat (first | exact mm_h | apply mm_t)) (by simp (disch := omega) only [push_cast, simprocAttr, *]; exact rfl) (by (try simp (disch := omega) only [push_cast, simprocAttr, *]); (try exact rfl); done), (by show _ = _; (try simp (disch := omega) only [push_cast, simprocAttr, *]); (try exact rfl); done)⟩ (((List.Sublist.refl _).cons _).cons _ |>.cons_cons _) (LE.refl _) ⟨((false, x), (gc, cC, zC)), hFn.out, by simp only [m2e.out, hL1.out], by simp only [r2e.out]⟩)
  · have hrr : (Sch.bare s.slot false false && (s.col == 0)) = false := by
      cases h1 : Sch.bare s.slot false false with
      | false => rfl
      | true => rw [Bool.true_and, beq_eq_false_iff_ne]; exact fun h2 => hb ⟨h1, h2⟩
    rw [hrr] at hR
    have hFn : Hid (Sch.stepV x s = none) := Lib.hid (by
      rw [hF.out, if_neg]
      rintro ⟨h1, h2, -⟩
      exact hb ⟨h2, h1⟩)
    clear hF hcs hb hrr hq hty hnd
    unfold Vr.cells Stp.cells at *
    generalize Sch.stepV x s = F at *
    cases s with
    | mk kd col slot order =>
    cases slot with
    | mk nm ty rq dv =>
    cases dv with
    | mk k n sv lv =>
    dsimp only at hC hE hR hk ho ⊢
    subst hk
    rw [Sl.cells_mk] at *
    dsimp only [List.cons_append, List.nil_append] at *
    generalize r2e : colC x.cols = R2 at *
    generalize m1e : x.slots.length = m1 at *
    generalize m2e : x.cols.length = m2 at *
    generalize hL1 : x.slots.map Sl.cells = L1 at *
    generalize hL2 : x.cols.map encC = L2 at *
    have r2e : Hid ((x.cols.map encC).flatten = R2) := r2e
    replace m1e := Lib.hid m1e
    replace m2e := Lib.hid m2e
    replace hL1 := Lib.hid hL1
    replace hL2 := Lib.hid hL2
    replace hC := Lib.hid hC
    replace hE := Lib.hid hE
    replace hR := Lib.hid hR
    refine trF_enterG (G := twoA Try.prog (.cell 4 52) (.tmp 5)) Try.func80 rfl (by rw [Try.ntmps80]; exact Nat.le_of_ble_eq_true rfl) (fun h1 h2 h3 => res_two rfl h1 h2 h3) ?_
    simp only [Try.ntmps80]
    repeat' (first | with_reducible refine Go1.go ?_ | ((with_reducible apply ev_go); (focus ((try simp (disch := omega) only [push_cast, simprocAttr, *]); (try exact rfl); done))) | ((with_reducible refine w_last ?_ ?_ ?_); kernel_rfl; rfl) | with_reducible refine Go2.go ?_ | ((with_reducible first | apply w_stepG | refine s_bi ?_ ?_ | refine blk_ne ?_ ?_); rfl) | ((with_reducible refine al_go ?_); intro b) | ((with_reducible apply (ck_gen Try.call96)); (focus exact List.Perm.refl _); (focus exact hC.out _); (focus exact LEL.refl _); (focus exact hE.out _); (rintro d st' ⟨gc, cC, zC, hz2, rfl, rfl⟩; (obtain ⟨b4, rfl⟩ : ∃ q, q = b := ⟨_, rfl⟩))) | ((with_reducible apply (ck_le Try.call97)); exact LEL.refl _; exact hR.out _) | ((with_reducible first | refine w_region ?_ ?_ | refine w_dra ?_ ?_); kernel_rfl) | ((with_reducible refine Go3.go ?_ ?_); all_goals (intro hb; (try with_reducible intro hb1); (try (exfalso; first | contradiction | omega)))) | fail)
    all_goals (refine retG_mk (rs := []) (by first | exact .inl rfl | exact .inr rfl) (by first | rfl | assumption) (.swap _ _ _) ⟨_, _, rfl, cell_mk (by simp (disch := omega) only [push_cast, simprocAttr, *]; exact rfl) (by repeat (first | exact mm_h | apply mm_t)) (by simp (disch := omega) only [push_cast, simprocAttr, *]; exact rfl) (by (try simp (disch := omega) only [push_cast, simprocAttr, *]); (try exact rfl); done), (by show _ = _; (try simp (disch := omega) only [push_cast, simprocAttr, *]); (try exact rfl); done)⟩ (((List.Sublist.refl _).cons _).cons _ |>.cons_cons _) (LE.refl _) ⟨((false, x), (gc, cC, zC)), hFn.out, by simp only [m2e.out, hL1.out], by simp only [r2e.out]⟩)
end Go.Proofs.Ytooaagmhgakhgaa
end

section
namespace Go.Proofs.Ytooaagmhgakhgaa
set_option linter.unusedSimpArgs false
attribute [local push_cast] encB encI encC V.cells_mk V.cells_len Nat.mul_one Int.sub_zero List.map_nil beq_self_eq_true List.head?_cons
open Go.RowKit
set_option maxRecDepth 10000
set_option maxHeartbeats 4000000
theorem refOutF (x : Vr) (s : Stp) (h : RefP x s) (hk : s.kind < 1 ∨ 5 < s.kind) (st : St) : TrF Try.prog 80 [.agg x.cells, .agg s.cells] st (RefStepR x s st) := by
  obtain ⟨⟨hl, hp, hcp, hcl, hcs⟩, hq, hty, ho⟩ := h
  have hC := refCopyAF x hp hcp hl (by omega)
  have hFn : Hid (Sch.stepV x s = none) := Lib.hid (by unfold Sch.stepV; rw [if_neg (show ¬ s.kind = 1 by omega), if_neg (show ¬ s.kind = 2 by omega), if_neg (show ¬ s.kind = 3 by omega), if_neg (show ¬ s.kind = 4 by omega), if_neg (show ¬ s.kind = 5 by omega)])
  unfold RefStepR
  unfold Vr.cells Stp.cells at *
  generalize Sch.stepV x s = F at *
  have hk' : s.kind < 1 ∨ (1 ≤ s.kind ∧ 5 < s.kind) := by omega
  clear hk hq hty hcs
  cases s with
  | mk kd col slot order =>
  cases slot with
  | mk nm ty rq dv =>
  cases dv with
  | mk k n sv lv =>
  dsimp only at hC hk' ho ⊢
  rw [Sl.cells_mk] at *
  dsimp only [List.cons_append, List.nil_append] at *
  generalize x.slots.map Sl.cells = L1 at *
  generalize x.cols.map encC = L2 at *
  replace hC := Lib.hid hC
  rcases hk' with h1 | ⟨h1, h2⟩
  all_goals skip
  all_goals (
    refine trF_enterG (G := twoA Try.prog (.cell 4 52) (.tmp 5)) Try.func80 rfl (by rw [Try.ntmps80]; exact Nat.le_of_ble_eq_true rfl) (fun h1 h2 h3 => res_two rfl h1 h2 h3) ?_
    simp only [Try.ntmps80]
    repeat' (first | with_reducible refine Go1.go ?_ | ((with_reducible apply ev_go); (focus ((try simp (disch := omega) only [push_cast, simprocAttr, *]); (try exact rfl); done))) | ((with_reducible refine w_last ?_ ?_ ?_); kernel_rfl; rfl) | with_reducible refine Go2.go ?_ | ((with_reducible first | apply w_stepG | refine s_bi ?_ ?_ | refine blk_ne ?_ ?_); rfl) | ((with_reducible refine al_go ?_); intro b) | ((with_reducible apply (ck_le Try.call96)); exact LEL.refl _; exact hC.out _) | ((with_reducible first | refine w_region ?_ ?_ | refine w_dra ?_ ?_); kernel_rfl) | ((with_reducible refine Go3.go ?_ ?_); all_goals (intro hb; (try with_reducible intro hb1); (try (exfalso; first | contradiction | omega)))) | fail)
    all_goals (refine retG_mk (rs := []) (by first | exact .inl rfl | exact .inr rfl) (by first | rfl | assumption) (List.Perm.refl _) ⟨_, _, rfl, cell_mk (by simp (disch := omega) only [push_cast, simprocAttr, *]; exact rfl) (by repeat (first | exact mm_h | apply mm_t)) (by simp (disch := omega) only [push_cast, simprocAttr, *]; exact rfl) (by (try simp (disch := omega) only [push_cast, simprocAttr, *]); (try exact rfl); done), (by show _ = _; (try simp (disch := omega) only [push_cast, simprocAttr, *]); (try exact rfl); done)⟩ (by (repeat (first | exact List.Sublist.refl _ | with_reducible apply List.Sublist.cons_cons | apply List.Sublist.cons))) (LE.refl _) (.inl ⟨hFn.out, _, _, rfl, rfl⟩)))
theorem refStepF (x : Vr) (s : Stp) (h : RefP x s) (hnd : x.cols.Nodup) (hxt : ∀ z ∈ x.slots, Sch.takes z.types = true) (st : St) : TrF Try.prog 80 [.agg x.cells, .agg s.cells] st (RefStepR x s st) := by
  by_cases h1 : s.kind = 1
  · exact refAddF x s h h1 st
  by_cases h2 : s.kind = 2
  · exact refLoseF x s h h2 st
  by_cases h3 : s.kind = 3
  · exact refRenameF x s h h3 st
  by_cases h4 : s.kind = 4
  · exact refWidenF x s h hxt h4 st
  by_cases h5 : s.kind = 5
  · exact refReorderF x s h hnd h5 st
  exact refOutF x s h (by omega) st
namespace Sch
theorem step_nd {x y : Vr} {s : Stp} (hb : ∀ c ∈ x.cols, c < x.slots.length) (hx : x.cols.Nodup) (h : stepV x s = some y) : y.cols.Nodup := by
  unfold stepV at h
  split at h
  · unfold addS at h
    split at h
    · cases h
      show (x.cols ++ [x.slots.length]).Nodup
      rw [List.nodup_append]
      refine ⟨hx, by simp, fun a ha b hb' e => ?_⟩
      rw [List.mem_singleton] at hb'
      subst hb' e
      have := hb _ ha
      omega
    · cases h
  · split at h
    · unfold loseS at h
      split at h
      · cases h; exact hx.eraseIdx _
      · cases h
    · split at h
      · unfold renameS at h
        split at h
        · cases h; exact hx
        · cases h
      · split at h
        · unfold widenS at h
          split at h
          · cases h; exact hx
          · cases h
        · split at h
          · unfold reorderS at h
            split at h
            · rename_i hc
              have hl : s.order.length = x.cols.length := hc.2.2
              rw [reo_count hx hl] at h
              split at h
              · rename_i hq
                cases h
                obtain ⟨h1, h2⟩ := all_len x.cols.length s.order hl fun k hk => List.count_pos_iff.1 (by rw [hq k hk]; omega)
                show (put x.cols s.order).Nodup
                unfold put
                rw [List.nodup_iff_pairwise_ne, List.pairwise_map]
                refine List.Pairwise.imp_of_mem (fun {a b} ha hb hab e => ?_) h1
                exact hab (getD_inj hx (h2 a ha) (h2 b hb) e)
              · cases h
            · cases h
          · cases h
structure VZ (n : Nat) (x : Vr) : Prop where
  vi : VI n x
  nd : x.cols.Nodup
  sl : ∀ z ∈ x.slots, SOk z
theorem firstL_nd : ∀ (l : List Sl) (x y : Vr), (∀ c ∈ x.cols, c < x.slots.length) → x.cols.Nodup → (∀ z ∈ x.slots, SOk z) → firstL l x = some y → y.cols.Nodup ∧ ∀ z ∈ y.slots, SOk z
  | [], x, y, _, h2, h3, h => by cases h; exact ⟨h2, h3⟩
  | s :: l, x, y, h1, h2, h3, h => by
    rw [firstL] at h
    split at h
    · rename_i hc
      refine firstL_nd l _ y (fun c hc => ?_) ?_ (fun z hz => ?_) h
      · rcases List.mem_append.1 hc with h | h
        · have := h1 c h; simp; omega
        · rw [List.mem_singleton] at h
          subst h; simp
      · show (x.cols ++ [x.slots.length]).Nodup
        rw [List.nodup_append]
        refine ⟨h2, by simp, fun a ha b hb' e => ?_⟩
        rw [List.mem_singleton] at hb'
        subst hb' e
        have := h1 _ ha
        omega
      · rcases List.mem_append.1 hz with h | h
        · exact h3 z h
        · rw [List.mem_singleton] at h
          subst h; exact sound_ok hc.1
    · cases h
theorem first_vz {t : Tm} {x : Vr} (h : firstV t = some x) : VZ 8 x := by
  have hv := (first_vi h).1
  unfold firstV at h
  split at h
  · obtain ⟨h1, h2⟩ := firstL_nd _ _ _ (fun c h => by cases h) List.nodup_nil (fun z h => by cases h) h
    exact ⟨hv, h1, h2⟩
  · cases h
theorem step_vz {n : Nat} {x y : Vr} {s : Stp} (hx : VZ n x) (h : stepV x s = some y) : VZ (n + 1) y :=
  ⟨step_vi hx.vi h, step_nd hx.vi.cs hx.nd h, (step_grow hx.sl h).2⟩
end Sch
end Go.Proofs.Ytooaagmhgakhgaa
end

section
namespace Go.Proofs.Ytooaagmhgakhgaa
set_option linter.unusedSimpArgs false
namespace Sch
theorem toList_inj {a b : ByteArray} (h : a.toList = b.toList) : a = b := by
  rw [ByteArray.toList_eq, ByteArray.toList_eq] at h
  cases a; cases b
  simp only [ByteArray.mk.injEq]
  exact Array.toList_inj.1 h
theorem named_iff {slots : List Sl} {name : ByteArray} {i : Nat} {y : Sl} (h : slots[i]? = some y) : named slots name i = true ↔ y.name = name := by
  unfold named
  rw [h]
  simp only [Option.any_some, beq_iff_eq]
  exact ⟨toList_inj, fun h => by rw [h]⟩
def Apart (x : Vr) : Prop := ∀ a ∈ x.cols, ∀ b ∈ x.cols, ∀ y z, x.slots[a]? = some y → x.slots[b]? = some z → y.name = z.name → a = b
theorem colL_neg (slots : List Sl) (name : ByteArray) : ∀ (l : List Nat), colL slots name l < 0 → ∀ c ∈ l, ∀ y, slots[c]? = some y → y.name ≠ name
  | [], _, c, hc, _, _ => by cases hc
  | i :: l, h, c, hc, y, hy => by
    rw [colL] at h
    split at h
    · omega
    · rename_i hn
      rcases List.mem_cons.1 hc with rfl | hc
      · exact fun e => hn ((named_iff hy).2 e)
      · exact colL_neg slots name l h c hc y hy
theorem apart_add {x : Vr} {s : Sl} (hc : ∀ c ∈ x.cols, c < x.slots.length) (h : Apart x) (hn : col x s.name < 0) : Apart ⟨x.slots ++ [s], x.cols ++ [x.slots.length]⟩ := by
  have hneg := colL_neg x.slots s.name x.cols hn
  have hold : ∀ a ∈ x.cols, ∀ y, (x.slots ++ [s])[a]? = some y → x.slots[a]? = some y := fun a ha y hy => by
    rwa [List.getElem?_append_left (hc a ha)] at hy
  have hnew : ∀ y, (x.slots ++ [s])[x.slots.length]? = some y → y = s := fun y hy => by
    rw [List.getElem?_append_right (Nat.le_refl _), Nat.sub_self] at hy
    cases hy; rfl
  intro a ha b hb y z hy hz e
  rcases List.mem_append.1 ha with ha | ha <;> rcases List.mem_append.1 hb with hb | hb
  · exact h a ha b hb y z (hold a ha y hy) (hold b hb z hz) e
  · rw [List.mem_singleton] at hb
    subst hb
    rw [hnew z hz] at e
    exact absurd e (hneg a ha y (hold a ha y hy))
  · rw [List.mem_singleton] at ha
    subst ha
    rw [hnew y hy] at e
    exact absurd e.symm (hneg b hb z (hold b hb z hz))
  · rw [List.mem_singleton] at ha hb
    rw [ha, hb]
theorem modify_inv {α : Type} {l : List α} {f : α → α} {i j : Nat} {y : α} (h : (l.modify i f)[j]? = some y) : ∃ y0, l[j]? = some y0 ∧ y = if i = j then f y0 else y0 := by
  cases hl : l[j]? with
  | none => rw [List.getElem?_modify, hl] at h; simp at h
  | some w =>
    rw [modify_get hl] at h
    cases h
    exact ⟨w, rfl, rfl⟩
theorem step_apart {x y : Vr} {s : Stp} (hc : ∀ c ∈ x.cols, c < x.slots.length) (h : Apart x) (hs : stepV x s = some y) : Apart y := by
  unfold stepV at hs
  split at hs
  · unfold addS at hs
    split at hs
    · rename_i hq
      cases hs
      exact apart_add hc h hq.2.2.2.2.2
    · cases hs
  · split at hs
    · unfold loseS at hs
      split at hs
      · cases hs
        exact fun a ha b hb => h a (List.mem_of_mem_eraseIdx ha) b (List.mem_of_mem_eraseIdx hb)
      · cases hs
    · split at hs
      · unfold renameS at hs
        split at hs
        · rename_i hq
          cases hs
          have hneg := colL_neg x.slots s.slot.name x.cols hq.2.2.2
          intro a ha b hb y z hy hz e
          obtain ⟨y0, hy0, rfl⟩ := modify_inv hy
          obtain ⟨z0, hz0, rfl⟩ := modify_inv hz
          by_cases h1 : at_ x s = a
          · by_cases h2 : at_ x s = b
            · exact h1.symm.trans h2
            · rw [if_pos h1, if_neg h2] at e
              exact absurd e.symm (hneg b hb z0 hz0)
          · by_cases h2 : at_ x s = b
            · rw [if_neg h1, if_pos h2] at e
              exact absurd e (hneg a ha y0 hy0)
            · rw [if_neg h1, if_neg h2] at e
              exact h a ha b hb y0 z0 hy0 hz0 e
        · cases hs
      · split at hs
        · unfold widenS at hs
          split at hs
          · cases hs
            intro a ha b hb y z hy hz e
            obtain ⟨y0, hy0, rfl⟩ := modify_inv hy
            obtain ⟨z0, hz0, rfl⟩ := modify_inv hz
            refine h a ha b hb y0 z0 hy0 hz0 ?_
            have k : ∀ (w : Sl) (c : Nat), (if at_ x s = c then { w with types := bits .or .i64 w.types s.slot.types } else w).name = w.name := fun w c => by split <;> rfl
            rw [k, k] at e
            exact e
          · cases hs
        · split at hs
          · unfold reorderS at hs
            split at hs
            · cases hr : reo x.cols s.order [] with
              | none => rw [hr] at hs; cases hs
              | some r =>
                rw [hr] at hs; cases hs
                have k := (reo_sub _ _ _ hr (fun c h => by cases h)).1
                exact fun a ha b hb => h a (k a ha) b (k b hb)
            · cases hs
          · cases hs
theorem firstL_apart : ∀ (l : List Sl) (x y : Vr), (∀ c ∈ x.cols, c < x.slots.length) → Apart x → firstL l x = some y → Apart y
  | [], x, y, _, h2, h => by cases h; exact h2
  | s :: l, x, y, h1, h2, h => by
    rw [firstL] at h
    split at h
    · rename_i hc
      refine firstL_apart l _ y (fun c hc => ?_) (apart_add h1 h2 hc.2) h
      rcases List.mem_append.1 hc with h | h
      · have := h1 c h; simp; omega
      · rw [List.mem_singleton] at h
        subst h; simp
    · cases h
theorem vers_apart {t : Tm} : ∀ x ∈ vers t, Apart x ∧ x.cols.Nodup ∧ (∀ c ∈ x.cols, c < x.slots.length) ∧ 1 ≤ x.cols.length ∧ x.cols.length ≤ 8 := by
  intro x hx
  unfold vers at hx
  split at hx
  · cases hx
  · rename_i y hy
    have key : ∀ (l : List Stp) (y : Vr) (n : Nat), VZ n y → Apart y → ∀ x ∈ versL y l, Apart x ∧ x.cols.Nodup ∧ (∀ c ∈ x.cols, c < x.slots.length) ∧ 1 ≤ x.cols.length ∧ x.cols.length ≤ 8 := by
      intro l
      induction l with
      | nil => intro y n _ _ x hx; cases hx
      | cons s l ih =>
        intro y n hy ha x hx
        rw [versL] at hx
        cases hs : stepV y s with
        | none => rw [hs] at hx; cases hx
        | some w =>
          rw [hs] at hx
          have hw := step_vz hy hs
          have hwa := step_apart hy.vi.cs ha hs
          rcases List.mem_cons.1 hx with rfl | hx
          · exact ⟨hwa, hw.nd, hw.vi.cs, hw.vi.cp, hw.vi.lc⟩
          · exact ih w _ hw hwa x hx
    have hz := first_vz hy
    have ha : Apart y := by
      unfold firstV at hy
      split at hy
      · exact firstL_apart _ _ _ (fun c h => by cases h) (fun a ha => by cases ha) hy
      · cases hy
    rcases List.mem_cons.1 hx with rfl | hx
    · exact ⟨ha, hz.nd, hz.vi.cs, hz.vi.cp, hz.vi.lc⟩
    · exact key _ _ _ hz ha x hx
theorem colL_found {x : Vr} (h : Apart x) {c : Nat} {y : Sl} (hc : c ∈ x.cols) (hy : x.slots[c]? = some y) : col x y.name = c := by
  have key : ∀ l : List Nat, (∀ a ∈ l, a ∈ x.cols) → c ∈ l → colL x.slots y.name l = c := by
    intro l
    induction l with
    | nil => intro _ h; cases h
    | cons i l ih =>
      intro hs hcl
      rw [colL]
      split
      · rename_i hn
        cases hi : x.slots[i]? with
        | none =>
          unfold named at hn
          rw [hi] at hn
          cases hn
        | some z =>
          have := h i (hs i (List.mem_cons_self ..)) c hc z y hi hy ((named_iff hi).1 hn)
          rw [this]
      · rename_i hn
        rcases List.mem_cons.1 hcl with rfl | hcl
        · exact absurd ((named_iff hy).2 rfl) hn
        · exact ih (fun a ha => hs a (List.mem_cons_of_mem _ ha)) hcl
  exact key x.cols (fun a h => h) hc
end Sch
end Go.Proofs.Ytooaagmhgakhgaa
end

section
namespace Go.Proofs.Ytooaagmhgakhgaa
set_option linter.unusedSimpArgs false
attribute [local push_cast] encB encI encC V.cells_mk V.cells_len Nat.mul_one Int.sub_zero List.map_nil beq_self_eq_true List.head?_cons
open Go.RowKit
set_option maxRecDepth 10000
set_option maxHeartbeats 4000000
def FirstR (t : Tm) (st : St) (d : D) (st' : St) : Prop :=
  (Sch.firstV t = none ∧ (d = .tup [.agg [.sl .tight [], .sl .tight []], .b false] ∨ ∃ gs n cS gc m cC, d = .tup [.agg [.ar gs 0 n cS, .ar gc 0 m cC], .b false]) ∧ st' = st) ∨
    ∃ x gs cS zS gc cC zC, Sch.firstV t = some x ∧ VL cS zS cC zC x ∧ d = .tup [.agg [.ar gs 0 x.slots.length cS, .ar gc 0 x.cols.length cC], .b true] ∧ st' = .box gs 26 (slotC x.slots ++ zS) :: .box gc 3 (colC x.cols ++ zC) :: st
theorem firstL_drop {slots : List Sl} {i : Nat} {s : Sl} {x : Vr} (h : slots[i]? = some s) : Sch.firstL (slots.drop i) x = if Sch.sound s = true ∧ Sch.col x s.name < 0 then Sch.firstL (slots.drop (i + 1)) ⟨x.slots ++ [s], x.cols ++ [x.slots.length]⟩ else none := by
  obtain ⟨h1, rfl⟩ := List.getElem?_eq_some_iff.1 h
  rw [List.drop_eq_getElem_cons h1, Sch.firstL]
theorem schFirstF (t : Tm) (hs : ∀ s ∈ t.slots, s.dv.nodes ≤ 1000) (hl : t.slots.length ≤ 1000) (ht : t.steps.length ≤ 1000) (st : St) : TrF Try.prog 71 [.agg t.cells] st (FirstR t st) := by
  have hN := Lib.hid (valIsNameF t.name)
  have hF : Hid (Sch.firstV t = if V.isName t.name.data.toList = true ∧ 1 ≤ t.slots.length ∧ t.slots.length ≤ 8 ∧ t.steps.length ≤ 8 then Sch.firstL t.slots ⟨[], []⟩ else none) := rfl
  unfold FirstR VL
  generalize Sch.firstV t = F at *
  cases t with
  | mk nm slots steps =>
  unfold Tm.cells
  dsimp only at hN hF hs hl ht ⊢
  generalize V.isName nm.data.toList = qn at *
  generalize hTS : steps.map Stp.cells = TS at *
  have hTSl : TS.length = steps.length := by rw [← hTS, List.length_map]
  generalize steps.length = ms at *
  clear hTS
  refine trF_enterG (G := twoA Try.prog (.cell 2 38) (.tmp 3)) Try.func71 rfl (by rw [Try.ntmps71]; exact Nat.le_of_ble_eq_true rfl) (fun h1 h2 h3 => res_two rfl h1 h2 h3) ?_
  simp only [Try.ntmps71]
  by_cases hc : qn = true ∧ 1 ≤ slots.length ∧ slots.length ≤ 8 ∧ ms ≤ 8
  case neg =>
    have hF2 : Hid (F = none) := Lib.hid (by rw [hF.out, if_neg hc])
    have hno : qn = false ∨ (qn = true ∧ (slots.length : Int) < 1) ∨ (qn = true ∧ 1 ≤ (slots.length : Int) ∧ 8 < (slots.length : Int)) ∨ (qn = true ∧ 1 ≤ (slots.length : Int) ∧ (slots.length : Int) ≤ 8 ∧ 8 < (ms : Int)) := by
      cases qn
      · exact .inl rfl
      · refine .inr ?_
        by_cases h1 : 1 ≤ slots.length
        · by_cases h2 : slots.length ≤ 8
          · by_cases h3 : ms ≤ 8
            · exact absurd ⟨rfl, h1, h2, h3⟩ hc
            · exact .inr (.inr ⟨rfl, by omega, by omega, by omega⟩)
          · exact .inr (.inl ⟨rfl, by omega, by omega⟩)
        · exact .inl ⟨rfl, by omega⟩
    clear hc hF
    rcases hno with rfl | ⟨rfl, h1⟩ | ⟨rfl, h1, h2⟩ | ⟨rfl, h1, h2, h3⟩
    all_goals skip
    all_goals (
      repeat' (first | with_reducible refine Go1.go ?_ | ((with_reducible apply ev_go); (focus ((try simp (disch := omega) only [push_cast, simprocAttr, *]); (try exact rfl); done))) | ((with_reducible refine w_last ?_ ?_ ?_); kernel_rfl; rfl) | with_reducible refine Go2.go ?_ | ((with_reducible first | apply w_stepG | refine s_bi ?_ ?_ | refine blk_ne ?_ ?_); rfl) | ((with_reducible refine al_go ?_); intro b) | ((with_reducible apply (ck_le Try.call86)); exact LEL.refl _; exact hN.out _) | ((with_reducible first | refine w_region ?_ ?_ | refine w_dra ?_ ?_); kernel_rfl) | ((with_reducible refine Go3.go ?_ ?_); all_goals (intro hb; (try with_reducible intro hb1); (try (exfalso; first | contradiction | omega)))) | fail)
      all_goals ((refine retG_mk (rs := []) (by first | exact .inl rfl | exact .inr rfl) (by first | rfl | assumption) (List.Perm.refl _) ⟨_, _, rfl, cell_mk (by simp (disch := omega) only [push_cast, simprocAttr, *]; exact rfl) (by repeat (first | exact mm_h | apply mm_t)) (by simp (disch := omega) only [push_cast, simprocAttr, *]; exact rfl) (by (try simp (disch := omega) only [push_cast, simprocAttr, *]); (try exact rfl); done), (by show _ = _; (try simp (disch := omega) only [push_cast, simprocAttr, *]); (try exact rfl); done)⟩ (by (repeat (first | exact List.Sublist.refl _ | apply List.Sublist.cons))) (LE.refl _) (.inl ⟨hF2.out, (by first | exact .inl rfl | exact .inr ⟨_, _, _, _, _, _, rfl⟩), rfl⟩))))
  case pos =>
    have hF2 : Hid (F = Sch.firstL slots ⟨[], []⟩) := Lib.hid (by rw [hF.out, if_pos hc])
    obtain ⟨rfl, h1, h2, h3⟩ := hc
    clear hF
    obtain ⟨B, hB⟩ : ∃ B, Sch.firstL slots ⟨[], []⟩ = B := ⟨_, rfl⟩
    have HB : Hid (Sch.firstL (slots.drop 0) ⟨[], []⟩ = B) := hB
    rw [hB] at hF2
    clear hB
    have hsN := Lib.hid hs
    clear hs
    repeat' (first | with_reducible refine Go1.go ?_ | ((with_reducible apply ev_go); (focus ((try simp (disch := omega) only [push_cast, simprocAttr, *]); (try exact rfl); done))) | ((with_reducible refine w_last ?_ ?_ ?_); kernel_rfl; rfl) | with_reducible refine Go2.go ?_ | ((with_reducible first | apply w_stepG | refine s_bi ?_ ?_ | refine blk_ne ?_ ?_); rfl) | ((with_reducible refine al_go ?_); intro b) | ((with_reducible apply (ck_le Try.call86)); exact LEL.refl _; exact hN.out _) | ((with_reducible first | refine w_region ?_ ?_ | refine w_dra ?_ ?_); kernel_rfl) | ((with_reducible refine Go3.go ?_ ?_); all_goals (intro hb; (try with_reducible intro hb1); (try (exfalso; first | contradiction | omega)))) | fail)
    rename_i b2 _ _
    revert b
    intro b4
    refine tr_loopd (ι := Nat) (fun i A st' => i ≤ slots.length ∧ A.df = [] ∧ A.e 2 = .ptr b2 0 ∧ A.e 4 = .ptr b4 0 ∧ A.e 32 = .sl .shared (slots.map Sl.cells) ∧ A.e 33 = .i slots.length ∧ A.e 34 = .i i ∧ ∃ x : Vr, x.slots.length = i ∧ x.cols.length = i ∧ Hid (Sch.firstL (slots.drop i) x = B) ∧
      ((i = 0 ∧ x = ⟨[], []⟩ ∧ st' = .box b4 38 [.sl .tight [], .sl .tight []] :: .box b2 38 [.sl .tight [], .sl .tight []] :: st) ∨ (0 < i ∧ ∃ gs cS zS gc cC zC, (slotC x.slots ++ zS).length = cS * 7 ∧ (colC x.cols ++ zC).length = cC * 1 ∧ st' = .box gc 3 (colC x.cols ++ zC) :: .box gs 26 (slotC x.slots ++ zS) :: .box b4 38 [.ar gs 0 i cS, .ar gc 0 i cC] :: .box b2 38 [.sl .tight [], .sl .tight []] :: st))) (fun i => slots.length - i) 0 ⟨Nat.zero_le _, by (first | rfl | assumption | omega | (simp (disch := omega) only [push_cast, simprocAttr, *]; try omega; done)), by (first | rfl | assumption | omega | (simp (disch := omega) only [push_cast, simprocAttr, *]; try omega; done)), by (first | rfl | assumption | omega | (simp (disch := omega) only [push_cast, simprocAttr, *]; try omega; done)), by (first | rfl | assumption | omega | (simp (disch := omega) only [push_cast, simprocAttr, *]; try omega; done)), by (first | rfl | assumption | omega | (simp (disch := omega) only [push_cast, simprocAttr, *]; try omega; done)), by (first | rfl | assumption | omega | (simp (disch := omega) only [push_cast, simprocAttr, *]; try omega; done)), ⟨[], []⟩, rfl, rfl, HB, .inl ⟨rfl, rfl, rfl⟩⟩ ?_
    rintro i A st' ⟨hi, hdf, e2, e4, e32, e33, e34, x, hxs, hxc, HT, hcase⟩
    clear HB
    by_cases hlt : i < slots.length
    · obtain ⟨sl, hsl⟩ : ∃ s, slots[i]? = some s := ⟨_, List.getElem?_eq_getElem hlt⟩
      have HE := HT.out
      rw [firstL_drop hsl] at HE
      clear HT
      have hn := hsN.out sl (List.mem_of_getElem? hsl)
      have hS := schSoundF sl (by omega)
      have hC := schColF x.slots x.cols sl.name (by omega) (by omega) []
      have hcl : (slots.map Sl.cells)[i]? = some sl.cells := by rw [List.getElem?_map, hsl]; rfl
      have hml : (slots.map Sl.cells).length = slots.length := List.length_map ..
      clear hsl
      unfold Sch.col at HE
      have g1 := Lib.hid (slotC_add x.slots sl)
      have g2 := Lib.hid (colC_add x.cols x.slots.length)
      have hF3 : Hid (F = B) := hF2
      cases sl with
      | mk snm sty srq sdv =>
      cases sdv with
      | mk sk sn ss sL =>
      rw [Sl.cells_mk] at hS hcl g1
      dsimp only at hS hC HE hn g1
      generalize Sch.sound _ = q at *
      rcases hcase with ⟨rfl, hx0, rfl⟩ | ⟨hi0, gs, cS, zS, gc, cC, zC, hz1, hz2, rfl⟩
      · have hl1 : x.slots = [] := List.eq_nil_of_length_eq_zero hxs
        have hl2 : x.cols = [] := List.eq_nil_of_length_eq_zero hxc
        rw [hl1, hl2, List.map_nil, List.map_nil] at hC
        rw [hl1, hl2] at HE
        rw [Sch.colL] at hC HE
        generalize slots.map Sl.cells = SL at *
        replace hS := Lib.hid hS
        replace hC := Lib.hid hC
        replace hcl := hcl
        cases q with
        | false =>
          rw [if_neg (fun h => Bool.noConfusion h.1)] at HE
          have hF4 : Hid (F = none) := Lib.hid (hF3.out.trans HE.symm)
          clear HE
          repeat' (first | with_reducible refine Go1.go ?_ | ((with_reducible apply ev_go); (focus ((try simp (disch := omega) only [push_cast, simprocAttr, *]); (try exact rfl); done))) | ((with_reducible refine w_last ?_ ?_ ?_); kernel_rfl; rfl) | with_reducible refine Go2.go ?_ | ((with_reducible first | apply w_stepG | refine s_bi ?_ ?_ | refine blk_ne ?_ ?_); rfl) | ((with_reducible refine al_go ?_); intro b) | ((with_reducible apply (ck_le Try.call87)); exact LEL.refl _; exact hS.out _) | ((with_reducible apply (ck_lend Try.call38)); (focus exact hC.out); (focus exact ⟨Lend.agg ⟨Lend.sl _ _, Lend.sl _ _, trivial⟩, Lend.refl _, trivial⟩)) | ((with_reducible first | refine w_region ?_ ?_ | refine w_dra ?_ ?_); kernel_rfl) | ((with_reducible refine Go3.go ?_ ?_); all_goals (intro hb; (try with_reducible intro hb1); (try (exfalso; first | contradiction | omega)))) | fail)
          all_goals ((refine retG_mk (rs := []) (by first | exact .inl rfl | exact .inr rfl) (by first | rfl | assumption) (List.Perm.refl _) ⟨_, _, rfl, cell_mk (by simp (disch := omega) only [push_cast, simprocAttr, *]; exact rfl) (by repeat (first | exact mm_h | apply mm_t)) (by simp (disch := omega) only [push_cast, simprocAttr, *]; exact rfl) (by (try simp (disch := omega) only [push_cast, simprocAttr, *]); (try exact rfl); done), (by show _ = _; (try simp (disch := omega) only [push_cast, simprocAttr, *]); (try exact rfl); done)⟩ (by (repeat (first | exact List.Sublist.refl _ | apply List.Sublist.cons))) (LE.refl _) (.inl ⟨hF4.out, (by first | exact .inl rfl | exact .inr ⟨_, _, _, _, _, _, rfl⟩), rfl⟩)))
        | true =>
          rw [if_pos ⟨rfl, by decide⟩] at HE
          replace HE := Lib.hid HE
          repeat' (first | with_reducible refine Go1.go ?_ | ((with_reducible apply ev_go); (focus ((try simp (disch := omega) only [push_cast, simprocAttr, *]); (try exact rfl); done))) | ((with_reducible apply (w_drawQ [(b4, [.sl .tight [], .sl .tight []]), (b, [.str snm, .i sty, .b srq, .i sk, .i sn, .str ss, .sl .shared (sL.map V.cells)])] 9)); (iterate 4 (focus kernel_rfl)); (focus (simp only [List.take_succ_cons, List.take_zero]; exact rfl)); (focus (simp only [List.drop_succ_cons, List.drop_zero]; exact rfl)); (focus ((repeat (first | exact keep_nil | refine keep_more (by (repeat (first | exact mm_h | apply mm_t)); done) ?_)); done)); intro hne; simp only [nes, ne1, and_assoc] at hne; repeat (have hq := hne.1; replace hne := hne.2)) | ((with_reducible refine Exists.intro [] ?_); (with_reducible refine And.intro ?_ ?_); (focus ((repeat (first | exact keep_nil | refine keep_more (by (repeat (first | exact mm_h | apply mm_t)); done) ?_)); done))) | ((with_reducible refine And.intro ?_ ?_); (focus ((repeat (first | exact keep_nil | refine keep_more (by (repeat (first | exact mm_h | apply mm_t)); done) ?_)); done))) | with_reducible refine s_appN ?_ | with_reducible refine rn_go ?_ | ((with_reducible apply rn2_go); (focus (simp only [List.length_cons, List.length_nil]; omega)); (focus exact len_one rfl); (focus (simp only [List.length_cons, List.length_nil]; omega)); (focus (simp only [List.length_cons, List.length_nil]; omega)); intro g' c' z' hc' hl') | ((with_reducible refine w_last ?_ ?_ ?_); kernel_rfl; rfl) | with_reducible refine Go2.go ?_ | ((with_reducible first | apply w_stepG | refine s_bi ?_ ?_ | refine blk_ne ?_ ?_); rfl) | ((with_reducible refine al_go ?_); intro b) | ((with_reducible apply (ck_le Try.call87)); exact LEL.refl _; exact hS.out _) | ((with_reducible apply (ck_lend Try.call38)); (focus exact hC.out); (focus exact ⟨Lend.agg ⟨Lend.sl _ _, Lend.sl _ _, trivial⟩, Lend.refl _, trivial⟩)) | ((with_reducible first | refine w_region ?_ ?_ | refine w_dra ?_ ?_); kernel_rfl) | ((with_reducible refine Go3.go ?_ ?_); all_goals (intro hb; (try with_reducible intro hb1); (try (exfalso; first | contradiction | omega)))) | fail)
          rename_i gs' cS' zS' hcs' hls'
          refine ⟨1, .box g' 3 ([[D.i 0]].flatten ++ z') :: .box gs' 26 ([[.str snm, .i sty, .b srq, .i sk, .i sn, .str ss, .sl .shared (sL.map V.cells)]].flatten ++ zS') :: .box b4 38 [.ar gs' 0 1 cS', .ar g' 0 1 c'] :: .box b2 38 [.sl .tight [], .sl .tight []] :: st, ?_, ⟨hlt, ?_, ?_, ?_, ?_, ?_, ?_, ⟨[] ++ [.mk snm sty srq (.mk sk sn ss sL)], [] ++ [([] : List Sl).length]⟩, rfl, rfl, HE, .inr ⟨Nat.zero_lt_one, gs', cS', zS', g', c', z', ?_, ?_, ?_⟩⟩, ?_⟩
          · (repeat (first | exact List.Sublist.refl _ | with_reducible apply List.Sublist.cons_cons | apply List.Sublist.cons))
          iterate 6 (focus (first | rfl | assumption | omega | (simp (disch := omega) only [push_cast, simprocAttr, *]; try omega; done)))
          · rw [show slotC ([] ++ [Sl.mk snm sty srq (.mk sk sn ss sL)]) = [(Sl.mk snm sty srq (.mk sk sn ss sL)).cells].flatten from rfl, Sl.cells_mk]
            exact hls'
          · exact hl'
          · rw [show slotC ([] ++ [Sl.mk snm sty srq (.mk sk sn ss sL)]) = [(Sl.mk snm sty srq (.mk sk sn ss sL)).cells].flatten from rfl, Sl.cells_mk]
            rfl
          · omega
      · have hr1 := slotC_len x.slots
        have hr2 := colC_len x.cols
        have e1 := Lib.hid (slots_each x.slots)
        have e2 := Lib.hid (cols_each x.cols)
        have f1 := Lib.hid (slotC_flat x)
        have f2 := Lib.hid (colC_flat x)
        have l1 : Hid ((x.slots.map Sl.cells).length = i) := Lib.hid (by rw [List.length_map, hxs])
        have l2 : Hid ((x.cols.map encC).length = i) := Lib.hid (by rw [List.length_map, hxc])
        rw [hxs] at hr1 HE g2
        rw [hxc] at hr2
        generalize Sch.colL x.slots snm x.cols = cv at *
        obtain ⟨S1, hS1⟩ : ∃ S1, slotC x.slots = S1 := ⟨_, rfl⟩
        obtain ⟨C1, hC1⟩ : ∃ C1, colC x.cols = C1 := ⟨_, rfl⟩
        rw [hS1] at hz1 hr1 f1 g1
        rw [hC1] at hz2 hr2 f2 g2
        rw [hS1, hC1]
        clear hS1 hC1
        generalize x.slots.map Sl.cells = L1 at *
        generalize x.cols.map encC = L2 at *
        generalize slots.map Sl.cells = SL at *
        replace hS := Lib.hid hS
        replace hC := Lib.hid hC
        by_cases hqc : q = true ∧ cv < 0
        · obtain ⟨rfl, hcv⟩ := hqc
          rw [if_pos ⟨rfl, hcv⟩] at HE
          replace HE := Lib.hid HE
          replace hxs := Lib.hid hxs
          replace hxc := Lib.hid hxc
          repeat' (first | with_reducible refine Go1.go ?_ | ((with_reducible apply ev_go); (focus ((try simp (disch := omega) only [push_cast, simprocAttr, *]); (try exact rfl); done))) | ((with_reducible apply (w_drawQ [(b4, [.ar gs 0 i cS, .ar gc 0 i cC]), (b, [.str snm, .i sty, .b srq, .i sk, .i sn, .str ss, .sl .shared (sL.map V.cells)])] 9)); (iterate 4 (focus kernel_rfl)); (focus (simp only [List.take_succ_cons, List.take_zero]; exact rfl)); (focus (simp only [List.drop_succ_cons, List.drop_zero]; exact rfl)); (focus ((repeat (first | exact keep_nil | refine keep_more (by (repeat (first | exact mm_h | apply mm_t)); done) ?_)); done)); intro hne; simp only [nes, ne1, and_assoc] at hne; repeat (have hq := hne.1; replace hne := hne.2)) | ((with_reducible refine Exists.intro [] ?_); (with_reducible refine And.intro ?_ ?_); (focus ((repeat (first | exact keep_nil | refine keep_more (by (repeat (first | exact mm_h | apply mm_t)); done) ?_)); done))) | ((with_reducible refine And.intro ?_ ?_); (focus ((repeat (first | exact keep_nil | refine keep_more (by (repeat (first | exact mm_h | apply mm_t)); done) ?_)); done))) | with_reducible refine s_appR ?_ | with_reducible refine rk_go ?_ | ((with_reducible apply (r2_go hr1 hz1)); (focus (intro g' cs'; repeat (first | exact ra_h | apply ra_t))); (focus exact len_one rfl); (focus (simp only [List.length_cons, List.length_nil]; omega)); (focus (simp only [List.length_cons, List.length_nil]; omega)); intro gs' cS' zS' hcs hls) | ((with_reducible apply (r2_go hr2 hz2)); (focus (intro g' cs'; repeat (first | exact ra_h | apply ra_t))); (focus exact len_one rfl); (focus (simp only [List.length_cons, List.length_nil]; omega)); (focus (simp only [List.length_cons, List.length_nil]; omega)); intro gc' cC' zC' hcc hlc) | ((with_reducible refine w_last ?_ ?_ ?_); kernel_rfl; rfl) | with_reducible refine Go2.go ?_ | ((with_reducible first | apply w_stepG | refine s_bi ?_ ?_ | refine blk_ne ?_ ?_); rfl) | ((with_reducible refine al_go ?_); intro b) | ((with_reducible apply (ck_le Try.call87)); exact LEL.refl _; exact hS.out _) | ((with_reducible apply (ck_lend Try.call38)); (focus exact hC.out); (focus exact ⟨Lend.agg ⟨Lend.rowE (by repeat (first | exact mm_h | apply mm_t)) f1.out (by decide) e1.out l1.out, Lend.rowE (by repeat (first | exact mm_h | apply mm_t)) f2.out (by decide) e2.out l2.out, trivial⟩, Lend.refl _, trivial⟩)) | ((with_reducible first | refine w_region ?_ ?_ | refine w_dra ?_ ?_); kernel_rfl) | ((with_reducible refine Go3.go ?_ ?_); all_goals (intro hb; (try with_reducible intro hb1); (try (exfalso; first | contradiction | omega)))) | fail)
          refine ⟨i + 1, .box gc' 3 (C1 ++ [[D.i i]].flatten ++ zC') :: .box gs' 26 (S1 ++ [[.str snm, .i sty, .b srq, .i sk, .i sn, .str ss, .sl .shared (sL.map V.cells)]].flatten ++ zS') :: .box b4 38 [.ar gs' 0 (i + 1) cS', .ar gc' 0 (i + 1) cC'] :: .box b2 38 [.sl .tight [], .sl .tight []] :: st, ?_, ⟨hlt, ?_, ?_, ?_, ?_, ?_, ?_, ⟨x.slots ++ [.mk snm sty srq (.mk sk sn ss sL)], x.cols ++ [i]⟩, ?_, ?_, HE, .inr ⟨Nat.succ_pos _, gs', cS', zS', gc', cC', zC', ?_, ?_, ?_⟩⟩, ?_⟩
          · (repeat (first | exact List.Sublist.refl _ | with_reducible apply List.Sublist.cons_cons | apply List.Sublist.cons))
          iterate 6 (focus (first | rfl | assumption | omega | (simp (disch := omega) only [push_cast, simprocAttr, *]; try omega; done)))
          · rw [List.length_append, hxs.out]; rfl
          · rw [List.length_append, hxc.out]; rfl
          · rw [g1.out]; exact hls
          · rw [g2.out]; exact hlc
          · rw [g1.out, g2.out]
          · omega
        · rw [if_neg hqc] at HE
          have hF4 : Hid (F = none) := Lib.hid (hF3.out.trans HE.symm)
          clear HE
          have hno : q = false ∨ (q = true ∧ 0 ≤ cv) := by
            cases q
            · exact .inl rfl
            · exact .inr ⟨rfl, by
                have : ¬ cv < 0 := fun h => hqc ⟨rfl, h⟩
                omega⟩
          clear hqc
          rcases hno with rfl | ⟨rfl, hcv⟩
          all_goals skip
          all_goals (
            repeat' (first | with_reducible refine Go1.go ?_ | ((with_reducible apply ev_go); (focus ((try simp (disch := omega) only [push_cast, simprocAttr, *]); (try exact rfl); done))) | ((with_reducible refine w_last ?_ ?_ ?_); kernel_rfl; rfl) | with_reducible refine Go2.go ?_ | ((with_reducible first | apply w_stepG | refine s_bi ?_ ?_ | refine blk_ne ?_ ?_); rfl) | ((with_reducible refine al_go ?_); intro b) | ((with_reducible apply (ck_le Try.call87)); exact LEL.refl _; exact hS.out _) | ((with_reducible apply (ck_lend Try.call38)); (focus exact hC.out); (focus exact ⟨Lend.agg ⟨Lend.rowE (by repeat (first | exact mm_h | apply mm_t)) f1.out (by decide) e1.out l1.out, Lend.rowE (by repeat (first | exact mm_h | apply mm_t)) f2.out (by decide) e2.out l2.out, trivial⟩, Lend.refl _, trivial⟩)) | ((with_reducible first | refine w_region ?_ ?_ | refine w_dra ?_ ?_); kernel_rfl) | ((with_reducible refine Go3.go ?_ ?_); all_goals (intro hb; (try with_reducible intro hb1); (try (exfalso; first | contradiction | omega)))) | fail)
            all_goals ((refine retG_mk (rs := []) (by first | exact .inl rfl | exact .inr rfl) (by first | rfl | assumption) (List.Perm.refl _) ⟨_, _, rfl, cell_mk (by simp (disch := omega) only [push_cast, simprocAttr, *]; exact rfl) (by repeat (first | exact mm_h | apply mm_t)) (by simp (disch := omega) only [push_cast, simprocAttr, *]; exact rfl) (by (try simp (disch := omega) only [push_cast, simprocAttr, *]); (try exact rfl); done), (by show _ = _; (try simp (disch := omega) only [push_cast, simprocAttr, *]); (try exact rfl); done)⟩ (by (repeat (first | exact List.Sublist.refl _ | apply List.Sublist.cons))) (LE.refl _) (.inl ⟨hF4.out, (by first | exact .inl rfl | exact .inr ⟨_, _, _, _, _, _, rfl⟩), rfl⟩))))
    · have HE := HT.out
      rw [List.drop_of_length_le (by omega), Sch.firstL] at HE
      clear HT
      have hil : Hid (i = slots.length) := Lib.hid (by omega)
      rcases hcase with ⟨rfl, hx0, rfl⟩ | ⟨hi0, gs, cS, zS, gc, cC, zC, hz1, hz2, rfl⟩
      · have := hil.out
        omega
      · obtain ⟨S1, hS1⟩ : ∃ S1, slotC x.slots = S1 := ⟨_, rfl⟩
        obtain ⟨C1, hC1⟩ : ∃ C1, colC x.cols = C1 := ⟨_, rfl⟩
        rw [hS1, hC1]
        generalize slots.map Sl.cells = SL at *
        replace hS1 := Lib.hid hS1
        replace hC1 := Lib.hid hC1
        replace HE := Lib.hid HE
        replace hxs := Lib.hid hxs
        replace hxc := Lib.hid hxc
        repeat' (first | with_reducible refine Go1.go ?_ | ((with_reducible apply ev_go); (focus ((try simp (disch := omega) only [push_cast, simprocAttr, *]); (try exact rfl); done))) | ((with_reducible refine w_last ?_ ?_ ?_); kernel_rfl; rfl) | with_reducible refine Go2.go ?_ | ((with_reducible first | apply w_stepG | refine s_bi ?_ ?_ | refine blk_ne ?_ ?_); rfl) | ((with_reducible refine al_go ?_); intro b) | ((with_reducible first | refine w_region ?_ ?_ | refine w_dra ?_ ?_); kernel_rfl) | ((with_reducible refine Go3.go ?_ ?_); all_goals (intro hb; (try with_reducible intro hb1); (try (exfalso; first | contradiction | omega)))) | fail)
        replace HE := HE.out
        replace hxs := hxs.out
        replace hxc := hxc.out
        all_goals ((refine retG_mk (rs := []) (s2 := .box gs 26 (S1 ++ zS) :: .box gc 3 (C1 ++ zC) :: .box b4 38 [.ar gs 0 i cS, .ar gc 0 i cC] :: .box b2 38 [.ar gs 0 i cS, .ar gc 0 i cC] :: st) (st0 := .box gs 26 (S1 ++ zS) :: .box gc 3 (C1 ++ zC) :: st) (by first | exact .inl rfl | exact .inr rfl) (by first | rfl | assumption) (.swap _ _ _) ⟨_, _, rfl, cell_mk (by simp (disch := omega) only [push_cast, simprocAttr, *]; exact rfl) (by repeat (first | exact mm_h | apply mm_t)) (by simp (disch := omega) only [push_cast, simprocAttr, *]; exact rfl) (by (try simp (disch := omega) only [push_cast, simprocAttr, *]); (try exact rfl); done), (by show _ = _; (try simp (disch := omega) only [push_cast, simprocAttr, *]); (try exact rfl); done)⟩ (((List.Sublist.refl _).cons _).cons _ |>.cons_cons _ |>.cons_cons _) (LE.refl _) (.inr ⟨x, gs, cS, zS, gc, cC, zC, by rw [hF2.out, ← HE], ⟨?_, ?_⟩, by rw [hxs, hxc], ?_⟩)); (focus exact hz1); (focus exact hz2); (focus (rw [hS1.out, hC1.out])))
end Go.Proofs.Ytooaagmhgakhgaa
end

section
namespace Go.Proofs.Ytooaagmhgakhgaa
set_option linter.unusedSimpArgs false
attribute [local push_cast] encB encI encC V.cells_mk V.cells_len Nat.mul_one Int.sub_zero List.map_nil beq_self_eq_true List.head?_cons
open Go.RowKit
set_option maxRecDepth 10000
set_option maxHeartbeats 4000000
structure TQ (t : Tm) : Prop where
  ls : t.slots.length ≤ 1000
  lt : t.steps.length ≤ 1000
  os : ∀ s ∈ t.slots, VQ s.dv ∧ (-9223372036854775808 ≤ s.types ∧ s.types ≤ 9223372036854775807)
  ot : ∀ s ∈ t.steps, VQ s.slot.dv ∧ (-9223372036854775808 ≤ s.slot.types ∧ s.slot.types ≤ 9223372036854775807) ∧ s.order.length ≤ 1000
def Sch.refVers (t : Tm) : List Vr := if 0 < Sch.last t then Sch.vers t else []
theorem refStepR_ex (x : Vr) (s : Stp) (st : St) : ∃ d st', RefStepR x s st d st' := by
  unfold RefStepR
  cases h : Sch.stepV x s with
  | none => exact ⟨_, _, .inl ⟨rfl, [], [], rfl, rfl⟩⟩
  | some y => exact ⟨_, _, .inr ⟨y, rfl, rfl, rfl⟩⟩
theorem Vr.cells_leaf (x : Vr) : ∀ d ∈ x.cells, d.leaf = true := by
  intro d hd
  unfold Vr.cells at hd
  simp only [List.mem_cons, List.not_mem_nil, or_false] at hd
  rcases hd with rfl | rfl <;> rfl
theorem refVersF (t : Tm) (ht : TQ t) (st : St) : TrF Try.prog 50 [.agg t.cells] st fun d st' => d = .sl .shared ((Sch.refVers t).map Vr.cells) ∧ st' = st := by
  have hN := Lib.hid (refIsNameF t.name)
  have hF : Hid (Sch.firstV t = if V.isName t.name.data.toList = true ∧ 1 ≤ t.slots.length ∧ t.slots.length ≤ 8 ∧ t.steps.length ≤ 8 then Sch.firstL t.slots ⟨[], []⟩ else none) := rfl
  have hV : Hid (Sch.vers t = match Sch.firstV t with | none => [] | some x => x :: Sch.versL x t.steps) := rfl
  have hLs : Hid (Sch.last t = if (Sch.vers t).length = t.steps.length + 1 then t.steps.length + 1 else 0) := rfl
  have hz : Hid (∀ x, Sch.firstV t = some x → Sch.VZ 8 x) := fun x h => Sch.first_vz h
  obtain ⟨hls, hlt', hos, hot⟩ := ht
  unfold Sch.refVers
  generalize Sch.last t = LT at *
  generalize Sch.vers t = VS at *
  generalize Sch.firstV t = F at *
  cases t with
  | mk nm slots steps =>
  unfold Tm.cells
  dsimp only at hN hF hV hLs hls hlt' hos hot ⊢
  have hos2 := Lib.hid hos
  have hot2 := Lib.hid hot
  clear hos hot
  generalize V.isName nm.data.toList = qn at *
  have hcl : Hid (∀ (i : Nat) (s : Sl), slots[i]? = some s → (slots.map Sl.cells)[i]? = some s.cells) := fun i s h => by rw [List.getElem?_map, h]; rfl
  have hcp : Hid (∀ (i : Nat) (s : Stp), steps[i]? = some s → (steps.map Stp.cells)[i]? = some s.cells) := fun i s h => by rw [List.getElem?_map, h]; rfl
  have hml : (slots.map Sl.cells).length = slots.length := List.length_map ..
  have hmp : (steps.map Stp.cells).length = steps.length := List.length_map ..
  generalize slots.map Sl.cells = SL at *
  generalize steps.map Stp.cells = TL at *
  by_cases hc : qn = true ∧ 1 ≤ slots.length ∧ slots.length ≤ 8 ∧ steps.length ≤ 8
  case neg =>
    have hF2 : F = none := by rw [hF.out, if_neg hc]
    have hR : Hid ((if 0 < LT then VS else []) = []) := Lib.hid (by
      have h1 : VS = [] := by rw [hV.out, hF2]
      have h2 : LT = 0 := by rw [hLs.out, h1]; exact if_neg (by simp)
      rw [h2]; exact if_neg (by omega))
    rw [hR.out]
    have hno : qn = false ∨ (qn = true ∧ (slots.length : Int) < 1) ∨ (qn = true ∧ 1 ≤ (slots.length : Int) ∧ 8 < (slots.length : Int)) ∨ (qn = true ∧ 1 ≤ (slots.length : Int) ∧ (slots.length : Int) ≤ 8 ∧ 8 < (steps.length : Int)) := by
      cases qn
      · exact .inl rfl
      · refine .inr ?_
        by_cases h1 : 1 ≤ slots.length
        · by_cases h2 : slots.length ≤ 8
          · by_cases h3 : steps.length ≤ 8
            · exact absurd ⟨rfl, h1, h2, h3⟩ hc
            · exact .inr (.inr ⟨rfl, by omega, by omega, by omega⟩)
          · exact .inr (.inl ⟨rfl, by omega, by omega⟩)
        · exact .inl ⟨rfl, by omega⟩
    clear hc hF hV hLs hz hF2 hR
    rcases hno with rfl | ⟨rfl, h1⟩ | ⟨rfl, h1, h2⟩ | ⟨rfl, h1, h2, h3⟩
    all_goals skip
    all_goals (
      refine trF_enter (ts := [2]) Try.func50 rfl (by rw [Try.ntmps50]; exact Nat.le_of_ble_eq_true rfl) (fun tmps w => by simp [results, Try.results50, go_sem, resVal]) ?_
      simp only [Try.ntmps50]
      repeat' (first | with_reducible refine Go1.go ?_ | ((with_reducible apply ev_go); (focus ((try simp (disch := omega) only [push_cast, simprocAttr, *]); (try exact rfl); done))) | ((with_reducible refine w_last ?_ ?_ ?_); kernel_rfl; rfl) | with_reducible refine Go2.go ?_ | ((with_reducible first | apply w_stepG | refine s_bi ?_ ?_ | refine blk_ne ?_ ?_); rfl) | ((with_reducible refine al_go ?_); intro b) | ((with_reducible apply (ck_le Try.call77)); exact LEL.refl _; exact hN.out _) | ((with_reducible apply a2_go); (focus (first | assumption | (intro h; cases h))); (focus (intro o'; repeat (first | exact ra_h | apply ra_t))); (iterate 2 (focus (first | assumption | exact len_nil | exact len_one rfl | (intro a ha; obtain ⟨x, -, rfl⟩ := List.mem_map.1 ha; first | rfl | simp) | (intro a ha; simp at ha; simp [ha])))); (iterate 2 (focus (first | omega | (simp only [List.length_map, List.length_cons, List.length_nil, List.length_append]; omega)))); intro o' ho') | ((with_reducible first | refine w_region ?_ ?_ | refine w_dra ?_ ?_); kernel_rfl) | ((with_reducible refine Go3.go ?_ ?_); all_goals (intro hb; (try with_reducible intro hb1); (try (exfalso; first | contradiction | omega)))) | fail)
      all_goals (refine ret_eq (by simp) (by first | rfl | assumption) (by (repeat (first | exact List.Sublist.refl _ | apply List.Sublist.cons))) ?_; (try simp (disch := omega) only [push_cast, simprocAttr, *]); try (first | exact LE.refl _ | exact LE.sl _ _ | ((first | refine LE.tup ?_ | refine LE.agg ?_); (repeat' (first | exact LEL.nil | refine LEL.cons ?_ ?_ | exact LE.refl _ | exact LE.sl _ _ | refine LE.agg ?_)); done) | refine LE.of_eq ?_)))
  case pos =>
    have hF2 : Hid (F = Sch.firstL slots ⟨[], []⟩) := Lib.hid (by rw [hF.out, if_pos hc])
    obtain ⟨rfl, h1, h2, h3⟩ := hc
    clear hF
    obtain ⟨B, hB⟩ : ∃ B, Sch.firstL slots ⟨[], []⟩ = B := ⟨_, rfl⟩
    have HB : Hid (Sch.firstL (slots.drop 0) ⟨[], []⟩ = B) := hB
    rw [hB] at hF2
    clear hB
    have hnone : Hid (B = none → (if 0 < LT then VS else []) = []) := fun h => by
      have h1 : VS = [] := by rw [hV.out, hF2.out, h]
      have h2 : LT = 0 := by rw [hLs.out, h1]; exact if_neg (by simp)
      rw [h2]; exact if_neg (by omega)
    generalize hRV : (if 0 < LT then VS else []) = RV at *
    replace hRV := Lib.hid hRV
    refine trF_enter (ts := [2]) Try.func50 rfl (by rw [Try.ntmps50]; exact Nat.le_of_ble_eq_true rfl) (fun tmps w => by simp [results, Try.results50, go_sem, resVal]) ?_
    simp only [Try.ntmps50]
    repeat' (first | with_reducible refine Go1.go ?_ | ((with_reducible apply ev_go); (focus ((try simp (disch := omega) only [push_cast, simprocAttr, *]); (try exact rfl); done))) | ((with_reducible refine w_last ?_ ?_ ?_); kernel_rfl; rfl) | with_reducible refine Go2.go ?_ | ((with_reducible first | apply w_stepG | refine s_bi ?_ ?_ | refine blk_ne ?_ ?_); rfl) | ((with_reducible refine al_go ?_); intro b) | ((with_reducible apply (ck_le Try.call77)); exact LEL.refl _; exact hN.out _) | ((with_reducible apply a2_go); (focus (first | assumption | (intro h; cases h))); (focus (intro o'; repeat (first | exact ra_h | apply ra_t))); (iterate 2 (focus (first | assumption | exact len_nil | exact len_one rfl | (intro a ha; obtain ⟨x, -, rfl⟩ := List.mem_map.1 ha; first | rfl | simp) | (intro a ha; simp at ha; simp [ha])))); (iterate 2 (focus (first | omega | (simp only [List.length_map, List.length_cons, List.length_nil, List.length_append]; omega)))); intro o' ho') | ((with_reducible first | refine w_region ?_ ?_ | refine w_dra ?_ ?_); kernel_rfl) | ((with_reducible refine Go3.go ?_ ?_); all_goals (intro hb; (try with_reducible intro hb1); (try (exfalso; first | contradiction | omega)))) | fail)
    obtain ⟨b3, rfl⟩ : ∃ q, q = b := ⟨_, rfl⟩
    refine tr_loopd (ι := Nat) (fun i A st' => i ≤ slots.length ∧ A.df = [] ∧ A.e 1 = .ip [.str nm, .sl .shared SL, .sl .shared TL] ∧ A.e 3 = .ptr b3 0 ∧ A.e 4 = .i i ∧ ∃ x : Vr, x.slots.length = i ∧ x.cols.length = i ∧ (∀ c ∈ x.cols, c < x.slots.length) ∧ Hid (Sch.firstL (slots.drop i) x = B) ∧
      ((i = 0 ∧ x = ⟨[], []⟩ ∧ st' = .box b3 52 [.sl .tight [], .sl .tight []] :: st) ∨ (0 < i ∧ ∃ gs cS zS gc cC zC, (slotC x.slots ++ zS).length = cS * 7 ∧ (colC x.cols ++ zC).length = cC * 1 ∧ st' = .box gc 3 (colC x.cols ++ zC) :: .box gs 26 (slotC x.slots ++ zS) :: .box b3 52 [.ar gs 0 i cS, .ar gc 0 i cC] :: st))) (fun i => slots.length - i) 0 ⟨Nat.zero_le _, by (first | rfl | assumption | omega | (simp (disch := omega) only [push_cast, simprocAttr, *]; try omega; done)), by (first | rfl | assumption | omega | (simp (disch := omega) only [push_cast, simprocAttr, *]; try omega; done)), by (first | rfl | assumption | omega | (simp (disch := omega) only [push_cast, simprocAttr, *]; try omega; done)), by (first | rfl | assumption | omega | (simp (disch := omega) only [push_cast, simprocAttr, *]; try omega; done)), ⟨[], []⟩, rfl, rfl, (fun c h => by cases h), HB, .inl ⟨rfl, rfl, rfl⟩⟩ ?_
    rintro i A st' ⟨hi, hdf, e1, e3, e4, x, hxs, hxc, hxcs, HT, hcase⟩
    clear HB
    by_cases hlt : i < slots.length
    · obtain ⟨sl, hsl⟩ : ∃ s, slots[i]? = some s := ⟨_, List.getElem?_eq_getElem hlt⟩
      have HE := HT.out
      rw [firstL_drop hsl] at HE
      clear HT
      obtain ⟨hq, hty⟩ := hos2.out sl (List.mem_of_getElem? hsl)
      have hS := refSoundF sl hq hty
      have hC := refColF x.slots x.cols sl.name (by omega) (by omega) hxcs []
      have hcl2 := hcl.out i sl hsl
      have hcs3 : Hid (∀ c ∈ x.cols ++ [x.slots.length], c < (x.slots ++ [sl]).length) := fun c hc => by
        rcases List.mem_append.1 hc with h | h
        · have := hxcs c h; simp; omega
        · rw [List.mem_singleton] at h
          subst h; simp
      clear hsl hq hty hxcs
      unfold Sch.col at HE
      have g1 := Lib.hid (slotC_add x.slots sl)
      have g2 := Lib.hid (colC_add x.cols x.slots.length)
      cases sl with
      | mk snm sty srq sdv =>
      cases sdv with
      | mk sk sn ss sL =>
      rw [Sl.cells_mk] at hS hcl2 g1
      dsimp only at hS hC HE g1
      generalize Sch.sound _ = q at *
      rcases hcase with ⟨rfl, hx0, rfl⟩ | ⟨hi0, gs, cS, zS, gc, cC, zC, hz1, hz2, rfl⟩
      · subst hx0
        dsimp only at hC HE g1 g2 hcs3
        rw [List.map_nil, List.map_nil] at hC
        rw [Sch.colL] at hC HE
        replace hS := Lib.hid hS
        replace hC := Lib.hid hC
        replace g1 := Lib.hid g1
        replace g2 := Lib.hid g2
        cases q with
        | false =>
          rw [if_neg (fun h => Bool.noConfusion h.1)] at HE
          have hRn := hnone.out HE.symm
          subst hRn
          clear HE
          repeat' (first | with_reducible refine Go1.go ?_ | ((with_reducible apply ev_go); (focus ((try simp (disch := omega) only [push_cast, simprocAttr, *]); (try exact rfl); done))) | ((with_reducible refine w_drawRN ?_ ?_ ?_ ?_); (iterate 3 (focus kernel_rfl)); intro hne; simp only [nes, ne1, and_assoc] at hne; repeat (have hq := hne.1; replace hne := hne.2)) | ((with_reducible refine w_last ?_ ?_ ?_); kernel_rfl; rfl) | with_reducible refine Go2.go ?_ | ((with_reducible first | apply w_stepG | refine s_bi ?_ ?_ | refine blk_ne ?_ ?_); rfl) | ((with_reducible refine al_go ?_); intro b) | ((with_reducible apply (ck_le Try.call78)); exact LEL.refl _; exact hS.out _) | ((with_reducible apply (ck_lend Try.call79)); (focus exact hC.out); (focus exact ⟨Lend.agg ⟨Lend.sl _ _, Lend.sl _ _, trivial⟩, Lend.refl _, trivial⟩)) | ((with_reducible apply a2_go); (focus (first | assumption | (intro h; cases h))); (focus (intro o'; repeat (first | exact ra_h | apply ra_t))); (iterate 2 (focus (first | assumption | exact len_nil | exact len_one rfl | (intro a ha; obtain ⟨x, -, rfl⟩ := List.mem_map.1 ha; first | rfl | simp) | (intro a ha; simp at ha; simp [ha])))); (iterate 2 (focus (first | omega | (simp only [List.length_map, List.length_cons, List.length_nil, List.length_append]; omega)))); intro o' ho') | ((with_reducible first | refine w_region ?_ ?_ | refine w_dra ?_ ?_); kernel_rfl) | ((with_reducible refine Go3.go ?_ ?_); all_goals (intro hb; (try with_reducible intro hb1); (try (exfalso; first | contradiction | omega)))) | fail)
          all_goals (refine ret_eq (by simp) (by first | rfl | assumption) (by (repeat (first | exact List.Sublist.refl _ | apply List.Sublist.cons))) ?_; (try simp (disch := omega) only [push_cast, simprocAttr, *]); try (first | exact LE.refl _ | exact LE.sl _ _ | ((first | refine LE.tup ?_ | refine LE.agg ?_); (repeat' (first | exact LEL.nil | refine LEL.cons ?_ ?_ | exact LE.refl _ | exact LE.sl _ _ | refine LE.agg ?_)); done) | refine LE.of_eq ?_))
        | true =>
          rw [if_pos ⟨rfl, by decide⟩] at HE
          replace HE := Lib.hid HE
          repeat' (first | with_reducible refine Go1.go ?_ | ((with_reducible apply ev_go); (focus ((try simp (disch := omega) only [push_cast, simprocAttr, *]); (try exact rfl); done))) | ((with_reducible refine w_drawRN ?_ ?_ ?_ ?_); (iterate 3 (focus kernel_rfl)); intro hne; simp only [nes, ne1, and_assoc] at hne; repeat (have hq := hne.1; replace hne := hne.2)) | ((with_reducible apply (w_drawN [(b3, [.sl .tight [], .sl .tight []])])); (iterate 3 (focus kernel_rfl)); (focus ((repeat (first | exact keep_nil | refine keep_more (by (repeat (first | exact mm_h | apply mm_t)); done) ?_)); done)); intro hne; simp only [nes, ne1, and_assoc] at hne; repeat (have hq := hne.1; replace hne := hne.2)) | ((with_reducible refine And.intro ?_ ?_); (focus ((repeat (first | exact keep_nil | refine keep_more (by (repeat (first | exact mm_h | apply mm_t)); done) ?_)); done))) | with_reducible refine s_appN ?_ | with_reducible refine rn_go ?_ | ((with_reducible apply rn2_go); (focus (simp only [List.length_cons, List.length_nil]; omega)); (focus exact len_one rfl); (focus (simp only [List.length_cons, List.length_nil]; omega)); (focus (simp only [List.length_cons, List.length_nil]; omega)); intro g' c' z' hc' hl') | ((with_reducible refine w_last ?_ ?_ ?_); kernel_rfl; rfl) | with_reducible refine Go2.go ?_ | ((with_reducible first | apply w_stepG | refine s_bi ?_ ?_ | refine blk_ne ?_ ?_); rfl) | ((with_reducible refine al_go ?_); intro b) | ((with_reducible apply (ck_le Try.call78)); exact LEL.refl _; exact hS.out _) | ((with_reducible apply (ck_lend Try.call79)); (focus exact hC.out); (focus exact ⟨Lend.agg ⟨Lend.sl _ _, Lend.sl _ _, trivial⟩, Lend.refl _, trivial⟩)) | ((with_reducible apply a2_go); (focus (first | assumption | (intro h; cases h))); (focus (intro o'; repeat (first | exact ra_h | apply ra_t))); (iterate 2 (focus (first | assumption | exact len_nil | exact len_one rfl | (intro a ha; obtain ⟨x, -, rfl⟩ := List.mem_map.1 ha; first | rfl | simp) | (intro a ha; simp at ha; simp [ha])))); (iterate 2 (focus (first | omega | (simp only [List.length_map, List.length_cons, List.length_nil, List.length_append]; omega)))); intro o' ho') | ((with_reducible first | refine w_region ?_ ?_ | refine w_dra ?_ ?_); kernel_rfl) | ((with_reducible refine Go3.go ?_ ?_); all_goals (intro hb; (try with_reducible intro hb1); (try (exfalso; first | contradiction | omega)))) | fail)
          rename_i gs' cS' zS' hcs' hls'
          refine ⟨1, .box g' 3 ([[D.i 0]].flatten ++ z') :: .box gs' 26 ([[.str snm, .i sty, .b srq, .i sk, .i sn, .str ss, .sl .shared (sL.map V.cells)]].flatten ++ zS') :: .box b3 52 [.ar gs' 0 1 cS', .ar g' 0 1 c'] :: st, List.Sublist.refl _, ⟨hlt, ?_, ?_, ?_, ?_, ⟨[] ++ [.mk snm sty srq (.mk sk sn ss sL)], [] ++ [([] : List Sl).length]⟩, rfl, rfl, hcs3.out, HE, .inr ⟨Nat.zero_lt_one, gs', cS', zS', g', c', z', ?_, ?_, ?_⟩⟩, ?_⟩
          iterate 4 (focus (first | rfl | assumption | omega | (simp (disch := omega) only [push_cast, simprocAttr, *]; try omega; done)))
          · rw [show slotC ([] ++ [Sl.mk snm sty srq (.mk sk sn ss sL)]) = [(Sl.mk snm sty srq (.mk sk sn ss sL)).cells].flatten from rfl, Sl.cells_mk]
            exact hls'
          · exact hl'
          · rw [show slotC ([] ++ [Sl.mk snm sty srq (.mk sk sn ss sL)]) = [(Sl.mk snm sty srq (.mk sk sn ss sL)).cells].flatten from rfl, Sl.cells_mk]
            rfl
          · omega
      · have hr1 := slotC_len x.slots
        have hr2 := colC_len x.cols
        have e1 := Lib.hid (slots_each x.slots)
        have e2 := Lib.hid (cols_each x.cols)
        have f1 := Lib.hid (slotC_flat x)
        have f2 := Lib.hid (colC_flat x)
        have l1 : Hid ((x.slots.map Sl.cells).length = i) := Lib.hid (by rw [List.length_map, hxs])
        have l2 : Hid ((x.cols.map encC).length = i) := Lib.hid (by rw [List.length_map, hxc])
        rw [hxs] at hr1 HE g2
        rw [hxc] at hr2
        have hcs4 : Hid (∀ c ∈ x.cols ++ [i], c < (x.slots ++ [Sl.mk snm sty srq (.mk sk sn ss sL)]).length) := Lib.hid (by have := hcs3.out; rwa [hxs] at this)
        generalize Sch.colL x.slots snm x.cols = cv at *
        obtain ⟨S1, hS1⟩ : ∃ S1, slotC x.slots = S1 := ⟨_, rfl⟩
        obtain ⟨C1, hC1⟩ : ∃ C1, colC x.cols = C1 := ⟨_, rfl⟩
        rw [hS1] at hz1 hr1 f1 g1
        rw [hC1] at hz2 hr2 f2 g2
        rw [hS1, hC1]
        clear hS1 hC1
        generalize x.slots.map Sl.cells = L1 at *
        generalize x.cols.map encC = L2 at *
        replace hS := Lib.hid hS
        replace hC := Lib.hid hC
        by_cases hqc : q = true ∧ cv < 0
        · obtain ⟨rfl, hcv⟩ := hqc
          rw [if_pos ⟨rfl, hcv⟩] at HE
          replace HE := Lib.hid HE
          replace hxs := Lib.hid hxs
          replace hxc := Lib.hid hxc
          repeat' (first | with_reducible refine Go1.go ?_ | ((with_reducible apply ev_go); (focus ((try simp (disch := omega) only [push_cast, simprocAttr, *]); (try exact rfl); done))) | ((with_reducible apply (w_drawN [(b3, [.ar gs 0 i cS, .ar gc 0 i cC])])); (iterate 3 (focus kernel_rfl)); (focus ((repeat (first | exact keep_nil | refine keep_more (by (repeat (first | exact mm_h | apply mm_t)); done) ?_)); done)); intro hne; simp only [nes, ne1, and_assoc] at hne; repeat (have hq := hne.1; replace hne := hne.2)) | ((with_reducible refine And.intro ?_ ?_); (focus ((repeat (first | exact keep_nil | refine keep_more (by (repeat (first | exact mm_h | apply mm_t)); done) ?_)); done))) | with_reducible refine s_appR ?_ | with_reducible refine rk_go ?_ | ((with_reducible apply (r2_go hr1 hz1)); (focus (intro g' cs'; repeat (first | exact ra_h | apply ra_t))); (focus exact len_one rfl); (focus (simp only [List.length_cons, List.length_nil]; omega)); (focus (simp only [List.length_cons, List.length_nil]; omega)); intro gs' cS' zS' hcs hls) | ((with_reducible apply (r2_go hr2 hz2)); (focus (intro g' cs'; repeat (first | exact ra_h | apply ra_t))); (focus exact len_one rfl); (focus (simp only [List.length_cons, List.length_nil]; omega)); (focus (simp only [List.length_cons, List.length_nil]; omega)); intro gc' cC' zC' hcc hlc) | ((with_reducible refine w_last ?_ ?_ ?_); kernel_rfl; rfl) | with_reducible refine Go2.go ?_ | ((with_reducible first | apply w_stepG | refine s_bi ?_ ?_ | refine blk_ne ?_ ?_); rfl) | ((with_reducible refine al_go ?_); intro b) | ((with_reducible apply (ck_le Try.call78)); exact LEL.refl _; exact hS.out _) | ((with_reducible apply (ck_lend Try.call79)); (focus exact hC.out); (focus exact ⟨Lend.agg ⟨Lend.rowE (by repeat (first | exact mm_h | apply mm_t)) f1.out (by decide) e1.out l1.out, Lend.rowE (by repeat (first | exact mm_h | apply mm_t)) f2.out (by decide) e2.out l2.out, trivial⟩, Lend.refl _, trivial⟩)) | ((with_reducible apply a2_go); (focus (first | assumption | (intro h; cases h))); (focus (intro o'; repeat (first | exact ra_h | apply ra_t))); (iterate 2 (focus (first | assumption | exact len_nil | exact len_one rfl | (intro a ha; obtain ⟨x, -, rfl⟩ := List.mem_map.1 ha; first | rfl | simp) | (intro a ha; simp at ha; simp [ha])))); (iterate 2 (focus (first | omega | (simp only [List.length_map, List.length_cons, List.length_nil, List.length_append]; omega)))); intro o' ho') | ((with_reducible first | refine w_region ?_ ?_ | refine w_dra ?_ ?_); kernel_rfl) | ((with_reducible refine Go3.go ?_ ?_); all_goals (intro hb; (try with_reducible intro hb1); (try (exfalso; first | contradiction | omega)))) | fail)
          refine ⟨i + 1, .box gc' 3 (C1 ++ [[D.i i]].flatten ++ zC') :: .box gs' 26 (S1 ++ [[.str snm, .i sty, .b srq, .i sk, .i sn, .str ss, .sl .shared (sL.map V.cells)]].flatten ++ zS') :: .box b3 52 [.ar gs' 0 (i + 1) cS', .ar gc' 0 (i + 1) cC'] :: st, List.Sublist.refl _, ⟨hlt, ?_, ?_, ?_, ?_, ⟨x.slots ++ [.mk snm sty srq (.mk sk sn ss sL)], x.cols ++ [i]⟩, ?_, ?_, hcs4.out, HE, .inr ⟨Nat.succ_pos _, gs', cS', zS', gc', cC', zC', ?_, ?_, ?_⟩⟩, ?_⟩
          iterate 4 (focus (first | rfl | assumption | omega | (simp (disch := omega) only [push_cast, simprocAttr, *]; try omega; done)))
          · rw [List.length_append, hxs.out]; rfl
          · rw [List.length_append, hxc.out]; rfl
          · rw [g1.out]; exact hls
          · rw [g2.out]; exact hlc
          · rw [g1.out, g2.out]
          · omega
        · rw [if_neg hqc] at HE
          have hRn := hnone.out HE.symm
          subst hRn
          clear HE
          have hno : q = false ∨ (q = true ∧ 0 ≤ cv) := by
            cases q
            · exact .inl rfl
            · exact .inr ⟨rfl, by
                have : ¬ cv < 0 := fun h => hqc ⟨rfl, h⟩
                omega⟩
          clear hqc
          rcases hno with rfl | ⟨rfl, hcv⟩
          all_goals skip
          all_goals (
            repeat' (first | with_reducible refine Go1.go ?_ | ((with_reducible apply ev_go); (focus ((try simp (disch := omega) only [push_cast, simprocAttr, *]); (try exact rfl); done))) | ((with_reducible refine w_drawRN ?_ ?_ ?_ ?_); (iterate 3 (focus kernel_rfl)); intro hne; simp only [nes, ne1, and_assoc] at hne; repeat (have hq := hne.1; replace hne := hne.2)) | ((with_reducible refine w_last ?_ ?_ ?_); kernel_rfl; rfl) | with_reducible refine Go2.go ?_ | ((with_reducible first | apply w_stepG | refine s_bi ?_ ?_ | refine blk_ne ?_ ?_); rfl) | ((with_reducible refine al_go ?_); intro b) | ((with_reducible apply (ck_le Try.call78)); exact LEL.refl _; exact hS.out _) | ((with_reducible apply (ck_lend Try.call79)); (focus exact hC.out); (focus exact ⟨Lend.agg ⟨Lend.rowE (by repeat (first | exact mm_h | apply mm_t)) f1.out (by decide) e1.out l1.out, Lend.rowE (by repeat (first | exact mm_h | apply mm_t)) f2.out (by decide) e2.out l2.out, trivial⟩, Lend.refl _, trivial⟩)) | ((with_reducible apply a2_go); (focus (first | assumption | (intro h; cases h))); (focus (intro o'; repeat (first | exact ra_h | apply ra_t))); (iterate 2 (focus (first | assumption | exact len_nil | exact len_one rfl | (intro a ha; obtain ⟨x, -, rfl⟩ := List.mem_map.1 ha; first | rfl | simp) | (intro a ha; simp at ha; simp [ha])))); (iterate 2 (focus (first | omega | (simp only [List.length_map, List.length_cons, List.length_nil, List.length_append]; omega)))); intro o' ho') | ((with_reducible first | refine w_region ?_ ?_ | refine w_dra ?_ ?_); kernel_rfl) | ((with_reducible refine Go3.go ?_ ?_); all_goals (intro hb; (try with_reducible intro hb1); (try (exfalso; first | contradiction | omega)))) | fail)
            all_goals (refine ret_eq (by simp) (by first | rfl | assumption) (by (repeat (first | exact List.Sublist.refl _ | apply List.Sublist.cons))) ?_; (try simp (disch := omega) only [push_cast, simprocAttr, *]); try (first | exact LE.refl _ | exact LE.sl _ _ | ((first | refine LE.tup ?_ | refine LE.agg ?_); (repeat' (first | exact LEL.nil | refine LEL.cons ?_ ?_ | exact LE.refl _ | exact LE.sl _ _ | refine LE.agg ?_)); done) | refine LE.of_eq ?_)))
    · have HE := HT.out
      rw [List.drop_of_length_le (by omega), Sch.firstL] at HE
      clear HT
      rcases hcase with ⟨rfl, hx0, rfl⟩ | ⟨hi0, gs, cS, zS, gc, cC, zC, hz1, hz2, rfl⟩
      · omega
      · have hil : i = slots.length := by omega
        have hFx : F = some x := hF2.out.trans HE.symm
        have hvz := hz.out x hFx
        have hVx : Hid (VS = x :: Sch.versL x steps) := Lib.hid (by rw [hV.out, hFx])
        refine tr_rest (g := gs) (b := b3) (n := i) (cap := cS) (sz := 7) (es := x.slots.map Sl.cells) (el := 26) (ty := 52) (zs := zS) (cs := [.ar gs 0 i cS, .ar gc 0 i cC]) (cs' := [.sl .shared (x.slots.map Sl.cells), .ar gc 0 i cC]) (s := .box gc 3 (colC x.cols ++ zC) :: st) ((List.Perm.swap _ _ _).trans (.cons _ (.swap _ _ _))) (by decide) (slots_each x.slots) (by rw [List.length_map, hxs]) (.cons _ _ _ _ .ar (.cons _ _ _ _ (.same _) .nil)) (by intro d hd; simp only [List.mem_cons, List.not_mem_nil, or_false] at hd; rcases hd with rfl | rfl <;> rfl) ?_
        refine tr_rest (g := gc) (b := b3) (n := i) (cap := cC) (sz := 1) (es := x.cols.map encC) (el := 3) (ty := 52) (zs := zC) (cs := [.sl .shared (x.slots.map Sl.cells), .ar gc 0 i cC]) (cs' := x.cells) (s := st) (.swap _ _ _) (by decide) (cols_each x.cols) (by rw [List.length_map, hxc]) (.cons _ _ _ _ (.same _) (.cons _ _ _ _ .ar .nil)) (Vr.cells_leaf x) ?_
        unfold Vr.cells
        clear hz1 hz2 hV hF2 hnone HE hz
        have hx1 := hvz.vi.lp
        generalize hX1 : x.slots.map Sl.cells = X1 at *
        generalize hX2 : x.cols.map encC = X2 at *
        replace hX1 := Lib.hid hX1
        replace hX2 := Lib.hid hX2
        replace hil := Lib.hid hil
        replace hxs := Lib.hid hxs
        replace hxc := Lib.hid hxc
        repeat' (first | with_reducible refine Go1.go ?_ | ((with_reducible apply ev_go); (focus ((try simp (disch := omega) only [push_cast, simprocAttr, *]); (try exact rfl); done))) | ((with_reducible refine w_last ?_ ?_ ?_); kernel_rfl; rfl) | with_reducible refine Go2.go ?_ | ((with_reducible first | apply w_stepG | refine s_bi ?_ ?_ | refine blk_ne ?_ ?_); rfl) | ((with_reducible refine al_go ?_); intro b) | ((with_reducible apply a2_go); (focus (first | assumption | (intro h; cases h))); (focus (intro o'; repeat (first | exact ra_h | apply ra_t))); (iterate 2 (focus (first | assumption | exact len_nil | exact len_one rfl | (intro a ha; obtain ⟨x, -, rfl⟩ := List.mem_map.1 ha; first | rfl | simp) | (intro a ha; simp at ha; simp [ha])))); (iterate 2 (focus (first | omega | (simp only [List.length_map, List.length_cons, List.length_nil, List.length_append]; omega)))); intro o' ho') | ((with_reducible first | refine w_region ?_ ?_ | refine w_dra ?_ ?_); kernel_rfl) | ((with_reducible refine Go3.go ?_ ?_); all_goals (intro hb; (try with_reducible intro hb1); (try (exfalso; first | contradiction | omega)))) | fail)
        have hcx : x.cells = [.sl .shared X1, .sl .shared X2] := by unfold Vr.cells; rw [hX1.out, hX2.out]
        have hst0 : Hid (VS = [x] ++ Sch.versL x (steps.drop 0)) := hVx
        have hfin : Hid (VS.length = steps.length + 1 → RV = VS) := fun h => by
          rw [← hRV.out, hLs.out, if_pos h, if_pos (by omega)]
        have hbad : Hid (VS.length ≠ steps.length + 1 → RV = []) := fun h => by
          rw [← hRV.out, hLs.out, if_neg h, if_neg (by omega)]
        have hvz' : Hid (Sch.VZ 8 x) := Lib.hid hvz
        clear hVx hRV hLs hN hos2 hcl hi hi0 hlt hvz hil hFx hxcs
        refine tr_room 52 2 1 ?_
        refine tr_loopd (ι := Nat) (fun j A st' => j ≤ steps.length ∧ A.df = [] ∧ A.e 1 = .ip [.str nm, .sl .shared SL, .sl .shared TL] ∧ A.e 6 = .i j ∧ ∃ (O : List Vr) (o : Own) (z : Vr), o ≠ .shared ∧ O.length = j + 1 ∧ Hid (O[j]? = some z) ∧ Hid (Sch.VZ (8 + j) z) ∧ Hid (VS = O ++ Sch.versL z (steps.drop j)) ∧ A.e 5 = .sl o (O.map Vr.cells) ∧ st' = .room o 52 2 (O.map Vr.cells).length :: .box b3 52 [.sl .shared X1, .sl .shared X2] :: st) (fun j => steps.length - j) 0 ⟨Nat.zero_le _, ?_, ?_, ?_, [x], .tight, x, by simp, rfl, rfl, hvz'.out, hst0.out, by (rw [List.map_cons, List.map_nil, hcx]; (first | rfl | assumption | omega | (simp (disch := omega) only [push_cast, simprocAttr, *]; try omega; done))), rfl⟩ ?_
        iterate 3 (focus (first | rfl | assumption | omega | (simp (disch := omega) only [push_cast, simprocAttr, *]; try omega; done)))
        clear hdf e1 e3 e4 hst0 hvz' hxs hxc hX1 hX2 hcx
        rintro j A st' ⟨hj, hdf, e1, e6, O, o, z, ho, hOl, hOj, hzz, hVO, e5, rfl⟩
        by_cases hjl : j < steps.length
        · obtain ⟨stp, hstp⟩ : ∃ s, steps[j]? = some s := ⟨_, List.getElem?_eq_getElem hjl⟩
          obtain ⟨hsq, hsty, hso⟩ := hot2.out stp (List.mem_of_getElem? hstp)
          have hS := refStepF z stp ⟨hzz.out.vi.mono (by omega), hsq, hsty, hso⟩ hzz.out.nd fun w hw => (hzz.out.sl w hw).types
          have hSx := refStepR_ex z stp
          have hVd := hVO.out
          rw [Sch.versL_drop hstp] at hVd
          have hOc : (O.map Vr.cells)[j]? = some z.cells := by rw [List.getElem?_map, hOj.out]; rfl
          have htc := hcp.out j stp hstp
          have hOm : (O.map Vr.cells).length = j + 1 := by rw [List.length_map, hOl]
          have hnn : Hid (Sch.stepV z stp = none → RV = []) := fun h => by
            rw [h, List.append_nil] at hVd
            exact hbad.out (by rw [hVd]; omega)
          have hyy : Hid (∀ y, Sch.stepV z stp = some y → Sch.VZ (8 + (j + 1)) y ∧ VS = (O ++ [y]) ++ Sch.versL y (steps.drop (j + 1))) := fun y h => by
            rw [h] at hVd
            exact ⟨Sch.step_vz hzz.out h, by rw [hVd, List.append_assoc]; rfl⟩
          have hOe : Hid (∀ e ∈ O.map Vr.cells, e.length = 2) := fun e he => by
            obtain ⟨w, -, rfl⟩ := List.mem_map.1 he
            rfl
          have hOy : Hid (∀ y : Vr, (O ++ [y]).map Vr.cells = O.map Vr.cells ++ [y.cells]) := fun y => by rw [List.map_append]; rfl
          unfold RefStepR at hS hSx
          clear hVd hVO hstp hsq hsty hso hOj hzz
          generalize Sch.stepV z stp = SV at *
          cases stp with
          | mk kd col slot order =>
          cases slot with
          | mk snm sty srq sdv =>
          cases sdv with
          | mk sk sn ss sL =>
          unfold Vr.cells Stp.cells at hS
          unfold Stp.cells at htc
          rw [Sl.cells_mk] at hS htc
          dsimp only [List.cons_append, List.nil_append] at hS htc
          generalize hOC : O.map Vr.cells = OC at *
          replace hOC := Lib.hid hOC
          replace hS := Lib.hid hS
          replace hSx := Lib.hid hSx
          replace hOl := Lib.hid hOl
          unfold Vr.cells at hOc
          repeat' (first | with_reducible refine Go1.go ?_ | ((with_reducible apply ev_go); (focus ((try simp (disch := omega) only [push_cast, simprocAttr, *]); (try exact rfl); done))) | ((with_reducible apply (w_draw2 [] 13 9)); (iterate 3 (focus kernel_rfl)); (focus (repeat (first | exact keep_nil | refine keep_more (by repeat (first | exact mm_h | apply mm_t)) ?_))); (focus exact rfl); (focus (simp only [List.eraseIdx_cons_succ, List.eraseIdx_cons_zero]; rfl))) | ((with_reducible refine And.intro ?_ ?_); (focus ((repeat (first | exact keep_nil | refine keep_more (by (repeat (first | exact mm_h | apply mm_t)); done) ?_)); done))) | ((with_reducible refine w_last ?_ ?_ ?_); kernel_rfl; rfl) | with_reducible refine Go2.go ?_ | ((with_reducible first | apply w_stepG | refine s_bi ?_ ?_ | refine blk_ne ?_ ?_); rfl) | ((with_reducible refine al_go ?_); intro b) | ((with_reducible apply (ck_gen Try.call80)); (focus exact List.Perm.refl _); (focus exact hS.out _); (focus exact LEL.refl _); (focus exact hSx.out _); (rintro d st' (⟨hn, Y1, Y2, rfl, rfl⟩ | ⟨y, hy, rfl, rfl⟩))) | ((with_reducible apply a2_go); (focus (first | assumption | (intro h; cases h))); (focus (intro o'; repeat (first | exact ra_h | apply ra_t))); (iterate 2 (focus (first | assumption | exact len_nil | exact len_one rfl | (intro a ha; obtain ⟨x, -, rfl⟩ := List.mem_map.1 ha; first | rfl | simp) | (intro a ha; simp at ha; simp [ha])))); (iterate 2 (focus (first | omega | (simp only [List.length_map, List.length_cons, List.length_nil, List.length_append]; omega)))); intro o' ho') | ((with_reducible first | refine w_region ?_ ?_ | refine w_dra ?_ ?_); kernel_rfl) | ((with_reducible refine Go3.go ?_ ?_); all_goals (intro hb; (try with_reducible intro hb1); (try (exfalso; first | contradiction | omega)))) | fail)
          all_goals first
            | (have hRn := hnn.out hn
               subst hRn
               (refine ret_eq (by simp) (by first | rfl | assumption) (by (repeat (first | exact List.Sublist.refl _ | apply List.Sublist.cons))) ?_; (try simp (disch := omega) only [push_cast, simprocAttr, *]); try (first | exact LE.refl _ | exact LE.sl _ _ | ((first | refine LE.tup ?_ | refine LE.agg ?_); (repeat' (first | exact LEL.nil | refine LEL.cons ?_ ?_ | exact LE.refl _ | exact LE.sl _ _ | refine LE.agg ?_)); done) | refine LE.of_eq ?_))
               done)
            | skip
          all_goals (
            obtain ⟨q1, q2⟩ := hyy.out y hy
            refine ⟨j + 1, .room o' 52 2 (OC ++ [y.cells]).length :: .box b3 52 [.sl .shared X1, .sl .shared X2] :: st, .cons _ (List.Sublist.refl _), ⟨hjl, ?_, ?_, ?_, O ++ [y], o', y, ho', ?_, ?_, q1, q2, ?_, ?_⟩, by omega⟩
            · (first | rfl | assumption | omega | (simp (disch := omega) only [push_cast, simprocAttr, *]; try omega; done))
            · (first | rfl | assumption | omega | (simp (disch := omega) only [push_cast, simprocAttr, *]; try omega; done))
            · (first | rfl | assumption | omega | (simp (disch := omega) only [push_cast, simprocAttr, *]; try omega; done))
            · rw [List.length_append, hOl.out]; rfl
            · show (O ++ [y])[j + 1]? = some y
              rw [List.getElem?_append_right (by rw [hOl.out]; omega), hOl.out, Nat.sub_self]; rfl
            · have h1 := hOy.out y
              show _ = D.sl o' (List.map Vr.cells (O ++ [y]))
              rw [h1]
              unfold Vr.cells
              (first | rfl | assumption | omega | (simp (disch := omega) only [push_cast, simprocAttr, *]; try omega; done))
            · have h1 := hOy.out y
              show _ = Res.room o' _ 2 (List.map Vr.cells (O ++ [y])).length :: _
              rw [h1])
        · have hVd := hVO.out
          rw [List.drop_of_length_le (by omega), Sch.versL, List.append_nil] at hVd
          have hRf := hfin.out (by rw [hVd, hOl]; omega)
          subst hVd
          subst hRf
          clear hVO hOj hzz hot2 hcp hfin hbad
          repeat' (first | with_reducible refine Go1.go ?_ | ((with_reducible apply ev_go); (focus ((try simp (disch := omega) only [push_cast, simprocAttr, *]); (try exact rfl); done))) | ((with_reducible refine w_last ?_ ?_ ?_); kernel_rfl; rfl) | with_reducible refine Go2.go ?_ | ((with_reducible first | apply w_stepG | refine s_bi ?_ ?_ | refine blk_ne ?_ ?_); rfl) | ((with_reducible refine al_go ?_); intro b) | ((with_reducible apply a2_go); (focus (first | assumption | (intro h; cases h))); (focus (intro o'; repeat (first | exact ra_h | apply ra_t))); (iterate 2 (focus (first | assumption | exact len_nil | exact len_one rfl | (intro a ha; obtain ⟨x, -, rfl⟩ := List.mem_map.1 ha; first | rfl | simp) | (intro a ha; simp at ha; simp [ha])))); (iterate 2 (focus (first | omega | (simp only [List.length_map, List.length_cons, List.length_nil, List.length_append]; omega)))); intro o' ho') | ((with_reducible first | refine w_region ?_ ?_ | refine w_dra ?_ ?_); kernel_rfl) | ((with_reducible refine Go3.go ?_ ?_); all_goals (intro hb; (try with_reducible intro hb1); (try (exfalso; first | contradiction | omega)))) | fail)
          all_goals exact retA_mk (by first | exact .inl rfl | exact .inr rfl) (by first | rfl | assumption) (by (repeat (first | exact List.Sublist.refl _ | with_reducible apply List.Sublist.cons_cons | apply List.Sublist.cons))) (LE.trans (LE.of_eq (by (try simp (disch := omega) only [push_cast, simprocAttr, *]); (try exact rfl); done)) (LE.sl o (RV.map Vr.cells))) ⟨rfl, rfl⟩
end Go.Proofs.Ytooaagmhgakhgaa
end

section
namespace Go.Proofs.Ytooaagmhgakhgaa
set_option linter.unusedSimpArgs false
attribute [local push_cast] encB encI encC V.cells_mk V.cells_len Nat.mul_one Int.sub_zero List.map_nil beq_self_eq_true List.head?_cons
open Go.RowKit
set_option maxRecDepth 10000
set_option maxHeartbeats 4000000
theorem schWidenF (bx gs cS gc cC : Nat) (zS zC : List D) (x : Vr) (stp : Stp) (hx : VW x) (hs : stp.Ok) (hz : VL cS zS cC zC x) (s : St) : TrF Try.prog 93 [.ptr bx 0, .agg stp.cells] (VB bx gs cS zS gc cC zC x s) (StepR Sch.widenS x stp bx s) := by
  obtain ⟨ls, lc, hcs⟩ := hx
  obtain ⟨hn, hbg, ho⟩ := hs
  obtain ⟨hz1, hz2⟩ := hz
  have hK := schColumnF x stp [] (by omega) (by omega)
  have hB := schBareF stp.slot false true hbg
  have hT := schTakesF stp.slot.types
  have hF : Hid (Sch.widenS x stp = if Sch.column x stp = true ∧ Sch.bare stp.slot false true = true ∧ Sch.takes stp.slot.types = true ∧ (x.slots[Sch.at_ x stp]?).any (fun y => bits .or .i64 y.types stp.slot.types != y.types) = true then some ⟨x.slots.modify (Sch.at_ x stp) fun y => { y with types := bits .or .i64 y.types stp.slot.types }, x.cols⟩ else none) := rfl
  have e1 := Lib.hid (slots_each x.slots)
  have e2 := Lib.hid (cols_each x.cols)
  have f1 := Lib.hid (slotC_flat x)
  have f2 := Lib.hid (colC_flat x)
  have l1 : Hid ((x.slots.map Sl.cells).length = x.slots.length) := List.length_map ..
  have l2 : Hid ((x.cols.map encC).length = x.cols.length) := List.length_map ..
  unfold StepR VL VB Stp.cells
  generalize Sch.widenS x stp = F at *
  cases hcl : Sch.column x stp with
  | false =>
    rw [hcl] at hK hF
    unfold Vr.cells Stp.cells at hK
    clear hcl
    cases stp with
    | mk kd col slot order =>
    cases slot with
    | mk nm ty rq dv =>
    cases dv with
    | mk k n sv l =>
    dsimp only at ho ⊢
    generalize slotC x.slots = R1 at *
    generalize colC x.cols = R2 at *
    generalize x.slots.map Sl.cells = L1 at *
    generalize x.cols.map encC = L2 at *
    rw [Sl.cells_mk] at *
    dsimp only [List.cons_append, List.nil_append] at hK ⊢
    generalize x.slots.length = m1 at *
    generalize x.cols.length = m2 at *
    replace hK := Lib.hid hK
    refine trF_enter (ts := [4]) Try.func93 rfl (by rw [Try.ntmps93]; exact Nat.le_of_ble_eq_true rfl) (fun tmps w => by simp [results, Try.results93, go_sem, resVal]) ?_
    simp only [Try.ntmps93]
    repeat' (first | with_reducible refine Go1.go ?_ | ((with_reducible apply ev_go); (focus ((try simp (disch := omega) only [push_cast, simprocAttr, *]); (try exact rfl); done))) | ((with_reducible refine w_last ?_ ?_ ?_); kernel_rfl; rfl) | with_reducible refine Go2.go ?_ | ((with_reducible first | apply w_stepG | refine s_bi ?_ ?_ | refine blk_ne ?_ ?_); rfl) | ((with_reducible refine al_go ?_); intro b) | ((with_reducible apply (ck_lend Try.call103)); (focus exact hK.out); (focus exact ⟨lendP (by repeat (first | exact mm_h | apply mm_t)) (by repeat (first | exact mm_h | apply mm_t)) (by repeat (first | exact mm_h | apply mm_t)) f1.out e1.out l1.out f2.out e2.out l2.out, Lend.refl _, trivial⟩)) | ((with_reducible first | refine w_region ?_ ?_ | refine w_dra ?_ ?_); kernel_rfl) | ((with_reducible refine Go3.go ?_ ?_); all_goals (intro hb; (try with_reducible intro hb1); (try (exfalso; first | contradiction | omega)))) | fail)
    all_goals ((refine retA_mk (by first | exact .inl rfl | exact .inr rfl) (by first | rfl | assumption) (by (repeat (first | exact List.Sublist.refl _ | apply List.Sublist.cons))) (LE.of_eq ?_) (.inl ⟨?_, rfl, rfl⟩)); (focus simp (disch := omega) only [push_cast, simprocAttr, *]); (focus (rw [hF.out]; refine if_neg ?_; rintro ⟨h1, h2, h3, h4⟩; (first | omega | exact Bool.noConfusion (h1.symm.trans (by assumption) : true = false) | exact Bool.noConfusion (h2.symm.trans (by assumption) : true = false) | exact Bool.noConfusion (h3.symm.trans (by assumption) : true = false) | exact Bool.noConfusion (h4.symm.trans (by assumption) : true = false) | (exact Bool.noConfusion (h1 : false = true))))))
  | true =>
    obtain ⟨hk1, hk2, hk3⟩ : 0 ≤ stp.col ∧ stp.col < x.cols.length ∧ stp.order.length = 0 := by
      unfold Sch.column at hcl
      simpa [and_assoc] using hcl
    obtain ⟨i, hi⟩ := Int.eq_ofNat_of_zero_le hk1
    have hlt : i < x.cols.length := by omega
    rw [hcl] at hK hF
    unfold Vr.cells Stp.cells at hK
    clear hcl hk1 hk2
    obtain ⟨c, hc⟩ : ∃ c, x.cols[i]? = some c := ⟨_, List.getElem?_eq_getElem hlt⟩
    have hcm : c < x.slots.length := hcs c (List.mem_of_getElem? hc)
    obtain ⟨y, hy⟩ : ∃ y, x.slots[c]? = some y := ⟨_, List.getElem?_eq_getElem hcm⟩
    have hat : Sch.at_ x stp = c := by
      unfold Sch.at_
      rw [hi, Int.toNat_natCast, List.getD_eq_getElem?_getD, hc]; rfl
    have hL2 : (x.cols.map encC)[i]? = some [D.i c] := by rw [List.getElem?_map, hc]; rfl
    have hL1 : (x.slots.map Sl.cells)[c]? = some y.cells := by rw [List.getElem?_map, hy]; rfl
    obtain ⟨t1, hld⟩ : ∃ tl, List.drop i (colC x.cols ++ zC) = D.i c :: tl := by
      obtain ⟨tl, h⟩ := row_drop (sz := 1) (o := 0) zC _ i (cols_each x.cols) hL2 (by omega)
      rw [Nat.mul_one, Nat.add_zero] at h
      exact ⟨tl, h⟩
    obtain ⟨w, hw⟩ : ∃ w, bits .or .i64 y.types stp.slot.types = w := ⟨_, rfl⟩
    obtain ⟨wb, hwb⟩ : ∃ wb, (w != y.types) = wb := ⟨_, rfl⟩
    obtain ⟨x', hx'⟩ : ∃ x' : Vr, x' = ⟨x.slots.modify (Sch.at_ x stp) fun y => { y with types := bits .or .i64 y.types stp.slot.types }, x.cols⟩ := ⟨_, rfl⟩
    rw [← hx'] at hF
    rw [hat, hy, Option.any_some, hw, hwb] at hF
    rw [hat, modify_set hy] at hx'
    rw [hw] at hx'
    have s1 : Hid (x'.slots = x.slots.set c { y with types := w }) := Lib.hid (by rw [hx'])
    have s2 : Hid (x'.cols = x.cols) := Lib.hid (by rw [hx'])
    have s3 : Hid ((x.slots.set c { y with types := w }).length = x.slots.length) := List.length_set
    have hsp : List.take (c * 7 + 1) (slotC x.slots ++ zS) ++ [D.i w] ++ List.drop (c * 7 + 1 + 1) (slotC x.slots ++ zS) = slotC (x.slots.set c { y with types := w }) ++ zS := by
      have h := row_splice (o := 1) (ds := [D.i w]) zS _ c (slots_each x.slots) hL1 (by simp)
      rw [show splice y.cells 1 [D.i w] = Sl.cells { y with types := w } from rfl, show (x.slots.map Sl.cells).set c (Sl.cells { y with types := w }) = (x.slots.set c { y with types := w }).map Sl.cells from (List.map_set ..).symm] at h
      exact h
    obtain ⟨t2, hld2⟩ : ∃ tl, List.drop (c * 7 + 1) (slotC x.slots ++ zS) = D.i y.types :: tl := by
      obtain ⟨tl, h⟩ := row_drop (sz := 7) (o := 1) zS _ c (slots_each x.slots) hL1 (by omega)
      exact ⟨_, h⟩
    obtain ⟨t3, hld3⟩ : ∃ tl, List.drop (c * 7 + 1) (slotC (x.slots.set c { y with types := w }) ++ zS) = D.i w :: tl := by
      obtain ⟨tl, h⟩ := row_drop (sz := 7) (o := 1) (e := Sl.cells { y with types := w }) zS _ c (slots_each (x.slots.set c { y with types := w })) (by rw [List.getElem?_map, List.getElem?_set_self hcm]; rfl) (by omega)
      exact ⟨_, h⟩
    have hle : c * 7 + 1 + 1 ≤ cS * 7 := by
      have := slotC_len x.slots
      rw [List.length_append] at hz1
      omega
    have hl3 : (slotC (x.slots.set c { y with types := w }) ++ zS).length = cS * 7 := by
      rw [List.length_append] at hz1 ⊢
      rw [slotC_len, List.length_set, ← slotC_len]; exact hz1
    clear hx' hat hL1 hL2 hy hc
    generalize Sch.bare stp.slot false true = q at *
    generalize Sch.takes stp.slot.types = qt at *
    generalize hRE : slotC (x.slots.set c { y with types := w }) = RE at *
    replace hRE := Lib.hid hRE
    replace hl3 := Lib.hid hl3
    generalize y.types = yt at *
    cases stp with
    | mk kd col slot order =>
    cases slot with
    | mk nm ty rq dv =>
    cases dv with
    | mk k n sv l =>
    dsimp only at hB hT ho hi hF ⊢
    subst hi
    generalize hR1 : slotC x.slots = R1 at *
    generalize hR2 : colC x.cols = R2 at *
    generalize x.slots.map Sl.cells = L1 at *
    generalize x.cols.map encC = L2 at *
    rw [Sl.cells_mk] at *
    dsimp only [List.cons_append, List.nil_append] at hK ⊢
    generalize hm1 : x.slots.length = m1 at *
    generalize hm2 : x.cols.length = m2 at *
    replace hR1 := Lib.hid hR1
    replace hR2 := Lib.hid hR2
    replace hm1 := Lib.hid hm1
    replace hm2 := Lib.hid hm2
    replace hK := Lib.hid hK
    replace hB := Lib.hid hB
    replace hT := Lib.hid hT
    cases wb
    all_goals skip
    all_goals (
      refine trF_enter (ts := [4]) Try.func93 rfl (by rw [Try.ntmps93]; exact Nat.le_of_ble_eq_true rfl) (fun tmps w => by simp [results, Try.results93, go_sem, resVal]) ?_
      simp only [Try.ntmps93]
      repeat' (first | with_reducible refine Go1.go ?_ | ((with_reducible apply ev_go); (focus ((try simp (disch := omega) only [push_cast, simprocAttr, *]); (try exact rfl); done))) | ((with_reducible refine w_draw_ne3 ?_ ?_ ?_ ?_); (iterate 3 (focus kernel_rfl)); intro hne1 hne2 hne3) | ((with_reducible refine w_last ?_ ?_ ?_); kernel_rfl; rfl) | with_reducible refine Go2.go ?_ | ((with_reducible first | apply w_stepG | refine s_bi ?_ ?_ | refine blk_ne ?_ ?_); rfl) | ((with_reducible refine al_go ?_); intro b) | ((with_reducible apply (ck_lend Try.call103)); (focus exact hK.out); (focus exact ⟨lendP (by repeat (first | exact mm_h | apply mm_t)) (by repeat (first | exact mm_h | apply mm_t)) (by repeat (first | exact mm_h | apply mm_t)) f1.out e1.out l1.out f2.out e2.out l2.out, Lend.refl _, trivial⟩)) | ((with_reducible apply (ck_le Try.call104)); exact LEL.refl _; exact hB.out _) | ((with_reducible apply (ck_le Try.call102)); exact LEL.refl _; exact hT.out _) | ((with_reducible first | refine w_region ?_ ?_ | refine w_dra ?_ ?_); kernel_rfl) | ((with_reducible refine Go3.go ?_ ?_); all_goals (intro hb; (try with_reducible intro hb1); (try (exfalso; first | contradiction | omega)))) | fail)
      all_goals first
        | ((refine retA_mk (by first | exact .inl rfl | exact .inr rfl) (by first | rfl | assumption) (by (repeat (first | exact List.Sublist.refl _ | apply List.Sublist.cons))) (LE.of_eq ?_) (.inl ⟨?_, rfl, rfl⟩)); (focus simp (disch := omega) only [push_cast, simprocAttr, *]); (focus (rw [hF.out]; refine if_neg ?_; rintro ⟨h1, h2, h3, h4⟩; (first | omega | exact Bool.noConfusion (h1.symm.trans (by assumption) : true = false) | exact Bool.noConfusion (h2.symm.trans (by assumption) : true = false) | exact Bool.noConfusion (h3.symm.trans (by assumption) : true = false) | exact Bool.noConfusion (h4.symm.trans (by assumption) : true = false) | (exact Bool.noConfusion (h1 : false = true))))))
        | ((refine retA_mk (by first | exact .inl rfl | exact .inr rfl) (by first | rfl | assumption) (by (repeat (first | exact List.Sublist.refl _ | apply List.Sublist.cons))) (LE.of_eq ?_) (.inl ⟨?_, rfl, rfl⟩)); (focus (simp (disch := omega) only [push_cast, simprocAttr, *]; done)); (focus (rw [hF.out]; refine if_neg ?_; rintro ⟨h1, h2, h3, h4⟩; exact Bool.noConfusion h4)))
        | ((refine retA_mk (by first | exact .inl rfl | exact .inr rfl) (by first | rfl | assumption) (List.Sublist.refl _) (LE.of_eq ?_) (.inr ⟨x', gs, cS, zS, gc, cC, zC, ?_, ⟨?_, ?_⟩, rfl, ?_⟩)); (focus simp (disch := omega) only [push_cast, simprocAttr, *]); (focus (rw [hF.out]; refine if_pos ⟨rfl, ?_, ?_, ?_⟩ <;> first | assumption | omega | rfl)); (focus (rw [s1.out, hRE.out]; exact hl3.out)); (focus (rw [s2.out, hR2.out]; exact hz2)); (focus (rw [s1.out, s2.out, s3.out, hRE.out, hR2.out, hm2.out]))))
end Go.Proofs.Ytooaagmhgakhgaa
end

section
namespace Go.Proofs.Ytooaagmhgakhgaa
set_option linter.unusedSimpArgs false
attribute [local push_cast] encB encI encC V.cells_mk V.cells_len Nat.mul_one Int.sub_zero List.map_nil beq_self_eq_true List.head?_cons
open Go.RowKit
set_option maxRecDepth 10000
set_option maxHeartbeats 4000000
theorem retA_perm {ts : List Tmp} {R : D → St → Prop} {ex : Exit} {A : AA} {X : D} {st st0 s2 : St} (hex : ex = .normal ∨ ex = .ret) (hdf : A.df = []) (hp : st.Perm s2) (hs : st0.Sublist s2) (hd : LE (resD ts A.e) X) (hR : R X st0) : retA ts R ex A st := by
  rcases hex with rfl | rfl <;> exact ⟨[], X, s2, st0, hdf, hp, hs, hd, hR⟩
theorem reo_drop {cols : List Nat} {order : List Int} {j : Nat} {k : Int} {out : List Nat} (h : order[j]? = some k) : Sch.reo cols (order.drop j) out = if 0 ≤ k ∧ k < cols.length ∧ cols.getD k.toNat 0 ∉ out then Sch.reo cols (order.drop (j + 1)) (out ++ [cols.getD k.toNat 0]) else none := by
  obtain ⟨h1, rfl⟩ := List.getElem?_eq_some_iff.1 h
  rw [List.drop_eq_getElem_cons h1, Sch.reo]
theorem schReorderF (bx gs cS gc cC : Nat) (zS zC : List D) (x : Vr) (stp : Stp) (hx : VW x) (hc1 : 1 ≤ x.cols.length) (hs : stp.Ok) (hz : VL cS zS cC zC x) (s : St) : TrF Try.prog 94 [.ptr bx 0, .agg stp.cells] (VB bx gs cS zS gc cC zC x s) (StepR Sch.reorderS x stp bx s) := by
  obtain ⟨ls, lc, hcs⟩ := hx
  obtain ⟨hn, hbg, ho⟩ := hs
  obtain ⟨hz1, hz2⟩ := hz
  have hB := schBareF stp.slot false false hbg
  have e2 := Lib.hid (cols_each x.cols)
  have f2 := Lib.hid (colC_flat x)
  have l2 : Hid ((x.cols.map encC).length = x.cols.length) := List.length_map ..
  have hF : Hid (Sch.reorderS x stp = if stp.col = 0 ∧ Sch.bare stp.slot false false = true ∧ stp.order.length = x.cols.length then (Sch.reo x.cols stp.order []).map fun c => ⟨x.slots, c⟩ else none) := rfl
  by_cases hno : ¬ (stp.col = 0 ∧ Sch.bare stp.slot false false = true ∧ stp.order.length = x.cols.length)
  · have hF2 : Hid (Sch.reorderS x stp = none) := Lib.hid (by rw [hF.out, if_neg hno])
    unfold StepR VL VB Stp.cells
    generalize Sch.reorderS x stp = F at *
    clear hF
    cases stp with
    | mk kd col slot order =>
    cases slot with
    | mk nm ty rq dv =>
    cases dv with
    | mk k n sv l =>
    dsimp only at hB ho hno ⊢
    generalize Sch.bare _ false false = q at *
    generalize slotC x.slots = R1 at *
    generalize colC x.cols = R2 at *
    rw [Sl.cells_mk] at *
    dsimp only [List.cons_append, List.nil_append] at ⊢
    generalize x.slots.length = m1 at *
    generalize x.cols.length = m2 at *
    replace hB := Lib.hid hB
    have hno' : col ≠ 0 ∨ (col = 0 ∧ q = false) ∨ (col = 0 ∧ q = true ∧ (order.length : Int) ≠ m2) := by
      by_cases h1 : col = 0
      · cases q
        · exact .inr (.inl ⟨h1, rfl⟩)
        · refine .inr (.inr ⟨h1, rfl, fun h => hno ⟨h1, rfl, by omega⟩⟩)
      · exact .inl h1
    clear hno
    rcases hno' with h0 | ⟨rfl, rfl⟩ | ⟨rfl, rfl, h0⟩
    all_goals skip
    all_goals (
      refine trF_enter (ts := [4]) Try.func94 rfl (by rw [Try.ntmps94]; exact Nat.le_of_ble_eq_true rfl) (fun tmps w => by simp [results, Try.results94, go_sem, resVal]) ?_
      simp only [Try.ntmps94]
      repeat' (first | with_reducible refine Go1.go ?_ | ((with_reducible apply ev_go); (focus ((try simp (disch := omega) only [push_cast, simprocAttr, *]); (try exact rfl); done))) | ((with_reducible refine w_draw [(bx, [.ar gs 0 m1 cS, .ar gc 0 m2 cC])] ?_ ?_ ?_ ?_ ?_); (iterate 3 (focus kernel_rfl)); (focus ((repeat (first | exact keep_nil | refine keep_more (by repeat (first | exact mm_h | apply mm_t)) ?_)); done))) | ((with_reducible refine And.intro ?_ ?_); (focus ((repeat (first | exact keep_nil | refine keep_more (by (repeat (first | exact mm_h | apply mm_t)); done) ?_)); done))) | ((with_reducible refine w_last ?_ ?_ ?_); kernel_rfl; rfl) | with_reducible refine Go2.go ?_ | ((with_reducible first | apply w_stepG | refine s_bi ?_ ?_ | refine blk_ne ?_ ?_); rfl) | ((with_reducible refine al_go ?_); intro b) | ((with_reducible apply (ck_le Try.call104)); exact LEL.refl _; exact hB.out _) | ((with_reducible first | refine w_region ?_ ?_ | refine w_dra ?_ ?_); kernel_rfl) | ((with_reducible refine Go3.go ?_ ?_); all_goals (intro hb; (try with_reducible intro hb1); (try (exfalso; first | contradiction | omega)))) | fail)
      all_goals ((refine retA_mk (by first | exact .inl rfl | exact .inr rfl) (by first | rfl | assumption) (by (repeat (first | exact List.Sublist.refl _ | apply List.Sublist.cons))) (LE.of_eq ?_) (.inl ⟨hF2.out, rfl, rfl⟩)); simp (disch := omega) only [push_cast, simprocAttr, *]))
  have hyes := Decidable.of_not_not hno
  obtain ⟨h1, h2, h3⟩ := hyes
  have hF2 : Hid (Sch.reorderS x stp = (Sch.reo x.cols stp.order []).map fun c => ⟨x.slots, c⟩) := Lib.hid (by rw [hF.out, if_pos ⟨h1, h2, h3⟩])
  clear hF hno
  rw [h2] at hB
  clear h2
  have hcl := colC_len x.cols
  have hle2 : x.cols.length ≤ cC := by rw [List.length_append] at hz2; omega
  have hcell : Hid (∀ (i c : Nat), x.cols[i]? = some c → ∃ tl, List.drop i (colC x.cols ++ zC) = D.i c :: tl) := fun i c hc => by
    have hL2 : (x.cols.map encC)[i]? = some [D.i c] := by rw [List.getElem?_map, hc]; rfl
    obtain ⟨tl, h⟩ := row_drop (sz := 1) (o := 0) zC _ i (cols_each x.cols) hL2 (by omega)
    rw [Nat.mul_one, Nat.add_zero] at h
    exact ⟨tl, h⟩
  unfold StepR VL VB Stp.cells
  generalize Sch.reorderS x stp = F at *
  cases stp with
  | mk kd col slot order =>
  cases slot with
  | mk nm ty rq dv =>
  cases dv with
  | mk k n sv l =>
  dsimp only at hB ho h1 h3 hF2 ⊢
  subst h1
  rw [Sl.cells_mk] at *
  dsimp only [List.cons_append, List.nil_append] at ⊢
  obtain ⟨R1, hR1⟩ : ∃ R1, slotC x.slots = R1 := ⟨_, rfl⟩
  obtain ⟨R2, hR2⟩ : ∃ R2, colC x.cols = R2 := ⟨_, rfl⟩
  obtain ⟨m1, hm1⟩ : ∃ m1, x.slots.length = m1 := ⟨_, rfl⟩
  obtain ⟨m2, hm2⟩ : ∃ m2, x.cols.length = m2 := ⟨_, rfl⟩
  simp only [hR1, hR2, hm1, hm2] at hz1 hz2 hcl hle2 h3 hc1 hcell lc ls ⊢
  replace hR1 := Lib.hid hR1
  replace hR2 := Lib.hid hR2
  replace hm1 := Lib.hid hm1
  replace hm2 := Lib.hid hm2
  replace hB := Lib.hid hB
  obtain ⟨B, hBr⟩ : ∃ B, Sch.reo x.cols order [] = B := ⟨_, rfl⟩
  have HB : Hid (Sch.reo x.cols (order.drop 0) [] = B) := hBr
  rw [hBr] at hF2
  clear hBr
  refine trF_enter (ts := [4]) Try.func94 rfl (by rw [Try.ntmps94]; exact Nat.le_of_ble_eq_true rfl) (fun tmps w => by simp [results, Try.results94, go_sem, resVal]) ?_
  simp only [Try.ntmps94]
  repeat' (first | with_reducible refine Go1.go ?_ | ((with_reducible apply ev_go); (focus ((try simp (disch := omega) only [push_cast, simprocAttr, *]); (try exact rfl); done))) | ((with_reducible refine w_draw [(bx, [.ar gs 0 m1 cS, .ar gc 0 m2 cC])] ?_ ?_ ?_ ?_ ?_); (iterate 3 (focus kernel_rfl)); (focus ((repeat (first | exact keep_nil | refine keep_more (by repeat (first | exact mm_h | apply mm_t)) ?_)); done))) | ((with_reducible refine And.intro ?_ ?_); (focus ((repeat (first | exact keep_nil | refine keep_more (by (repeat (first | exact mm_h | apply mm_t)); done) ?_)); done))) | ((with_reducible refine w_last ?_ ?_ ?_); kernel_rfl; rfl) | with_reducible refine Go2.go ?_ | ((with_reducible first | apply w_stepG | refine s_bi ?_ ?_ | refine blk_ne ?_ ?_); rfl) | ((with_reducible refine al_go ?_); intro b) | ((with_reducible apply (ck_le Try.call104)); exact LEL.refl _; exact hB.out _) | ((with_reducible first | refine w_region ?_ ?_ | refine w_dra ?_ ?_); kernel_rfl) | ((with_reducible refine Go3.go ?_ ?_); all_goals (intro hb; (try with_reducible intro hb1); (try (exfalso; first | contradiction | omega)))) | fail)
  refine tr_loopd (ι := Nat) (fun j A st' => j ≤ order.length ∧ A.df = [] ∧ A.e 0 = .ptr bx 0 ∧ A.e 29 = .sl .shared (order.map encI) ∧ A.e 30 = .i order.length ∧ A.e 31 = .i j ∧ ∃ out : List Nat, out.length = j ∧ Hid (Sch.reo x.cols (order.drop j) out = B) ∧ ((j = 0 ∧ A.e 5 = .sl .tight [] ∧ st' = .box bx 38 [.ar gs 0 m1 cS, .ar gc 0 m2 cC] :: .box gs 26 (R1 ++ zS) :: .box gc 3 (R2 ++ zC) :: s) ∨
    (0 < j ∧ ∃ go co zo, A.e 5 = .ar go 0 j co ∧ (colC out ++ zo).length = co * 1 ∧ st' = .box go 3 (colC out ++ zo) :: .box bx 38 [.ar gs 0 m1 cS, .ar gc 0 m2 cC] :: .box gs 26 (R1 ++ zS) :: .box gc 3 (R2 ++ zC) :: s))) (fun j => order.length - j) 0 ⟨Nat.zero_le _, by (first | rfl | assumption | omega | (simp (disch := omega) only [push_cast, simprocAttr, *]; try omega; done)), by (first | rfl | assumption | omega | (simp (disch := omega) only [push_cast, simprocAttr, *]; try omega; done)), by (first | rfl | assumption | omega | (simp (disch := omega) only [push_cast, simprocAttr, *]; try omega; done)), by (first | rfl | assumption | omega | (simp (disch := omega) only [push_cast, simprocAttr, *]; try omega; done)), by (first | rfl | assumption | omega | (simp (disch := omega) only [push_cast, simprocAttr, *]; try omega; done)), [], rfl, HB, .inl ⟨rfl, by (first | rfl | assumption | omega | (simp (disch := omega) only [push_cast, simprocAttr, *]; try omega; done)), rfl⟩⟩ ?_
  rintro j A st' ⟨hj, hdf, e0, e29, e30, e31, out, hol, HT, hcase⟩
  clear HB
  by_cases hlt : j < order.length
  · obtain ⟨k, hk⟩ : ∃ k, order[j]? = some k := ⟨_, List.getElem?_eq_getElem hlt⟩
    have HE := HT.out
    rw [reo_drop hk, hm2.out] at HE
    clear HT
    by_cases hkr : 0 ≤ k ∧ k < (m2 : Int)
    · obtain ⟨hk0, hk1⟩ := hkr
      obtain ⟨kn, rfl⟩ := Int.eq_ofNat_of_zero_le hk0
      obtain ⟨c, hc⟩ : ∃ c, x.cols[kn]? = some c := ⟨_, List.getElem?_eq_getElem (by rw [hm2.out]; omega)⟩
      obtain ⟨t1, hld⟩ := hcell.out kn c hc
      have hgd : x.cols.getD kn 0 = c := by rw [List.getD_eq_getElem?_getD, hc]; rfl
      rw [Int.toNat_natCast, hgd] at HE
      have hCt := containsF .shared out c []
      have f3 : Hid ((out.map encC).flatten = colC out) := rfl
      have e3 := Lib.hid (cols_each out)
      have l3 : Hid ((out.map encC).length = j) := Lib.hid (by rw [List.length_map, hol])
      have g3 := Lib.hid (colC_add out c)
      have hro : (colC out).length = j * 1 := by rw [colC_len, hol]
      clear hgd hc
      by_cases hmem : c ∈ out
      · rw [if_neg (fun h => h.2.2 hmem)] at HE
        replace HE := Lib.hid HE
        rw [decide_eq_true hmem] at hCt
        replace hCt := Lib.hid hCt
        rcases hcase with ⟨rfl, e5, rfl⟩ | ⟨hj0, go, co, zo, e5, hlo, rfl⟩
        · rw [List.eq_nil_of_length_eq_zero hol] at hmem; cases hmem
        · generalize colC out = Ro at *
          generalize out.map encC = Lo at *
          repeat' (first | with_reducible refine Go1.go ?_ | ((with_reducible apply ev_go); (focus ((try simp (disch := omega) only [push_cast, simprocAttr, *]); (try exact rfl); done))) | ((with_reducible refine w_last ?_ ?_ ?_); kernel_rfl; rfl) | with_reducible refine Go2.go ?_ | ((with_reducible first | apply w_stepG | refine s_bi ?_ ?_ | refine blk_ne ?_ ?_); rfl) | ((with_reducible refine al_go ?_); intro b) | ((with_reducible apply (ck_lend Try.call106)); (focus exact hCt.out); (focus exact ⟨Lend.rowE (by repeat (first | exact mm_h | apply mm_t)) f3.out (by decide) e3.out l3.out, Lend.refl _, trivial⟩)) | ((with_reducible first | refine w_region ?_ ?_ | refine w_dra ?_ ?_); kernel_rfl) | ((with_reducible refine Go3.go ?_ ?_); all_goals (intro hb; (try with_reducible intro hb1); (try (exfalso; first | contradiction | omega)))) | fail)
          all_goals ((refine retA_mk (by first | exact .inl rfl | exact .inr rfl) (by first | rfl | assumption) (by (repeat (first | exact List.Sublist.refl _ | apply List.Sublist.cons))) (LE.of_eq ?_) (.inl ⟨by rw [hF2.out, ← HE.out]; rfl, rfl, rfl⟩)); simp (disch := omega) only [push_cast, simprocAttr, *])
      · rw [if_pos ⟨hk0, hk1, hmem⟩] at HE
        replace HE := Lib.hid HE
        rw [decide_eq_false hmem] at hCt
        replace hCt := Lib.hid hCt
        rcases hcase with ⟨rfl, e5, rfl⟩ | ⟨hj0, go, co, zo, e5, hlo, rfl⟩
        · have hno := List.eq_nil_of_length_eq_zero hol
          subst hno
          rw [List.map_nil] at hCt
          repeat' (first | with_reducible refine Go1.go ?_ | ((with_reducible apply ev_go); (focus ((try simp (disch := omega) only [push_cast, simprocAttr, *]); (try exact rfl); done))) | with_reducible refine s_appN ?_ | with_reducible refine rn_go ?_ | ((with_reducible apply rn2_go); (focus (simp only [List.length_cons, List.length_nil]; omega)); (focus exact len_one rfl); (focus (simp only [List.length_cons, List.length_nil]; omega)); (focus (simp only [List.length_cons, List.length_nil]; omega)); intro go' co' zo' hco hlo') | ((with_reducible refine w_last ?_ ?_ ?_); kernel_rfl; rfl) | with_reducible refine Go2.go ?_ | ((with_reducible first | apply w_stepG | refine s_bi ?_ ?_ | refine blk_ne ?_ ?_); rfl) | ((with_reducible refine al_go ?_); intro b) | ((with_reducible apply (ck_lend Try.call106)); (focus exact hCt.out); (focus exact ⟨Lend.sl _ _, Lend.refl _, trivial⟩)) | ((with_reducible first | refine w_region ?_ ?_ | refine w_dra ?_ ?_); kernel_rfl) | ((with_reducible refine Go3.go ?_ ?_); all_goals (intro hb; (try with_reducible intro hb1); (try (exfalso; first | contradiction | omega)))) | fail)
          refine ⟨1, .box go' 3 ([[.i c]].flatten ++ zo') :: .box bx 38 [.ar gs 0 m1 cS, .ar gc 0 m2 cC] :: .box gs 26 (R1 ++ zS) :: .box gc 3 (R2 ++ zC) :: s, (by (repeat (first | exact List.Sublist.refl _ | apply List.Sublist.cons))), ⟨hlt, ?_, ?_, ?_, ?_, ?_, [c], rfl, HE, .inr ⟨Nat.zero_lt_one, go', co', zo', ?_, ?_, ?_⟩⟩, ?_⟩
          · (first | rfl | assumption | omega | (simp (disch := omega) only [push_cast, simprocAttr, *]; try omega; done))
          · (first | rfl | assumption | omega | (simp (disch := omega) only [push_cast, simprocAttr, *]; try omega; done))
          · (first | rfl | assumption | omega | (simp (disch := omega) only [push_cast, simprocAttr, *]; try omega; done))
          · (first | rfl | assumption | omega | (simp (disch := omega) only [push_cast, simprocAttr, *]; try omega; done))
          · (first | rfl | assumption | omega | (simp (disch := omega) only [push_cast, simprocAttr, *]; try omega; done))
          · (first | rfl | assumption | omega | (simp (disch := omega) only [push_cast, simprocAttr, *]; try omega; done))
          · exact hlo'
          · rfl
          · omega
        · generalize colC out = Ro at *
          generalize out.map encC = Lo at *
          repeat' (first | with_reducible refine Go1.go ?_ | ((with_reducible apply ev_go); (focus ((try simp (disch := omega) only [push_cast, simprocAttr, *]); (try exact rfl); done))) | with_reducible refine s_appR ?_ | with_reducible refine rk_go ?_ | ((with_reducible apply (r2_go hro hlo)); (focus (intro g' cs'; repeat (first | exact ra_h | apply ra_t))); (focus exact len_one rfl); (focus (simp only [List.length_cons, List.length_nil]; omega)); (focus (simp only [List.length_cons, List.length_nil]; omega)); intro go' co' zo' hco hlo') | ((with_reducible refine w_last ?_ ?_ ?_); kernel_rfl; rfl) | with_reducible refine Go2.go ?_ | ((with_reducible first | apply w_stepG | refine s_bi ?_ ?_ | refine blk_ne ?_ ?_); rfl) | ((with_reducible refine al_go ?_); intro b) | ((with_reducible apply (ck_lend Try.call106)); (focus exact hCt.out); (focus exact ⟨Lend.rowE (by repeat (first | exact mm_h | apply mm_t)) f3.out (by decide) e3.out l3.out, Lend.refl _, trivial⟩)) | ((with_reducible first | refine w_region ?_ ?_ | refine w_dra ?_ ?_); kernel_rfl) | ((with_reducible refine Go3.go ?_ ?_); all_goals (intro hb; (try with_reducible intro hb1); (try (exfalso; first | contradiction | omega)))) | fail)
          refine ⟨j + 1, .box go' 3 (Ro ++ [[.i c]].flatten ++ zo') :: .box bx 38 [.ar gs 0 m1 cS, .ar gc 0 m2 cC] :: .box gs 26 (R1 ++ zS) :: .box gc 3 (R2 ++ zC) :: s, (by (repeat (first | exact List.Sublist.refl _ | apply List.Sublist.cons))), ⟨hlt, ?_, ?_, ?_, ?_, ?_, out ++ [c], by rw [List.length_append, hol]; rfl, HE, .inr ⟨Nat.succ_pos _, go', co', zo', ?_, ?_, ?_⟩⟩, ?_⟩
          · (first | rfl | assumption | omega | (simp (disch := omega) only [push_cast, simprocAttr, *]; try omega; done))
          · (first | rfl | assumption | omega | (simp (disch := omega) only [push_cast, simprocAttr, *]; try omega; done))
          · (first | rfl | assumption | omega | (simp (disch := omega) only [push_cast, simprocAttr, *]; try omega; done))
          · (first | rfl | assumption | omega | (simp (disch := omega) only [push_cast, simprocAttr, *]; try omega; done))
          · (first | rfl | assumption | omega | (simp (disch := omega) only [push_cast, simprocAttr, *]; try omega; done))
          · (first | rfl | assumption | omega | (simp (disch := omega) only [push_cast, simprocAttr, *]; try omega; done))
          · rw [g3.out]; exact hlo'
          · rw [g3.out]
          · omega
    · rw [if_neg (fun h => hkr ⟨h.1, h.2.1⟩)] at HE
      replace HE := Lib.hid HE
      have hkr' : k < 0 ∨ (0 ≤ k ∧ (m2 : Int) ≤ k) := by omega
      clear hkr
      rcases hkr' with hk0 | ⟨hk0, hk1⟩ <;> rcases hcase with ⟨rfl, e5, rfl⟩ | ⟨hj0, go, co, zo, e5, hlo, rfl⟩
      all_goals skip
      all_goals (
        repeat' (first | with_reducible refine Go1.go ?_ | ((with_reducible apply ev_go); (focus ((try simp (disch := omega) only [push_cast, simprocAttr, *]); (try exact rfl); done))) | ((with_reducible refine w_last ?_ ?_ ?_); kernel_rfl; rfl) | with_reducible refine Go2.go ?_ | ((with_reducible first | apply w_stepG | refine s_bi ?_ ?_ | refine blk_ne ?_ ?_); rfl) | ((with_reducible refine al_go ?_); intro b) | ((with_reducible first | refine w_region ?_ ?_ | refine w_dra ?_ ?_); kernel_rfl) | ((with_reducible refine Go3.go ?_ ?_); all_goals (intro hb; (try with_reducible intro hb1); (try (exfalso; first | contradiction | omega)))) | fail)
        all_goals ((refine retA_mk (by first | exact .inl rfl | exact .inr rfl) (by first | rfl | assumption) (by (repeat (first | exact List.Sublist.refl _ | apply List.Sublist.cons))) (LE.of_eq ?_) (.inl ⟨by rw [hF2.out, ← HE.out]; rfl, rfl, rfl⟩)); simp (disch := omega) only [push_cast, simprocAttr, *]))
  · have HE := HT.out
    rw [List.drop_of_length_le (by omega), Sch.reo] at HE
    have hjm : j = m2 := by omega
    subst hjm
    rcases hcase with ⟨rfl, e5, rfl⟩ | ⟨hj0, go, co, zo, e5, hlo, rfl⟩
    · omega
    · have hco : Hid (colC out = colC out) := rfl
      generalize hRo : colC out = Ro at *
      replace hRo := Lib.hid hRo
      replace HE := Lib.hid HE
      clear HT
      repeat' (first | with_reducible refine Go1.go ?_ | ((with_reducible apply ev_go); (focus ((try simp (disch := omega) only [push_cast, simprocAttr, *]); (try exact rfl); done))) | ((with_reducible refine w_last ?_ ?_ ?_); kernel_rfl; rfl) | with_reducible refine Go2.go ?_ | ((with_reducible first | apply w_stepG | refine s_bi ?_ ?_ | refine blk_ne ?_ ?_); rfl) | ((with_reducible refine al_go ?_); intro b) | ((with_reducible first | refine w_region ?_ ?_ | refine w_dra ?_ ?_); kernel_rfl) | ((with_reducible refine Go3.go ?_ ?_); all_goals (intro hb; (try with_reducible intro hb1); (try (exfalso; first | contradiction | omega)))) | fail)
      all_goals ((refine retA_perm (s2 := .box bx 38 [.ar gs 0 m1 cS, .ar go 0 j co] :: .box gs 26 (R1 ++ zS) :: .box go 3 (Ro ++ zo) :: .box gc 3 (R2 ++ zC) :: s) (st0 := .box bx 38 [.ar gs 0 m1 cS, .ar go 0 j co] :: .box gs 26 (R1 ++ zS) :: .box go 3 (Ro ++ zo) :: s) (by first | exact .inl rfl | exact .inr rfl) (by first | rfl | assumption) ?_ (((List.sublist_cons_self _ _).cons₂ _).cons₂ _ |>.cons₂ _) (LE.of_eq ?_) (.inr ⟨⟨x.slots, out⟩, gs, cS, zS, go, co, zo, ?_, ⟨?_, ?_⟩, rfl, ?_⟩)); (focus exact (List.Perm.swap _ _ _).trans (.cons _ (.swap _ _ _))); (focus simp (disch := omega) only [push_cast, simprocAttr, *]); (focus (rw [hF2.out, ← HE.out]; rfl)); (focus (rw [hR1.out]; exact hz1)); (focus (rw [hRo.out]; exact hlo)); (focus (rw [hR1.out, hRo.out, hm1.out, hol])))
end Go.Proofs.Ytooaagmhgakhgaa
end

section
namespace Go.Proofs.Ytooaagmhgakhgaa
set_option linter.unusedSimpArgs false
attribute [local push_cast] encB encI encC V.cells_mk V.cells_len Nat.mul_one Int.sub_zero List.map_nil beq_self_eq_true List.head?_cons
open Go.RowKit
set_option maxRecDepth 10000
set_option maxHeartbeats 4000000
theorem schCopiedF (gs cS gc cC : Nat) (zS zC : List D) (x : Vr) (h1 : x.slots ≠ []) (h2 : x.cols ≠ []) (hx : VW x) (st : St) (m1 : Res.box gs 26 (slotC x.slots ++ zS) ∈ st) (m2 : Res.box gc 3 (colC x.cols ++ zC) ∈ st) : TrF Try.prog 72 [.agg [.ar gs 0 x.slots.length cS, .ar gc 0 x.cols.length cC]] st fun d st' => d = .agg x.cells ∧ st' = st := by
  have hA := Lib.hid fun b cs => cloneSF gs cS x.slots zS h1 (by have := hx.ls; omega) (.box b 38 cs :: st) (List.mem_cons_of_mem _ m1)
  have hB := Lib.hid fun b cs => cloneIF gc cC x.cols zC h2 (by have := hx.lc; omega) (.box b 38 cs :: st) (List.mem_cons_of_mem _ m2)
  unfold Vr.cells
  refine trF_enterC (G := cellA 2 38 Try.prog) Try.func72 rfl (by rw [Try.ntmps72]; exact Nat.le_of_ble_eq_true rfl) (fun h1 h2 h3 => res_cell rfl h1 h2 h3) ?_
  simp only [Try.ntmps72]
  repeat' (first | with_reducible refine Go1.go ?_ | ((with_reducible apply ev_go); (focus ((try simp (disch := omega) only [push_cast, simprocAttr, *]); (try exact rfl); done))) | ((with_reducible refine w_last ?_ ?_ ?_); kernel_rfl; rfl) | with_reducible refine Go2.go ?_ | ((with_reducible first | apply w_stepG | refine s_bi ?_ ?_ | refine blk_ne ?_ ?_); rfl) | ((with_reducible refine al_go ?_); intro b) | ((with_reducible apply (ck_le Try.call88)); exact LEL.refl _; exact hA.out _ _) | ((with_reducible apply (ck_le Try.call89)); exact LEL.refl _; exact hB.out _ _) | ((with_reducible first | refine w_region ?_ ?_ | refine w_dra ?_ ?_); kernel_rfl) | ((with_reducible refine Go3.go ?_ ?_); all_goals (intro hb; (try with_reducible intro hb1); (try (exfalso; first | contradiction | omega)))) | fail)
  all_goals (refine retC_cell (by simp) (by first | rfl | assumption) (by simp (disch := omega) only [push_cast, simprocAttr, *]; exact rfl) (by repeat (first | exact mm_h | apply mm_t)) (by simp (disch := omega) only [push_cast, simprocAttr, *]; exact rfl) (by (try simp (disch := omega) only [push_cast, simprocAttr, *]); (try exact rfl); done) (by (repeat (first | exact List.Sublist.refl _ | apply List.Sublist.cons))) ?_ ⟨rfl, rfl⟩; (try simp (disch := omega) only [push_cast, simprocAttr, *]); try (first | exact LE.refl _ | exact LE.sl _ _ | ((first | refine LE.tup ?_ | refine LE.agg ?_); (repeat' (first | exact LEL.nil | refine LEL.cons ?_ ?_ | exact LE.refl _ | exact LE.sl _ _ | refine LE.agg ?_)); done) | refine LE.of_eq ?_))
theorem schDoersF (st : St) : TrF Try.prog 73 [] st fun d st' => d = .agg [.s .nilFunc, .fn (.func 90) [] [], .fn (.func 91) [] [], .fn (.func 92) [] [], .fn (.func 93) [] [], .fn (.func 94) [] []] ∧ st' = st := by
  refine trF_enterC (G := cellA 0 97 Try.prog) Try.func73 rfl (by rw [Try.ntmps73]; exact Nat.le_of_ble_eq_true rfl) (fun h1 h2 h3 => res_cell rfl h1 h2 h3) ?_
  simp only [Try.ntmps73]
  repeat' (first | with_reducible refine Go1.go ?_ | ((with_reducible apply ev_go); (focus ((try simp (disch := omega) only [push_cast, simprocAttr, *]); (try exact rfl); done))) | ((with_reducible refine w_last ?_ ?_ ?_); kernel_rfl; rfl) | with_reducible refine Go2.go ?_ | ((with_reducible first | apply w_stepG | refine s_bi ?_ ?_ | refine blk_ne ?_ ?_); rfl) | ((with_reducible refine al_go ?_); intro b) | ((with_reducible first | refine w_region ?_ ?_ | refine w_dra ?_ ?_); kernel_rfl) | ((with_reducible refine Go3.go ?_ ?_); all_goals (intro hb; (try with_reducible intro hb1); (try (exfalso; first | contradiction | omega)))) | fail)
  all_goals (refine retC_cell (by simp) (by first | rfl | assumption) (by simp (disch := omega) only [push_cast, simprocAttr, *]; exact rfl) (by repeat (first | exact mm_h | apply mm_t)) (by simp (disch := omega) only [push_cast, simprocAttr, *]; exact rfl) (by (try simp (disch := omega) only [push_cast, simprocAttr, *]); (try exact rfl); done) (by (repeat (first | exact List.Sublist.refl _ | apply List.Sublist.cons))) ?_ ⟨rfl, rfl⟩; (try simp (disch := omega) only [push_cast, simprocAttr, *]); try (first | exact LE.refl _ | exact LE.sl _ _ | ((first | refine LE.tup ?_ | refine LE.agg ?_); (repeat' (first | exact LEL.nil | refine LEL.cons ?_ ?_ | exact LE.refl _ | exact LE.sl _ _ | refine LE.agg ?_)); done) | refine LE.of_eq ?_))
end Go.Proofs.Ytooaagmhgakhgaa
end

section
namespace Go.Proofs.Ytooaagmhgakhgaa
set_option linter.unusedSimpArgs false
attribute [local push_cast] encB encI encC V.cells_mk V.cells_len Nat.mul_one Int.sub_zero List.map_nil beq_self_eq_true List.head?_cons
open Go.RowKit
set_option maxRecDepth 10000
set_option maxHeartbeats 4000000
def doTab : List D := [.s .nilFunc, .fn (.func 90) [] [], .fn (.func 91) [] [], .fn (.func 92) [] [], .fn (.func 93) [] [], .fn (.func 94) [] []]
theorem stepR_of {F G : Vr → Stp → Option Vr} {x : Vr} {stp : Stp} {bx : Nat} {s : St} (h : F x stp = G x stp) : StepR F x stp bx s = StepR G x stp bx s := by
  unfold StepR; rw [h]
theorem doTabF (x : Vr) (stp : Stp) (hx : VW x) (hc1 : 1 ≤ x.cols.length) (hs : stp.Ok) (hk : 1 ≤ stp.kind ∧ stp.kind ≤ 5) : ∃ (n : Nat) (f : FuncId), stp.kind = n ∧ n ≤ 5 ∧ (∃ tl, doTab.drop n = .fn (.func f) [] [] :: tl) ∧ (∀ args w, (callFunc f args).run Try.prog w = .ok (.enter f args) w) ∧
    ∀ (bx gs cS gc cC : Nat) (zS zC : List D), VL cS zS cC zC x → ∀ s, TrF Try.prog f [.ptr bx 0, .agg stp.cells] (VB bx gs cS zS gc cC zC x s) (StepR Sch.stepV x stp bx s) := by
  have hk' : stp.kind = 1 ∨ stp.kind = 2 ∨ stp.kind = 3 ∨ stp.kind = 4 ∨ stp.kind = 5 := by omega
  rcases hk' with h | h | h | h | h
  · exact ⟨1, _, h, by decide, ⟨_, rfl⟩, Try.call90, fun bx gs cS gc cC zS zC hz s => stepR_of (G := Sch.stepV) (by unfold Sch.stepV; rw [if_pos h]) ▸ schAddF bx gs cS gc cC zS zC x stp hx hs hz s⟩
  · exact ⟨2, _, h, by decide, ⟨_, rfl⟩, Try.call91, fun bx gs cS gc cC zS zC hz s => stepR_of (G := Sch.stepV) (by unfold Sch.stepV; rw [if_neg (show ¬ stp.kind = 1 by omega), if_pos h]) ▸ schLoseF bx gs cS gc cC zS zC x stp hx hs hz s⟩
  · exact ⟨3, _, h, by decide, ⟨_, rfl⟩, Try.call92, fun bx gs cS gc cC zS zC hz s => stepR_of (G := Sch.stepV) (by unfold Sch.stepV; rw [if_neg (show ¬ stp.kind = 1 by omega), if_neg (show ¬ stp.kind = 2 by omega), if_pos h]) ▸ schRenameF bx gs cS gc cC zS zC x stp hx hs hz s⟩
  · exact ⟨4, _, h, by decide, ⟨_, rfl⟩, Try.call93, fun bx gs cS gc cC zS zC hz s => stepR_of (G := Sch.stepV) (by unfold Sch.stepV; rw [if_neg (show ¬ stp.kind = 1 by omega), if_neg (show ¬ stp.kind = 2 by omega), if_neg (show ¬ stp.kind = 3 by omega), if_pos h]) ▸ schWidenF bx gs cS gc cC zS zC x stp hx hs hz s⟩
  · exact ⟨5, _, h, by decide, ⟨_, rfl⟩, Try.call94, fun bx gs cS gc cC zS zC hz s => stepR_of (G := Sch.stepV) (by unfold Sch.stepV; rw [if_neg (show ¬ stp.kind = 1 by omega), if_neg (show ¬ stp.kind = 2 by omega), if_neg (show ¬ stp.kind = 3 by omega), if_neg (show ¬ stp.kind = 4 by omega), if_pos h]) ▸ schReorderF bx gs cS gc cC zS zC x stp hx hc1 hs hz s⟩
theorem firstR_ex (t : Tm) (st : St) : ∃ d st', FirstR t st d st' := by
  unfold FirstR
  cases h : Sch.firstV t with
  | none => exact ⟨_, _, .inl ⟨rfl, .inl rfl, rfl⟩⟩
  | some x => exact ⟨_, _, .inr ⟨x, 0, x.slots.length, [], 0, x.cols.length, [], rfl, ⟨by rw [List.append_nil, slotC_len], by rw [List.append_nil, colC_len]⟩, rfl, rfl⟩⟩
theorem stepR_ex (x : Vr) (stp : Stp) (bx : Nat) (s : St) : ∃ d st', StepR Sch.stepV x stp bx s d st' := by
  unfold StepR
  cases h : Sch.stepV x stp with
  | none => exact ⟨_, _, .inl ⟨rfl, rfl, rfl⟩⟩
  | some y => exact ⟨_, _, .inr ⟨y, 0, y.slots.length, [], 0, y.cols.length, [], rfl, ⟨by rw [List.append_nil, slotC_len], by rw [List.append_nil, colC_len]⟩, rfl, rfl⟩⟩
def verD (p : Vr × Nat) : List D := [.i p.2, .agg p.1.cells]
theorem versF (t : Tm) (st : St) : TrF Try.prog 45 [.agg t.cells] st fun d st' => ∃ tb, d = .fn (.func 70) [] [.ptr tb 0] ∧ st' = .box tb 33 t.cells :: st := by
  unfold Tm.cells
  generalize t.slots.map Sl.cells = SL
  generalize t.steps.map Stp.cells = TL
  refine trF_enter (ts := [2]) Try.func45 rfl (by rw [Try.ntmps45]; exact Nat.le_of_ble_eq_true rfl) (fun tmps w => by simp [results, Try.results45, go_sem, resVal]) ?_
  simp only [Try.ntmps45]
  repeat' (first | with_reducible refine Go1.go ?_ | ((with_reducible apply ev_go); (focus ((try simp (disch := omega) only [push_cast, simprocAttr, *]); (try exact rfl); done))) | with_reducible refine s_boxP ?_ | ((with_reducible refine w_last ?_ ?_ ?_); kernel_rfl; rfl) | with_reducible refine Go2.go ?_ | ((with_reducible first | apply w_stepG | refine s_bi ?_ ?_ | refine blk_ne ?_ ?_); rfl) | ((with_reducible refine al_go ?_); intro b) | ((with_reducible first | refine w_region ?_ ?_ | refine w_dra ?_ ?_); kernel_rfl) | ((with_reducible refine Go3.go ?_ ?_); all_goals (intro hb; (try with_reducible intro hb1); (try (exfalso; first | contradiction | omega)))) | fail)
  all_goals exact retA_mk (by first | exact .inl rfl | exact .inr rfl) rfl (by (repeat (first | exact List.Sublist.refl _ | apply List.Sublist.cons))) (LE.of_eq (by (try simp (disch := omega) only [push_cast, simprocAttr, *]); (try exact rfl); done)) ⟨_, rfl, rfl⟩
theorem versIter (tb : Nat) (t : Tm) (ht : TOk t) : IterC Try.prog 70 [.ptr tb 0] verD ((Sch.vers t).zipIdx 1) [.box tb 33 t.cells] (fun K => K = [.box tb 33 t.cells]) (fun _ K => K = [.box tb 33 t.cells]) := by
  intro l C J Jx hY hJ
  have HY := Lib.hid hY
  have HJ := Lib.hid hJ
  clear hY hJ
  have hFi := Lib.hid (schFirstF t ht.os ht.ls ht.lt)
  have hot := Lib.hid ht.ot
  have hcells : Hid (t.cells = [.str t.name, .sl .shared (t.slots.map Sl.cells), .sl .shared (t.steps.map Stp.cells)]) := rfl
  obtain ⟨Vs, hVs⟩ : ∃ Vs, Sch.vers t = Vs := ⟨_, rfl⟩
  have hV : Hid (Vs = match Sch.firstV t with | none => [] | some x => x :: Sch.versL x t.steps) := hVs.symm
  have hvi : Hid (∀ y ∈ Vs, Sch.VI 16 y) := Lib.hid (by rw [← hVs]; exact fun y => Sch.vers_vi)
  rw [hVs] at HY ⊢
  clear hVs
  have hLl : (Vs.zipIdx 1).length = Vs.length := List.length_zipIdx
  have hget : Hid (∀ i x, Vs[i]? = some x → (Vs.zipIdx 1)[i]? = some (x, 1 + i)) := fun i x h => by rw [List.getElem?_zipIdx, h]; rfl
  generalize Vs.zipIdx 1 = L at *
  unfold FirstR at hFi
  have hex := Lib.hid (firstR_ex t)
  unfold FirstR at hex
  generalize hTC : t.cells = TC at *
  have hTC2 := hcells.out
  subst hTC2
  generalize t.slots.map Sl.cells = SL at *
  generalize hSt : t.steps.map Stp.cells = TL at *
  replace hSt := Lib.hid hSt
  replace hTC := Lib.hid hTC
  refine trF_enter (ts := []) Try.func70 rfl (by rw [Try.ntmps70]; exact Nat.le_of_ble_eq_true rfl) (fun tmps w => by simp [results, Try.results70, go_sem, resVal]) ?_
  simp only [Try.ntmps70]
  refine tr_perm (st' := .box tb 33 [.str t.name, .sl .shared SL, .sl .shared TL] :: C) (.refl _) ?_
  repeat' (first | with_reducible refine Go1.go ?_ | ((with_reducible apply ev_go); (focus ((try simp (disch := omega) only [push_cast, simprocAttr, *]); (try exact rfl); done))) | ((with_reducible refine w_last ?_ ?_ ?_); kernel_rfl; rfl) | with_reducible refine Go2.go ?_ | ((with_reducible first | apply w_stepG | refine s_bi ?_ ?_ | refine blk_ne ?_ ?_); rfl) | ((with_reducible refine al_go ?_); intro b) | ((with_reducible apply (ck_gen Try.call71)); (focus exact List.Perm.refl _); (focus exact hFi.out _); (focus exact LEL.refl _); (focus exact hex.out _); (rintro d st' (⟨hn, rfl | ⟨gs, n1, cS, gc, n2, cC, rfl⟩, rfl⟩ | ⟨x, gs, cS, zS, gc, cC, zC, hx, hz, rfl, rfl⟩))) | ((with_reducible first | refine w_region ?_ ?_ | refine w_dra ?_ ?_); kernel_rfl) | ((with_reducible refine Go3.go ?_ ?_); all_goals (intro hb; (try with_reducible intro hb1); (try (exfalso; first | contradiction | omega)))) | fail)
  · have hL0 : L.length = 0 := by rw [hLl, hV.out, hn]; rfl
    exact retA_mk (by first | exact .inl rfl | exact .inr rfl) rfl (by (repeat (first | exact List.Sublist.refl _ | apply List.Sublist.cons))) (LE.refl _) ⟨[_], C, rfl, .inl ⟨rfl, by rw [hL0]; exact HJ.out⟩⟩
  · have hL0 : L.length = 0 := by rw [hLl, hV.out, hn]; rfl
    exact retA_mk (by first | exact .inl rfl | exact .inr rfl) rfl (by (repeat (first | exact List.Sublist.refl _ | apply List.Sublist.cons))) (LE.refl _) ⟨[_], C, rfl, .inl ⟨rfl, by rw [hL0]; exact HJ.out⟩⟩
  have hV1 : Vs = x :: Sch.versL x t.steps := by rw [hV.out, hx]
  have hx0 : Vs[0]? = some x := by rw [hV1]; rfl
  have hT0 : Hid (Sch.versL x (t.steps.drop 0) = Vs.drop 1) := Lib.hid (by rw [hV1]; rfl)
  have hVx := hvi.out x (List.mem_of_getElem? hx0)
  have hg0 := hget.out 0 x hx0
  replace hx0 := Lib.hid hx0
  have hdoF := schDoersF
  have hLl2 := Lib.hid hLl
  clear hV hV1 hex hFi hx hLl
  obtain ⟨b3, rfl⟩ : ∃ q, q = b := ⟨_, rfl⟩
  have hcp := Lib.hid (schCopiedF gs cS gc cC zS zC x (fun h => by have := hVx.lp; rw [h] at this; simp at this) (fun h => by have := hVx.cp; rw [h] at this; simp at this) (hVx.vw (by omega)))
  obtain ⟨TB, hTB⟩ : ∃ TB, TB = doTab := ⟨_, rfl⟩
  have hdo : Hid (∀ st, TrF Try.prog 73 [] st fun d st' => d = .agg TB ∧ st' = st) := by rw [hTB]; exact hdoF
  have hTBl : TB.length = 6 := by rw [hTB]; rfl
  have hTBa : TB.all D.leaf = true := by rw [hTB]; rfl
  replace hTB := Lib.hid hTB
  clear hdoF
  repeat' (first | with_reducible refine Go1.go ?_ | ((with_reducible apply ev_go); (focus ((try simp (disch := omega) only [push_cast, simprocAttr, *]); (try exact rfl); done))) | ((with_reducible apply (s_yield HY.out HJ.out hg0)); (focus ((try simp (disch := omega) only [push_cast, simprocAttr, *]); (try exact rfl); done)); (focus ((try simp (disch := omega) only [push_cast, simprocAttr, *]); (try exact rfl); done)); (focus first | exact LEL.refl _ | ((repeat' (first | exact LEL.nil | refine LEL.cons ?_ ?_ | exact LE.refl _ | exact LE.sl _ _ | refine LE.agg ?_)); done)); (focus (repeat (first | exact tl_nil | apply tl_cons)); done); all_goals (intro C' hC')) | ((with_reducible refine w_last ?_ ?_ ?_); kernel_rfl; rfl) | with_reducible refine Go2.go ?_ | ((with_reducible first | apply w_stepG | refine s_bi ?_ ?_ | refine blk_ne ?_ ?_); rfl) | ((with_reducible refine al_go ?_); intro b) | ((with_reducible apply (ck_le Try.call72)); exact LEL.refl _; exact hcp.out _ (by repeat (first | exact mm_h | apply mm_t)) (by repeat (first | exact mm_h | apply mm_t))) | ((with_reducible apply (ck_le Try.call73)); exact LEL.refl _; exact hdo.out _) | ((with_reducible first | refine w_region ?_ ?_ | refine w_dra ?_ ?_); kernel_rfl) | ((with_reducible refine Go3.go ?_ ?_); all_goals (intro hb; (try with_reducible intro hb1); (try (exfalso; first | contradiction | omega)))) | fail)
  rotate_left
  · exact retA_mk (by first | exact .inl rfl | exact .inr rfl) (by first | rfl | assumption) (by (repeat (first | exact List.Sublist.refl _ | apply List.Sublist.cons))) (LE.refl _) ⟨[_], C', rfl, .inr ⟨_, rfl, hC'⟩⟩
  obtain ⟨b5, rfl⟩ : ∃ q, q = b := ⟨_, rfl⟩
  refine tr_perm (st' := .box b3 38 [.ar gs 0 x.slots.length cS, .ar gc 0 x.cols.length cC] :: .box gs 26 (slotC x.slots ++ zS) :: .box gc 3 (colC x.cols ++ zC) :: .box b5 97 TB :: .box tb 33 [.str t.name, .sl .shared SL, .sl .shared TL] :: C') (by (repeat (first | exact List.Perm.refl _ | refine perm_cons_out (by repeat (first | exact out_here | apply out_there)) ?_))) ?_
  have hJ0 := Lib.hid hC'
  have hTl : TL.length = t.steps.length := by rw [← hSt.out, List.length_map]
  have hms := ht.lt
  clear hg0 hcp
  refine tr_loopd (ι := Nat) (fun i A st' => ∃ x gs cS zS gc cC zC C', i ≤ TL.length ∧ VL cS zS cC zC x ∧ Hid (Vs[i]? = some x) ∧ Hid (Sch.versL x (t.steps.drop i) = Vs.drop (i + 1)) ∧ Hid (J (i + 1) C') ∧ A.df = [] ∧ A.e 0 = .fn (.yield l) [] [] ∧ A.e 1 = .ptr tb 0 ∧ A.e 3 = .ptr b3 0 ∧ A.e 5 = .ptr b5 0 ∧ A.e 24 = .sl .shared TL ∧ A.e 25 = .i TL.length ∧ A.e 26 = .i i ∧
    st' = .box b3 38 [.ar gs 0 x.slots.length cS, .ar gc 0 x.cols.length cC] :: .box gs 26 (slotC x.slots ++ zS) :: .box gc 3 (colC x.cols ++ zC) :: .box b5 97 TB :: .box tb 33 [.str t.name, .sl .shared SL, .sl .shared TL] :: C') (fun i => TL.length - i) 0 ⟨x, gs, cS, zS, gc, cC, zC, C', Nat.zero_le _, hz, hx0, hT0, hJ0, by (first | rfl | assumption | omega | (simp (disch := omega) only [push_cast, simprocAttr, *]; try omega; done)), by (first | rfl | assumption | omega | (simp (disch := omega) only [push_cast, simprocAttr, *]; try omega; done)), by (first | rfl | assumption | omega | (simp (disch := omega) only [push_cast, simprocAttr, *]; try omega; done)), by (first | rfl | assumption | omega | (simp (disch := omega) only [push_cast, simprocAttr, *]; try omega; done)), by (first | rfl | assumption | omega | (simp (disch := omega) only [push_cast, simprocAttr, *]; try omega; done)), by (first | rfl | assumption | omega | (simp (disch := omega) only [push_cast, simprocAttr, *]; try omega; done)), by (first | rfl | assumption | omega | (simp (disch := omega) only [push_cast, simprocAttr, *]; try omega; done)), by (first | rfl | assumption | omega | (simp (disch := omega) only [push_cast, simprocAttr, *]; try omega; done)), rfl⟩ ?_
  clear hx0 hT0 hJ0 hz hVx hC' HJ
  rintro i A st' ⟨x, gs, cS, zS, gc, cC, zC, C', hi, hz, hxi, hTi, hJi, hdf, e0, e1, e3, e5, e24, e25, e26, rfl⟩
  have hVx := hvi.out x (List.mem_of_getElem? hxi.out)
  by_cases hlt : i < TL.length
  · obtain ⟨stp, hstp⟩ : ∃ s, t.steps[i]? = some s := ⟨_, List.getElem?_eq_getElem (by omega)⟩
    have hso := hot.out stp (List.mem_of_getElem? hstp)
    have hTd := hTi.out
    rw [Sch.versL_drop hstp] at hTd
    have hcl : TL[i]? = some stp.cells := by rw [← hSt.out, List.getElem?_map, hstp]; rfl
    have hin : i < Vs.length := (List.getElem?_eq_some_iff.1 hxi.out).1
    by_cases hk : 1 ≤ stp.kind ∧ stp.kind ≤ 5
    · obtain ⟨nk, f, hkn, hn5, ⟨tl, htl⟩, hent, hTr⟩ := doTabF x stp (hVx.vw (by omega)) hVx.cp hso hk
      have hTr2 := Lib.hid (hTr b3 gs cS gc cC zS zC hz)
      have hSR := Lib.hid (stepR_ex x stp b3)
      obtain ⟨hk1, hk2⟩ := hk
      clear hTr hTi
      rw [← hTB.out] at htl
      unfold StepR VB at hTr2 hSR
      have hvw : Hid (∀ y, Sch.stepV x stp = some y → Vs[i + 1]? = some y ∧ Sch.versL y (t.steps.drop (i + 1)) = Vs.drop (i + 1 + 1)) := fun y hy => by
        rw [hy] at hTd
        have h1 : Vs[i + 1]? = some y := by
          have : (Vs.drop (i + 1))[0]? = some y := by rw [← hTd]; rfl
          rwa [List.getElem?_drop, Nat.add_zero] at this
        refine ⟨h1, ?_⟩
        rw [V.drop_cons h1] at hTd
        exact (List.cons.inj hTd).2
      have hvn : Hid (Sch.stepV x stp = none → Vs.length = i + 1) := fun h => by
        rw [h] at hTd
        have := congrArg List.length hTd
        rw [List.length_drop, List.length_nil] at this
        omega
      obtain ⟨n2, hn2⟩ : ∃ n2 : Nat, 1 + (i + 1) = n2 := ⟨_, rfl⟩
      have hn3 : (i : Int) + 2 = (n2 : Int) := by omega
      have hgY : Hid (∀ y, Sch.stepV x stp = some y → L[i + 1]? = some (y, n2)) := fun y hy => by rw [← hn2]; exact hget.out _ _ (hvw.out y hy).1
      have hcp : Hid (∀ y, Sch.stepV x stp = some y → ∀ (gs cS gc cC : Nat) (zS zC : List D) (st : St), Res.box gs 26 (slotC y.slots ++ zS) ∈ st → Res.box gc 3 (colC y.cols ++ zC) ∈ st → TrF Try.prog 72 [.agg [.ar gs 0 y.slots.length cS, .ar gc 0 y.cols.length cC]] st fun d st' => d = .agg y.cells ∧ st' = st) := fun y hy gs cS gc cC zS zC st m1 m2 => by
        have hVy := hvi.out y (List.mem_of_getElem? (hvw.out y hy).1)
        exact schCopiedF gs cS gc cC zS zC y (fun h => by have := hVy.lp; rw [h] at this; simp at this) (fun h => by have := hVy.cp; rw [h] at this; simp at this) (hVy.vw (by omega)) st m1 m2
      have hn2b : n2 ≤ 2000 ∧ i ≤ 2000 ∧ TL.length ≤ 2000 := by omega
      obtain ⟨hb1, hb2, hb3⟩ := hn2b
      replace hn2 := Lib.hid hn2
      clear hTd hstp hxi hVx
      generalize Sch.stepV x stp = F at *
      cases stp with
      | mk kd col slot order =>
      cases slot with
      | mk nm ty rq dv =>
      cases dv with
      | mk k n sv lv =>
      unfold Stp.cells at hcl hTr2
      rw [Sl.cells_mk] at hcl hTr2
      dsimp only [List.cons_append, List.nil_append] at hcl hTr2 hkn hk1 hk2
      subst hkn
      replace hcl := hcl
      have hentH := Lib.hid hent
      clear hent
      replace hin := Lib.hid hin
      replace hLl2 := Lib.hid hLl2
      replace hTl := Lib.hid hTl
      repeat' (first | with_reducible refine Go1.go ?_ | ((with_reducible apply ev_go); (focus ((try simp (disch := omega) only [push_cast, simprocAttr, *]); (try exact rfl); done))) | ((with_reducible apply (s_yield HY.out hJi.out hgy.out)); (focus ((try simp (disch := omega) only [push_cast, simprocAttr, *]); (try exact rfl); done)); (focus ((try simp (disch := omega) only [push_cast, simprocAttr, *]); (try exact rfl); done)); (focus first | exact LEL.refl _ | ((repeat' (first | exact LEL.nil | refine LEL.cons ?_ ?_ | exact LE.refl _ | exact LE.sl _ _ | refine LE.agg ?_)); done)); (focus (repeat (first | exact tl_nil | apply tl_cons)); done); all_goals (intro C' hC')) | ((with_reducible apply (w_drawQ [(b5, TB), (b, [.i nk, .i col, .str nm, .i ty, .b rq, .i k, .i n, .str sv, .sl .shared (lv.map V.cells), .sl .shared (order.map encI)])] 14)); (iterate 4 (focus kernel_rfl)); (focus (simp only [List.take_succ_cons, List.take_zero]; exact rfl)); (focus (simp only [List.drop_succ_cons, List.drop_zero]; exact rfl)); (focus ((repeat (first | exact keep_nil | refine keep_more (by (repeat (first | exact mm_h | apply mm_t)); done) ?_)); done)); intro hne; simp only [nes, ne1, and_assoc] at hne; repeat (have hq := hne.1; replace hne := hne.2)) | ((with_reducible refine Exists.intro [(b3, [.ar gs1 0 y.slots.length cS1, .ar gc1 0 y.cols.length cC1])] ?_); (with_reducible refine And.intro ?_ ?_); (focus ((repeat (first | exact keep_nil | refine keep_more (by (repeat (first | exact mm_h | apply mm_t)); done) ?_)); done))) | ((with_reducible refine And.intro ?_ ?_); (focus ((repeat (first | exact keep_nil | refine keep_more (by (repeat (first | exact mm_h | apply mm_t)); done) ?_)); done))) | ((with_reducible refine Exists.intro [] ?_); (with_reducible refine And.intro ?_ ?_); (focus exact keep_nil)) | ((with_reducible refine w_last ?_ ?_ ?_); kernel_rfl; rfl) | with_reducible refine Go2.go ?_ | ((with_reducible first | apply w_stepG | refine s_bi ?_ ?_ | refine blk_ne ?_ ?_); rfl) | ((with_reducible refine al_go ?_); intro b) | ((with_reducible apply (ck_gen hentH.out)); (focus (show List.Perm _ (VB b3 gs cS zS gc cC zC x (.box b 74 [.i nk, .i col, .str nm, .i ty, .b rq, .i k, .i n, .str sv, .sl .shared (lv.map V.cells), .sl .shared (order.map encI)] :: .box b5 97 TB :: .box tb 33 [.str t.name, .sl .shared SL, .sl .shared TL] :: C')); (repeat (first | exact List.Perm.refl _ | refine perm_cons_out (by repeat (first | exact out_here | apply out_there)) ?_)); done)); (focus exact hTr2.out _); (focus exact LEL.refl _); (focus exact hSR.out _); (rintro d st' (⟨hn1, rfl, rfl⟩ | ⟨y, gs1, cS1, zS1, gc1, cC1, zC1, hy, hz1, rfl, rfl⟩) <;> (try (have hgy := Lib.hid (hgY.out y hy); have hcy := Lib.hid (hcp.out y hy gs1 cS1 gc1 cC1 zS1 zC1); replace hy := Lib.hid hy)))) | ((with_reducible apply (ck_le Try.call72)); exact LEL.refl _; exact hcy.out _ (by repeat (first | exact mm_h | apply mm_t)) (by repeat (first | exact mm_h | apply mm_t))) | ((with_reducible first | refine w_region ?_ ?_ | refine w_dra ?_ ?_); kernel_rfl) | ((with_reducible refine Go3.go ?_ ?_); all_goals (intro hb; (try with_reducible intro hb1); (try (exfalso; first | contradiction | omega)))) | fail)
      · have hL1 : L.length = i + 1 := by rw [hLl2.out.out, hvn.out hn1]
        exact retA_mk (by first | exact .inl rfl | exact .inr rfl) (by first | rfl | assumption) (by (repeat (first | exact List.Sublist.refl _ | with_reducible apply List.Sublist.cons_cons | apply List.Sublist.cons))) (LE.refl _) ⟨[_], C', rfl, .inl ⟨rfl, by rw [hL1]; exact hJi.out⟩⟩
      · obtain ⟨q1, q2⟩ := hvw.out y hy.out
        refine ⟨i + 1, .box b3 38 [.ar gs1 0 y.slots.length cS1, .ar gc1 0 y.cols.length cC1] :: .box gs1 26 (slotC y.slots ++ zS1) :: .box gc1 3 (colC y.cols ++ zC1) :: .box b5 97 TB :: .box tb 33 [.str t.name, .sl .shared SL, .sl .shared TL] :: C', ?_, ⟨y, gs1, cS1, zS1, gc1, cC1, zC1, C', hlt, hz1, q1, q2, hC', ?_, ?_, ?_, ?_, ?_, ?_, ?_, ?_, rfl⟩, ?_⟩
        · (repeat (first | exact List.Sublist.refl _ | with_reducible apply List.Sublist.cons_cons | apply List.Sublist.cons))
        iterate 8 (focus (first | rfl | assumption | omega | (simp (disch := omega) only [push_cast, simprocAttr, *]; try omega; done)))
        · omega
      · exact retA_mk (by first | exact .inl rfl | exact .inr rfl) (by first | rfl | assumption) (by (repeat (first | exact List.Sublist.refl _ | with_reducible apply List.Sublist.cons_cons | apply List.Sublist.cons))) (LE.refl _) ⟨[_], C', rfl, .inr ⟨_, rfl, hC'⟩⟩
    · have hn1 : Sch.stepV x stp = none := by
        unfold Sch.stepV
        rw [if_neg (by omega), if_neg (by omega), if_neg (by omega), if_neg (by omega), if_neg (by omega)]
      rw [hn1] at hTd
      have hL1 : L.length = i + 1 := by
        rw [hLl2.out]
        have := congrArg List.length hTd
        rw [List.length_drop, List.length_nil] at this
        omega
      have hk' : stp.kind < 1 ∨ (1 ≤ stp.kind ∧ 5 < stp.kind) := by omega
      clear hTd hstp hk hn1 hTi hxi
      replace hL1 := Lib.hid hL1
      cases stp with
      | mk kd col slot order =>
      cases slot with
      | mk nm ty rq dv =>
      cases dv with
      | mk k n sv lv =>
      unfold Stp.cells at hcl
      rw [Sl.cells_mk] at hcl
      dsimp only [List.cons_append, List.nil_append] at hcl hk'
      have hb3 : TL.length ≤ 2000 ∧ i ≤ 2000 := by omega
      obtain ⟨hb3, hb4⟩ := hb3
      replace hTl := Lib.hid hTl
      replace hLl2 := Lib.hid hLl2
      replace hin := Lib.hid hin
      rcases hk' with hk1 | ⟨hk1, hk2⟩
      all_goals skip
      all_goals (
        repeat' (first | with_reducible refine Go1.go ?_ | ((with_reducible apply ev_go); (focus ((try simp (disch := omega) only [push_cast, simprocAttr, *]); (try exact rfl); done))) | ((with_reducible apply (w_drawN [(b, [.i kd, .i col, .str nm, .i ty, .b rq, .i k, .i n, .str sv, .sl .shared (lv.map V.cells), .sl .shared (order.map encI)])])); (iterate 3 (focus kernel_rfl)); (focus ((repeat (first | exact keep_nil | refine keep_more (by (repeat (first | exact mm_h | apply mm_t)); done) ?_)); done)); intro hne; simp only [nes, ne1, and_assoc] at hne; repeat (have hq := hne.1; replace hne := hne.2)) | ((with_reducible refine And.intro ?_ ?_); (focus ((repeat (first | exact keep_nil | refine keep_more (by (repeat (first | exact mm_h | apply mm_t)); done) ?_)); done))) | ((with_reducible refine w_last ?_ ?_ ?_); kernel_rfl; rfl) | with_reducible refine Go2.go ?_ | ((with_reducible first | apply w_stepG | refine s_bi ?_ ?_ | refine blk_ne ?_ ?_); rfl) | ((with_reducible refine al_go ?_); intro b) | ((with_reducible first | refine w_region ?_ ?_ | refine w_dra ?_ ?_); kernel_rfl) | ((with_reducible refine Go3.go ?_ ?_); all_goals (intro hb; (try with_reducible intro hb1); (try (exfalso; first | contradiction | omega)))) | fail)
        all_goals exact retA_mk (by first | exact .inl rfl | exact .inr rfl) (by first | rfl | assumption) (by (repeat (first | exact List.Sublist.refl _ | with_reducible apply List.Sublist.cons_cons | apply List.Sublist.cons))) (LE.refl _) ⟨[_], C', rfl, .inl ⟨rfl, by rw [hL1.out]; exact hJi.out⟩⟩)
  · have hL1 : L.length = i + 1 := by
      have h1 := hTi.out
      rw [List.drop_of_length_le (by omega), Sch.versL] at h1
      have := congrArg List.length h1
      rw [List.length_drop, List.length_nil] at this
      have hin : i < Vs.length := (List.getElem?_eq_some_iff.1 hxi.out).1
      rw [hLl2.out]; omega
    replace hL1 := Lib.hid hL1
    replace hTl := Lib.hid hTl
    replace hLl2 := Lib.hid hLl2
    repeat' (first | with_reducible refine Go1.go ?_ | ((with_reducible apply ev_go); (focus ((try simp (disch := omega) only [push_cast, simprocAttr, *]); (try exact rfl); done))) | ((with_reducible refine w_last ?_ ?_ ?_); kernel_rfl; rfl) | with_reducible refine Go2.go ?_ | ((with_reducible first | apply w_stepG | refine s_bi ?_ ?_ | refine blk_ne ?_ ?_); rfl) | ((with_reducible refine al_go ?_); intro b) | ((with_reducible first | refine w_region ?_ ?_ | refine w_dra ?_ ?_); kernel_rfl) | ((with_reducible refine Go3.go ?_ ?_); all_goals (intro hb; (try with_reducible intro hb1); (try (exfalso; first | contradiction | omega)))) | fail)
    all_goals exact retA_mk (by first | exact .inl rfl | exact .inr rfl) (by first | rfl | assumption) (by (repeat (first | exact List.Sublist.refl _ | with_reducible apply List.Sublist.cons_cons | apply List.Sublist.cons))) (LE.refl _) ⟨[_], C', rfl, .inl ⟨rfl, by rw [hL1.out]; exact hJi.out⟩⟩
end Go.Proofs.Ytooaagmhgakhgaa
end
