/- Texts put together: RefF, RefG, RefH, RefInts, RegP, BinRef, BinRef2, RegS, RegT, RulH, RulI, RulJ, RulK, RulL, RulM, SchP, SchGr, RegN, RulN, RulO, RulP, RulW, RulX. No statement is proved here. -/
import Derived.Test.YtgcienlfpnpbgaaGreatProg
import Derived.Deep.QuietTactic
import Derived.BigQuiet
import Derived.Test.YtgcienlfpnpbgaaGreatZ5
set_option linter.all false
section
namespace Go.Proofs.YtgcienlfpnpbgaaGreat
attribute [local push_cast] encB encI encC V.cells_mk V.cells_len Nat.mul_one Int.sub_zero List.map_nil beq_self_eq_true List.head?_cons
open Go.RowKit
set_option maxHeartbeats 4000000
set_option maxRecDepth 10000
def CopyC (x : Vr) (st : St) (d : D) (st' : St) : Prop := ∃ gc cC zC, (colC x.cols ++ zC).length = cC * 1 ∧ d = D.agg [.sl .shared (x.slots.map Sl.cells), .ar gc 0 x.cols.length cC] ∧ st' = Res.box gc 3 (colC x.cols ++ zC) :: st
theorem copyC_ex (x : Vr) (st : St) : ∃ d st', CopyC x st d st' := ⟨_, _, 0, x.cols.length, [], by rw [List.append_nil, colC_len], rfl, rfl⟩
theorem refCopyCF' (x : Vr) (h1 : 1 ≤ x.slots.length) (h2 : 1 ≤ x.cols.length) (hl : x.slots.length ≤ 1000) (hc : x.cols.length ≤ 1000) (st : St) : TrF Tryz.prog 195 [.agg x.cells] st (CopyC x st) :=
 (refCopyCF x h1 h2 hl hc st).mono fun d st' ⟨⟨gc, cC, zC⟩, k1, k2, k3⟩ => ⟨gc, cC, zC, k1, k2, k3⟩
def RawC (x : Vr) (s : Stp) (st : St) (d : D) (st' : St) : Prop := ∃ i : (Bool × Vr) × RI, (Sch.stepV x s = if i.1.1 then some i.1.2 else none) ∧ d = .tup [.agg [.sl .shared (i.1.2.slots.map Sl.cells), .ar i.2.1 0 i.1.2.cols.length i.2.2.1], .b i.1.1] ∧ st' = .box i.2.1 3 ((i.1.2.cols.map encC).flatten ++ i.2.2.2) :: st
theorem rawC_rest {x : Vr} {s : Stp} {st : St} {f : FuncId} {args : List D} (h : TrF Tryz.prog f args st (RawC x s st)) : TrF Tryz.prog f args st (RefStepR x s st) := by
 have h1 := TrF.rest (ι := (Bool × Vr) × RI) (g := fun i => i.2.1) (n := fun i => i.1.2.cols.length) (cap := fun i => i.2.2.1) (es := fun i => i.1.2.cols.map encC) (F' := fun i => .tup [.agg i.1.2.cells, .b i.1.1]) (sz := 1) (by decide) (fun i _ => ⟨cols_each i.1.2.cols, List.length_map ..⟩) (fun i => .tup _ _ (.cons _ _ _ _ (.agg _ _ (.cons _ _ _ _ (.same _) (.cons _ _ _ _ .ar .nil))) (.cons _ _ _ _ (.same _) .nil))) h
 refine h1.mono fun d st' ⟨i, k1, k2, k3⟩ => ?_
 obtain ⟨⟨ok, y⟩, i2⟩ := i
 cases ok with
 | true => exact .inr ⟨y, k1, k2, k3⟩
 | false => exact .inl ⟨k1, _, _, k2, k3⟩
theorem count_take {l : List Int} {i : Nat} {a k : Int} (h : l[i]? = some a) : (l.take (i + 1)).count k = (l.take i).count k + if a = k then 1 else 0 := by
 rw [List.take_add_one, h, Option.toList_some, List.count_append, List.count_singleton]
 congr 1
 by_cases e : a = k
 · rw [if_pos e, if_pos (by simp [e])]
 · rw [if_neg e, if_neg (by simp [e])]
theorem refReorderF (x : Vr) (s : Stp) (h : RefP x s) (hnd : x.cols.Nodup) (hk : s.kind = 5) (st : St) : TrF Tryz.prog 164 [.agg x.cells, .agg s.cells] st (RefStepR x s st) := by
 refine rawC_rest ?_
 obtain ⟨⟨hl, hp, hcp, hcl, hcs⟩, hq, hty, ho⟩ := h
 have hC := refCopyCF' x hp hcp hl (by omega)
 have hE := copyC_ex x
 have hR := refRestF s hq.ok (by omega) ho
 have hF : Hid (Sch.stepV x s = Sch.reorderS x s) := Lib.hid (by unfold Sch.stepV; rw [if_neg (show ¬ s.kind = 1 by omega), if_neg (show ¬ s.kind = 2 by omega), if_neg (show ¬ s.kind = 3 by omega), if_neg (show ¬ s.kind = 4 by omega), if_pos hk])
 have hrv : Sch.restV s = (Sch.bare s.slot false false && (s.col == 0)) := by unfold Sch.restV; rw [if_neg (show ¬ s.kind = 1 by omega), if_neg (show ¬ s.kind = 2 by omega), if_neg (show ¬ s.kind = 3 by omega), if_neg (show ¬ s.kind = 4 by omega)]
 rw [hrv] at hR
 clear hrv
 unfold RawC
 have hC := fun st => hC st
 unfold CopyC at hC hE
 have l2 : (x.cols.map encC).length = x.cols.length := List.length_map ..
 unfold Sch.reorderS at hF
 by_cases hb : Sch.bare s.slot false false = true ∧ s.col = 0
 · obtain ⟨hb1, hb2⟩ := hb
   rw [hb1, hb2] at hR hF
   by_cases hol : s.order.length = x.cols.length
   · have hF2 : Hid (Sch.stepV x s = if ∀ k : Nat, k < x.cols.length → s.order.count (k : Int) = 1 then some ⟨x.slots, Sch.put x.cols s.order⟩ else none) := Lib.hid (by
      rw [hF.out, if_pos ⟨rfl, rfl, hol⟩, Sch.reo_count hnd hol]
      split <;> rfl)
     obtain ⟨y, hy⟩ : ∃ y : Vr, y = ⟨x.slots, Sch.put x.cols s.order⟩ := ⟨_, rfl⟩
     rw [← hy] at hF2
     have hys : Hid (y.slots = x.slots) := Lib.hid (by rw [hy])
     have hyc : Hid (y.cols = Sch.put x.cols s.order) := Lib.hid (by rw [hy])
     have hget := Lib.hid fun (i : Nat) (a : Int) (h : s.order[i]? = some a) => h
     have hrl := colC_len x.cols
     have hdup := Lib.hid hnd
     clear hF hy hcs hq hty hnd
     unfold Vr.cells Stp.cells at *
     generalize Sch.stepV x s = F at *
     cases s with
     | mk kd col slot order =>
     cases slot with
     | mk nm ty rq dv =>
     cases dv with
     | mk k n sv lv =>
     dsimp only at hC hE hR hF2 hk ho hb2 hol hyc hget ⊢
     subst hk
     rw [Sl.cells_mk] at *
     dsimp only [List.cons_append, List.nil_append] at *
     generalize r2e : colC x.cols = R2 at *
     generalize m1e : x.slots.length = m1 at *
     generalize m2e : x.cols.length = m2 at *
     generalize hL1 : x.slots.map Sl.cells = L1 at *
     generalize hL2 : x.cols.map encC = L2 at *
     have r2e : Hid ((x.cols.map encC).flatten = R2) := r2e
     replace m1e := Lib.hid m1e
     replace m2e := Lib.hid m2e
     replace hL1 := Lib.hid hL1
     replace hL2 := Lib.hid hL2
     replace hC := Lib.hid hC
     replace hE := Lib.hid hE
     replace hR := Lib.hid hR
     subst hb2
     replace hb1 := Lib.hid hb1
     refine trF_enterG (G := twoA Tryz.prog (.cell 4 147) (.tmp 5)) Tryz.func164 rfl (by rw [Tryz.ntmps164]; exact Nat.le_of_ble_eq_true rfl) (fun h1 h2 h3 => res_two rfl h1 h2 h3) ?_
     simp only [Tryz.ntmps164]
     repeat' (first | (with_reducible first | refine Q1 ?_ | refine Qe ?_ | refine QQ ?_ | (refine al_go ?_; intro b) | (refine QD ?_ <;> (try constructor) <;> intro hb <;> try intro hb1) | fail) | ((with_reducible apply (ck_gen Tryz.call195)); (focus exact List.Perm.refl _); (focus exact hC.out _); (focus exact LEL.refl _); (focus exact hE.out _); (rintro d st' ⟨gc, cC, zC, hz2, rfl, rfl⟩; (obtain ⟨b4, rfl⟩ : ∃ q, q = b := ⟨_, rfl⟩))) | fail)
     obtain ⟨b6, rfl⟩ : ∃ q, q = b := ⟨_, rfl⟩
     refine tr_loopd (ι := Nat) (fun j A st' => j ≤ m2 ∧ Hid (∀ j' : Nat, j' < j → order.count (j' : Int) = 1) ∧ A.df = [] ∧ A.e 2 = .ip [.sl .shared L1, .sl .shared L2] ∧ A.e 3 = .ip [.i 5, .i 0, .str nm, .i ty, .b rq, .i k, .i n, .str sv, .sl .shared (lv.map V.cells), .sl .shared (order.map encI)] ∧ A.e 4 = .ptr b4 0 ∧ A.e 6 = .ptr b6 0 ∧ A.e 11 = .i j ∧ st' = .box b6 147 [.sl .shared L1, .ar gc 0 m2 cC] :: .box gc 3 (R2 ++ zC) :: .box b4 147 [.sl .tight [], .sl .tight []] :: st) (fun j => m2 - j) 0 ⟨Nat.zero_le _, fun j h => absurd h (Nat.not_lt_zero _), Qf, Qf, Qf, Qf, Qf, Qf, rfl⟩ ?_
     rintro j A st' ⟨hj, hcn, hdf, e2, e3, e4, e6, e11, rfl⟩
     by_cases hjl : j < m2
     · repeat' (with_reducible first | refine Q1 ?_ | refine Qe ?_ | refine QQ ?_ | (refine al_go ?_; intro b) | (refine QD ?_ <;> (try constructor) <;> intro hb <;> try intro hb1) | fail)
       refine tr_loopd (ι := Nat) (fun i A st' => i ≤ m2 ∧ A.df = [] ∧ A.e 2 = .ip [.sl .shared L1, .sl .shared L2] ∧ A.e 3 = .ip [.i 5, .i 0, .str nm, .i ty, .b rq, .i k, .i n, .str sv, .sl .shared (lv.map V.cells), .sl .shared (order.map encI)] ∧ A.e 4 = .ptr b4 0 ∧ A.e 6 = .ptr b6 0 ∧ A.e 11 = .i j ∧ A.e 13 = .i i ∧ (∃ q : Nat, q ≤ i ∧ Hid ((order.take i).count (j : Int) = q) ∧ A.e 12 = .i q) ∧ st' = .box b6 147 [.sl .shared L1, .ar gc 0 m2 cC] :: .box gc 3 (R2 ++ zC) :: .box b4 147 [.sl .tight [], .sl .tight []] :: st) (fun i => m2 - i) 0 ⟨Nat.zero_le _, Qf, Qf, Qf, Qf, Qf, Qf, Qf, ⟨0, Nat.le_refl _, rfl, Qf⟩, rfl⟩ ?_
       clear hdf e2 e3 e4 e6 e11
       rintro i A st' ⟨hi, hdf, e2, e3, e4, e6, e11, e13, ⟨q, hqi, hqc, e12⟩, rfl⟩
       by_cases hil : i < m2
       · obtain ⟨a, ha⟩ := gEx (l := order) (i := i) (by omega)
         have hct := count_take (k := (j : Int)) ha
         have hac : (order.map encI)[i]? = some [D.i a] := by rw [List.getElem?_map, ha]; rfl
         have hml : (order.map encI).length = order.length := List.length_map ..
         rw [hqc.out] at hct
         by_cases haj : a = (j : Int)
         · rw [if_pos haj] at hct
           replace hct := Lib.hid hct
           clear ha
           generalize order.map encI = OL at *
           repeat' (with_reducible first | refine Q1 ?_ | refine Qe ?_ | refine QQ ?_ | (refine al_go ?_; intro b) | (refine QD ?_ <;> (try constructor) <;> intro hb <;> try intro hb1) | fail)
           refine ⟨i + 1, _, List.Sublist.refl _, ⟨hil, ?_, ?_, ?_, ?_, ?_, ?_, ?_, ⟨q + 1, by omega, hct, ?_⟩, rfl⟩, by omega⟩
           all_goals exact Qf
         · rw [if_neg haj, Nat.add_zero] at hct
           replace hct := Lib.hid hct
           clear ha
           generalize order.map encI = OL at *
           repeat' (with_reducible first | refine Q1 ?_ | refine Qe ?_ | refine QQ ?_ | (refine al_go ?_; intro b) | (refine QD ?_ <;> (try constructor) <;> intro hb <;> try intro hb1) | fail)
           refine ⟨i + 1, _, List.Sublist.refl _, ⟨hil, ?_, ?_, ?_, ?_, ?_, ?_, ?_, ⟨q, by omega, hct, ?_⟩, rfl⟩, by omega⟩
           all_goals exact Qf
       · have him : i = m2 := by omega
         have hq := hqc.out
         rw [List.take_of_length_le (by omega)] at hq
         replace hol := Lib.hid hol
         replace him := Lib.hid him
         have hil' : ¬ (i : Int) < order.length := by have := hol.out; have := him.out; omega
         by_cases hq1 : q = 1
         · have hcn2 : Hid (∀ j' : Nat, j' < j + 1 → order.count (j' : Int) = 1) := fun j' h => by
            by_cases e : j' = j
            · subst e; rw [hq, hq1]
            · exact hcn.out j' (by omega)
           subst hq1
           replace hq := Lib.hid hq
           repeat' (with_reducible first | refine Q1 ?_ | refine Qe ?_ | refine QQ ?_ | (refine al_go ?_; intro b) | (refine QD ?_ <;> (try constructor) <;> intro hb <;> try intro hb1) | fail)
           refine ⟨j + 1, _, List.Sublist.refl _, ⟨hjl, hcn2, ?_, ?_, ?_, ?_, ?_, ?_, rfl⟩, by omega⟩
           all_goals exact Qf
         · have hFn : Hid (F = none) := Lib.hid (by rw [hF2.out, if_neg fun h => hq1 (hq.symm.trans (h j hjl))])
           replace hq := Lib.hid hq
           repeat' (with_reducible first | refine Q1 ?_ | refine Qe ?_ | refine QQ ?_ | (refine al_go ?_; intro b) | (refine QD ?_ <;> (try constructor) <;> intro hb <;> try intro hb1) | fail)
           all_goals (refine retG_mk (rs := []) (by first | exact .inl rfl | exact .inr rfl) (by first | rfl | assumption) (.swap _ _ _) ⟨_, _, rfl, cell_mk (by simp (disch := omega) only [push_cast, simprocAttr, *]; exact rfl) (by repeat (first | exact mm_h | apply mm_t)) (by simp (disch := omega) only [push_cast, simprocAttr, *]; exact rfl) (by (try simp (disch := omega) only [push_cast, simprocAttr, *]); (try exact rfl); done), (by show _ = _; (try simp (disch := omega) only [push_cast, simprocAttr, *]); (try exact rfl); done)⟩ (((List.Sublist.refl _).cons _).cons _ |>.cons_cons _) (LE.refl _) ⟨((false, x), (gc, cC, zC)), hFn.out, by simp only [m2e.out, hL1.out], by simp only [r2e.out]⟩)
     · have hjm : j = m2 := by omega
       have hFy : Hid (F = some y) := Lib.hid (by rw [hF2.out, if_pos (fun k h => hcn.out k (by omega))])
       have hrng : Hid (∀ a ∈ order, 0 ≤ a ∧ a < (m2 : Int)) := Lib.hid (Sch.all_len m2 order hol fun k h => List.count_pos_iff.1 (by rw [hcn.out k (by omega)]; omega)).2
       obtain ⟨CL, hCL⟩ : ∃ CL : Nat → List Nat, CL = fun i => Sch.put x.cols (order.take i) ++ x.cols.drop i := ⟨_, rfl⟩
       have hc0 : Hid (colC (CL 0) = R2) := Lib.hid (by rw [← r2e.out, hCL]; rfl)
       have hce : Hid (CL m2 = y.cols) := Lib.hid (by
        rw [hCL, hyc.out]
        show Sch.put x.cols (order.take m2) ++ x.cols.drop m2 = _
        rw [List.take_of_length_le (by omega), List.drop_of_length_le (by rw [m2e.out]; omega), List.append_nil])
       have hcl1 : Hid (∀ i, i ≤ m2 → (CL i).length = m2) := fun i h => by
        rw [hCL]
        show (Sch.put x.cols (order.take i) ++ x.cols.drop i).length = m2
        rw [List.length_append, List.length_drop, m2e.out, Sch.put, List.length_map, List.length_take]; omega
       have hnx : Hid (∀ (i an : Nat), order[i]? = some (an : Int) → an < m2 → ∃ c, x.cols[an]? = some c ∧ (CL i).set i c = CL (i + 1)) := fun i an h hlt => by
        have hi := (List.getElem?_eq_some_iff.1 h).1
        obtain ⟨c, hc⟩ : ∃ c, x.cols[an]? = some c := ⟨_, List.getElem?_eq_getElem (by rw [m2e.out]; exact hlt)⟩
        refine ⟨c, hc, ?_⟩
        have him : i < x.cols.length := by rw [m2e.out]; omega
        have hpl : (Sch.put x.cols (order.take i)).length = i := by rw [Sch.put, List.length_map, List.length_take]; omega
        rw [hCL]
        show (Sch.put x.cols (order.take i) ++ x.cols.drop i).set i c = Sch.put x.cols (order.take (i + 1)) ++ x.cols.drop (i + 1)
        rw [List.set_append_right i c (by omega), hpl, Nat.sub_self, List.drop_eq_getElem_cons him, List.set_cons_zero]
        rw [show Sch.put x.cols (order.take (i + 1)) = Sch.put x.cols (order.take i) ++ [c] by
         rw [List.take_add_one, h, Option.toList_some, Sch.put, List.map_append]
         show _ ++ [x.cols.getD ((an : Int)).toNat 0] = _
         rw [Int.toNat_natCast, List.getD_eq_getElem?_getD, hc]; rfl]
        rw [List.append_assoc]; rfl
       have hL2g : Hid (∀ (an c : Nat), x.cols[an]? = some c → L2[an]? = some [D.i c]) := fun an c h => by rw [← hL2.out, List.getElem?_map, h]; rfl
       have hrow : Hid (∀ (i c : Nat), i < m2 → List.take i (colC (CL i) ++ zC) ++ [D.i c] ++ List.drop (i + 1) (colC (CL i) ++ zC) = colC ((CL i).set i c) ++ zC) := fun i c h => by
        obtain ⟨w, hw⟩ : ∃ w, (CL i)[i]? = some w := ⟨_, List.getElem?_eq_getElem (by rw [hcl1.out i (by omega)]; exact h)⟩
        have h2 := row_splice (sz := 1) (o := 0) (e := [D.i w]) (ds := [D.i c]) zC ((CL i).map encC) i (cols_each _) (by rw [List.getElem?_map, hw]; rfl) (by simp)
        rw [Nat.mul_one, Nat.add_zero] at h2
        have h3 : ((CL i).map encC).set i (splice [D.i w] 0 [D.i c]) = ((CL i).set i c).map encC := by rw [List.map_set]; rfl
        rw [h3] at h2
        exact h2
       have hrl2 : Hid (∀ i, i ≤ m2 → (colC (CL i) ++ zC).length = cC * 1) := fun i h => by
        have h2 := hz2
        rw [List.length_append] at h2
        rw [List.length_append, colC_len, hcl1.out i h]
        omega
       have hcCm : m2 ≤ cC := by
        have h2 := hz2
        rw [List.length_append] at h2
        omega
       replace hjm := Lib.hid hjm
       clear hcn hF2 hCL
       repeat' (with_reducible first | refine Q1 ?_ | refine Qe ?_ | refine QQ ?_ | (refine al_go ?_; intro b) | (refine QD ?_ <;> (try constructor) <;> intro hb <;> try intro hb1) | fail)
       refine tr_loopd (ι := Nat) (fun i A st' => i ≤ m2 ∧ A.df = [] ∧ A.e 2 = .ip [.sl .shared L1, .sl .shared L2] ∧ A.e 3 = .ip [.i 5, .i 0, .str nm, .i ty, .b rq, .i k, .i n, .str sv, .sl .shared (lv.map V.cells), .sl .shared (order.map encI)] ∧ A.e 4 = .ptr b4 0 ∧ A.e 6 = .ptr b6 0 ∧ A.e 14 = .i i ∧ st' = .box b6 147 [.sl .shared L1, .ar gc 0 m2 cC] :: .box gc 3 (colC (CL i) ++ zC) :: .box b4 147 [.sl .tight [], .sl .tight []] :: st) (fun i => m2 - i) 0 ⟨Nat.zero_le _, Qf, Qf, Qf, Qf, Qf, Qf, by rw [hc0.out]⟩ ?_
       clear hdf e2 e3 e4 e6 e11
       rintro i A st' ⟨hi, hdf, e2, e3, e4, e6, e14, rfl⟩
       have hzl := hrl2.out i hi
       by_cases hil : i < m2
       · obtain ⟨a, ha⟩ := gEx (l := order) (i := i) (by omega)
         obtain ⟨ha1, ha2⟩ := hrng.out a (List.mem_of_getElem? ha)
         obtain ⟨an, rfl⟩ := Int.eq_ofNat_of_zero_le ha1
         obtain ⟨c, hc1, hc2⟩ := hnx.out i an ha (by omega)
         have hg := hL2g.out an c hc1
         have hac : (order.map encI)[i]? = some [D.i an] := by rw [List.getElem?_map, ha]; rfl
         have hml : (order.map encI).length = order.length := List.length_map ..
         have hsp := hrow.out i c hil
         rw [hc2] at hsp
         have hanl : an < m2 := by omega
         clear hc1 hc2 ha
         generalize hQ1 : colC (CL i) = QA1 at *
         generalize hQ2 : colC (CL (i + 1)) = QA2 at *
         generalize order.map encI = OL at *
         replace hQ1 := Lib.hid hQ1
         have hQ2 := Lib.hid hQ2
         repeat' (first | (with_reducible first | refine Q1 ?_ | refine Qe ?_ | fail) | ((with_reducible apply (w_drawN [(b6, [.sl .shared L1, .ar gc 0 m2 cC])])); (iterate 3 (focus kernel_rfl)); (focus ((repeat (first | exact keep_nil | refine keep_more (by (repeat (first | exact mm_h | apply mm_t)); done) ?_)); done)); intro hne; simp only [nes, ne1, and_assoc] at hne; repeat (have hq := hne.1; replace hne := hne.2)) | ((with_reducible refine And.intro ?_ ?_); (focus ((repeat (first | exact keep_nil | refine keep_more (by (repeat (first | exact mm_h | apply mm_t)); done) ?_)); done))) | (with_reducible first | refine QQ ?_ | (refine al_go ?_; intro b) | (refine QD ?_ <;> (try constructor) <;> intro hb <;> try intro hb1) | fail) | fail)
         refine ⟨i + 1, .box b6 147 [.sl .shared L1, .ar gc 0 m2 cC] :: .box gc 3 (QA2 ++ zC) :: .box b4 147 [.sl .tight [], .sl .tight []] :: st, List.Sublist.refl _, ⟨hil, ?_, ?_, ?_, ?_, ?_, ?_, by rw [hQ2.out]⟩, by omega⟩
         all_goals exact Qf
       · have him : i = m2 := by omega
         subst him
         generalize hQ1 : colC (CL i) = QA1 at *
         have hQ1 := Lib.hid hQ1
         repeat' (with_reducible first | refine Q1 ?_ | refine Qe ?_ | refine QQ ?_ | (refine al_go ?_; intro b) | (refine QD ?_ <;> (try constructor) <;> intro hb <;> try intro hb1) | fail)
         all_goals (refine retG_mk (rs := []) (by first | exact .inl rfl | exact .inr rfl) (by first | rfl | assumption) (.swap _ _ _) ⟨_, _, rfl, cell_mk (by simp (disch := omega) only [push_cast, simprocAttr, *]; exact rfl) (by repeat (first | exact mm_h | apply mm_t)) (by simp (disch := omega) only [push_cast, simprocAttr, *]; exact rfl) (by (try simp (disch := omega) only [push_cast, simprocAttr, *]); (try exact rfl); done), (by show _ = _; (try simp (disch := omega) only [push_cast, simprocAttr, *]); (try exact rfl); done)⟩ (((List.Sublist.refl _).cons _).cons _ |>.cons_cons _) (LE.refl _) ⟨((true, y), (gc, cC, zC)), hFy.out, by simp only [hys.out, hL1.out, ← hce.out, hcl1.out _ (Nat.le_refl _)], by rw [← hce.out, ← hQ1.out]; rfl⟩)
   · have hFn : Hid (Sch.stepV x s = none) := Lib.hid (by
      rw [hF.out, if_neg]
      rintro ⟨-, -, h⟩
      exact hol h)
     clear hF hcs hq hty hnd
     unfold Vr.cells Stp.cells at *
     generalize Sch.stepV x s = F at *
     cases s with
     | mk kd col slot order =>
     cases slot with
     | mk nm ty rq dv =>
     cases dv with
     | mk k n sv lv =>
     dsimp only at hC hE hR hk ho hb2 hol ⊢
     subst hk
     rw [Sl.cells_mk] at *
     dsimp only [List.cons_append, List.nil_append] at *
     generalize r2e : colC x.cols = R2 at *
     generalize m1e : x.slots.length = m1 at *
     generalize m2e : x.cols.length = m2 at *
     generalize hL1 : x.slots.map Sl.cells = L1 at *
     generalize hL2 : x.cols.map encC = L2 at *
     have r2e : Hid ((x.cols.map encC).flatten = R2) := r2e
     replace m1e := Lib.hid m1e
     replace m2e := Lib.hid m2e
     replace hL1 := Lib.hid hL1
     replace hL2 := Lib.hid hL2
     replace hC := Lib.hid hC
     replace hE := Lib.hid hE
     replace hR := Lib.hid hR
     subst hb2
     replace hb1 := Lib.hid hb1
     have hol' : ¬ (order.length : Int) = (m2 : Int) := by omega
     clear hol
     refine trF_enterG (G := twoA Tryz.prog (.cell 4 147) (.tmp 5)) Tryz.func164 rfl (by rw [Tryz.ntmps164]; exact Nat.le_of_ble_eq_true rfl) (fun h1 h2 h3 => res_two rfl h1 h2 h3) ?_
     simp only [Tryz.ntmps164]
     repeat' (first | (with_reducible first | refine Q1 ?_ | refine Qe ?_ | refine QQ ?_ | (refine al_go ?_; intro b) | (refine QD ?_ <;> (try constructor) <;> intro hb <;> try intro hb1) | fail) | ((with_reducible apply (ck_gen Tryz.call195)); (focus exact List.Perm.refl _); (focus exact hC.out _); (focus exact LEL.refl _); (focus exact hE.out _); (rintro d st' ⟨gc, cC, zC, hz2, rfl, rfl⟩; (obtain ⟨b4, rfl⟩ : ∃ q, q = b := ⟨_, rfl⟩))) | fail)
     all_goals (refine retG_mk (rs := []) (by first | exact .inl rfl | exact .inr rfl) (by first | rfl | assumption) (.swap _ _ _) ⟨_, _, rfl, cell_mk (by simp (disch := omega) only [push_cast, simprocAttr, *]; exact rfl) (by repeat (first | exact mm_h | apply mm_t)) (by simp (disch := omega) only [push_cast, simprocAttr, *]; exact rfl) (by (try simp (disch := omega) only [push_cast, simprocAttr, *]); (try exact rfl); done), (by show _ = _; (try simp (disch := omega) only [push_cast, simprocAttr, *]); (try exact rfl); done)⟩ (((List.Sublist.refl _).cons _).cons _ |>.cons_cons _) (LE.refl _) ⟨((false, x), (gc, cC, zC)), hFn.out, by simp only [m2e.out, hL1.out], by simp only [r2e.out]⟩)
 · have hrr : (Sch.bare s.slot false false && (s.col == 0)) = false := by
    cases h1 : Sch.bare s.slot false false with
    | false => rfl
    | true => rw [Bool.true_and, beq_eq_false_iff_ne]; exact fun h2 => hb ⟨h1, h2⟩
   rw [hrr] at hR
   have hFn : Hid (Sch.stepV x s = none) := Lib.hid (by
    rw [hF.out, if_neg]
    rintro ⟨h1, h2, -⟩
    exact hb ⟨h2, h1⟩)
   clear hF hcs hb hrr hq hty hnd
   unfold Vr.cells Stp.cells at *
   generalize Sch.stepV x s = F at *
   cases s with
   | mk kd col slot order =>
   cases slot with
   | mk nm ty rq dv =>
   cases dv with
   | mk k n sv lv =>
   dsimp only at hC hE hR hk ho ⊢
   subst hk
   rw [Sl.cells_mk] at *
   dsimp only [List.cons_append, List.nil_append] at *
   generalize r2e : colC x.cols = R2 at *
   generalize m1e : x.slots.length = m1 at *
   generalize m2e : x.cols.length = m2 at *
   generalize hL1 : x.slots.map Sl.cells = L1 at *
   generalize hL2 : x.cols.map encC = L2 at *
   have r2e : Hid ((x.cols.map encC).flatten = R2) := r2e
   replace m1e := Lib.hid m1e
   replace m2e := Lib.hid m2e
   replace hL1 := Lib.hid hL1
   replace hL2 := Lib.hid hL2
   replace hC := Lib.hid hC
   replace hE := Lib.hid hE
   replace hR := Lib.hid hR
   refine trF_enterG (G := twoA Tryz.prog (.cell 4 147) (.tmp 5)) Tryz.func164 rfl (by rw [Tryz.ntmps164]; exact Nat.le_of_ble_eq_true rfl) (fun h1 h2 h3 => res_two rfl h1 h2 h3) ?_
   simp only [Tryz.ntmps164]
   repeat' (first | (with_reducible first | refine Q1 ?_ | refine Qe ?_ | refine QQ ?_ | (refine al_go ?_; intro b) | (refine QD ?_ <;> (try constructor) <;> intro hb <;> try intro hb1) | fail) | ((with_reducible apply (ck_gen Tryz.call195)); (focus exact List.Perm.refl _); (focus exact hC.out _); (focus exact LEL.refl _); (focus exact hE.out _); (rintro d st' ⟨gc, cC, zC, hz2, rfl, rfl⟩; (obtain ⟨b4, rfl⟩ : ∃ q, q = b := ⟨_, rfl⟩))) | fail)
   all_goals (refine retG_mk (rs := []) (by first | exact .inl rfl | exact .inr rfl) (by first | rfl | assumption) (.swap _ _ _) ⟨_, _, rfl, cell_mk (by simp (disch := omega) only [push_cast, simprocAttr, *]; exact rfl) (by repeat (first | exact mm_h | apply mm_t)) (by simp (disch := omega) only [push_cast, simprocAttr, *]; exact rfl) (by (try simp (disch := omega) only [push_cast, simprocAttr, *]); (try exact rfl); done), (by show _ = _; (try simp (disch := omega) only [push_cast, simprocAttr, *]); (try exact rfl); done)⟩ (((List.Sublist.refl _).cons _).cons _ |>.cons_cons _) (LE.refl _) ⟨((false, x), (gc, cC, zC)), hFn.out, by simp only [m2e.out, hL1.out], by simp only [r2e.out]⟩)
theorem refOutF (x : Vr) (s : Stp) (h : RefP x s) (hk : s.kind < 1 ∨ 5 < s.kind) (st : St) : TrF Tryz.prog 164 [.agg x.cells, .agg s.cells] st (RefStepR x s st) := by
 obtain ⟨⟨hl, hp, hcp, hcl, hcs⟩, hq, hty, ho⟩ := h
 have hC := refCopyAF x hp hcp hl (by omega)
 have hFn : Hid (Sch.stepV x s = none) := Lib.hid (by unfold Sch.stepV; rw [if_neg (show ¬ s.kind = 1 by omega), if_neg (show ¬ s.kind = 2 by omega), if_neg (show ¬ s.kind = 3 by omega), if_neg (show ¬ s.kind = 4 by omega), if_neg (show ¬ s.kind = 5 by omega)])
 unfold RefStepR
 unfold Vr.cells Stp.cells at *
 generalize Sch.stepV x s = F at *
 have hk' : s.kind < 1 ∨ (1 ≤ s.kind ∧ 5 < s.kind) := by omega
 clear hk hq hty hcs
 cases s with
 | mk kd col slot order =>
 cases slot with
 | mk nm ty rq dv =>
 cases dv with
 | mk k n sv lv =>
 dsimp only at hC hk' ho ⊢
 rw [Sl.cells_mk] at *
 dsimp only [List.cons_append, List.nil_append] at *
 generalize x.slots.map Sl.cells = L1 at *
 generalize x.cols.map encC = L2 at *
 replace hC := Lib.hid hC
 rcases hk' with h1 | ⟨h1, h2⟩
 all_goals skip
 all_goals (
  refine trF_enterG (G := twoA Tryz.prog (.cell 4 147) (.tmp 5)) Tryz.func164 rfl (by rw [Tryz.ntmps164]; exact Nat.le_of_ble_eq_true rfl) (fun h1 h2 h3 => res_two rfl h1 h2 h3) ?_
  simp only [Tryz.ntmps164]
  repeat' (with_reducible first | refine Q1 ?_ | refine Qe ?_ | refine QQ ?_ | (refine al_go ?_; intro b) | (refine QD ?_ <;> (try constructor) <;> intro hb <;> try intro hb1) | fail)
  all_goals (refine retG_mk (rs := []) (by first | exact .inl rfl | exact .inr rfl) (by first | rfl | assumption) (List.Perm.refl _) ⟨_, _, rfl, cell_mk (by simp (disch := omega) only [push_cast, simprocAttr, *]; exact rfl) (by repeat (first | exact mm_h | apply mm_t)) (by simp (disch := omega) only [push_cast, simprocAttr, *]; exact rfl) (by (try simp (disch := omega) only [push_cast, simprocAttr, *]); (try exact rfl); done), (by show _ = _; (try simp (disch := omega) only [push_cast, simprocAttr, *]); (try exact rfl); done)⟩ (by (repeat (first | exact List.Sublist.refl _ | with_reducible apply List.Sublist.cons_cons | apply List.Sublist.cons))) (LE.refl _) (.inl ⟨hFn.out, _, _, rfl, rfl⟩)))
theorem refStepF (x : Vr) (s : Stp) (h : RefP x s) (hnd : x.cols.Nodup) (hxt : ∀ z ∈ x.slots, Sch.takes z.types = true) (st : St) : TrF Tryz.prog 164 [.agg x.cells, .agg s.cells] st (RefStepR x s st) := by
 by_cases h1 : s.kind = 1
 · exact refAddF x s h h1 st
 by_cases h2 : s.kind = 2
 · exact refLoseF x s h h2 st
 by_cases h3 : s.kind = 3
 · exact refRenameF x s h h3 st
 by_cases h4 : s.kind = 4
 · exact refWidenF x s h hxt h4 st
 by_cases h5 : s.kind = 5
 · exact refReorderF x s h hnd h5 st
 exact refOutF x s h (by omega) st
namespace Sch
theorem step_nd {x y : Vr} {s : Stp} (hb : ∀ c ∈ x.cols, c < x.slots.length) (hx : x.cols.Nodup) (h : stepV x s = some y) : y.cols.Nodup := by
 unfold stepV at h
 split at h
 · unfold addS at h
   split at h
   · cases h
     show (x.cols ++ [x.slots.length]).Nodup
     rw [List.nodup_append]
     refine ⟨hx, by simp, fun a ha b hb' e => ?_⟩
     rw [List.mem_singleton] at hb'
     subst hb' e
     have := hb _ ha
     omega
   · cases h
 · split at h
   · unfold loseS at h
     split at h
     · cases h; exact hx.eraseIdx _
     · cases h
   · split at h
     · unfold renameS at h
       split at h
       · cases h; exact hx
       · cases h
     · split at h
       · unfold widenS at h
         split at h
         · cases h; exact hx
         · cases h
       · split at h
         · unfold reorderS at h
           split at h
           · rename_i hc
             have hl : s.order.length = x.cols.length := hc.2.2
             rw [reo_count hx hl] at h
             split at h
             · rename_i hq
               cases h
               obtain ⟨h1, h2⟩ := all_len x.cols.length s.order hl fun k hk => List.count_pos_iff.1 (by rw [hq k hk]; omega)
               show (put x.cols s.order).Nodup
               unfold put
               rw [List.nodup_iff_pairwise_ne, List.pairwise_map]
               refine List.Pairwise.imp_of_mem (fun {a b} ha hb hab e => ?_) h1
               exact hab (getD_inj hx (h2 a ha) (h2 b hb) e)
             · cases h
           · cases h
         · cases h
structure VZ (n : Nat) (x : Vr) : Prop where
 vi : VI n x
 nd : x.cols.Nodup
 sl : ∀ z ∈ x.slots, SOk z
theorem firstL_nd : ∀ (l : List Sl) (x y : Vr), (∀ c ∈ x.cols, c < x.slots.length) → x.cols.Nodup → (∀ z ∈ x.slots, SOk z) → firstL l x = some y → y.cols.Nodup ∧ ∀ z ∈ y.slots, SOk z
 | [], x, y, _, h2, h3, h => by cases h; exact ⟨h2, h3⟩
 | s :: l, x, y, h1, h2, h3, h => by
  rw [firstL] at h
  split at h
  · rename_i hc
    refine firstL_nd l _ y (fun c hc => ?_) ?_ (fun z hz => ?_) h
    · rcases List.mem_append.1 hc with h | h
      · have := h1 c h; simp; omega
      · rw [List.mem_singleton] at h
        subst h; simp
    · show (x.cols ++ [x.slots.length]).Nodup
      rw [List.nodup_append]
      refine ⟨h2, by simp, fun a ha b hb' e => ?_⟩
      rw [List.mem_singleton] at hb'
      subst hb' e
      have := h1 _ ha
      omega
    · rcases List.mem_append.1 hz with h | h
      · exact h3 z h
      · rw [List.mem_singleton] at h
        subst h; exact sound_ok hc.1
  · cases h
theorem first_vz {t : Tm} {x : Vr} (h : firstV t = some x) : VZ 8 x := by
 have hv := (first_vi h).1
 unfold firstV at h
 split at h
 · obtain ⟨h1, h2⟩ := firstL_nd _ _ _ (fun c h => by cases h) List.nodup_nil (fun z h => by cases h) h
   exact ⟨hv, h1, h2⟩
 · cases h
theorem step_vz {n : Nat} {x y : Vr} {s : Stp} (hx : VZ n x) (h : stepV x s = some y) : VZ (n + 1) y :=
 ⟨step_vi hx.vi h, step_nd hx.vi.cs hx.nd h, (step_grow hx.sl h).2⟩
end Sch
structure TQ (t : Tm) : Prop where
 ls : t.slots.length ≤ 1000
 lt : t.steps.length ≤ 1000
 os : ∀ s ∈ t.slots, VQ s.dv ∧ (-9223372036854775808 ≤ s.types ∧ s.types ≤ 9223372036854775807)
 ot : ∀ s ∈ t.steps, VQ s.slot.dv ∧ (-9223372036854775808 ≤ s.slot.types ∧ s.slot.types ≤ 9223372036854775807) ∧ s.order.length ≤ 1000
def Sch.refVers (t : Tm) : List Vr := if 0 < Sch.last t then Sch.vers t else []
theorem refStepR_ex (x : Vr) (s : Stp) (st : St) : ∃ d st', RefStepR x s st d st' := by
 unfold RefStepR
 cases h : Sch.stepV x s with
 | none => exact ⟨_, _, .inl ⟨rfl, [], [], rfl, rfl⟩⟩
 | some y => exact ⟨_, _, .inr ⟨y, rfl, rfl, rfl⟩⟩
theorem Vr.cells_leaf (x : Vr) : ∀ d ∈ x.cells, d.leaf = true := by
 intro d hd
 unfold Vr.cells at hd
 simp only [List.mem_cons, List.not_mem_nil, or_false] at hd
 rcases hd with rfl | rfl <;> rfl
theorem refVersF (t : Tm) (ht : TQ t) (st : St) : TrF Tryz.prog 114 [.agg t.cells] st fun d st' => d = .sl .shared ((Sch.refVers t).map Vr.cells) ∧ st' = st := by
 have hN := Lib.hid (refIsNameF t.name)
 have hF : Hid (Sch.firstV t = if V.isName t.name.data.toList = true ∧ 1 ≤ t.slots.length ∧ t.slots.length ≤ 8 ∧ t.steps.length ≤ 8 then Sch.firstL t.slots ⟨[], []⟩ else none) := rfl
 have hV : Hid (Sch.vers t = match Sch.firstV t with | none => [] | some x => x :: Sch.versL x t.steps) := rfl
 have hLs : Hid (Sch.last t = if (Sch.vers t).length = t.steps.length + 1 then t.steps.length + 1 else 0) := rfl
 have hz : Hid (∀ x, Sch.firstV t = some x → Sch.VZ 8 x) := fun x h => Sch.first_vz h
 obtain ⟨hls, hlt', hos, hot⟩ := ht
 unfold Sch.refVers
 generalize Sch.last t = LT at *
 generalize Sch.vers t = VS at *
 generalize Sch.firstV t = F at *
 cases t with
 | mk nm slots steps =>
 unfold Tm.cells
 dsimp only at hN hF hV hLs hls hlt' hos hot ⊢
 have hos2 := Lib.hid hos
 have hot2 := Lib.hid hot
 clear hos hot
 generalize V.isName nm.data.toList = qn at *
 have hcl := hMp Sl.cells slots
 have hcp := hMp Stp.cells steps
 have hml : (slots.map Sl.cells).length = slots.length := List.length_map ..
 have hmp : (steps.map Stp.cells).length = steps.length := List.length_map ..
 generalize slots.map Sl.cells = SL at *
 generalize steps.map Stp.cells = TL at *
 by_cases hc : qn = true ∧ 1 ≤ slots.length ∧ slots.length ≤ 8 ∧ steps.length ≤ 8
 case neg =>
  have hF2 : F = none := by rw [hF.out, if_neg hc]
  have hR : Hid ((if 0 < LT then VS else []) = []) := Lib.hid (by
   have h1 : VS = [] := by rw [hV.out, hF2]
   have h2 : LT = 0 := by rw [hLs.out, h1]; exact if_neg (by simp)
   rw [h2]; exact if_neg (by omega))
  rw [hR.out]
  have hno : qn = false ∨ (qn = true ∧ (slots.length : Int) < 1) ∨ (qn = true ∧ 1 ≤ (slots.length : Int) ∧ 8 < (slots.length : Int)) ∨ (qn = true ∧ 1 ≤ (slots.length : Int) ∧ (slots.length : Int) ≤ 8 ∧ 8 < (steps.length : Int)) := by
   cases qn
   · exact .inl rfl
   · refine .inr ?_
     by_cases h1 : 1 ≤ slots.length
     · by_cases h2 : slots.length ≤ 8
       · by_cases h3 : steps.length ≤ 8
         · exact absurd ⟨rfl, h1, h2, h3⟩ hc
         · exact .inr (.inr ⟨rfl, by omega, by omega, by omega⟩)
       · exact .inr (.inl ⟨rfl, by omega, by omega⟩)
     · exact .inl ⟨rfl, by omega⟩
  clear hc hF hV hLs hz hF2 hR
  rcases hno with rfl | ⟨rfl, h1⟩ | ⟨rfl, h1, h2⟩ | ⟨rfl, h1, h2, h3⟩
  all_goals skip
  all_goals (
   refine Qin [2] Tryz.func114 Tryz.results114 Tryz.ntmps114 ?_
   exact WRa)
 case pos =>
  have hF2 : Hid (F = Sch.firstL slots ⟨[], []⟩) := Lib.hid (by rw [hF.out, if_pos hc])
  obtain ⟨rfl, h1, h2, h3⟩ := hc
  clear hF
  obtain ⟨B, hB⟩ : ∃ B, Sch.firstL slots ⟨[], []⟩ = B := ⟨_, rfl⟩
  have HB : Hid (Sch.firstL (slots.drop 0) ⟨[], []⟩ = B) := hB
  rw [hB] at hF2
  clear hB
  have hnone : Hid (B = none → (if 0 < LT then VS else []) = []) := fun h => by
   have h1 : VS = [] := by rw [hV.out, hF2.out, h]
   have h2 : LT = 0 := by rw [hLs.out, h1]; exact if_neg (by simp)
   rw [h2]; exact if_neg (by omega)
  generalize hRV : (if 0 < LT then VS else []) = RV at *
  replace hRV := Lib.hid hRV
  refine Qin [2] Tryz.func114 Tryz.results114 Tryz.ntmps114 ?_
  repeat' (with_reducible first | refine Q1 ?_ | refine Qe ?_ | refine QQ ?_ | (refine al_go ?_; intro b) | (refine Qa ?_; intro o' ho') | (refine Qp ?_; intro o' ho') | (refine QD ?_ <;> (try constructor) <;> intro hb <;> try intro hb1) | fail)
  obtain ⟨b3, rfl⟩ : ∃ q, q = b := ⟨_, rfl⟩
  refine tr_loopd (ι := Nat) (fun i A st' => i ≤ slots.length ∧ A.df = [] ∧ A.e 1 = .ip [.str nm, .sl .shared SL, .sl .shared TL] ∧ A.e 3 = .ptr b3 0 ∧ A.e 4 = .i i ∧ ∃ x : Vr, x.slots.length = i ∧ x.cols.length = i ∧ (∀ c ∈ x.cols, c < x.slots.length) ∧ Hid (Sch.firstL (slots.drop i) x = B) ∧
   ((i = 0 ∧ x = ⟨[], []⟩ ∧ st' = .box b3 147 [.sl .tight [], .sl .tight []] :: st) ∨ (0 < i ∧ ∃ gs cS zS gc cC zC, (slotC x.slots ++ zS).length = cS * 7 ∧ (colC x.cols ++ zC).length = cC * 1 ∧ st' = .box gc 3 (colC x.cols ++ zC) :: .box gs 75 (slotC x.slots ++ zS) :: .box b3 147 [.ar gs 0 i cS, .ar gc 0 i cC] :: st))) (fun i => slots.length - i) 0 ⟨Nat.zero_le _, Qf, Qf, Qf, Qf, ⟨[], []⟩, rfl, rfl, (fun c h => by cases h), HB, .inl ⟨rfl, rfl, rfl⟩⟩ ?_
  rintro i A st' ⟨hi, hdf, e1, e3, e4, x, hxs, hxc, hxcs, HT, hcase⟩
  clear HB
  by_cases hlt : i < slots.length
  · obtain ⟨sl, hsl⟩ := gEx hlt
    have HE := HT.out
    rw [firstL_drop hsl] at HE
    clear HT
    obtain ⟨hq, hty⟩ := hos2.out sl (List.mem_of_getElem? hsl)
    have hS := refSoundF sl hq hty
    have hC := refColF x.slots x.cols sl.name (by omega) (by omega) hxcs []
    have hcl2 := hcl.out i sl hsl
    have hcs3 : Hid (∀ c ∈ x.cols ++ [x.slots.length], c < (x.slots ++ [sl]).length) := fun c hc => by
     rcases List.mem_append.1 hc with h | h
     · have := hxcs c h; simp; omega
     · rw [List.mem_singleton] at h
       subst h; simp
    clear hsl hq hty hxcs
    unfold Sch.col at HE
    have g1 := Lib.hid (slotC_add x.slots sl)
    have g2 := Lib.hid (colC_add x.cols x.slots.length)
    cases sl with
    | mk snm sty srq sdv =>
    cases sdv with
    | mk sk sn ss sL =>
    rw [Sl.cells_mk] at hS hcl2 g1
    dsimp only at hS hC HE g1
    generalize Sch.sound _ = q at *
    rcases hcase with ⟨rfl, hx0, rfl⟩ | ⟨hi0, gs, cS, zS, gc, cC, zC, hz1, hz2, rfl⟩
    · subst hx0
      dsimp only at hC HE g1 g2 hcs3
      rw [List.map_nil, List.map_nil] at hC
      rw [Sch.colL] at hC HE
      replace hS := Lib.hid hS
      replace hC := Lib.hid hC
      replace g1 := Lib.hid g1
      replace g2 := Lib.hid g2
      cases q with
      | false =>
       rw [if_neg (fun h => Bool.noConfusion h.1)] at HE
       have hRn := hnone.out HE.symm
       subst hRn
       clear HE
       repeat' (first | (with_reducible first | refine Q1 ?_ | refine Qe ?_ | fail) | ((with_reducible refine w_drawRN ?_ ?_ ?_ ?_); (iterate 3 (focus kernel_rfl)); intro hne; simp only [nes, ne1, and_assoc] at hne; repeat (have hq := hne.1; replace hne := hne.2)) | (with_reducible first | refine QQ ?_ | (refine al_go ?_; intro b) | (refine Qa ?_; intro o' ho') | (refine Qp ?_; intro o' ho') | (refine QD ?_ <;> (try constructor) <;> intro hb <;> try intro hb1) | fail) | ((with_reducible apply (ck_lend Tryz.call163)); (focus exact hC.out); (focus exact ⟨Lend.agg ⟨Lend.sl _ _, Lend.sl _ _, trivial⟩, Lend.refl _, trivial⟩)) | fail)
       all_goals exact Qret
      | true =>
       rw [if_pos ⟨rfl, by decide⟩] at HE
       replace HE := Lib.hid HE
       repeat' (first | (with_reducible first | refine Q1 ?_ | refine Qe ?_ | fail) | ((with_reducible refine w_drawRN ?_ ?_ ?_ ?_); (iterate 3 (focus kernel_rfl)); intro hne; simp only [nes, ne1, and_assoc] at hne; repeat (have hq := hne.1; replace hne := hne.2)) | ((with_reducible apply (w_drawN [(b3, [.sl .tight [], .sl .tight []])])); (iterate 3 (focus kernel_rfl)); (focus ((repeat (first | exact keep_nil | refine keep_more (by (repeat (first | exact mm_h | apply mm_t)); done) ?_)); done)); intro hne; simp only [nes, ne1, and_assoc] at hne; repeat (have hq := hne.1; replace hne := hne.2)) | ((with_reducible refine And.intro ?_ ?_); (focus ((repeat (first | exact keep_nil | refine keep_more (by (repeat (first | exact mm_h | apply mm_t)); done) ?_)); done))) | with_reducible refine s_appN ?_ | with_reducible refine rn_go ?_ | ((with_reducible apply rn2_go); (focus (simp only [List.length_cons, List.length_nil]; omega)); (focus exact len_one rfl); (focus (simp only [List.length_cons, List.length_nil]; omega)); (focus (simp only [List.length_cons, List.length_nil]; omega)); intro g' c' z' hc' hl') | (with_reducible first | refine QQ ?_ | (refine al_go ?_; intro b) | (refine Qa ?_; intro o' ho') | (refine Qp ?_; intro o' ho') | (refine QD ?_ <;> (try constructor) <;> intro hb <;> try intro hb1) | fail) | ((with_reducible apply (ck_lend Tryz.call163)); (focus exact hC.out); (focus exact ⟨Lend.agg ⟨Lend.sl _ _, Lend.sl _ _, trivial⟩, Lend.refl _, trivial⟩)) | fail)
       rename_i gs' cS' zS' hcs' hls'
       refine ⟨1, .box g' 3 ([[D.i 0]].flatten ++ z') :: .box gs' 75 ([[.str snm, .i sty, .b srq, .i sk, .i sn, .str ss, .sl .shared (sL.map V.cells)]].flatten ++ zS') :: .box b3 147 [.ar gs' 0 1 cS', .ar g' 0 1 c'] :: st, List.Sublist.refl _, ⟨hlt, ?_, ?_, ?_, ?_, ⟨[] ++ [.mk snm sty srq (.mk sk sn ss sL)], [] ++ [([] : List Sl).length]⟩, rfl, rfl, hcs3.out, HE, .inr ⟨Nat.zero_lt_one, gs', cS', zS', g', c', z', ?_, ?_, ?_⟩⟩, ?_⟩
       iterate 4 (focus exact Qf)
       · rw [show slotC ([] ++ [Sl.mk snm sty srq (.mk sk sn ss sL)]) = [(Sl.mk snm sty srq (.mk sk sn ss sL)).cells].flatten from rfl, Sl.cells_mk]
         exact hls'
       · exact hl'
       · rw [show slotC ([] ++ [Sl.mk snm sty srq (.mk sk sn ss sL)]) = [(Sl.mk snm sty srq (.mk sk sn ss sL)).cells].flatten from rfl, Sl.cells_mk]
         rfl
       · omega
    · have hr1 := slotC_len x.slots
      have hr2 := colC_len x.cols
      have e1 := Lib.hid (slots_each x.slots)
      have e2 := Lib.hid (cols_each x.cols)
      have f1 := Lib.hid (slotC_flat x)
      have f2 := Lib.hid (colC_flat x)
      have l1 : Hid ((x.slots.map Sl.cells).length = i) := Lib.hid (by rw [List.length_map, hxs])
      have l2 : Hid ((x.cols.map encC).length = i) := Lib.hid (by rw [List.length_map, hxc])
      rw [hxs] at hr1 HE g2
      rw [hxc] at hr2
      have hcs4 : Hid (∀ c ∈ x.cols ++ [i], c < (x.slots ++ [Sl.mk snm sty srq (.mk sk sn ss sL)]).length) := Lib.hid (by have := hcs3.out; rwa [hxs] at this)
      generalize Sch.colL x.slots snm x.cols = cv at *
      obtain ⟨S1, hS1⟩ : ∃ S1, slotC x.slots = S1 := ⟨_, rfl⟩
      obtain ⟨C1, hC1⟩ : ∃ C1, colC x.cols = C1 := ⟨_, rfl⟩
      rw [hS1] at hz1 hr1 f1 g1
      rw [hC1] at hz2 hr2 f2 g2
      rw [hS1, hC1]
      clear hS1 hC1
      generalize x.slots.map Sl.cells = L1 at *
      generalize x.cols.map encC = L2 at *
      replace hS := Lib.hid hS
      replace hC := Lib.hid hC
      by_cases hqc : q = true ∧ cv < 0
      · obtain ⟨rfl, hcv⟩ := hqc
        rw [if_pos ⟨rfl, hcv⟩] at HE
        replace HE := Lib.hid HE
        replace hxs := Lib.hid hxs
        replace hxc := Lib.hid hxc
        repeat' (first | (with_reducible first | refine Q1 ?_ | refine Qe ?_ | fail) | ((with_reducible apply (w_drawN [(b3, [.ar gs 0 i cS, .ar gc 0 i cC])])); (iterate 3 (focus kernel_rfl)); (focus ((repeat (first | exact keep_nil | refine keep_more (by (repeat (first | exact mm_h | apply mm_t)); done) ?_)); done)); intro hne; simp only [nes, ne1, and_assoc] at hne; repeat (have hq := hne.1; replace hne := hne.2)) | ((with_reducible refine And.intro ?_ ?_); (focus ((repeat (first | exact keep_nil | refine keep_more (by (repeat (first | exact mm_h | apply mm_t)); done) ?_)); done))) | with_reducible refine s_appR ?_ | with_reducible refine rk_go ?_ | ((with_reducible apply (r2_go hr1 hz1)); (focus (intro g' cs'; repeat (first | exact ra_h | apply ra_t))); (focus exact len_one rfl); (focus (simp only [List.length_cons, List.length_nil]; omega)); (focus (simp only [List.length_cons, List.length_nil]; omega)); intro gs' cS' zS' hcs hls) | ((with_reducible apply (r2_go hr2 hz2)); (focus (intro g' cs'; repeat (first | exact ra_h | apply ra_t))); (focus exact len_one rfl); (focus (simp only [List.length_cons, List.length_nil]; omega)); (focus (simp only [List.length_cons, List.length_nil]; omega)); intro gc' cC' zC' hcc hlc) | (with_reducible first | refine QQ ?_ | (refine al_go ?_; intro b) | (refine Qa ?_; intro o' ho') | (refine Qp ?_; intro o' ho') | (refine QD ?_ <;> (try constructor) <;> intro hb <;> try intro hb1) | fail) | ((with_reducible apply (ck_lend Tryz.call163)); (focus exact hC.out); (focus exact ⟨Lend.agg ⟨Lend.rowE (by repeat (first | exact mm_h | apply mm_t)) f1.out (by decide) e1.out l1.out, Lend.rowE (by repeat (first | exact mm_h | apply mm_t)) f2.out (by decide) e2.out l2.out, trivial⟩, Lend.refl _, trivial⟩)) | fail)
        refine ⟨i + 1, .box gc' 3 (C1 ++ [[D.i i]].flatten ++ zC') :: .box gs' 75 (S1 ++ [[.str snm, .i sty, .b srq, .i sk, .i sn, .str ss, .sl .shared (sL.map V.cells)]].flatten ++ zS') :: .box b3 147 [.ar gs' 0 (i + 1) cS', .ar gc' 0 (i + 1) cC'] :: st, List.Sublist.refl _, ⟨hlt, ?_, ?_, ?_, ?_, ⟨x.slots ++ [.mk snm sty srq (.mk sk sn ss sL)], x.cols ++ [i]⟩, ?_, ?_, hcs4.out, HE, .inr ⟨Nat.succ_pos _, gs', cS', zS', gc', cC', zC', ?_, ?_, ?_⟩⟩, ?_⟩
        iterate 4 (focus exact Qf)
        · rw [List.length_append, hxs.out]; rfl
        · rw [List.length_append, hxc.out]; rfl
        · rw [g1.out]; exact hls
        · rw [g2.out]; exact hlc
        · rw [g1.out, g2.out]
        · omega
      · rw [if_neg hqc] at HE
        have hRn := hnone.out HE.symm
        subst hRn
        clear HE
        have hno : q = false ∨ (q = true ∧ 0 ≤ cv) := by
         cases q
         · exact .inl rfl
         · exact .inr ⟨rfl, by
            have : ¬ cv < 0 := fun h => hqc ⟨rfl, h⟩
            omega⟩
        clear hqc
        rcases hno with rfl | ⟨rfl, hcv⟩
        all_goals skip
        all_goals (
         repeat' (first | (with_reducible first | refine Q1 ?_ | refine Qe ?_ | fail) | ((with_reducible refine w_drawRN ?_ ?_ ?_ ?_); (iterate 3 (focus kernel_rfl)); intro hne; simp only [nes, ne1, and_assoc] at hne; repeat (have hq := hne.1; replace hne := hne.2)) | (with_reducible first | refine QQ ?_ | (refine al_go ?_; intro b) | (refine Qa ?_; intro o' ho') | (refine Qp ?_; intro o' ho') | (refine QD ?_ <;> (try constructor) <;> intro hb <;> try intro hb1) | fail) | ((with_reducible apply (ck_lend Tryz.call163)); (focus exact hC.out); (focus exact ⟨Lend.agg ⟨Lend.rowE (by repeat (first | exact mm_h | apply mm_t)) f1.out (by decide) e1.out l1.out, Lend.rowE (by repeat (first | exact mm_h | apply mm_t)) f2.out (by decide) e2.out l2.out, trivial⟩, Lend.refl _, trivial⟩)) | fail)
         all_goals exact Qret)
  · have HE := HT.out
    rw [List.drop_of_length_le (by omega), Sch.firstL] at HE
    clear HT
    rcases hcase with ⟨rfl, hx0, rfl⟩ | ⟨hi0, gs, cS, zS, gc, cC, zC, hz1, hz2, rfl⟩
    · omega
    · have hil : i = slots.length := by omega
      have hFx : F = some x := hF2.out.trans HE.symm
      have hvz := hz.out x hFx
      have hVx : Hid (VS = x :: Sch.versL x steps) := Lib.hid (by rw [hV.out, hFx])
      refine tr_rest (g := gs) (b := b3) (n := i) (cap := cS) (sz := 7) (es := x.slots.map Sl.cells) (el := 75) (ty := 147) (zs := zS) (cs := [.ar gs 0 i cS, .ar gc 0 i cC]) (cs' := [.sl .shared (x.slots.map Sl.cells), .ar gc 0 i cC]) (s := .box gc 3 (colC x.cols ++ zC) :: st) ((List.Perm.swap _ _ _).trans (.cons _ (.swap _ _ _))) (by decide) (slots_each x.slots) (by rw [List.length_map, hxs]) (.cons _ _ _ _ .ar (.cons _ _ _ _ (.same _) .nil)) (by intro d hd; simp only [List.mem_cons, List.not_mem_nil, or_false] at hd; rcases hd with rfl | rfl <;> rfl) ?_
      refine tr_rest (g := gc) (b := b3) (n := i) (cap := cC) (sz := 1) (es := x.cols.map encC) (el := 3) (ty := 147) (zs := zC) (cs := [.sl .shared (x.slots.map Sl.cells), .ar gc 0 i cC]) (cs' := x.cells) (s := st) (.swap _ _ _) (by decide) (cols_each x.cols) (by rw [List.length_map, hxc]) (.cons _ _ _ _ (.same _) (.cons _ _ _ _ .ar .nil)) (Vr.cells_leaf x) ?_
      unfold Vr.cells
      clear hz1 hz2 hV hF2 hnone HE hz
      have hx1 := hvz.vi.lp
      generalize hX1 : x.slots.map Sl.cells = X1 at *
      generalize hX2 : x.cols.map encC = X2 at *
      replace hX1 := Lib.hid hX1
      replace hX2 := Lib.hid hX2
      replace hil := Lib.hid hil
      replace hxs := Lib.hid hxs
      replace hxc := Lib.hid hxc
      repeat' (with_reducible first | refine Q1 ?_ | refine Qe ?_ | refine QQ ?_ | (refine al_go ?_; intro b) | (refine Qa ?_; intro o' ho') | (refine Qp ?_; intro o' ho') | (refine QD ?_ <;> (try constructor) <;> intro hb <;> try intro hb1) | fail)
      have hcx : x.cells = [.sl .shared X1, .sl .shared X2] := by unfold Vr.cells; rw [hX1.out, hX2.out]
      have hst0 : Hid (VS = [x] ++ Sch.versL x (steps.drop 0)) := hVx
      have hfin : Hid (VS.length = steps.length + 1 → RV = VS) := fun h => by
       rw [← hRV.out, hLs.out, if_pos h, if_pos (by omega)]
      have hbad : Hid (VS.length ≠ steps.length + 1 → RV = []) := fun h => by
       rw [← hRV.out, hLs.out, if_neg h, if_neg (by omega)]
      have hvz' : Hid (Sch.VZ 8 x) := Lib.hid hvz
      clear hVx hRV hLs hN hos2 hcl hi hi0 hlt hvz hil hFx hxcs
      refine tr_room 147 2 1 ?_
      refine tr_loopd (ι := Nat) (fun j A st' => j ≤ steps.length ∧ A.df = [] ∧ A.e 1 = .ip [.str nm, .sl .shared SL, .sl .shared TL] ∧ A.e 6 = .i j ∧ ∃ (O : List Vr) (o : Own) (z : Vr), o ≠ .shared ∧ O.length = j + 1 ∧ Hid (O[j]? = some z) ∧ Hid (Sch.VZ (8 + j) z) ∧ Hid (VS = O ++ Sch.versL z (steps.drop j)) ∧ A.e 5 = .sl o (O.map Vr.cells) ∧ st' = .room o 147 2 (O.map Vr.cells).length :: .box b3 147 [.sl .shared X1, .sl .shared X2] :: st) (fun j => steps.length - j) 0 ⟨Nat.zero_le _, Qf, Qf, Qf, [x], .tight, x, by simp, rfl, rfl, hvz'.out, hst0.out, by (rw [List.map_cons, List.map_nil, hcx]; exact Qf), rfl⟩ ?_
      clear hdf e1 e3 e4 hst0 hvz' hxs hxc hX1 hX2 hcx
      rintro j A st' ⟨hj, hdf, e1, e6, O, o, z, ho, hOl, hOj, hzz, hVO, e5, rfl⟩
      by_cases hjl : j < steps.length
      · obtain ⟨stp, hstp⟩ := gEx hjl
        obtain ⟨hsq, hsty, hso⟩ := hot2.out stp (List.mem_of_getElem? hstp)
        have hS := refStepF z stp ⟨hzz.out.vi.mono (by omega), hsq, hsty, hso⟩ hzz.out.nd fun w hw => (hzz.out.sl w hw).types
        have hSx := refStepR_ex z stp
        have hVd := hVO.out
        rw [Sch.versL_drop hstp] at hVd
        have hOc : (O.map Vr.cells)[j]? = some z.cells := by rw [List.getElem?_map, hOj.out]; rfl
        have htc := hcp.out j stp hstp
        have hOm : (O.map Vr.cells).length = j + 1 := by rw [List.length_map, hOl]
        have hnn : Hid (Sch.stepV z stp = none → RV = []) := fun h => by
         rw [h, List.append_nil] at hVd
         exact hbad.out (by rw [hVd]; omega)
        have hyy : Hid (∀ y, Sch.stepV z stp = some y → Sch.VZ (8 + (j + 1)) y ∧ VS = (O ++ [y]) ++ Sch.versL y (steps.drop (j + 1))) := fun y h => by
         rw [h] at hVd
         exact ⟨Sch.step_vz hzz.out h, by rw [hVd, List.append_assoc]; rfl⟩
        have hOe : Hid (∀ e ∈ O.map Vr.cells, e.length = 2) := fun e he => by
         obtain ⟨w, -, rfl⟩ := List.mem_map.1 he
         rfl
        have hOy : Hid (∀ y : Vr, (O ++ [y]).map Vr.cells = O.map Vr.cells ++ [y.cells]) := fun y => by rw [List.map_append]; rfl
        unfold RefStepR at hS hSx
        clear hVd hVO hstp hsq hsty hso hOj hzz
        generalize Sch.stepV z stp = SV at *
        cases stp with
        | mk kd col slot order =>
        cases slot with
        | mk snm sty srq sdv =>
        cases sdv with
        | mk sk sn ss sL =>
        unfold Vr.cells Stp.cells at hS
        unfold Stp.cells at htc
        rw [Sl.cells_mk] at hS htc
        dsimp only [List.cons_append, List.nil_append] at hS htc
        generalize hOC : O.map Vr.cells = OC at *
        replace hOC := Lib.hid hOC
        replace hS := Lib.hid hS
        replace hSx := Lib.hid hSx
        replace hOl := Lib.hid hOl
        unfold Vr.cells at hOc
        repeat' (first | (with_reducible first | refine Q1 ?_ | refine Qe ?_ | fail) | ((with_reducible apply (w_draw2 [] 13 9)); (iterate 3 (focus kernel_rfl)); (focus (repeat (first | exact keep_nil | refine keep_more (by repeat (first | exact mm_h | apply mm_t)) ?_))); (focus exact rfl); (focus (simp only [List.eraseIdx_cons_succ, List.eraseIdx_cons_zero]; rfl))) | ((with_reducible refine And.intro ?_ ?_); (focus ((repeat (first | exact keep_nil | refine keep_more (by (repeat (first | exact mm_h | apply mm_t)); done) ?_)); done))) | (with_reducible first | refine QQ ?_ | (refine al_go ?_; intro b) | (refine Qa ?_; intro o' ho') | (refine Qp ?_; intro o' ho') | (refine QD ?_ <;> (try constructor) <;> intro hb <;> try intro hb1) | fail) | ((with_reducible apply (ck_gen Tryz.call164)); (focus exact List.Perm.refl _); (focus exact hS.out _); (focus exact LEL.refl _); (focus exact hSx.out _); (rintro d st' (⟨hn, Y1, Y2, rfl, rfl⟩ | ⟨y, hy, rfl, rfl⟩))) | fail)
        all_goals first
         | (have hRn := hnn.out hn
            subst hRn
            exact Qret
            done)
         | skip
        all_goals (
         obtain ⟨q1, q2⟩ := hyy.out y hy
         refine ⟨j + 1, .room o' 147 2 (OC ++ [y.cells]).length :: .box b3 147 [.sl .shared X1, .sl .shared X2] :: st, .cons _ (List.Sublist.refl _), ⟨hjl, ?_, ?_, ?_, O ++ [y], o', y, ho', ?_, ?_, q1, q2, ?_, ?_⟩, by omega⟩
         · exact Qf
         · exact Qf
         · exact Qf
         · rw [List.length_append, hOl.out]; rfl
         · show (O ++ [y])[j + 1]? = some y
           rw [List.getElem?_append_right (by rw [hOl.out]; omega), hOl.out, Nat.sub_self]; rfl
         · have h1 := hOy.out y
           show _ = D.sl o' (List.map Vr.cells (O ++ [y]))
           rw [h1]
           unfold Vr.cells
           exact Qf
         · have h1 := hOy.out y
           show _ = Res.room o' _ 2 (List.map Vr.cells (O ++ [y])).length :: _
           rw [h1])
      · have hVd := hVO.out
        rw [List.drop_of_length_le (by omega), Sch.versL, List.append_nil] at hVd
        have hRf := hfin.out (by rw [hVd, hOl]; omega)
        subst hVd
        subst hRf
        clear hVO hOj hzz hot2 hcp hfin hbad
        repeat' (with_reducible first | refine Q1 ?_ | refine Qe ?_ | refine QQ ?_ | (refine al_go ?_; intro b) | (refine Qa ?_; intro o' ho') | (refine Qp ?_; intro o' ho') | (refine QD ?_ <;> (try constructor) <;> intro hb <;> try intro hb1) | fail)
        all_goals exact retA_mk (by first | exact .inl rfl | exact .inr rfl) (by first | rfl | assumption) (by (repeat (first | exact List.Sublist.refl _ | with_reducible apply List.Sublist.cons_cons | apply List.Sublist.cons))) (LE.trans (LE.of_eq (by (try simp (disch := omega) only [push_cast, simprocAttr, *]); (try exact rfl); done)) (LE.sl o (RV.map Vr.cells))) ⟨rfl, rfl⟩
end Go.Proofs.YtgcienlfpnpbgaaGreat
end
section
namespace Go.Proofs.YtgcienlfpnpbgaaGreat
open Go.RowKit
theorem take_eq_stepI {α : Type} {xs ys : List α} {k : Nat} (h : xs.take k = ys.take k) (hx : k < xs.length) (hy : k < ys.length) (e : xs[k] = ys[k]) : xs.take (k + 1) = ys.take (k + 1) := by
 rw [take_snoc xs k hx, take_snoc ys k hy, h, e]
set_option maxHeartbeats 400000 in
theorem ints_any (u v : Value) (xs ys : List Int) (w : World) (hu : Sees iv w u xs) (hv : Sees iv w v ys) :
 Calls Tryz.prog 36 #[u, v] w fun e w' => e = .returned (.bool (decide (xs = ys))) ∧ ∃ n, w' = w.drewN n := by
 obtain ⟨a, cap, rfl, h1, h2, h3, h4⟩ := hu
 obtain ⟨a', cap', rfl, h1', h2', h3', h4'⟩ := hv
 unfold maxLen at h2 h2'
 by_cases hl : xs.length = ys.length
 · have hl' : ((xs.length : Int) != (ys.length : Int)) = false := by rw [bne_eq_false_iff_eq]; omega
   have HL := Lib.hid hl
   have i1 : xs.length ≤ ys.length := by omega
   have i2 : ys.length ≤ xs.length := by omega
   clear hl
   obtain ⟨q, hq⟩ : ∃ q, decide (xs = ys) = q := ⟨_, rfl⟩
   rw [hq]
   have HQ := Lib.hid hq; clear hq
   go_enter Tryz.func36, Tryz.ntmps36
   go_wp2
   go_loopw [5] (fun i wr => ∃ k : Nat, k ≤ xs.length ∧ i = .int .i64 k ∧ xs.take k = ys.take k ∧ ∃ n, wr = w.drewN n) (fun i _ => xs.length - (intOf i).toNat)
   case atStart => exact ⟨0, Nat.zero_le _, rfl, rfl, 0, rfl⟩
   case round =>
    obtain ⟨k, hk, rfl, htk, n, rfl⟩ := hrel
    have HT := Lib.hid htk; clear htk
    by_cases hlt : k < xs.length
    · have hlt' : k < ys.length := by omega
      obtain ⟨⟨b, off, s⟩, rfl⟩ : ∃ b, a = some b := by
       cases a with
       | none => have := h3 rfl; omega
       | some b => exact ⟨b, rfl⟩
      obtain ⟨⟨b', off', s'⟩, rfl⟩ : ∃ b, a' = some b := by
       cases a' with
       | none => have := h3' rfl; omega
       | some b => exact ⟨b, rfl⟩
      obtain ⟨e1, e2, e3⟩ := h4 _ rfl (by omega)
      obtain ⟨e1', e2', e3'⟩ := h4' _ rfl (by omega)
      dsimp only at e1 e2 e3 e1' e2' e3'
      subst e1 e1'
      have hc := e3 k hlt
      have hc' := e3' k hlt'
      have HX := Lib.hid (fun e : xs[k] = ys[k] => take_eq_stepI HT.out hlt hlt' e)
      have HN := Lib.hid (fun (h : xs[k] ≠ ys[k]) (e : xs = ys) => h (by simp only [e]))
      clear h4 h4' e3 e3' h3 h3'
      generalize xs[k] = x at *
      generalize ys[k] = y at *
      unfold iv at hc hc'
      by_cases hxy : x = y
      · subst hxy
        go_wp2
        go_quiet (fail)
        go_wp2
        go_roundw
        case rel => exact ⟨k + 1, by omega, by go_num, HX.out trivial, _, rfl⟩
        case measure => simp [intOf]; omega
      · have hn : (x != y) = true := by rw [bne_iff_ne]; exact hxy
        have hne : decide (xs = ys) = false := by rw [decide_eq_false_iff_not]; exact HN.out hxy
        have HE := Lib.hid (HQ.out.symm.trans hne)
        clear hne hxy
        go_wp2
        go_quiet (fail)
        go_wp2
        go_ret
        exact ⟨ret_bool HE.out.symm, _, by first | rfl | exact World.drewN_drewN _ _ _⟩
    · clear h4 h4' h3 h3'
      have HE : Hid (q = true) := by
       have := HT.out
       rw [List.take_of_length_le (by omega), List.take_of_length_le (by omega)] at this
       show q = true
       rw [← HQ.out, this]; simp
      go_wp2
      go_ret
      exact ⟨ret_bool HE.out.symm, _, by first | rfl | exact World.drewN_drewN _ _ _⟩
 · have hl' : ((xs.length : Int) != (ys.length : Int)) = true := by rw [bne_iff_ne]; omega
   have hne : decide (xs = ys) = false := by rw [decide_eq_false_iff_not]; intro e; exact hl (by rw [e])
   rw [hne]
   clear hne hl
   go_enter Tryz.func36, Tryz.ntmps36
   go_wp2
   go_ret
   exact ⟨rfl, 0, rfl⟩
end Go.Proofs.YtgcienlfpnpbgaaGreat
end
section
namespace Go.Proofs.YtgcienlfpnpbgaaGreat
attribute [local push_cast] encB encI encC V.cells_mk V.cells_len Nat.mul_one Int.sub_zero List.map_nil beq_self_eq_true bne_self_eq_false List.head?_cons
open Go.RowKit
set_option maxHeartbeats 8000000
set_option maxRecDepth 10000
theorem refIntsL (o o' : Own) (a b : List Int) (st : St) : TrF Tryz.prog 36 [.sl o (a.map encI), .sl o' (b.map encI)] st fun d st' => d = .b (decide (a = b)) ∧ st' = st :=
 trF_pure fun vs w hv => by
  obtain ⟨v, v', rfl, h1, h2⟩ := args2 hv
  exact ⟨_, fun _ _ => .s _ rfl, (ints_any v v' a b w (sees_of_rep (f := iv) h1) (sees_of_rep (f := iv) h2)).mono fun _ _ ⟨h, n, e⟩ => ⟨h, by subst e; exact ⟨rfl, rfl, rfl, Nat.le_refl _, fun _ _ => rfl⟩⟩⟩
namespace Reg
def RightTo (L : List Tm) (i : Nat) : Prop := ∀ (j : Nat) (t : Tm), j < i → L[j]? = some t → 0 < Sch.last t ∧ ∀ (k : Nat) (u : Tm), k < j → L[k]? = some u → (t.name.toList == u.name.toList) = false
end Reg
end Go.Proofs.YtgcienlfpnpbgaaGreat
end
section
namespace Go.Proofs.YtgcienlfpnpbgaaGreat
attribute [local push_cast] encB encI encBs V.cells_mk V.cells_take V.cells_len Nat.mul_one Int.sub_zero
open Go.RowKit B
set_option maxHeartbeats 4000000
set_option maxRecDepth 10000
theorem of_byte (n : Nat) : ∃ c : UInt8, UInt8.ofNat n = c ∧ ((n % 256 : Nat) : Int) = c.toNat ∧ c.toNat < 256 := ⟨UInt8.ofNat n, rfl, by rw [UInt8.toNat_ofNat'], (UInt8.ofNat n).toNat_lt⟩
theorem refNumF (n : Int) (st : St) : TrF Tryz.prog 60 [.i n] st fun d st' => d = .sl .tight ((if 0 ≤ n ∧ n ≤ 2147483647 then be 4 n.toNat else []).map encB) ∧ st' = st := by
 by_cases h : 0 ≤ n ∧ n ≤ 2147483647
 · rw [if_pos h]
   obtain ⟨m, rfl⟩ : ∃ m : Nat, n = m := ⟨n.toNat, by omega⟩
   obtain ⟨h1, h2⟩ := h
   rw [Int.toNat_natCast]
   obtain ⟨c1, d1, e1, l1⟩ := of_byte (m / 16777216)
   obtain ⟨c2, d2, e2, l2⟩ := of_byte (m / 65536)
   obtain ⟨c3, d3, e3, l3⟩ := of_byte (m / 256)
   obtain ⟨c4, d4, e4, l4⟩ := of_byte m
   have hb : be 4 m = [c1, c2, c3, c4] := by rw [← d1, ← d2, ← d3, ← d4]; simp [be]
   rw [hb]
   have g1 : ((m : Int)).tdiv 16777216 = c1.toNat := by rw [Int.tdiv_eq_ediv_of_nonneg h1, ← e1]; omega
   have g2 : ((m : Int)).tdiv 65536 = (m : Int) / 65536 := Int.tdiv_eq_ediv_of_nonneg h1
   have g3 : ((m : Int)).tdiv 256 = (m : Int) / 256 := Int.tdiv_eq_ediv_of_nonneg h1
   have g4 : ((m : Int) / 65536).tmod 256 = c2.toNat := by rw [Int.tmod_eq_emod_of_nonneg (by omega), ← e2]; omega
   have g5 : ((m : Int) / 256).tmod 256 = c3.toNat := by rw [Int.tmod_eq_emod_of_nonneg (by omega), ← e3]; omega
   have g6 : ((m : Int)).tmod 256 = c4.toNat := by rw [Int.tmod_eq_emod_of_nonneg h1, ← e4]; omega
   clear d1 d2 d3 d4 e1 e2 e3 e4 hb
   refine Qin [2] Tryz.func60 Tryz.results60 Tryz.ntmps60 ?_
   exact WR
 · rw [if_neg h]
   refine Qin [2] Tryz.func60 Tryz.results60 Tryz.ntmps60 ?_
   exact WR
theorem be8_at (U : Nat) : ∀ i, i < 8 → (be 8 U)[i]? = some (UInt8.ofNat (U / (72057594037927936 / 256 ^ i)))
 | 0, _ => rfl
 | 1, _ => rfl
 | 2, _ => rfl
 | 3, _ => rfl
 | 4, _ => rfl
 | 5, _ => rfl
 | 6, _ => rfl
 | 7, _ => rfl
 | n + 8, h => by omega
theorem refLongF (n : Int) (st : St) : TrF Tryz.prog 107 [.i n] st fun d st' => d = .sl .shared ((be 8 (IntKind.u64.wrap n).toNat).map encB) ∧ st' = st := by
 obtain ⟨U, hU, hU2⟩ : ∃ U : Nat, IntKind.u64.wrap n = U ∧ U < 18446744073709551616 := ⟨(IntKind.u64.wrap n).toNat, by
  have : 0 ≤ IntKind.u64.wrap n := by simp [IntKind.wrap, IntKind.bits, IntKind.signed]; omega
  omega, by simp [IntKind.wrap, IntKind.bits, IntKind.signed]; omega⟩
 have hB := be8_at U
 have hl := be_len 8 U
 rw [hU, Int.toNat_natCast]
 generalize be 8 U = bs at *
 refine Qin [2] Tryz.func107 Tryz.results107 Tryz.ntmps107 ?_
 refine tr_room 5 1 0 ?_
 repeat' (with_reducible first | refine Q1 ?_ | refine Qe ?_ | refine QQ ?_ | (refine al_go ?_; intro b) | (refine Qa ?_; intro o' ho') | (refine Qp ?_; intro o' ho') | (refine QD ?_ <;> (try constructor) <;> intro hb <;> try intro hb1) | fail)
 refine tr_loopd (ι := Nat) (fun i A st' => i ≤ 8 ∧ A.df = [] ∧ A.e 3 = .s (.int .u64 U) ∧ A.e 6 = .i i ∧ ∃ S : Nat, Hid (S = 72057594037927936 / 256 ^ i) ∧ A.e 5 = .s (.int .u64 (S : Int)) ∧ ∃ o' l, o' ≠ .shared ∧ Hid (l = bs.take i) ∧ l.length = i ∧ A.e 4 = .sl o' (l.map encB) ∧ st' = .room o' 5 1 (l.map encB).length :: st) (fun i => 8 - i) 0 ⟨Nat.zero_le _, Qf, Qf, Qf, 72057594037927936, rfl, Qf, .tight, [], by simp, rfl, rfl, Qf, rfl⟩ ?_
 rintro i A st' ⟨hi, hdf, e3, e6, S, HS, e5, o', l, ho', HL, hll, e4, rfl⟩
 by_cases hlt : i < 8
 · obtain ⟨c, d1, g1, g2⟩ := of_byte (U / (72057594037927936 / 256 ^ i))
   have hx := hB i hlt
   rw [d1] at hx
   have hs : bs.take (i + 1) = bs.take i ++ [c] := by rw [List.take_succ, hx]; rfl
   have HL2 : Hid (l ++ [c] = bs.take (i + 1)) := by show _ = _; rw [hs, HL.out]
   have hsp : 0 < 72057594037927936 / 256 ^ i := by
    refine Nat.div_pos ?_ (Nat.pow_pos (by omega))
    exact Nat.le_trans (Nat.pow_le_pow_right (by omega) (show i ≤ 7 by omega)) (by decide)
   have hsl : 72057594037927936 / 256 ^ i ≤ 72057594037927936 := Nat.div_le_self _ _
   have hs2 : (72057594037927936 / 256 ^ i) / 256 = 72057594037927936 / 256 ^ (i + 1) := by rw [Nat.div_div_eq_div_mul, Nat.pow_succ]
   have hS := HS.out
   rw [← hS] at g1 hsp hsl hs2
   clear hx hs HL d1 HS hS
   have hq : U / S ≤ U := Nat.div_le_self _ _
   have hquo : ∀ t, aBin Tryz.prog .quo t (.s (.int .u64 U)) (.s (.int .u64 S)) = some (.s (.int .u64 ((U / S : Nat) : Int))) := fun t => by
    rw [bin_quo (by rw [beq_eq_false_iff_ne]; omega), Int.tdiv_eq_ediv_of_nonneg (by omega), show (U : Int) / (S : Int) = ((U / S : Nat) : Int) from rfl]
    generalize U / S = q at *
    congr 3
    simp [IntKind.wrap, IntKind.bits, IntKind.signed]; omega
   generalize U / S = q at *
   have hrem : ∀ t, aBin Tryz.prog .rem t (.s (.int .u64 q)) (.s (.int .u64 256)) = some (.s (.int .u64 (c.toNat : Int))) := fun t => by
    rw [bin_rem (by decide), Int.tmod_eq_emod_of_nonneg (by omega), ← g1]; rfl
   have hstp : ∀ t, aBin Tryz.prog .quo t (.s (.int .u64 S)) (.s (.int .u64 256)) = some (.s (.int .u64 ((S / 256 : Nat) : Int))) := fun t => by
    rw [bin_quo (by decide), Int.tdiv_eq_ediv_of_nonneg (by omega), show (S : Int) / 256 = ((S / 256 : Nat) : Int) from rfl]
    congr 3
    simp [IntKind.wrap, IntKind.bits, IntKind.signed]; omega
   clear g1 hB
   replace hs2 := Lib.hid hs2
   generalize S / 256 = S2 at *
   repeat' (with_reducible first | refine Q1 ?_ | refine Qe ?_ | refine QQ ?_ | (refine al_go ?_; intro b) | (refine Qa ?_; intro o' ho') | (refine Qp ?_; intro o' ho') | (refine QD ?_ <;> (try constructor) <;> intro hb <;> try intro hb1) | fail)
   refine ⟨i + 1, .room o' 5 1 ((l ++ [c]).map encB).length :: st, ?_, ⟨by omega, ?_, ?_, ?_, S2, hs2, ?_, o', l ++ [c], ho', HL2, by rw [List.length_append, List.length_singleton, hll], ?_, rfl⟩, ?_⟩
   · rw [List.map_append]; (repeat (first | exact List.Sublist.refl _ | apply List.Sublist.cons))
   all_goals exact Qf
 · have hLe := HL.out
   rw [List.take_of_length_le (by omega)] at hLe
   rw [← hLe]
   clear hLe HL hB
   exact WRa
end Go.Proofs.YtgcienlfpnpbgaaGreat
end
section
namespace Go.Proofs.YtgcienlfpnpbgaaGreat
set_option linter.unusedSimpArgs false
attribute [local push_cast] encB encI encBs V.cells_mk V.cells_take V.cells_len Nat.mul_one Int.sub_zero
open Go.RowKit B
set_option maxRecDepth 10000
set_option maxHeartbeats 4000000
theorem refTextF (s : ByteArray) (hs : s.size ≤ 1000000) (st : St) : TrF Tryz.prog 61 [.str s] st fun d st' => d = .sl .shared ((tx s.data.toList).map encB) ∧ st' = st := by
 have hN := refNumF s.size
 rw [if_pos (by omega), Int.toNat_natCast] at hN
 replace hN := Lib.hid hN
 have h4 : (be 4 s.size).length = 4 := be_len _ _
 have ht : tx s.data.toList = be 4 s.size ++ s.data.toList := by unfold tx; congr 1
 have hsl : s.data.toList.length = s.size := by simp
 rw [ht]
 clear ht
 generalize be 4 s.size = hd at *
 generalize hbs : s.data.toList = bs at *
 refine Qin [2] Tryz.func61 Tryz.results61 Tryz.ntmps61 ?_
 refine tr_room 5 1 4 ?_
 have h4 : (hd.map encB).length = 4 := by rw [List.length_map]; exact h4
 rw [← h4]
 exact WRa
open V in
theorem refPutF : ∀ (N : Nat) (v : V), v.nodes ≤ N → v.nodes ≤ 100 → v.parts = true → v.Ok → ∀ st, TrF Tryz.prog 177 [.agg v.cells] st fun d st' => d = .sl .shared (v.put.map encB) ∧ st' = st
 | 0, v, h, _, _, _ => by have := v.nodes_pos; omega
 | N + 1, .mk k n s l, hN, hnn, hpa, hok => by
  intro st
  obtain ⟨-, hkn, -, -, hall⟩ := hok
  obtain ⟨h1, h2, h3⟩ := parts_facts hpa
  obtain ⟨f1, f2, f3, f4, f5, f6⟩ := sgl_facts h1
  have hpl := putL_le l h3
  have IH := Lib.hid fun x (hx : x ∈ l) => refPutF N x (by have := nodes_lt (k := k) (n := n) (s := s) hx; omega) (by have := nodes_lt (k := k) (n := n) (s := s) hx; omega) (h3 x hx) (hall x hx)
  rw [nodes] at hnn
  rw [V.cells_mk]
  rw [show (V.mk k n s l).put = UInt8.ofNat k.toNat :: (if k = 1 then [UInt8.ofNat n.toNat] else if k = 2 then be 8 (IntKind.u64.wrap n).toNat else if k = 3 ∨ k = 4 then tx s.data.toList else if k = 5 then be 4 l.length ++ putL l else []) from put.eq_1 ..]
  obtain ⟨kb, hkb, hkb2, -⟩ := of_byte k.toNat
  have hK : IntKind.u8.wrap k = kb.toNat := by
   rw [← hkb2, show k = ((k.toNat : Nat) : Int) by omega, u8_wrap, UInt8.toNat_ofNat']; rfl
  rw [hkb]
  have hT := Lib.hid (refTextF s (by omega))
  have hT5 : (tx s.data.toList).length = 4 + s.size := by unfold tx; rw [List.length_append, be_len]; simp
  clear h1 h3 hpa hall hN hkb hkb2
  refine Qin [2] Tryz.func177 Tryz.results177 Tryz.ntmps177 ?_
  refine tr_room 5 1 1 ?_
  by_cases k1 : k = 1
  · subst k1
    obtain ⟨m, rfl⟩ : ∃ m : Nat, n = m := ⟨n.toNat, by have := f3 (by omega); omega⟩
    have hW := u8_wrap m
    clear f3 f5 f6 hT IH
    rw [if_pos rfl, Int.toNat_natCast]
    exact WRa
  rw [if_neg k1]
  have b1 : (k == 1) = false := by simpa using k1
  by_cases k2 : k = 2
  · subst k2
    have hL := Lib.hid (refLongF n)
    have h8 := be_len 8 (IntKind.u64.wrap n).toNat
    clear f3 f5 f6 hT IH
    rw [if_pos rfl]
    generalize be 8 (IntKind.u64.wrap n).toNat = bs at *
    exact WRa
  rw [if_neg k2]
  have b2 : (k == 2) = false := by simpa using k2
  by_cases k3 : k = 3 ∨ k = 4
  · rw [if_pos k3]
    clear f3 f5 f6 IH h2
    generalize tx s.data.toList = bs at *
    rcases k3 with rfl | rfl
    all_goals
     exact WRa
  rw [if_neg k3]
  have b3 : (k == 3) = false := by simp; omega
  have b4 : (k == 4) = false := by simp; omega
  by_cases k5 : k = 5
  case neg =>
   rw [if_neg k5]
   have b5 : (k == 5) = false := by simpa using k5
   clear f3 f5 f6 hT IH
   exact WRa
  subst k5
  rw [if_pos rfl]
  have hN := refNumF l.length
  have hl20 := f6 rfl
  rw [if_pos (by omega), Int.toNat_natCast] at hN
  replace hN := Lib.hid hN
  have h4 := be_len 4 l.length
  clear f3 f5 f6 hT h2 k1 k2 k3 b1 b2 b3 b4
  generalize be 4 l.length = hd at *
  repeat' (with_reducible first | refine Q1 ?_ | refine Qe ?_ | refine QQ ?_ | (refine al_go ?_; intro b) | (refine Qa ?_; intro o' ho') | (refine Qp ?_; intro o' ho') | (refine QD ?_ <;> (try constructor) <;> intro hb <;> try intro hb1) | fail)
  clear hN hT5
  refine tr_loopd (ι := Nat) (fun i A st' => i ≤ l.length ∧ A.df = [] ∧ A.e 1 = .ip [.i 5, .i n, .str s, .sl .shared (l.map V.cells)] ∧ A.e 4 = .i i ∧ ∃ o', o' ≠ .shared ∧ ∃ B : List UInt8, Hid (B = kb :: (hd ++ putL (l.take i))) ∧ B.length = 5 + (putL (l.take i)).length ∧ A.e 3 = .sl o' (B.map encB) ∧ st' = .room o' 5 1 (B.map encB).length :: st) (fun i => l.length - i) 0 ⟨Nat.zero_le _, Qf, Qf, Qf, _, by assumption, kb :: hd, by show _ = _; simp [putL], by simp [putL]; omega, Qf, rfl⟩ ?_
  clear o' ho' h4
  rintro i A st' ⟨hi, hdf, e1, e4, o', ho', B, HB, hBl, e3, rfl⟩
  by_cases hlt : i < l.length
  · obtain ⟨x, hx⟩ := gEx hlt
    have ih := IH.out x (mem_of hx)
    have htk : putL (l.take (i + 1)) = putL (l.take i) ++ x.put := by
     rw [List.take_succ, hx, putL_app]; simp [putL]
    have hln : (putL (l.take i)).length + x.put.length ≤ (putL l).length := by
     have := congrArg List.length (congrArg putL (List.take_append_drop (i + 1) l))
     rw [putL_app, htk, List.length_append, List.length_append] at this
     omega
    have HB2 : Hid (B ++ x.put = kb :: (hd ++ putL (l.take (i + 1)))) := by
     show _ = _
     rw [htk, HB.out]; simp
    have hBl2 : (B ++ x.put).length = 5 + (putL (l.take (i + 1))).length := by
     rw [htk, List.length_append, List.length_append]; omega
    clear IH HB htk
    cases x with
    | mk k1 n1 s1 l1 =>
     rw [V.cells_mk] at ih
     replace ih := Lib.hid ih
     generalize (V.mk k1 n1 s1 l1).put = bs at *
     obtain ⟨q1, hq1⟩ : ∃ q, (putL (l.take (i + 1))).length = q := ⟨_, rfl⟩
     rw [hq1] at hBl2
     replace hq1 := Lib.hid hq1
     generalize (putL (l.take i)).length = q0 at *
     repeat' (with_reducible first | refine Q1 ?_ | refine Qe ?_ | refine QQ ?_ | (refine al_go ?_; intro b) | (refine Qa ?_; intro o' ho') | (refine Qp ?_; intro o' ho') | (refine QD ?_ <;> (try constructor) <;> intro hb <;> try intro hb1) | fail)
     refine ⟨i + 1, .room o' 5 1 ((B ++ bs).map encB).length :: st, ?_, ⟨hlt, ?_, ?_, ?_, o', ho', B ++ bs, HB2, hBl2.trans (by rw [hq1.out]), ?_, rfl⟩, ?_⟩
     · rw [List.map_append]; (repeat (first | exact List.Sublist.refl _ | apply List.Sublist.cons))
     all_goals exact Qf
  · have hBe : B = kb :: (hd ++ putL l) := by
     rw [HB.out, List.take_of_length_le (by omega)]
    rw [← hBe]
    clear hBe HB IH
    exact WRa
theorem refValueF (v : V) (hok : v.Ok) (hn : v.nodes ≤ 1000) (hd : v.deep ≤ 1000) (st : St) : TrF Tryz.prog 139 [.agg v.cells] st fun x st' => x = .sl .shared (v.bin.map encB) ∧ st' = st := by
 have hR := refRightF v hok hn hd
 unfold V.bin
 by_cases hr : v.right = true
 · rw [if_pos hr]
   obtain ⟨h1, -, h3⟩ := V.right_iff.1 hr
   have hP := refPutF v.nodes v (Nat.le_refl _) h3 h1 hok
   rw [hr] at hR
   generalize v.put = bs at *
   cases v with
   | mk k n s l =>
   rw [V.cells_mk] at *
   replace hR := Lib.hid hR
   replace hP := Lib.hid hP
   refine Qin [2] Tryz.func139 Tryz.results139 Tryz.ntmps139 ?_
   exact WR
 · rw [if_neg hr]
   have hr' : v.right = false := by simpa using hr
   rw [hr'] at hR
   cases v with
   | mk k n s l =>
   rw [V.cells_mk] at *
   replace hR := Lib.hid hR
   refine Qin [2] Tryz.func139 Tryz.results139 Tryz.ntmps139 ?_
   exact WR
end Go.Proofs.YtgcienlfpnpbgaaGreat
end
section
namespace Go.Proofs.YtgcienlfpnpbgaaGreat
attribute [local push_cast] encB encI encC encBs V.cells_mk V.cells_len Nat.mul_one Int.sub_zero List.map_nil beq_self_eq_true bne_self_eq_false List.head?_cons
open Go.RowKit B
set_option maxHeartbeats 8000000
set_option maxRecDepth 10000
namespace Reg
end Reg
end Go.Proofs.YtgcienlfpnpbgaaGreat
end
section
namespace Go.Proofs.YtgcienlfpnpbgaaGreat
attribute [local push_cast] encB encI encC encBs V.cells_mk V.cells_len Nat.mul_one Int.sub_zero List.map_nil beq_self_eq_true bne_self_eq_false List.head?_cons
open Go.RowKit B
set_option maxHeartbeats 16000000
set_option maxRecDepth 10000
theorem refNumN (n : Nat) (h : n ≤ 1000000) (st : St) : TrF Tryz.prog 60 [.i n] st fun d st' => d = .sl .tight ((be 4 n).map encB) ∧ st' = st := by
 have := refNumF n st
 rwa [if_pos (by omega), Int.toNat_natCast] at this
namespace Reg
def upTo {α : Type} (f : α → List UInt8) (X : List UInt8) (l : List α) (i : Nat) : List UInt8 := X ++ ((l.take i).map f).flatten
theorem upTo_zero {α : Type} (f : α → List UInt8) (X : List UInt8) (l : List α) : upTo f X l 0 = X := by unfold upTo; simp
theorem upTo_succ {α : Type} (f : α → List UInt8) (X : List UInt8) {l : List α} {i : Nat} {a : α} (h : l[i]? = some a) : upTo f X l (i + 1) = upTo f X l i ++ f a := by
 unfold upTo
 rw [List.take_add_one, h, Option.toList_some, List.map_append, List.flatten_append, List.append_assoc]
 congr 2
 show [f a].flatten = _
 rw [List.flatten_cons, List.flatten_nil, List.append_nil]
theorem upTo_all {α : Type} (f : α → List UInt8) (X : List UInt8) (l : List α) : upTo f (X ++ be 4 l.length) l l.length = X ++ listB f l := by
 unfold upTo listB
 rw [List.take_length, List.append_assoc]
theorem upTo_len {α : Type} (f : α → List UInt8) (X : List UInt8) (c k : Nat) (l : List α) (hf : ∀ a ∈ l, (f a).length ≤ k) (hX : X.length ≤ c) (i : Nat) (hi : i ≤ l.length) : (upTo f X l i).length ≤ c + i * k := by
 induction i with
 | zero => rw [upTo_zero]; omega
 | succ i ih =>
  obtain ⟨a, ha⟩ := gEx (l := l) (i := i) (by omega)
  have h1 := ih (by omega)
  have h2 := hf a (List.mem_of_getElem? ha)
  rw [upTo_succ f X ha, List.length_append, Nat.add_mul]
  omega
end Reg
abbrev penS (vb pb : Nat) (o : Own) (X : List UInt8) (q : Bool) (s : St) : St := .box vb 117 [.ptr pb 0] :: penR pb o X q s
def PenL (f : FuncId) (args : List D) (vb pb : Nat) (X Y : List UInt8) (q q' : Bool) : Prop := ∀ (o : Own), o ≠ .shared → ∀ s, TrF Tryz.prog f args (penS vb pb o X q s) fun d st' => ∃ o', o' ≠ .shared ∧ d = .tup [] ∧ st' = penS vb pb o' (X ++ Y) (q || q') s
namespace Rul
def listW {α : Type} (f : α → List UInt8 × Bool) (l : List α) : List UInt8 × Bool := (be 4 l.length ++ (l.map fun a => (f a).1).flatten, l.any fun a => (f a).2)
theorem listW_run {α : Type} (L : List α) (f : α → List UInt8 × Bool) (c : Nat) (X : List UInt8) (q : Bool) (hf : ∀ a ∈ L, (f a).1.length ≤ c) (hX : X.length + 4 + L.length * c ≤ 10000000000000) : ∃ (BF : Nat → List UInt8) (QF : Nat → Bool), (X ++ (listW f L).1 = BF L.length ∧ (q || (listW f L).2) = QF L.length) ∧ Hid (X ++ be 4 L.length = BF 0) ∧ Hid (q = QF 0) ∧ Hid (∀ (i : Nat) (a : α), L[i]? = some a → BF (i + 1) = BF i ++ (f a).1 ∧ QF (i + 1) = (QF i || (f a).2)) ∧ Hid (∀ i, i < L.length → (BF i).length + c ≤ 10000000000000) := by
 refine ⟨Reg.upTo (fun a => (f a).1) (X ++ be 4 L.length) L, fun i => (q || (L.take i).any fun a => (f a).2), ⟨(Reg.upTo_all _ _ _).symm, by dsimp only; rw [List.take_length]; rfl⟩, (Reg.upTo_zero _ _ _).symm, Lib.hid (by simp), fun i a h => ⟨Reg.upTo_succ _ _ h, by dsimp only; rw [List.take_add_one, h, Option.toList_some, List.any_append, Bool.or_assoc]; simp⟩, fun i hi => ?_⟩
 have h1 := Reg.upTo_len (fun a => (f a).1) (X ++ be 4 L.length) (X.length + 4) c L hf (by rw [List.length_append, be_len]; exact Nat.le_refl _) i (by omega)
 have h2 : (i + 1) * c ≤ L.length * c := Nat.mul_le_mul_right _ hi
 rw [Nat.add_mul] at h2
 omega
end Rul
theorem binNumN (n : Nat) (h : n ≤ 1000000) (st : St) : TrF Tryz.prog 134 [.i n] st fun d st' => d = .sl .tight ((be 4 n).map encB) ∧ st' = st := by
 have := binNumF n st
 rwa [if_pos (by omega), Int.toNat_natCast] at this
theorem ruleListTestF (fn : FuncId) (hcall : ∀ args w, (callFunc fn args).run Tryz.prog w = .ok (.enter fn args) w) (vb pb : Nat) (L : List Ts) (hl : L.length ≤ 1000) (f : Ts → List UInt8 × Bool) (c : Nat) (X : List UInt8) (q : Bool) (hf : ∀ a ∈ L, (f a).1.length ≤ c) (hX : X.length + 4 + L.length * c ≤ 10000000000000)
 (hF : ∀ a ∈ L, ∀ X q, X.length + c ≤ 10000000000000 → PenL fn [.agg a.cells, .ptr vb 0] vb pb X (f a).1 q (f a).2) : PenL 99 [.ptr pb 0, .sl .shared (L.map Ts.cells), .fn (.func fn) [] [.ptr vb 0]] vb pb X (Rul.listW f L).1 q (Rul.listW f L).2 := by
 intro o ho s
 have hN := binNumN L.length (by omega)
 have hm : (L.map Ts.cells).length = L.length := List.length_map ..
 have hc := hMp Ts.cells L
 have hF2 := Lib.hid hF
 obtain ⟨BF, QF, ⟨hXe, hqe⟩, hX0, hq0, hXs, hXl⟩ := Rul.listW_run L f c X q hf hX
 rw [hXe, hqe]
 have hb4 : (be 4 L.length).length = 4 := be_len ..
 have hXm : (X.map encB).length = X.length := List.length_map ..
 have hXX : X.length ≤ 10000000000000 := by omega
 clear hXe hqe hF hf hX
 generalize be 4 L.length = n4 at *
 generalize L.map Ts.cells = LS at *
 replace hN := Lib.hid hN
 refine Qin [] Tryz.func99 Tryz.results99 Tryz.ntmps99 ?_
 repeat' (first | (with_reducible first | refine Q1 ?_ | refine Qe ?_ | fail) | ((with_reducible refine w_draw [(pb, [.sl o (X.map encB), .b q])] ?_ ?_ ?_ ?_ ?_); (iterate 3 (focus kernel_rfl)); (focus exact keep_one (by repeat (first | exact mm_h | apply mm_t)))) | ((with_reducible refine And.intro ?_ ?_); (focus exact keep_one (by repeat (first | exact mm_h | apply mm_t)))) | (with_reducible first | refine QQ ?_ | (refine al_go ?_; intro b) | (refine Qa ?_; intro o' ho') | (refine Qp ?_; intro o' ho') | (refine QD ?_ <;> (try constructor) <;> intro hb <;> try intro hb1) | fail) | fail)
 clear hN
 refine tr_loopd (ι := Nat) (fun i A st' => i ≤ L.length ∧ A.df = [] ∧ A.e 2 = .fn (.func fn) [] [.ptr vb 0] ∧ A.e 19 = .sl .shared LS ∧ A.e 20 = .i L.length ∧ A.e 21 = .i i ∧ ∃ o', o' ≠ .shared ∧ st' = penS vb pb o' (BF i) (QF i) s) (fun i => L.length - i) 0 ?_ ?_
 · rw [← hX0.out, ← hq0.out]
   exact ⟨Nat.zero_le _, Qf, Qf, Qf, Qf, Qf, _, by assumption, by unfold penS penR; rw [List.map_append]⟩
 clear hX0 hq0 ho hb4
 clear o
 rintro i A st' ⟨hi, hdf, e2, e19, e20, e21, o, ho, rfl⟩
 by_cases hlt : i < L.length
 · obtain ⟨a, ha⟩ := gEx hlt
   have h1 := hc.out i a ha
   obtain ⟨hE, hQ⟩ := hXs.out i a ha
   have hG := hF2.out a (List.mem_of_getElem? ha) (BF i) (QF i) (hXl.out i hlt)
   clear ha hXs hXl hF2 hc
   unfold PenL at hG
   simp only [← hE, ← hQ] at hG
   clear hE hQ
   generalize BF i = Y at *
   generalize QF i = qi at *
   generalize hY2 : BF (i + 1) = Y2 at *
   generalize hq2 : QF (i + 1) = qi2 at *
   generalize (f a).1 = Z at *
   generalize (f a).2 = z at *
   cases a with
   | mk kind slot var val =>
   cases val with
   | mk k1 n1 s1 l1 =>
   rw [Ts.cells_mk] at h1 hG
   replace hG := Lib.hid hG
   replace hY2 := Lib.hid hY2
   replace hq2 := Lib.hid hq2
   repeat' (first | (with_reducible first | refine Q1 ?_ | refine Qe ?_ | refine QQ ?_ | (refine al_go ?_; intro b) | (refine Qa ?_; intro o' ho') | (refine Qp ?_; intro o' ho') | (refine QD ?_ <;> (try constructor) <;> intro hb <;> try intro hb1) | fail) | ((with_reducible apply (ck_gen hcall)); (focus exact (List.perm_middle (l₁ := [_, _, _])).symm); (focus exact hG.out o ho _); (focus exact LEL.refl _); (focus exact ⟨_, _, .tight, tight_ne, rfl, rfl⟩); (rintro d st' ⟨o', ho', rfl, rfl⟩)) | fail)
   refine ⟨i + 1, penS vb pb o' Y2 qi2 s, (by (repeat (first | exact List.Sublist.refl _ | with_reducible apply List.Sublist.cons_cons | apply List.Sublist.cons))), ⟨hlt, ?_, ?_, ?_, ?_, ?_, o', ho', by rw [hY2.out, hq2.out]⟩, by omega⟩
   all_goals exact Qf
 · obtain rfl : i = L.length := by omega
   repeat' (with_reducible first | refine Q1 ?_ | refine Qe ?_ | refine QQ ?_ | (refine al_go ?_; intro b) | (refine Qa ?_; intro o' ho') | (refine Qp ?_; intro o' ho') | (refine QD ?_ <;> (try constructor) <;> intro hb <;> try intro hb1) | fail)
   all_goals exact retA_mk (by simp) (by first | rfl | assumption) (List.Sublist.refl _) (LE.of_eq rfl) ⟨o, ho, rfl, rfl⟩
theorem ruleListPatF (fn : FuncId) (hcall : ∀ args w, (callFunc fn args).run Tryz.prog w = .ok (.enter fn args) w) (vb pb : Nat) (L : List Pt) (hl : L.length ≤ 1000) (f : Pt → List UInt8 × Bool) (c : Nat) (X : List UInt8) (q : Bool) (hf : ∀ a ∈ L, (f a).1.length ≤ c) (hX : X.length + 4 + L.length * c ≤ 10000000000000)
 (hF : ∀ a ∈ L, ∀ X q, X.length + c ≤ 10000000000000 → PenL fn [.agg a.cells, .ptr vb 0] vb pb X (f a).1 q (f a).2) : PenL 95 [.ptr pb 0, .sl .shared (L.map Pt.cells), .fn (.func fn) [] [.ptr vb 0]] vb pb X (Rul.listW f L).1 q (Rul.listW f L).2 := by
 intro o ho s
 have hN := binNumN L.length (by omega)
 have hm : (L.map Pt.cells).length = L.length := List.length_map ..
 have hc := hMp Pt.cells L
 have hF2 := Lib.hid hF
 obtain ⟨BF, QF, ⟨hXe, hqe⟩, hX0, hq0, hXs, hXl⟩ := Rul.listW_run L f c X q hf hX
 rw [hXe, hqe]
 have hb4 : (be 4 L.length).length = 4 := be_len ..
 have hXm : (X.map encB).length = X.length := List.length_map ..
 have hXX : X.length ≤ 10000000000000 := by omega
 clear hXe hqe hF hf hX
 generalize be 4 L.length = n4 at *
 generalize L.map Pt.cells = LS at *
 replace hN := Lib.hid hN
 refine Qin [] Tryz.func95 Tryz.results95 Tryz.ntmps95 ?_
 repeat' (first | (with_reducible first | refine Q1 ?_ | refine Qe ?_ | fail) | ((with_reducible refine w_draw [(pb, [.sl o (X.map encB), .b q])] ?_ ?_ ?_ ?_ ?_); (iterate 3 (focus kernel_rfl)); (focus exact keep_one (by repeat (first | exact mm_h | apply mm_t)))) | ((with_reducible refine And.intro ?_ ?_); (focus exact keep_one (by repeat (first | exact mm_h | apply mm_t)))) | (with_reducible first | refine QQ ?_ | (refine al_go ?_; intro b) | (refine Qa ?_; intro o' ho') | (refine Qp ?_; intro o' ho') | (refine QD ?_ <;> (try constructor) <;> intro hb <;> try intro hb1) | fail) | fail)
 clear hN
 refine tr_loopd (ι := Nat) (fun i A st' => i ≤ L.length ∧ A.df = [] ∧ A.e 2 = .fn (.func fn) [] [.ptr vb 0] ∧ A.e 19 = .sl .shared LS ∧ A.e 20 = .i L.length ∧ A.e 21 = .i i ∧ ∃ o', o' ≠ .shared ∧ st' = penS vb pb o' (BF i) (QF i) s) (fun i => L.length - i) 0 ?_ ?_
 · rw [← hX0.out, ← hq0.out]
   exact ⟨Nat.zero_le _, Qf, Qf, Qf, Qf, Qf, _, by assumption, by unfold penS penR; rw [List.map_append]⟩
 clear hX0 hq0 ho hb4
 clear o
 rintro i A st' ⟨hi, hdf, e2, e19, e20, e21, o, ho, rfl⟩
 by_cases hlt : i < L.length
 · obtain ⟨a, ha⟩ := gEx hlt
   have h1 := hc.out i a ha
   obtain ⟨hE, hQ⟩ := hXs.out i a ha
   have hG := hF2.out a (List.mem_of_getElem? ha) (BF i) (QF i) (hXl.out i hlt)
   clear ha hXs hXl hF2 hc
   unfold PenL at hG
   simp only [← hE, ← hQ] at hG
   clear hE hQ
   generalize BF i = Y at *
   generalize QF i = qi at *
   generalize hY2 : BF (i + 1) = Y2 at *
   generalize hq2 : QF (i + 1) = qi2 at *
   generalize (f a).1 = Z at *
   generalize (f a).2 = z at *
   unfold Pt.cells at h1 hG
   cases a with
   | mk tmpl neg tests =>
   dsimp only at h1 hG
   generalize tests.map Ts.cells = TS at *
   replace hG := Lib.hid hG
   replace hY2 := Lib.hid hY2
   replace hq2 := Lib.hid hq2
   repeat' (first | (with_reducible first | refine Q1 ?_ | refine Qe ?_ | refine QQ ?_ | (refine al_go ?_; intro b) | (refine Qa ?_; intro o' ho') | (refine Qp ?_; intro o' ho') | (refine QD ?_ <;> (try constructor) <;> intro hb <;> try intro hb1) | fail) | ((with_reducible apply (ck_gen hcall)); (focus exact (List.perm_middle (l₁ := [_, _, _])).symm); (focus exact hG.out o ho _); (focus exact LEL.refl _); (focus exact ⟨_, _, .tight, tight_ne, rfl, rfl⟩); (rintro d st' ⟨o', ho', rfl, rfl⟩)) | fail)
   refine ⟨i + 1, penS vb pb o' Y2 qi2 s, (by (repeat (first | exact List.Sublist.refl _ | with_reducible apply List.Sublist.cons_cons | apply List.Sublist.cons))), ⟨hlt, ?_, ?_, ?_, ?_, ?_, o', ho', by rw [hY2.out, hq2.out]⟩, by omega⟩
   all_goals exact Qf
 · obtain rfl : i = L.length := by omega
   repeat' (with_reducible first | refine Q1 ?_ | refine Qe ?_ | refine QQ ?_ | (refine al_go ?_; intro b) | (refine Qa ?_; intro o' ho') | (refine Qp ?_; intro o' ho') | (refine QD ?_ <;> (try constructor) <;> intro hb <;> try intro hb1) | fail)
   all_goals exact retA_mk (by simp) (by first | rfl | assumption) (List.Sublist.refl _) (LE.of_eq rfl) ⟨o, ho, rfl, rfl⟩
theorem ruleListActF (fn : FuncId) (hcall : ∀ args w, (callFunc fn args).run Tryz.prog w = .ok (.enter fn args) w) (vb pb : Nat) (L : List Ac) (hl : L.length ≤ 1000) (f : Ac → List UInt8 × Bool) (c : Nat) (X : List UInt8) (q : Bool) (hf : ∀ a ∈ L, (f a).1.length ≤ c) (hX : X.length + 4 + L.length * c ≤ 10000000000000)
 (hF : ∀ a ∈ L, ∀ X q, X.length + c ≤ 10000000000000 → PenL fn [.agg a.cells, .ptr vb 0] vb pb X (f a).1 q (f a).2) : PenL 102 [.ptr pb 0, .sl .shared (L.map Ac.cells), .fn (.func fn) [] [.ptr vb 0]] vb pb X (Rul.listW f L).1 q (Rul.listW f L).2 := by
 intro o ho s
 have hN := binNumN L.length (by omega)
 have hm : (L.map Ac.cells).length = L.length := List.length_map ..
 have hc := hMp Ac.cells L
 have hF2 := Lib.hid hF
 obtain ⟨BF, QF, ⟨hXe, hqe⟩, hX0, hq0, hXs, hXl⟩ := Rul.listW_run L f c X q hf hX
 rw [hXe, hqe]
 have hb4 : (be 4 L.length).length = 4 := be_len ..
 have hXm : (X.map encB).length = X.length := List.length_map ..
 have hXX : X.length ≤ 10000000000000 := by omega
 clear hXe hqe hF hf hX
 generalize be 4 L.length = n4 at *
 generalize L.map Ac.cells = LS at *
 replace hN := Lib.hid hN
 refine Qin [] Tryz.func102 Tryz.results102 Tryz.ntmps102 ?_
 repeat' (first | (with_reducible first | refine Q1 ?_ | refine Qe ?_ | fail) | ((with_reducible refine w_draw [(pb, [.sl o (X.map encB), .b q])] ?_ ?_ ?_ ?_ ?_); (iterate 3 (focus kernel_rfl)); (focus exact keep_one (by repeat (first | exact mm_h | apply mm_t)))) | ((with_reducible refine And.intro ?_ ?_); (focus exact keep_one (by repeat (first | exact mm_h | apply mm_t)))) | (with_reducible first | refine QQ ?_ | (refine al_go ?_; intro b) | (refine Qa ?_; intro o' ho') | (refine Qp ?_; intro o' ho') | (refine QD ?_ <;> (try constructor) <;> intro hb <;> try intro hb1) | fail) | fail)
 clear hN
 refine tr_loopd (ι := Nat) (fun i A st' => i ≤ L.length ∧ A.df = [] ∧ A.e 2 = .fn (.func fn) [] [.ptr vb 0] ∧ A.e 19 = .sl .shared LS ∧ A.e 20 = .i L.length ∧ A.e 21 = .i i ∧ ∃ o', o' ≠ .shared ∧ st' = penS vb pb o' (BF i) (QF i) s) (fun i => L.length - i) 0 ?_ ?_
 · rw [← hX0.out, ← hq0.out]
   exact ⟨Nat.zero_le _, Qf, Qf, Qf, Qf, Qf, _, by assumption, by unfold penS penR; rw [List.map_append]⟩
 clear hX0 hq0 ho hb4
 clear o
 rintro i A st' ⟨hi, hdf, e2, e19, e20, e21, o, ho, rfl⟩
 by_cases hlt : i < L.length
 · obtain ⟨a, ha⟩ := gEx hlt
   have h1 := hc.out i a ha
   obtain ⟨hE, hQ⟩ := hXs.out i a ha
   have hG := hF2.out a (List.mem_of_getElem? ha) (BF i) (QF i) (hXl.out i hlt)
   clear ha hXs hXl hF2 hc
   unfold PenL at hG
   simp only [← hE, ← hQ] at hG
   clear hE hQ
   generalize BF i = Y at *
   generalize QF i = qi at *
   generalize hY2 : BF (i + 1) = Y2 at *
   generalize hq2 : QF (i + 1) = qi2 at *
   generalize (f a).1 = Z at *
   generalize (f a).2 = z at *
   unfold Ac.cells at h1 hG
   cases a with
   | mk kind pat tmpl slot vals =>
   dsimp only at h1 hG
   generalize vals.map Ex.cells = ES at *
   replace hG := Lib.hid hG
   replace hY2 := Lib.hid hY2
   replace hq2 := Lib.hid hq2
   repeat' (first | (with_reducible first | refine Q1 ?_ | refine Qe ?_ | refine QQ ?_ | (refine al_go ?_; intro b) | (refine Qa ?_; intro o' ho') | (refine Qp ?_; intro o' ho') | (refine QD ?_ <;> (try constructor) <;> intro hb <;> try intro hb1) | fail) | ((with_reducible apply (ck_gen hcall)); (focus exact (List.perm_middle (l₁ := [_, _, _])).symm); (focus exact hG.out o ho _); (focus exact LEL.refl _); (focus exact ⟨_, _, .tight, tight_ne, rfl, rfl⟩); (rintro d st' ⟨o', ho', rfl, rfl⟩)) | fail)
   refine ⟨i + 1, penS vb pb o' Y2 qi2 s, (by (repeat (first | exact List.Sublist.refl _ | with_reducible apply List.Sublist.cons_cons | apply List.Sublist.cons))), ⟨hlt, ?_, ?_, ?_, ?_, ?_, o', ho', by rw [hY2.out, hq2.out]⟩, by omega⟩
   all_goals exact Qf
 · obtain rfl : i = L.length := by omega
   repeat' (with_reducible first | refine Q1 ?_ | refine Qe ?_ | refine QQ ?_ | (refine al_go ?_; intro b) | (refine Qa ?_; intro o' ho') | (refine Qp ?_; intro o' ho') | (refine QD ?_ <;> (try constructor) <;> intro hb <;> try intro hb1) | fail)
   all_goals exact retA_mk (by simp) (by first | rfl | assumption) (List.Sublist.refl _) (LE.of_eq rfl) ⟨o, ho, rfl, rfl⟩
theorem ruleListExprF (fn : FuncId) (hcall : ∀ args w, (callFunc fn args).run Tryz.prog w = .ok (.enter fn args) w) (vb pb : Nat) (L : List Ex) (hl : L.length ≤ 1000) (f : Ex → List UInt8 × Bool) (c : Nat) (X : List UInt8) (q : Bool) (hf : ∀ a ∈ L, (f a).1.length ≤ c) (hX : X.length + 4 + L.length * c ≤ 10000000000000)
 (hF : ∀ a ∈ L, ∀ X q, X.length + c ≤ 10000000000000 → PenL fn [.agg a.cells, .ptr vb 0] vb pb X (f a).1 q (f a).2) : PenL 104 [.ptr pb 0, .sl .shared (L.map Ex.cells), .fn (.func fn) [] [.ptr vb 0]] vb pb X (Rul.listW f L).1 q (Rul.listW f L).2 := by
 intro o ho s
 have hN := binNumN L.length (by omega)
 have hm : (L.map Ex.cells).length = L.length := List.length_map ..
 have hc := hMp Ex.cells L
 have hF2 := Lib.hid hF
 obtain ⟨BF, QF, ⟨hXe, hqe⟩, hX0, hq0, hXs, hXl⟩ := Rul.listW_run L f c X q hf hX
 rw [hXe, hqe]
 have hb4 : (be 4 L.length).length = 4 := be_len ..
 have hXm : (X.map encB).length = X.length := List.length_map ..
 have hXX : X.length ≤ 10000000000000 := by omega
 clear hXe hqe hF hf hX
 generalize be 4 L.length = n4 at *
 generalize L.map Ex.cells = LS at *
 replace hN := Lib.hid hN
 refine Qin [] Tryz.func104 Tryz.results104 Tryz.ntmps104 ?_
 repeat' (first | (with_reducible first | refine Q1 ?_ | refine Qe ?_ | fail) | ((with_reducible refine w_draw [(pb, [.sl o (X.map encB), .b q])] ?_ ?_ ?_ ?_ ?_); (iterate 3 (focus kernel_rfl)); (focus exact keep_one (by repeat (first | exact mm_h | apply mm_t)))) | ((with_reducible refine And.intro ?_ ?_); (focus exact keep_one (by repeat (first | exact mm_h | apply mm_t)))) | (with_reducible first | refine QQ ?_ | (refine al_go ?_; intro b) | (refine Qa ?_; intro o' ho') | (refine Qp ?_; intro o' ho') | (refine QD ?_ <;> (try constructor) <;> intro hb <;> try intro hb1) | fail) | fail)
 clear hN
 refine tr_loopd (ι := Nat) (fun i A st' => i ≤ L.length ∧ A.df = [] ∧ A.e 2 = .fn (.func fn) [] [.ptr vb 0] ∧ A.e 19 = .sl .shared LS ∧ A.e 20 = .i L.length ∧ A.e 21 = .i i ∧ ∃ o', o' ≠ .shared ∧ st' = penS vb pb o' (BF i) (QF i) s) (fun i => L.length - i) 0 ?_ ?_
 · rw [← hX0.out, ← hq0.out]
   exact ⟨Nat.zero_le _, Qf, Qf, Qf, Qf, Qf, _, by assumption, by unfold penS penR; rw [List.map_append]⟩
 clear hX0 hq0 ho hb4
 clear o
 rintro i A st' ⟨hi, hdf, e2, e19, e20, e21, o, ho, rfl⟩
 by_cases hlt : i < L.length
 · obtain ⟨a, ha⟩ := gEx hlt
   have h1 := hc.out i a ha
   obtain ⟨hE, hQ⟩ := hXs.out i a ha
   have hG := hF2.out a (List.mem_of_getElem? ha) (BF i) (QF i) (hXl.out i hlt)
   clear ha hXs hXl hF2 hc
   unfold PenL at hG
   simp only [← hE, ← hQ] at hG
   clear hE hQ
   generalize BF i = Y at *
   generalize QF i = qi at *
   generalize hY2 : BF (i + 1) = Y2 at *
   generalize hq2 : QF (i + 1) = qi2 at *
   generalize (f a).1 = Z at *
   generalize (f a).2 = z at *
   cases a with
   | mk iv var val =>
   cases val with
   | mk k1 n1 s1 l1 =>
   rw [Ex.cells_mk] at h1 hG
   replace hG := Lib.hid hG
   replace hY2 := Lib.hid hY2
   replace hq2 := Lib.hid hq2
   repeat' (first | (with_reducible first | refine Q1 ?_ | refine Qe ?_ | refine QQ ?_ | (refine al_go ?_; intro b) | (refine Qa ?_; intro o' ho') | (refine Qp ?_; intro o' ho') | (refine QD ?_ <;> (try constructor) <;> intro hb <;> try intro hb1) | fail) | ((with_reducible apply (ck_gen hcall)); (focus exact (List.perm_middle (l₁ := [_, _, _])).symm); (focus exact hG.out o ho _); (focus exact LEL.refl _); (focus exact ⟨_, _, .tight, tight_ne, rfl, rfl⟩); (rintro d st' ⟨o', ho', rfl, rfl⟩)) | fail)
   refine ⟨i + 1, penS vb pb o' Y2 qi2 s, (by (repeat (first | exact List.Sublist.refl _ | with_reducible apply List.Sublist.cons_cons | apply List.Sublist.cons))), ⟨hlt, ?_, ?_, ?_, ?_, ?_, o', ho', by rw [hY2.out, hq2.out]⟩, by omega⟩
   all_goals exact Qf
 · obtain rfl : i = L.length := by omega
   repeat' (with_reducible first | refine Q1 ?_ | refine Qe ?_ | refine QQ ?_ | (refine al_go ?_; intro b) | (refine Qa ?_; intro o' ho') | (refine Qp ?_; intro o' ho') | (refine QD ?_ <;> (try constructor) <;> intro hb <;> try intro hb1) | fail)
   all_goals exact retA_mk (by simp) (by first | rfl | assumption) (List.Sublist.refl _) (LE.of_eq rfl) ⟨o, ho, rfl, rfl⟩
theorem ruleListRuleF (fn : FuncId) (hcall : ∀ args w, (callFunc fn args).run Tryz.prog w = .ok (.enter fn args) w) (vb pb : Nat) (L : List Rl) (hl : L.length ≤ 1000) (f : Rl → List UInt8 × Bool) (c : Nat) (X : List UInt8) (q : Bool) (hf : ∀ a ∈ L, (f a).1.length ≤ c) (hX : X.length + 4 + L.length * c ≤ 10000000000000)
 (hF : ∀ a ∈ L, ∀ X q, X.length + c ≤ 10000000000000 → PenL fn [.agg a.cells, .ptr vb 0] vb pb X (f a).1 q (f a).2) : PenL 92 [.ptr pb 0, .sl .shared (L.map Rl.cells), .fn (.func fn) [] [.ptr vb 0]] vb pb X (Rul.listW f L).1 q (Rul.listW f L).2 := by
 intro o ho s
 have hN := binNumN L.length (by omega)
 have hm : (L.map Rl.cells).length = L.length := List.length_map ..
 have hc := hMp Rl.cells L
 have hF2 := Lib.hid hF
 obtain ⟨BF, QF, ⟨hXe, hqe⟩, hX0, hq0, hXs, hXl⟩ := Rul.listW_run L f c X q hf hX
 rw [hXe, hqe]
 have hb4 : (be 4 L.length).length = 4 := be_len ..
 have hXm : (X.map encB).length = X.length := List.length_map ..
 have hXX : X.length ≤ 10000000000000 := by omega
 clear hXe hqe hF hf hX
 generalize be 4 L.length = n4 at *
 generalize L.map Rl.cells = LS at *
 replace hN := Lib.hid hN
 refine Qin [] Tryz.func92 Tryz.results92 Tryz.ntmps92 ?_
 repeat' (first | (with_reducible first | refine Q1 ?_ | refine Qe ?_ | fail) | ((with_reducible refine w_draw [(pb, [.sl o (X.map encB), .b q])] ?_ ?_ ?_ ?_ ?_); (iterate 3 (focus kernel_rfl)); (focus exact keep_one (by repeat (first | exact mm_h | apply mm_t)))) | ((with_reducible refine And.intro ?_ ?_); (focus exact keep_one (by repeat (first | exact mm_h | apply mm_t)))) | (with_reducible first | refine QQ ?_ | (refine al_go ?_; intro b) | (refine Qa ?_; intro o' ho') | (refine Qp ?_; intro o' ho') | (refine QD ?_ <;> (try constructor) <;> intro hb <;> try intro hb1) | fail) | fail)
 clear hN
 refine tr_loopd (ι := Nat) (fun i A st' => i ≤ L.length ∧ A.df = [] ∧ A.e 2 = .fn (.func fn) [] [.ptr vb 0] ∧ A.e 19 = .sl .shared LS ∧ A.e 20 = .i L.length ∧ A.e 21 = .i i ∧ ∃ o', o' ≠ .shared ∧ st' = penS vb pb o' (BF i) (QF i) s) (fun i => L.length - i) 0 ?_ ?_
 · rw [← hX0.out, ← hq0.out]
   exact ⟨Nat.zero_le _, Qf, Qf, Qf, Qf, Qf, _, by assumption, by unfold penS penR; rw [List.map_append]⟩
 clear hX0 hq0 ho hb4
 clear o
 rintro i A st' ⟨hi, hdf, e2, e19, e20, e21, o, ho, rfl⟩
 by_cases hlt : i < L.length
 · obtain ⟨a, ha⟩ := gEx hlt
   have h1 := hc.out i a ha
   obtain ⟨hE, hQ⟩ := hXs.out i a ha
   have hG := hF2.out a (List.mem_of_getElem? ha) (BF i) (QF i) (hXl.out i hlt)
   clear ha hXs hXl hF2 hc
   unfold PenL at hG
   simp only [← hE, ← hQ] at hG
   clear hE hQ
   generalize BF i = Y at *
   generalize QF i = qi at *
   generalize hY2 : BF (i + 1) = Y2 at *
   generalize hq2 : QF (i + 1) = qi2 at *
   generalize (f a).1 = Z at *
   generalize (f a).2 = z at *
   unfold Rl.cells at h1 hG
   cases a with
   | mk nm sal pats acts =>
   dsimp only at h1 hG
   generalize pats.map Pt.cells = PS at *
   generalize acts.map Ac.cells = AS at *
   replace hG := Lib.hid hG
   replace hY2 := Lib.hid hY2
   replace hq2 := Lib.hid hq2
   repeat' (first | (with_reducible first | refine Q1 ?_ | refine Qe ?_ | refine QQ ?_ | (refine al_go ?_; intro b) | (refine Qa ?_; intro o' ho') | (refine Qp ?_; intro o' ho') | (refine QD ?_ <;> (try constructor) <;> intro hb <;> try intro hb1) | fail) | ((with_reducible apply (ck_gen hcall)); (focus exact (List.perm_middle (l₁ := [_, _, _])).symm); (focus exact hG.out o ho _); (focus exact LEL.refl _); (focus exact ⟨_, _, .tight, tight_ne, rfl, rfl⟩); (rintro d st' ⟨o', ho', rfl, rfl⟩)) | fail)
   refine ⟨i + 1, penS vb pb o' Y2 qi2 s, (by (repeat (first | exact List.Sublist.refl _ | with_reducible apply List.Sublist.cons_cons | apply List.Sublist.cons))), ⟨hlt, ?_, ?_, ?_, ?_, ?_, o', ho', by rw [hY2.out, hq2.out]⟩, by omega⟩
   all_goals exact Qf
 · obtain rfl : i = L.length := by omega
   repeat' (with_reducible first | refine Q1 ?_ | refine Qe ?_ | refine QQ ?_ | (refine al_go ?_; intro b) | (refine Qa ?_; intro o' ho') | (refine Qp ?_; intro o' ho') | (refine QD ?_ <;> (try constructor) <;> intro hb <;> try intro hb1) | fail)
   all_goals exact retA_mk (by simp) (by first | rfl | assumption) (List.Sublist.refl _) (LE.of_eq rfl) ⟨o, ho, rfl, rfl⟩
namespace Rul
def bitI (b : Bool) : Int := if b then 1 else 0
def numsW (l : List Int) : List UInt8 × Bool := (l.map Reg.b8, l.any badN)
def catW (a b : List UInt8 × Bool) : List UInt8 × Bool := (a.1 ++ b.1, a.2 || b.2)
def valW (v : V) : List UInt8 × Bool := (v.bin, decide (v.bin = []))
def tsW (t : Ts) : List UInt8 × Bool := catW (numsW [t.kind, t.slot, t.var]) (valW t.val)
def ptW (p : Pt) : List UInt8 × Bool := catW (numsW [p.tmpl, bitI p.neg]) (listW tsW p.tests)
def exW (e : Ex) : List UInt8 × Bool := catW (numsW [bitI e.isVar, e.var]) (valW e.val)
def acW (a : Ac) : List UInt8 × Bool := catW (numsW [a.kind, a.pat, a.tmpl, a.slot]) (listW exW a.vals)
def headW (x : Rl) : List UInt8 := [tx x.name.data.toList, be 8 (IntKind.u64.wrap x.sal).toNat].flatten
def rlW (x : Rl) : List UInt8 × Bool := catW (catW (headW x, false) (listW ptW x.pats)) (listW acW x.acts)
def put (R : List Rl) : List UInt8 := if (listW rlW R).2 = true then [] else (listW rlW R).1
theorem valW_len (v : V) : (valW v).1.length ≤ 20500 := Reg.bin_len v
theorem tsW_len (t : Ts) : (tsW t).1.length ≤ 20510 := by
 have := valW_len t.val
 unfold tsW catW numsW
 simp only [List.length_append, List.length_map, List.length_cons, List.length_nil]
 omega
theorem exW_len (e : Ex) : (exW e).1.length ≤ 20510 := by
 have := valW_len e.val
 unfold exW catW numsW
 simp only [List.length_append, List.length_map, List.length_cons, List.length_nil]
 omega
theorem listW_len {α : Type} (f : α → List UInt8 × Bool) (c : Nat) (l : List α) (h : ∀ a ∈ l, (f a).1.length ≤ c) : (listW f l).1.length ≤ 4 + l.length * c := Reg.listB_len (fun a => (f a).1) c l h
theorem ptW_len (p : Pt) (h : p.tests.length ≤ 100) : (ptW p).1.length ≤ 2051010 := by
 have h1 := listW_len tsW 20510 p.tests fun t _ => tsW_len t
 have h2 : p.tests.length * 20510 ≤ 100 * 20510 := Nat.mul_le_mul_right _ h
 unfold ptW catW numsW
 simp only [List.length_append, List.length_map, List.length_cons, List.length_nil]
 omega
theorem acW_len (a : Ac) (h : a.vals.length ≤ 100) : (acW a).1.length ≤ 2051010 := by
 have h1 := listW_len exW 20510 a.vals fun t _ => exW_len t
 have h2 : a.vals.length * 20510 ≤ 100 * 20510 := Nat.mul_le_mul_right _ h
 unfold acW catW numsW
 simp only [List.length_append, List.length_map, List.length_cons, List.length_nil]
 omega
theorem headW_len (x : Rl) (h : x.name.size ≤ 900000) : (headW x).length ≤ 900012 := by
 unfold headW tx
 have : x.name.data.toList.length = x.name.size := by simp
 simp only [List.flatten_cons, List.flatten_nil, List.append_nil, List.length_append, be_len]
 omega
theorem rlW_len (x : Rl) (h : RK x) : (rlW x).1.length ≤ 411103000 := by
 have h0 := headW_len x h.nm
 have h1 := listW_len ptW 2051010 x.pats fun p hp => ptW_len p (h.nt p hp)
 have h2 := listW_len acW 2051010 x.acts fun a ha => acW_len a (h.nv a ha)
 have h3 : x.pats.length * 2051010 ≤ 100 * 2051010 := Nat.mul_le_mul_right _ h.np
 have h4 : x.acts.length * 2051010 ≤ 100 * 2051010 := Nat.mul_le_mul_right _ h.na
 unfold rlW catW
 simp only [List.length_append]
 omega
end Rul
theorem rulePutTsF (vb pb : Nat) (t : Ts) (ht : VQ t.val) (X : List UInt8) (q : Bool) (hX : X.length + 20510 ≤ 10000000000000) : PenL 100 [.agg t.cells, .ptr vb 0] vb pb X (Rul.tsW t).1 q (Rul.tsW t).2 := by
 intro o ho s
 have hB := penBytesF pb [t.kind, t.slot, t.var] (by show 3 ≤ 100; omega) X q (by show _ + 3 ≤ _; omega)
 have hV := penValueF pb t.val ht (X ++ [t.kind, t.slot, t.var].map Reg.b8) (q || [t.kind, t.slot, t.var].any Rul.badN) (by rw [List.length_append]; show _ + 3 ≤ _; omega)
 have e1 : X ++ (Rul.tsW t).1 = X ++ [t.kind, t.slot, t.var].map Reg.b8 ++ t.val.bin := (List.append_assoc ..).symm
 have e2 : (q || (Rul.tsW t).2) = ((q || [t.kind, t.slot, t.var].any Rul.badN) || decide (t.val.bin = [])) := (Bool.or_assoc ..).symm
 rw [e1, e2]
 clear e1 e2 hX ht
 generalize t.val.bin = Y at *
 generalize decide (Y = []) = y at *
 generalize [t.kind, t.slot, t.var].map Reg.b8 = Z at *
 generalize [t.kind, t.slot, t.var].any Rul.badN = z at *
 cases t with
 | mk kind slot var val =>
 cases val with
 | mk k1 n1 s1 l1 =>
 rw [Ts.cells_mk]
 dsimp only at *
 rw [V.cells_mk] at hV
 replace hB := Lib.hid hB
 replace hV := Lib.hid hV
 refine Qin [] Tryz.func100 Tryz.results100 Tryz.ntmps100 ?_
 repeat' (first | (with_reducible first | refine Q1 ?_ | refine Qe ?_ | refine QQ ?_ | (refine al_go ?_; intro b) | (refine Qa ?_; intro o' ho') | (refine Qp ?_; intro o' ho') | (refine QD ?_ <;> (try constructor) <;> intro hb <;> try intro hb1) | fail) | ((with_reducible apply (ck_ex2 Tryz.call97)); exact hB.out o ho; (focus first | exact LEL.refl _ | ((repeat' (first | exact LEL.nil | refine LEL.cons ?_ ?_ | exact LE.refl _ | exact LE.sl _ _ | refine LE.agg ?_)); done)); (focus (intro _; (repeat (first | exact At2.here | apply At2.there)); done)); (focus exact ⟨.tight, by intro h; cases h⟩); intro o1 ho1) | ((with_reducible apply (ck_ex2 Tryz.call101)); exact hV.out o1 ho1; (focus first | exact LEL.refl _ | ((repeat' (first | exact LEL.nil | refine LEL.cons ?_ ?_ | exact LE.refl _ | exact LE.sl _ _ | refine LE.agg ?_)); done)); (focus (intro _; (repeat (first | exact At2.here | apply At2.there)); done)); (focus exact ⟨.tight, by intro h; cases h⟩); intro o2 ho2) | fail)
 all_goals exact retA_mk (by simp) (by first | rfl | assumption) (List.Sublist.refl _) (LE.of_eq rfl) ⟨o2, ho2, rfl, rfl⟩
theorem rulePutExF (vb pb : Nat) (e : Ex) (he : VQ e.val) (X : List UInt8) (q : Bool) (hX : X.length + 20510 ≤ 10000000000000) : PenL 105 [.agg e.cells, .ptr vb 0] vb pb X (Rul.exW e).1 q (Rul.exW e).2 := by
 intro o ho s
 have hBi := ruleBitF e.isVar
 have hB := penBytesF pb [Rul.bitI e.isVar, e.var] (by show 2 ≤ 100; omega) X q (by show _ + 2 ≤ _; omega)
 have hV := penValueF pb e.val he (X ++ [Rul.bitI e.isVar, e.var].map Reg.b8) (q || [Rul.bitI e.isVar, e.var].any Rul.badN) (by rw [List.length_append]; show _ + 2 ≤ _; omega)
 have e1 : X ++ (Rul.exW e).1 = X ++ [Rul.bitI e.isVar, e.var].map Reg.b8 ++ e.val.bin := (List.append_assoc ..).symm
 have e2 : (q || (Rul.exW e).2) = ((q || [Rul.bitI e.isVar, e.var].any Rul.badN) || decide (e.val.bin = [])) := (Bool.or_assoc ..).symm
 rw [e1, e2]
 clear e1 e2 hX he
 generalize e.val.bin = Y at *
 generalize decide (Y = []) = y at *
 generalize [Rul.bitI e.isVar, e.var].map Reg.b8 = Z at *
 generalize [Rul.bitI e.isVar, e.var].any Rul.badN = z at *
 unfold Rul.bitI at hB
 generalize (if e.isVar = true then (1 : Int) else 0) = bi at *
 cases e with
 | mk iv var val =>
 cases val with
 | mk k1 n1 s1 l1 =>
 rw [Ex.cells_mk]
 dsimp only at *
 rw [V.cells_mk] at hV
 replace hBi := Lib.hid hBi
 replace hB := Lib.hid hB
 replace hV := Lib.hid hV
 refine Qin [] Tryz.func105 Tryz.results105 Tryz.ntmps105 ?_
 repeat' (first | (with_reducible first | refine Q1 ?_ | refine Qe ?_ | fail) | ((with_reducible refine w_draw [(vb, [.ptr pb 0])] ?_ ?_ ?_ ?_ ?_); (iterate 3 (focus kernel_rfl)); (focus exact keep_one (by repeat (first | exact mm_h | apply mm_t)))) | ((with_reducible refine And.intro ?_ ?_); (focus exact keep_one (by repeat (first | exact mm_h | apply mm_t)))) | (with_reducible first | refine QQ ?_ | (refine al_go ?_; intro b) | (refine Qa ?_; intro o' ho') | (refine Qp ?_; intro o' ho') | (refine QD ?_ <;> (try constructor) <;> intro hb <;> try intro hb1) | fail) | ((with_reducible apply (ck_ex2 Tryz.call97)); exact hB.out o ho; (focus first | exact LEL.refl _ | ((repeat' (first | exact LEL.nil | refine LEL.cons ?_ ?_ | exact LE.refl _ | exact LE.sl _ _ | refine LE.agg ?_)); done)); (focus (intro _; (repeat (first | exact At2.here | apply At2.there)); done)); (focus exact ⟨.tight, by intro h; cases h⟩); intro o1 ho1) | ((with_reducible apply (ck_ex2 Tryz.call101)); exact hV.out o1 ho1; (focus first | exact LEL.refl _ | ((repeat' (first | exact LEL.nil | refine LEL.cons ?_ ?_ | exact LE.refl _ | exact LE.sl _ _ | refine LE.agg ?_)); done)); (focus (intro _; (repeat (first | exact At2.here | apply At2.there)); done)); (focus exact ⟨.tight, by intro h; cases h⟩); intro o2 ho2) | fail)
 all_goals exact retA_mk (by simp) (by first | rfl | assumption) (List.Sublist.refl _) (LE.of_eq rfl) ⟨o2, ho2, rfl, rfl⟩
theorem rulePutPtF (vb pb : Nat) (p : Pt) (hp : p.tests.length ≤ 100) (ht : ∀ t ∈ p.tests, VQ t.val) (X : List UInt8) (q : Bool) (hX : X.length + 2051010 ≤ 10000000000000) : PenL 96 [.agg p.cells, .ptr vb 0] vb pb X (Rul.ptW p).1 q (Rul.ptW p).2 := by
 intro o ho s
 have hBi := ruleBitF p.neg
 have hB := penBytesF pb [p.tmpl, Rul.bitI p.neg] (by show 2 ≤ 100; omega) X q (by show _ + 2 ≤ _; omega)
 have hL := ruleListTestF 100 Tryz.call100 vb pb p.tests (by omega) Rul.tsW 20510 (X ++ [p.tmpl, Rul.bitI p.neg].map Reg.b8) (q || [p.tmpl, Rul.bitI p.neg].any Rul.badN) (fun t _ => Rul.tsW_len t)
  (by have h2 : p.tests.length * 20510 ≤ 100 * 20510 := Nat.mul_le_mul_right _ hp
      rw [List.length_append]; show _ + 2 + 4 + _ ≤ _; omega) (fun t h X q hX => rulePutTsF vb pb t (ht t h) X q hX)
 have e1 : X ++ (Rul.ptW p).1 = X ++ [p.tmpl, Rul.bitI p.neg].map Reg.b8 ++ (Rul.listW Rul.tsW p.tests).1 := (List.append_assoc ..).symm
 have e2 : (q || (Rul.ptW p).2) = ((q || [p.tmpl, Rul.bitI p.neg].any Rul.badN) || (Rul.listW Rul.tsW p.tests).2) := (Bool.or_assoc ..).symm
 rw [e1, e2]
 clear e1 e2 hX ht
 generalize Rul.listW Rul.tsW p.tests = Y at *
 generalize [p.tmpl, Rul.bitI p.neg].map Reg.b8 = Z at *
 generalize [p.tmpl, Rul.bitI p.neg].any Rul.badN = z at *
 unfold Rul.bitI at hB
 generalize (if p.neg = true then (1 : Int) else 0) = bi at *
 unfold Pt.cells
 cases p with
 | mk tmpl neg tests =>
 dsimp only at *
 generalize tests.map Ts.cells = TS at *
 replace hBi := Lib.hid hBi
 replace hB := Lib.hid hB
 replace hL := Lib.hid hL
 refine Qin [] Tryz.func96 Tryz.results96 Tryz.ntmps96 ?_
 repeat' (first | (with_reducible first | refine Q1 ?_ | refine Qe ?_ | fail) | ((with_reducible refine w_draw [(vb, [.ptr pb 0])] ?_ ?_ ?_ ?_ ?_); (iterate 3 (focus kernel_rfl)); (focus exact keep_one (by repeat (first | exact mm_h | apply mm_t)))) | ((with_reducible refine And.intro ?_ ?_); (focus exact keep_one (by repeat (first | exact mm_h | apply mm_t)))) | (with_reducible first | refine QQ ?_ | (refine al_go ?_; intro b) | (refine Qa ?_; intro o' ho') | (refine Qp ?_; intro o' ho') | (refine QD ?_ <;> (try constructor) <;> intro hb <;> try intro hb1) | fail) | ((with_reducible apply (ck_ex2 Tryz.call97)); exact hB.out o ho; (focus first | exact LEL.refl _ | ((repeat' (first | exact LEL.nil | refine LEL.cons ?_ ?_ | exact LE.refl _ | exact LE.sl _ _ | refine LE.agg ?_)); done)); (focus (intro _; (repeat (first | exact At2.here | apply At2.there)); done)); (focus exact ⟨.tight, by intro h; cases h⟩); intro o1 ho1) | (refine QE Tryz.call99 (hL.out o1 ho1 _) ?_; intro o2 ho2) | fail)
 all_goals exact retA_mk (by simp) (by first | rfl | assumption) (List.Sublist.refl _) (LE.of_eq rfl) ⟨o2, ho2, rfl, rfl⟩
theorem rulePutAcF (vb pb : Nat) (a : Ac) (hp : a.vals.length ≤ 100) (ht : ∀ e ∈ a.vals, VQ e.val) (X : List UInt8) (q : Bool) (hX : X.length + 2051010 ≤ 10000000000000) : PenL 103 [.agg a.cells, .ptr vb 0] vb pb X (Rul.acW a).1 q (Rul.acW a).2 := by
 intro o ho s
 have hB := penBytesF pb [a.kind, a.pat, a.tmpl, a.slot] (by show 4 ≤ 100; omega) X q (by show _ + 4 ≤ _; omega)
 have hL := ruleListExprF 105 Tryz.call105 vb pb a.vals (by omega) Rul.exW 20510 (X ++ [a.kind, a.pat, a.tmpl, a.slot].map Reg.b8) (q || [a.kind, a.pat, a.tmpl, a.slot].any Rul.badN) (fun t _ => Rul.exW_len t)
  (by have h2 : a.vals.length * 20510 ≤ 100 * 20510 := Nat.mul_le_mul_right _ hp
      rw [List.length_append]; show _ + 4 + 4 + _ ≤ _; omega) (fun t h X q hX => rulePutExF vb pb t (ht t h) X q hX)
 have e1 : X ++ (Rul.acW a).1 = X ++ [a.kind, a.pat, a.tmpl, a.slot].map Reg.b8 ++ (Rul.listW Rul.exW a.vals).1 := (List.append_assoc ..).symm
 have e2 : (q || (Rul.acW a).2) = ((q || [a.kind, a.pat, a.tmpl, a.slot].any Rul.badN) || (Rul.listW Rul.exW a.vals).2) := (Bool.or_assoc ..).symm
 rw [e1, e2]
 clear e1 e2 hX ht
 generalize Rul.listW Rul.exW a.vals = Y at *
 generalize [a.kind, a.pat, a.tmpl, a.slot].map Reg.b8 = Z at *
 generalize [a.kind, a.pat, a.tmpl, a.slot].any Rul.badN = z at *
 unfold Ac.cells
 cases a with
 | mk kind pat tmpl slot vals =>
 dsimp only at *
 generalize vals.map Ex.cells = ES at *
 replace hB := Lib.hid hB
 replace hL := Lib.hid hL
 refine Qin [] Tryz.func103 Tryz.results103 Tryz.ntmps103 ?_
 repeat' (first | (with_reducible first | refine Q1 ?_ | refine Qe ?_ | refine QQ ?_ | (refine al_go ?_; intro b) | (refine Qa ?_; intro o' ho') | (refine Qp ?_; intro o' ho') | (refine QD ?_ <;> (try constructor) <;> intro hb <;> try intro hb1) | fail) | ((with_reducible apply (ck_ex2 Tryz.call97)); exact hB.out o ho; (focus first | exact LEL.refl _ | ((repeat' (first | exact LEL.nil | refine LEL.cons ?_ ?_ | exact LE.refl _ | exact LE.sl _ _ | refine LE.agg ?_)); done)); (focus (intro _; (repeat (first | exact At2.here | apply At2.there)); done)); (focus exact ⟨.tight, by intro h; cases h⟩); intro o1 ho1) | (refine QE Tryz.call104 (hL.out o1 ho1 _) ?_; intro o2 ho2) | fail)
 all_goals exact retA_mk (by simp) (by first | rfl | assumption) (List.Sublist.refl _) (LE.of_eq rfl) ⟨o2, ho2, rfl, rfl⟩
theorem rulePutRlF (vb pb : Nat) (x : Rl) (hx : Rul.RK x) (hs : -9223372036854775808 ≤ x.sal ∧ x.sal ≤ 9223372036854775807) (X : List UInt8) (q : Bool) (hX : X.length + 411103000 ≤ 10000000000000) : PenL 93 [.agg x.cells, .ptr vb 0] vb pb X (Rul.rlW x).1 q (Rul.rlW x).2 := by
 intro o ho s
 have hT := binTextF x.name (by have := hx.nm; omega)
 have hLo := binLongF x.sal hs
 have hhl := Rul.headW_len x hx.nm
 have hA := binAllF .tight [tx x.name.data.toList, be 8 (IntKind.u64.wrap x.sal).toNat] (by unfold Rul.headW at hhl; omega) (by show 2 ≤ 1000000; omega)
 have h3 : x.pats.length * 2051010 ≤ 100 * 2051010 := Nat.mul_le_mul_right _ hx.np
 have h4 : x.acts.length * 2051010 ≤ 100 * 2051010 := Nat.mul_le_mul_right _ hx.na
 have hp1 := Rul.listW_len Rul.ptW 2051010 x.pats fun p hp => Rul.ptW_len p (hx.nt p hp)
 have hP := ruleListPatF 96 Tryz.call96 vb pb x.pats (by have := hx.np; omega) Rul.ptW 2051010 (X ++ Rul.headW x) q (fun p h => Rul.ptW_len p (hx.nt p h)) (by rw [List.length_append]; omega) (fun p h X q hX => rulePutPtF vb pb p (hx.nt p h) (hx.vt p h) X q hX)
 have hC := ruleListActF 103 Tryz.call103 vb pb x.acts (by have := hx.na; omega) Rul.acW 2051010 (X ++ Rul.headW x ++ (Rul.listW Rul.ptW x.pats).1) (q || (Rul.listW Rul.ptW x.pats).2) (fun p h => Rul.acW_len p (hx.nv p h)) (by rw [List.length_append, List.length_append]; omega) (fun p h X q hX => rulePutAcF vb pb p (hx.nv p h) (hx.va p h) X q hX)
 have e1 : X ++ (Rul.rlW x).1 = X ++ Rul.headW x ++ (Rul.listW Rul.ptW x.pats).1 ++ (Rul.listW Rul.acW x.acts).1 := by unfold Rul.rlW Rul.catW; simp only [List.append_assoc]
 have e2 : (q || (Rul.rlW x).2) = ((q || (Rul.listW Rul.ptW x.pats).2) || (Rul.listW Rul.acW x.acts).2) := by unfold Rul.rlW Rul.catW; simp only [Bool.or_assoc, Bool.false_or]
 rw [e1, e2]
 have hXX : X.length ≤ 10000000000000 := by omega
 have hXm : (X.map encB).length = X.length := List.length_map ..
 have hHm : ((Rul.headW x).map encB).length = (Rul.headW x).length := List.length_map ..
 clear e1 e2 hX hx hp1 h3 h4
 have hHe : (X ++ Rul.headW x).map encB = X.map encB ++ (Rul.headW x).map encB := List.map_append ..
 unfold Rul.headW at *
 generalize [tx x.name.data.toList, be 8 (IntKind.u64.wrap x.sal).toNat].flatten = H at *
 simp only [List.map_cons, List.map_nil, encBs] at hA
 generalize tx x.name.data.toList = b1 at *
 generalize be 8 (IntKind.u64.wrap x.sal).toNat = b2 at *
 generalize Rul.listW Rul.ptW x.pats = W1 at *
 generalize Rul.listW Rul.acW x.acts = W2 at *
 unfold PenL penS penR at hP hC
 unfold penS penR
 rw [hHe] at hP
 unfold Rl.cells
 cases x with
 | mk nm sal pats acts =>
 dsimp only at *
 generalize pats.map Pt.cells = PS at *
 generalize acts.map Ac.cells = AS at *
 replace hT := Lib.hid hT
 replace hLo := Lib.hid hLo
 replace hA := Lib.hid hA
 replace hP := Lib.hid hP
 replace hC := Lib.hid hC
 clear hs hHe
 refine Qin [] Tryz.func93 Tryz.results93 Tryz.ntmps93 ?_
 repeat' (first | (with_reducible first | refine Q1 ?_ | refine Qe ?_ | fail) | ((with_reducible apply (w_drawN [(vb, [.ptr pb 0]), (pb, [.sl o (X.map encB), .b q])])); (iterate 3 (focus kernel_rfl)); (focus ((repeat (first | exact keep_nil | refine keep_more (by (repeat (first | exact mm_h | apply mm_t)); done) ?_)); done)); intro hne; simp only [nes, ne1, and_assoc] at hne; repeat (have hq := hne.1; replace hne := hne.2)) | ((with_reducible refine And.intro ?_ ?_); (focus ((repeat (first | exact keep_nil | refine keep_more (by (repeat (first | exact mm_h | apply mm_t)); done) ?_)); done))) | (with_reducible first | refine QQ ?_ | (refine al_go ?_; intro b) | (refine Qa ?_; intro o' ho') | (refine Qp ?_; intro o' ho') | (refine QD ?_ <;> (try constructor) <;> intro hb <;> try intro hb1) | fail) | (refine QE Tryz.call54 (hA.out _) ?_; intro o2 ho2) | ((with_reducible apply (ck_gen Tryz.call95)); (focus exact (List.perm_middle (l₁ := [_, _, _])).symm); (focus exact hP.out o' ho' _); (focus exact LEL.refl _); (focus exact ⟨_, _, .tight, tight_ne, rfl, rfl⟩); (rintro d st' ⟨o3, ho3, rfl, rfl⟩)) | (refine QE Tryz.call102 (hC.out o3 ho3 _) ?_; intro o4 ho4) | fail)
 all_goals exact retA_mk (by simp) (by first | rfl | assumption) (by (repeat (first | exact List.Sublist.refl _ | with_reducible apply List.Sublist.cons_cons | apply List.Sublist.cons))) (LE.of_eq rfl) ⟨o4, ho4, rfl, rfl⟩
theorem rulePutF (R : List Rl) (hR : ∀ x ∈ R, Rul.RK x ∧ (-9223372036854775808 ≤ x.sal ∧ x.sal ≤ 9223372036854775807)) (hl : R.length ≤ 1000) (st : St) : TrF Tryz.prog 39 [.sl .shared (R.map Rl.cells)] st fun d st' => d = .sl .shared ((Rul.put R).map encB) ∧ st' = st := by
 have h3 : R.length * 411103000 ≤ 1000 * 411103000 := Nat.mul_le_mul_right _ hl
 have hL := fun (vb pb : Nat) => ruleListRuleF 93 Tryz.call93 vb pb R hl Rul.rlW 411103000 [] false (fun x h => Rul.rlW_len x (hR x h).1) (by show 0 + 4 + _ ≤ _; omega) (fun x h X q hX => rulePutRlF vb pb x (hR x h).1 (hR x h).2 X q hX)
 unfold Rul.put
 generalize Rul.listW Rul.rlW R = W1 at *
 obtain ⟨Y, q⟩ := W1
 dsimp only at *
 generalize R.map Rl.cells = RS at *
 clear hR h3 hl
 unfold PenL penS penR at hL
 simp only [List.nil_append, Bool.false_or] at hL
 replace hL := Lib.hid hL
 cases q
 all_goals (
  refine Qin [2] Tryz.func39 Tryz.results39 Tryz.ntmps39 ?_
  refine tr_room 5 1 (([] : List UInt8).map encB).length ?_
  repeat' (first | (with_reducible first | refine Q1 ?_ | refine Qe ?_ | refine s_boxP ?_ | refine QQ ?_ | (refine al_go ?_; intro b) | (refine Qa ?_; intro o' ho') | (refine Qp ?_; intro o' ho') | (refine QD ?_ <;> (try constructor) <;> intro hb <;> try intro hb1) | fail) | (refine QE Tryz.call92 (hL.out _ _ .tight tight_ne _) ?_; intro o1 ho1) | fail)
  all_goals exact Qret)
end Go.Proofs.YtgcienlfpnpbgaaGreat
end
section
namespace Go.Proofs.YtgcienlfpnpbgaaGreat
attribute [local push_cast] encB encI RS.cells V.cells_mk V.cells_len Nat.mul_one Int.sub_zero List.map_nil beq_self_eq_true bne_self_eq_false List.head?_cons
open Go.RowKit B
set_option maxHeartbeats 16000000
set_option maxRecDepth 10000
namespace Rul
abbrev GS := RS × Bool
def flagS (s : GS) : Bool × GS := (s.1.byte.1 == 1, (s.1.byte.2, s.2 && decide (s.1.byte.1 ≤ 1)))
def byteS (s : GS) : Int × GS := (s.1.byte.1, (s.1.byte.2, s.2))
def valS (s : GS) : V × GS := (s.1.val.1, (s.1.val.2, s.2))
def rdG {α : Type} (f : GS → α × GS) : Nat → GS → List α × GS
 | 0, s => ([], s)
 | n + 1, s => if s.1.bad = true then ([], s) else ((f s).1 :: (rdG f n (f s).2).1, (rdG f n (f s).2).2)
def glist {α : Type} (f : GS → α × GS) (k : Int) (s : GS) : List α × GS := rdG f (if k < s.1.rnum.1 then k else s.1.rnum.1).toNat (s.1.rnum.2, s.2)
def tsG (s : GS) : Ts × GS :=
 let a := byteS s; let b := byteS a.2; let c := byteS b.2; let d := valS c.2
 (⟨a.1, b.1, c.1, d.1⟩, d.2)
def exG (s : GS) : Ex × GS :=
 let a := flagS s; let b := byteS a.2; let d := valS b.2
 (⟨a.1, b.1, d.1⟩, d.2)
def ptG (s : GS) : Pt × GS :=
 let a := byteS s; let b := flagS a.2; let d := glist tsG 7 b.2
 (⟨a.1, b.1, d.1⟩, d.2)
def acG (s : GS) : Ac × GS :=
 let a := byteS s; let b := byteS a.2; let c := byteS b.2; let d := byteS c.2; let e := glist exG 17 d.2
 (⟨a.1, b.1, c.1, d.1, e.1⟩, e.2)
def rlG (s : GS) : Rl × GS :=
 let a := s.1.text; let b := a.2.long; let c := glist ptG 5 (b.2, s.2); let d := glist acG 5 c.2
 (⟨a.1, b.1, c.1, d.1⟩, d.2)
def read (L : List Tm) (s : RS) : Option (List Rl) × RS :=
 let x := glist rlG 9 (s, true)
 if x.2.1.bad = true ∨ x.2.2 = false ∨ right L x.1 = false then (none, x.2.1) else (some x.1, x.2.1)
end Rul
abbrev envS (rb gb fb tb eb pb ab : Nat) (s : RS) (g : Bool) (st : St) : St :=
 .box ab 154 [.fn (.func 122) [] [.ip [.ptr rb 0], .ptr eb 0]] :: .box pb 152 [.fn (.func 120) [] [.ip [.ptr rb 0], .ptr fb 0, .ptr tb 0]] :: .box eb 150 [.fn (.func 119) [] [.ptr fb 0, .ip [.ptr rb 0]]] ::
  .box tb 149 [.fn (.func 117) [] [.ip [.ptr rb 0]]] :: .box fb 23 [.fn (.func 115) [] [.ip [.ptr rb 0], .ptr gb 0]] :: .box gb 4 [.b g] :: rdR rb s :: st
theorem perm7 {α : Type} {a b c d e f g h : α} {l : List α} : (a :: b :: c :: d :: e :: f :: g :: h :: l).Perm (b :: c :: d :: e :: f :: g :: h :: a :: l) := (List.perm_middle (l₁ := [b, c, d, e, f, g, h])).symm
theorem ruleFlagF (rb gb fb tb eb pb ab : Nat) (s : RS) (g : Bool) (st : St) : TrF Tryz.prog 115 [.ip [.ptr rb 0], .ptr gb 0] (envS rb gb fb tb eb pb ab s g st) fun d st' => d = .b (Rul.flagS (s, g)).1 ∧ st' = envS rb gb fb tb eb pb ab (Rul.flagS (s, g)).2.1 (Rul.flagS (s, g)).2.2 st := by
 have hB := rdByteF rb s
 unfold Rul.flagS
 dsimp only
 generalize s.byte = q at *
 obtain ⟨n, s2⟩ := q
 dsimp only at *
 replace hB := Lib.hid hB
 have hn : (n == 1) = decide (n = 1) := by by_cases h : n = 1 <;> simp [h]
 cases g with
 | false =>
  rw [Bool.false_and]
  refine Qin [2] Tryz.func115 Tryz.results115 Tryz.ntmps115 ?_
  exact WR
 | true =>
  rw [Bool.true_and]
  refine Qin [2] Tryz.func115 Tryz.results115 Tryz.ntmps115 ?_
  exact WR
theorem ruleTestRF (rb gb fb tb eb pb ab : Nat) (s : RS) (g : Bool) (st : St) : TrF Tryz.prog 117 [.ip [.ptr rb 0]] (envS rb gb fb tb eb pb ab s g st) fun d st' => d = .agg (Rul.tsG (s, g)).1.cells ∧ st' = envS rb gb fb tb eb pb ab (Rul.tsG (s, g)).2.1 (Rul.tsG (s, g)).2.2 st := by
 have hB1 := rdByteF rb s
 unfold Rul.tsG Rul.byteS Rul.valS
 dsimp only
 generalize s.byte = q1 at *
 obtain ⟨n1, s1⟩ := q1
 dsimp only at *
 have hB2 := rdByteF rb s1
 generalize s1.byte = q2 at *
 obtain ⟨n2, s2⟩ := q2
 dsimp only at *
 have hB3 := rdByteF rb s2
 generalize s2.byte = q3 at *
 obtain ⟨n3, s3⟩ := q3
 dsimp only at *
 have hV := rdValF rb s3 (RS.value_nodes4 s3)
 generalize s3.val = q4 at *
 obtain ⟨⟨k, n, sv, lv⟩, s4⟩ := q4
 dsimp only at *
 rw [V.cells_mk] at hV
 rw [Ts.cells_mk]
 generalize lv.map V.cells = VL at *
 replace hB1 := Lib.hid hB1
 replace hB2 := Lib.hid hB2
 replace hB3 := Lib.hid hB3
 replace hV := Lib.hid hV
 refine QinC 1 102 Tryz.func117 Tryz.ntmps117 ?_
 repeat' (first | (with_reducible first | refine Q1 ?_ | refine Qe ?_ | refine QQ ?_ | (refine al_go ?_; intro b) | (refine QD ?_ <;> (try constructor) <;> intro hb <;> try intro hb1) | fail) | refine QR Tryz.call116 hB1.out ?_ | refine QR Tryz.call116 hB2.out ?_ | refine QR Tryz.call116 hB3.out ?_ | refine QR Tryz.call118 hV.out ?_ | fail)
 all_goals exact QretC (hs := by (repeat (first | exact List.Sublist.refl _ | with_reducible apply List.Sublist.cons_cons | apply List.Sublist.cons)))
theorem ruleExprRF (rb gb fb tb eb pb ab : Nat) (s : RS) (g : Bool) (st : St) : TrF Tryz.prog 119 [.ptr fb 0, .ip [.ptr rb 0]] (envS rb gb fb tb eb pb ab s g st) fun d st' => d = .agg (Rul.exG (s, g)).1.cells ∧ st' = envS rb gb fb tb eb pb ab (Rul.exG (s, g)).2.1 (Rul.exG (s, g)).2.2 st := by
 have hF := ruleFlagF rb gb fb tb eb pb ab s g
 unfold Rul.exG Rul.byteS Rul.valS
 dsimp only
 generalize Rul.flagS (s, g) = q1 at *
 obtain ⟨n1, s1, g1⟩ := q1
 dsimp only at *
 have hB2 := rdByteF rb s1
 generalize s1.byte = q2 at *
 obtain ⟨n2, s2⟩ := q2
 dsimp only at *
 have hV := rdValF rb s2 (RS.value_nodes4 s2)
 generalize s2.val = q4 at *
 obtain ⟨⟨k, n, sv, lv⟩, s4⟩ := q4
 dsimp only at *
 rw [V.cells_mk] at hV
 rw [Ex.cells_mk]
 generalize lv.map V.cells = VL at *
 replace hF := Lib.hid hF
 replace hB2 := Lib.hid hB2
 replace hV := Lib.hid hV
 refine QinC 2 107 Tryz.func119 Tryz.ntmps119 ?_
 repeat' (first | (with_reducible first | refine Q1 ?_ | refine Qe ?_ | fail) | ((with_reducible apply (w_drawN [(fb, [.fn (.func 115) [] [.ip [.ptr rb 0], .ptr gb 0]])])); (iterate 3 (focus kernel_rfl)); (focus ((repeat (first | exact keep_nil | refine keep_more (by (repeat (first | exact mm_h | apply mm_t)); done) ?_)); done)); intro hne; simp only [nes, ne1, and_assoc] at hne; repeat (have hq := hne.1; replace hne := hne.2)) | ((with_reducible refine And.intro ?_ ?_); (focus ((repeat (first | exact keep_nil | refine keep_more (by (repeat (first | exact mm_h | apply mm_t)); done) ?_)); done))) | (with_reducible first | refine QQ ?_ | (refine al_go ?_; intro b) | (refine QD ?_ <;> (try constructor) <;> intro hb <;> try intro hb1) | fail) | ((with_reducible apply (ck_gen Tryz.call115)); (focus exact perm7); (focus exact hF.out _); (focus exact LEL.refl _); (focus exact ⟨_, _, rfl, rfl⟩); (rintro d st' ⟨rfl, rfl⟩)) | fail)
 all_goals exact QretC (hs := by (repeat (first | exact List.Sublist.refl _ | with_reducible apply List.Sublist.cons_cons | apply List.Sublist.cons)))
theorem ruleGetTestF (fn : FuncId) (caps : List D) (hcall : ∀ args w, (callFunc fn args).run Tryz.prog w = .ok (.enter fn args) w) (f : Rul.GS → Ts × Rul.GS) (rb gb fb tb eb pb ab : Nat)
 (hI0 : ∀ s g st, TrF Tryz.prog fn caps (envS rb gb fb tb eb pb ab s g st) fun d st' => d = .agg (f (s, g)).1.cells ∧ st' = envS rb gb fb tb eb pb ab (f (s, g)).2.1 (f (s, g)).2.2 st) (s : RS) (g : Bool) (st : St) : TrF Tryz.prog 121 [.ptr rb 0, .i 6, .fn (.func fn) [] caps] (envS rb gb fb tb eb pb ab s g st) fun x st' => x = .sl .shared ((Rul.glist f 7 (s, g)).1.map Ts.cells) ∧ st' = envS rb gb fb tb eb pb ab (Rul.glist f 7 (s, g)).2.1 (Rul.glist f 7 (s, g)).2.2 st := by
 have hN := Lib.hid (rdNumF rb s)
 have hnp := RS.rnum_pos s
 have hBad := Lib.hid (rdBadF rb)
 have hI := Lib.hid hI0
 clear hI0
 unfold Rul.glist
 dsimp only
 generalize s.rnum = q at *
 obtain ⟨n, s2⟩ := q
 dsimp only at *
 obtain ⟨m, hm⟩ : ∃ m : Nat, (if (7 : Int) < n then (7 : Int) else n) = m := ⟨(if (7 : Int) < n then (7 : Int) else n).toNat, by split <;> omega⟩
 have hm9 : m ≤ 7 := by split at hm <;> omega
 rw [hm, Int.toNat_natCast]
 obtain ⟨res, hres⟩ : ∃ r, Rul.rdG f m (s2, g) = r := ⟨_, rfl⟩
 have hE : Hid ([] ++ (Rul.rdG f (m - 0) (s2, g)).1 = res.1 ∧ (Rul.rdG f (m - 0) (s2, g)).2 = res.2) := by
  show _ ∧ _
  rw [Nat.sub_zero, hres]
  exact ⟨rfl, rfl⟩
 rw [hres]
 clear hres hnp
 refine Qin [6] Tryz.func121 Tryz.results121 Tryz.ntmps121 ?_
 refine tr_room 102 7 ([] : List (List D)).length ?_
 repeat' (with_reducible first | refine Q1 ?_ | refine Qe ?_ | refine QQ ?_ | (refine al_go ?_; intro b) | (refine Qa ?_; intro o' ho') | (refine Qp ?_; intro o' ho') | (refine QD ?_ <;> (try constructor) <;> intro hb <;> try intro hb1) | fail)
 clear hN
 refine tr_loopd (ι := Nat) (fun i A st' => i ≤ m ∧ A.df = [] ∧ A.e 0 = .ptr rb 0 ∧ A.e 2 = .fn (.func fn) [] caps ∧ A.e 14 = .i m ∧ A.e 15 = .i i ∧ ∃ o' L s' g', o' ≠ .shared ∧ L.length ≤ i ∧ Hid (L ++ (Rul.rdG f (m - i) (s', g')).1 = res.1 ∧ (Rul.rdG f (m - i) (s', g')).2 = res.2) ∧ A.e 8 = .sl o' (L.map Ts.cells) ∧ st'.Perm (envS rb gb fb tb eb pb ab s' g' (.room o' 102 7 (L.map Ts.cells).length :: st))) (fun i => m - i) 0 ⟨Nat.zero_le _, Qf, Qf, Qf, Qf, Qf, .tight, [], s2, g, by decide, Nat.le_refl _, hE, Qf, perm7⟩ ?_
 clear hE hm
 rintro i A st' ⟨hi, hdf, e0, e2, e14, e15, o', L, s', g', ho', hLi, hE, e8, hpm⟩
 refine tr_perm hpm ?_
 clear hpm
 have hLc : (L.map Ts.cells).length = L.length := List.length_map ..
 by_cases hlt : i < m
 · have hHE := hE.out
   rw [show m - i = (m - (i + 1)) + 1 by omega, Rul.rdG] at hHE
   dsimp only at hHE
   cases hsb : s'.bad with
   | true =>
    rw [hsb, if_pos rfl] at hHE
    obtain ⟨r1, r2⟩ := res
    obtain ⟨hr1, hr2⟩ := hHE
    dsimp only at hr1 hr2
    rw [List.append_nil] at hr1
    subst hr1 hr2
    have hBs := hBad.out s'
    rw [hsb] at hBs
    replace hBs := Lib.hid hBs
    clear hE hI hBad
    repeat' (with_reducible first | refine Q1 ?_ | refine Qe ?_ | refine QQ ?_ | (refine al_go ?_; intro b) | (refine Qa ?_; intro o' ho') | (refine Qp ?_; intro o' ho') | (refine QD ?_ <;> (try constructor) <;> intro hb <;> try intro hb1) | fail)
    all_goals exact Qret (hs := by (repeat (first | exact List.Sublist.refl _ | with_reducible apply List.Sublist.cons_cons | apply List.Sublist.cons)))
   | false =>
    rw [hsb, if_neg Bool.false_ne_true] at hHE
    have hIs := hI.out s' g'
    have hBs := hBad.out s'
    rw [hsb] at hBs
    generalize f (s', g') = x3 at *
    obtain ⟨x, s3, g3⟩ := x3
    dsimp only at hHE hIs
    have hE2 : Hid ((L ++ [x]) ++ (Rul.rdG f (m - (i + 1)) (s3, g3)).1 = res.1 ∧ (Rul.rdG f (m - (i + 1)) (s3, g3)).2 = res.2) := by
     show _ ∧ _
     rw [List.append_assoc]
     exact hHE
    have hL4 : ∀ a ∈ L.map Ts.cells, a.length = 7 := fun a ha => by
     obtain ⟨x, -, rfl⟩ := List.mem_map.1 ha
     exact Ts.cells_len x
    have hLs : (L ++ [x]).map Ts.cells = L.map Ts.cells ++ [Ts.cells x] := List.map_append ..
    have hLk : (L ++ [x]).length ≤ i + 1 := by rw [List.length_append, List.length_singleton]; omega
    generalize hLx : L ++ [x] = Lx at *
    generalize L.map Ts.cells = M at *
    cases x with
    | mk kind slot var val =>
    cases val with
    | mk k1 n1 v1 l1 =>
    rw [Ts.cells_mk] at hLs hIs
    replace hBs := Lib.hid hBs
    replace hIs := Lib.hid hIs
    replace hLs := Lib.hid hLs
    replace hLx := Lib.hid hLx
    clear hE hI hBad hHE
    repeat' (first | (with_reducible first | refine Q1 ?_ | refine Qe ?_ | refine QQ ?_ | (refine al_go ?_; intro b) | (refine Qa ?_; intro o' ho') | (refine Qp ?_; intro o' ho') | (refine QD ?_ <;> (try constructor) <;> intro hb <;> try intro hb1) | fail) | ((with_reducible apply (ck_gen hcall)); (focus exact List.Perm.refl _); (focus exact hIs.out _); (focus exact LEL.refl _); (focus exact ⟨_, _, rfl, rfl⟩); (rintro d st' ⟨rfl, rfl⟩)) | fail)
    refine ⟨i + 1, _, List.Sublist.refl _, ⟨hlt, ?_, ?_, ?_, ?_, ?_, o', Lx, s3, g3, ho', hLk, hE2, ?_, ?_⟩, ?_⟩
    rotate_right 3
    · rw [hLs.out]; exact Qf
    · rw [hLs.out]
    all_goals exact Qf
 · have hHE := hE.out
   rw [show m - i = 0 by omega, Rul.rdG] at hHE
   obtain ⟨r1, r2⟩ := res
   obtain ⟨hr1, hr2⟩ := hHE
   dsimp only at hr1 hr2
   rw [List.append_nil] at hr1
   subst hr1 hr2
   clear hE hI hBad
   repeat' (with_reducible first | refine Q1 ?_ | refine Qe ?_ | refine QQ ?_ | (refine al_go ?_; intro b) | (refine Qa ?_; intro o' ho') | (refine Qp ?_; intro o' ho') | (refine QD ?_ <;> (try constructor) <;> intro hb <;> try intro hb1) | fail)
   all_goals exact Qret (hs := by (repeat (first | exact List.Sublist.refl _ | with_reducible apply List.Sublist.cons_cons | apply List.Sublist.cons)))
theorem ruleGetExprF (fn : FuncId) (caps : List D) (hcall : ∀ args w, (callFunc fn args).run Tryz.prog w = .ok (.enter fn args) w) (f : Rul.GS → Ex × Rul.GS) (rb gb fb tb eb pb ab : Nat)
 (hI0 : ∀ s g st, TrF Tryz.prog fn caps (envS rb gb fb tb eb pb ab s g st) fun d st' => d = .agg (f (s, g)).1.cells ∧ st' = envS rb gb fb tb eb pb ab (f (s, g)).2.1 (f (s, g)).2.2 st) (s : RS) (g : Bool) (st : St) : TrF Tryz.prog 123 [.ptr rb 0, .i 16, .fn (.func fn) [] caps] (envS rb gb fb tb eb pb ab s g st) fun x st' => x = .sl .shared ((Rul.glist f 17 (s, g)).1.map Ex.cells) ∧ st' = envS rb gb fb tb eb pb ab (Rul.glist f 17 (s, g)).2.1 (Rul.glist f 17 (s, g)).2.2 st := by
 have hN := Lib.hid (rdNumF rb s)
 have hnp := RS.rnum_pos s
 have hBad := Lib.hid (rdBadF rb)
 have hI := Lib.hid hI0
 clear hI0
 unfold Rul.glist
 dsimp only
 generalize s.rnum = q at *
 obtain ⟨n, s2⟩ := q
 dsimp only at *
 obtain ⟨m, hm⟩ : ∃ m : Nat, (if (17 : Int) < n then (17 : Int) else n) = m := ⟨(if (17 : Int) < n then (17 : Int) else n).toNat, by split <;> omega⟩
 have hm9 : m ≤ 17 := by split at hm <;> omega
 rw [hm, Int.toNat_natCast]
 obtain ⟨res, hres⟩ : ∃ r, Rul.rdG f m (s2, g) = r := ⟨_, rfl⟩
 have hE : Hid ([] ++ (Rul.rdG f (m - 0) (s2, g)).1 = res.1 ∧ (Rul.rdG f (m - 0) (s2, g)).2 = res.2) := by
  show _ ∧ _
  rw [Nat.sub_zero, hres]
  exact ⟨rfl, rfl⟩
 rw [hres]
 clear hres hnp
 refine Qin [6] Tryz.func123 Tryz.results123 Tryz.ntmps123 ?_
 refine tr_room 107 6 ([] : List (List D)).length ?_
 repeat' (with_reducible first | refine Q1 ?_ | refine Qe ?_ | refine QQ ?_ | (refine al_go ?_; intro b) | (refine Qa ?_; intro o' ho') | (refine Qp ?_; intro o' ho') | (refine QD ?_ <;> (try constructor) <;> intro hb <;> try intro hb1) | fail)
 clear hN
 refine tr_loopd (ι := Nat) (fun i A st' => i ≤ m ∧ A.df = [] ∧ A.e 0 = .ptr rb 0 ∧ A.e 2 = .fn (.func fn) [] caps ∧ A.e 14 = .i m ∧ A.e 15 = .i i ∧ ∃ o' L s' g', o' ≠ .shared ∧ L.length ≤ i ∧ Hid (L ++ (Rul.rdG f (m - i) (s', g')).1 = res.1 ∧ (Rul.rdG f (m - i) (s', g')).2 = res.2) ∧ A.e 8 = .sl o' (L.map Ex.cells) ∧ st'.Perm (envS rb gb fb tb eb pb ab s' g' (.room o' 107 6 (L.map Ex.cells).length :: st))) (fun i => m - i) 0 ⟨Nat.zero_le _, Qf, Qf, Qf, Qf, Qf, .tight, [], s2, g, by decide, Nat.le_refl _, hE, Qf, perm7⟩ ?_
 clear hE hm
 rintro i A st' ⟨hi, hdf, e0, e2, e14, e15, o', L, s', g', ho', hLi, hE, e8, hpm⟩
 refine tr_perm hpm ?_
 clear hpm
 have hLc : (L.map Ex.cells).length = L.length := List.length_map ..
 by_cases hlt : i < m
 · have hHE := hE.out
   rw [show m - i = (m - (i + 1)) + 1 by omega, Rul.rdG] at hHE
   dsimp only at hHE
   cases hsb : s'.bad with
   | true =>
    rw [hsb, if_pos rfl] at hHE
    obtain ⟨r1, r2⟩ := res
    obtain ⟨hr1, hr2⟩ := hHE
    dsimp only at hr1 hr2
    rw [List.append_nil] at hr1
    subst hr1 hr2
    have hBs := hBad.out s'
    rw [hsb] at hBs
    replace hBs := Lib.hid hBs
    clear hE hI hBad
    repeat' (with_reducible first | refine Q1 ?_ | refine Qe ?_ | refine QQ ?_ | (refine al_go ?_; intro b) | (refine Qa ?_; intro o' ho') | (refine Qp ?_; intro o' ho') | (refine QD ?_ <;> (try constructor) <;> intro hb <;> try intro hb1) | fail)
    all_goals exact Qret (hs := by (repeat (first | exact List.Sublist.refl _ | with_reducible apply List.Sublist.cons_cons | apply List.Sublist.cons)))
   | false =>
    rw [hsb, if_neg Bool.false_ne_true] at hHE
    have hIs := hI.out s' g'
    have hBs := hBad.out s'
    rw [hsb] at hBs
    generalize f (s', g') = x3 at *
    obtain ⟨x, s3, g3⟩ := x3
    dsimp only at hHE hIs
    have hE2 : Hid ((L ++ [x]) ++ (Rul.rdG f (m - (i + 1)) (s3, g3)).1 = res.1 ∧ (Rul.rdG f (m - (i + 1)) (s3, g3)).2 = res.2) := by
     show _ ∧ _
     rw [List.append_assoc]
     exact hHE
    have hL4 : ∀ a ∈ L.map Ex.cells, a.length = 6 := fun a ha => by
     obtain ⟨x, -, rfl⟩ := List.mem_map.1 ha
     exact Ex.cells_len x
    have hLs : (L ++ [x]).map Ex.cells = L.map Ex.cells ++ [Ex.cells x] := List.map_append ..
    have hLk : (L ++ [x]).length ≤ i + 1 := by rw [List.length_append, List.length_singleton]; omega
    generalize hLx : L ++ [x] = Lx at *
    generalize L.map Ex.cells = M at *
    cases x with
    | mk iv var val =>
    cases val with
    | mk k1 n1 v1 l1 =>
    rw [Ex.cells_mk] at hLs hIs
    replace hBs := Lib.hid hBs
    replace hIs := Lib.hid hIs
    replace hLs := Lib.hid hLs
    replace hLx := Lib.hid hLx
    clear hE hI hBad hHE
    repeat' (first | (with_reducible first | refine Q1 ?_ | refine Qe ?_ | refine QQ ?_ | (refine al_go ?_; intro b) | (refine Qa ?_; intro o' ho') | (refine Qp ?_; intro o' ho') | (refine QD ?_ <;> (try constructor) <;> intro hb <;> try intro hb1) | fail) | ((with_reducible apply (ck_gen hcall)); (focus exact List.Perm.refl _); (focus exact hIs.out _); (focus exact LEL.refl _); (focus exact ⟨_, _, rfl, rfl⟩); (rintro d st' ⟨rfl, rfl⟩)) | fail)
    refine ⟨i + 1, _, List.Sublist.refl _, ⟨hlt, ?_, ?_, ?_, ?_, ?_, o', Lx, s3, g3, ho', hLk, hE2, ?_, ?_⟩, ?_⟩
    rotate_right 3
    · rw [hLs.out]; exact Qf
    · rw [hLs.out]
    all_goals exact Qf
 · have hHE := hE.out
   rw [show m - i = 0 by omega, Rul.rdG] at hHE
   obtain ⟨r1, r2⟩ := res
   obtain ⟨hr1, hr2⟩ := hHE
   dsimp only at hr1 hr2
   rw [List.append_nil] at hr1
   subst hr1 hr2
   clear hE hI hBad
   repeat' (with_reducible first | refine Q1 ?_ | refine Qe ?_ | refine QQ ?_ | (refine al_go ?_; intro b) | (refine Qa ?_; intro o' ho') | (refine Qp ?_; intro o' ho') | (refine QD ?_ <;> (try constructor) <;> intro hb <;> try intro hb1) | fail)
   all_goals exact Qret (hs := by (repeat (first | exact List.Sublist.refl _ | with_reducible apply List.Sublist.cons_cons | apply List.Sublist.cons)))
theorem ruleGetPatF (fn : FuncId) (caps : List D) (hcall : ∀ args w, (callFunc fn args).run Tryz.prog w = .ok (.enter fn args) w) (f : Rul.GS → Pt × Rul.GS) (rb gb fb tb eb pb ab : Nat)
 (hI0 : ∀ s g st, TrF Tryz.prog fn caps (envS rb gb fb tb eb pb ab s g st) fun d st' => d = .agg (f (s, g)).1.cells ∧ st' = envS rb gb fb tb eb pb ab (f (s, g)).2.1 (f (s, g)).2.2 st) (s : RS) (g : Bool) (st : St) : TrF Tryz.prog 127 [.ptr rb 0, .i 4, .fn (.func fn) [] caps] (envS rb gb fb tb eb pb ab s g st) fun x st' => x = .sl .shared ((Rul.glist f 5 (s, g)).1.map Pt.cells) ∧ st' = envS rb gb fb tb eb pb ab (Rul.glist f 5 (s, g)).2.1 (Rul.glist f 5 (s, g)).2.2 st := by
 have hN := Lib.hid (rdNumF rb s)
 have hnp := RS.rnum_pos s
 have hBad := Lib.hid (rdBadF rb)
 have hI := Lib.hid hI0
 clear hI0
 unfold Rul.glist
 dsimp only
 generalize s.rnum = q at *
 obtain ⟨n, s2⟩ := q
 dsimp only at *
 obtain ⟨m, hm⟩ : ∃ m : Nat, (if (5 : Int) < n then (5 : Int) else n) = m := ⟨(if (5 : Int) < n then (5 : Int) else n).toNat, by split <;> omega⟩
 have hm9 : m ≤ 5 := by split at hm <;> omega
 rw [hm, Int.toNat_natCast]
 obtain ⟨res, hres⟩ : ∃ r, Rul.rdG f m (s2, g) = r := ⟨_, rfl⟩
 have hE : Hid ([] ++ (Rul.rdG f (m - 0) (s2, g)).1 = res.1 ∧ (Rul.rdG f (m - 0) (s2, g)).2 = res.2) := by
  show _ ∧ _
  rw [Nat.sub_zero, hres]
  exact ⟨rfl, rfl⟩
 rw [hres]
 clear hres hnp
 refine Qin [6] Tryz.func127 Tryz.results127 Tryz.ntmps127 ?_
 refine tr_room 105 3 ([] : List (List D)).length ?_
 repeat' (with_reducible first | refine Q1 ?_ | refine Qe ?_ | refine QQ ?_ | (refine al_go ?_; intro b) | (refine Qa ?_; intro o' ho') | (refine Qp ?_; intro o' ho') | (refine QD ?_ <;> (try constructor) <;> intro hb <;> try intro hb1) | fail)
 clear hN
 refine tr_loopd (ι := Nat) (fun i A st' => i ≤ m ∧ A.df = [] ∧ A.e 0 = .ptr rb 0 ∧ A.e 2 = .fn (.func fn) [] caps ∧ A.e 14 = .i m ∧ A.e 15 = .i i ∧ ∃ o' L s' g', o' ≠ .shared ∧ L.length ≤ i ∧ Hid (L ++ (Rul.rdG f (m - i) (s', g')).1 = res.1 ∧ (Rul.rdG f (m - i) (s', g')).2 = res.2) ∧ A.e 8 = .sl o' (L.map Pt.cells) ∧ st'.Perm (envS rb gb fb tb eb pb ab s' g' (.room o' 105 3 (L.map Pt.cells).length :: st))) (fun i => m - i) 0 ⟨Nat.zero_le _, Qf, Qf, Qf, Qf, Qf, .tight, [], s2, g, by decide, Nat.le_refl _, hE, Qf, perm7⟩ ?_
 clear hE hm
 rintro i A st' ⟨hi, hdf, e0, e2, e14, e15, o', L, s', g', ho', hLi, hE, e8, hpm⟩
 refine tr_perm hpm ?_
 clear hpm
 have hLc : (L.map Pt.cells).length = L.length := List.length_map ..
 by_cases hlt : i < m
 · have hHE := hE.out
   rw [show m - i = (m - (i + 1)) + 1 by omega, Rul.rdG] at hHE
   dsimp only at hHE
   cases hsb : s'.bad with
   | true =>
    rw [hsb, if_pos rfl] at hHE
    obtain ⟨r1, r2⟩ := res
    obtain ⟨hr1, hr2⟩ := hHE
    dsimp only at hr1 hr2
    rw [List.append_nil] at hr1
    subst hr1 hr2
    have hBs := hBad.out s'
    rw [hsb] at hBs
    replace hBs := Lib.hid hBs
    clear hE hI hBad
    repeat' (with_reducible first | refine Q1 ?_ | refine Qe ?_ | refine QQ ?_ | (refine al_go ?_; intro b) | (refine Qa ?_; intro o' ho') | (refine Qp ?_; intro o' ho') | (refine QD ?_ <;> (try constructor) <;> intro hb <;> try intro hb1) | fail)
    all_goals exact Qret (hs := by (repeat (first | exact List.Sublist.refl _ | with_reducible apply List.Sublist.cons_cons | apply List.Sublist.cons)))
   | false =>
    rw [hsb, if_neg Bool.false_ne_true] at hHE
    have hIs := hI.out s' g'
    have hBs := hBad.out s'
    rw [hsb] at hBs
    generalize f (s', g') = x3 at *
    obtain ⟨x, s3, g3⟩ := x3
    dsimp only at hHE hIs
    have hE2 : Hid ((L ++ [x]) ++ (Rul.rdG f (m - (i + 1)) (s3, g3)).1 = res.1 ∧ (Rul.rdG f (m - (i + 1)) (s3, g3)).2 = res.2) := by
     show _ ∧ _
     rw [List.append_assoc]
     exact hHE
    have hL4 : ∀ a ∈ L.map Pt.cells, a.length = 3 := fun a ha => by
     obtain ⟨x, -, rfl⟩ := List.mem_map.1 ha
     exact rfl
    have hLs : (L ++ [x]).map Pt.cells = L.map Pt.cells ++ [Pt.cells x] := List.map_append ..
    have hLk : (L ++ [x]).length ≤ i + 1 := by rw [List.length_append, List.length_singleton]; omega
    generalize hLx : L ++ [x] = Lx at *
    generalize L.map Pt.cells = M at *
    cases x with
    | mk tmpl neg tests =>
    rw [show (Pt.mk tmpl neg tests).cells = [.i tmpl, .b neg, .sl .shared (tests.map Ts.cells)] from rfl] at hLs hIs
    replace hBs := Lib.hid hBs
    replace hIs := Lib.hid hIs
    replace hLs := Lib.hid hLs
    replace hLx := Lib.hid hLx
    clear hE hI hBad hHE
    repeat' (first | (with_reducible first | refine Q1 ?_ | refine Qe ?_ | refine QQ ?_ | (refine al_go ?_; intro b) | (refine Qa ?_; intro o' ho') | (refine Qp ?_; intro o' ho') | (refine QD ?_ <;> (try constructor) <;> intro hb <;> try intro hb1) | fail) | ((with_reducible apply (ck_gen hcall)); (focus exact List.Perm.refl _); (focus exact hIs.out _); (focus exact LEL.refl _); (focus exact ⟨_, _, rfl, rfl⟩); (rintro d st' ⟨rfl, rfl⟩)) | fail)
    refine ⟨i + 1, _, List.Sublist.refl _, ⟨hlt, ?_, ?_, ?_, ?_, ?_, o', Lx, s3, g3, ho', hLk, hE2, ?_, ?_⟩, ?_⟩
    rotate_right 3
    · rw [hLs.out]; exact Qf
    · rw [hLs.out]
    all_goals exact Qf
 · have hHE := hE.out
   rw [show m - i = 0 by omega, Rul.rdG] at hHE
   obtain ⟨r1, r2⟩ := res
   obtain ⟨hr1, hr2⟩ := hHE
   dsimp only at hr1 hr2
   rw [List.append_nil] at hr1
   subst hr1 hr2
   clear hE hI hBad
   repeat' (with_reducible first | refine Q1 ?_ | refine Qe ?_ | refine QQ ?_ | (refine al_go ?_; intro b) | (refine Qa ?_; intro o' ho') | (refine Qp ?_; intro o' ho') | (refine QD ?_ <;> (try constructor) <;> intro hb <;> try intro hb1) | fail)
   all_goals exact Qret (hs := by (repeat (first | exact List.Sublist.refl _ | with_reducible apply List.Sublist.cons_cons | apply List.Sublist.cons)))
theorem ruleGetActF (fn : FuncId) (caps : List D) (hcall : ∀ args w, (callFunc fn args).run Tryz.prog w = .ok (.enter fn args) w) (f : Rul.GS → Ac × Rul.GS) (rb gb fb tb eb pb ab : Nat)
 (hI0 : ∀ s g st, TrF Tryz.prog fn caps (envS rb gb fb tb eb pb ab s g st) fun d st' => d = .agg (f (s, g)).1.cells ∧ st' = envS rb gb fb tb eb pb ab (f (s, g)).2.1 (f (s, g)).2.2 st) (s : RS) (g : Bool) (st : St) : TrF Tryz.prog 128 [.ptr rb 0, .i 4, .fn (.func fn) [] caps] (envS rb gb fb tb eb pb ab s g st) fun x st' => x = .sl .shared ((Rul.glist f 5 (s, g)).1.map Ac.cells) ∧ st' = envS rb gb fb tb eb pb ab (Rul.glist f 5 (s, g)).2.1 (Rul.glist f 5 (s, g)).2.2 st := by
 have hN := Lib.hid (rdNumF rb s)
 have hnp := RS.rnum_pos s
 have hBad := Lib.hid (rdBadF rb)
 have hI := Lib.hid hI0
 clear hI0
 unfold Rul.glist
 dsimp only
 generalize s.rnum = q at *
 obtain ⟨n, s2⟩ := q
 dsimp only at *
 obtain ⟨m, hm⟩ : ∃ m : Nat, (if (5 : Int) < n then (5 : Int) else n) = m := ⟨(if (5 : Int) < n then (5 : Int) else n).toNat, by split <;> omega⟩
 have hm9 : m ≤ 5 := by split at hm <;> omega
 rw [hm, Int.toNat_natCast]
 obtain ⟨res, hres⟩ : ∃ r, Rul.rdG f m (s2, g) = r := ⟨_, rfl⟩
 have hE : Hid ([] ++ (Rul.rdG f (m - 0) (s2, g)).1 = res.1 ∧ (Rul.rdG f (m - 0) (s2, g)).2 = res.2) := by
  show _ ∧ _
  rw [Nat.sub_zero, hres]
  exact ⟨rfl, rfl⟩
 rw [hres]
 clear hres hnp
 refine Qin [6] Tryz.func128 Tryz.results128 Tryz.ntmps128 ?_
 refine tr_room 110 5 ([] : List (List D)).length ?_
 repeat' (with_reducible first | refine Q1 ?_ | refine Qe ?_ | refine QQ ?_ | (refine al_go ?_; intro b) | (refine Qa ?_; intro o' ho') | (refine Qp ?_; intro o' ho') | (refine QD ?_ <;> (try constructor) <;> intro hb <;> try intro hb1) | fail)
 clear hN
 refine tr_loopd (ι := Nat) (fun i A st' => i ≤ m ∧ A.df = [] ∧ A.e 0 = .ptr rb 0 ∧ A.e 2 = .fn (.func fn) [] caps ∧ A.e 14 = .i m ∧ A.e 15 = .i i ∧ ∃ o' L s' g', o' ≠ .shared ∧ L.length ≤ i ∧ Hid (L ++ (Rul.rdG f (m - i) (s', g')).1 = res.1 ∧ (Rul.rdG f (m - i) (s', g')).2 = res.2) ∧ A.e 8 = .sl o' (L.map Ac.cells) ∧ st'.Perm (envS rb gb fb tb eb pb ab s' g' (.room o' 110 5 (L.map Ac.cells).length :: st))) (fun i => m - i) 0 ⟨Nat.zero_le _, Qf, Qf, Qf, Qf, Qf, .tight, [], s2, g, by decide, Nat.le_refl _, hE, Qf, perm7⟩ ?_
 clear hE hm
 rintro i A st' ⟨hi, hdf, e0, e2, e14, e15, o', L, s', g', ho', hLi, hE, e8, hpm⟩
 refine tr_perm hpm ?_
 clear hpm
 have hLc : (L.map Ac.cells).length = L.length := List.length_map ..
 by_cases hlt : i < m
 · have hHE := hE.out
   rw [show m - i = (m - (i + 1)) + 1 by omega, Rul.rdG] at hHE
   dsimp only at hHE
   cases hsb : s'.bad with
   | true =>
    rw [hsb, if_pos rfl] at hHE
    obtain ⟨r1, r2⟩ := res
    obtain ⟨hr1, hr2⟩ := hHE
    dsimp only at hr1 hr2
    rw [List.append_nil] at hr1
    subst hr1 hr2
    have hBs := hBad.out s'
    rw [hsb] at hBs
    replace hBs := Lib.hid hBs
    clear hE hI hBad
    repeat' (with_reducible first | refine Q1 ?_ | refine Qe ?_ | refine QQ ?_ | (refine al_go ?_; intro b) | (refine Qa ?_; intro o' ho') | (refine Qp ?_; intro o' ho') | (refine QD ?_ <;> (try constructor) <;> intro hb <;> try intro hb1) | fail)
    all_goals exact Qret (hs := by (repeat (first | exact List.Sublist.refl _ | with_reducible apply List.Sublist.cons_cons | apply List.Sublist.cons)))
   | false =>
    rw [hsb, if_neg Bool.false_ne_true] at hHE
    have hIs := hI.out s' g'
    have hBs := hBad.out s'
    rw [hsb] at hBs
    generalize f (s', g') = x3 at *
    obtain ⟨x, s3, g3⟩ := x3
    dsimp only at hHE hIs
    have hE2 : Hid ((L ++ [x]) ++ (Rul.rdG f (m - (i + 1)) (s3, g3)).1 = res.1 ∧ (Rul.rdG f (m - (i + 1)) (s3, g3)).2 = res.2) := by
     show _ ∧ _
     rw [List.append_assoc]
     exact hHE
    have hL4 : ∀ a ∈ L.map Ac.cells, a.length = 5 := fun a ha => by
     obtain ⟨x, -, rfl⟩ := List.mem_map.1 ha
     exact rfl
    have hLs : (L ++ [x]).map Ac.cells = L.map Ac.cells ++ [Ac.cells x] := List.map_append ..
    have hLk : (L ++ [x]).length ≤ i + 1 := by rw [List.length_append, List.length_singleton]; omega
    generalize hLx : L ++ [x] = Lx at *
    generalize L.map Ac.cells = M at *
    cases x with
    | mk kind pat tmpl slot vals =>
    rw [show (Ac.mk kind pat tmpl slot vals).cells = [.i kind, .i pat, .i tmpl, .i slot, .sl .shared (vals.map Ex.cells)] from rfl] at hLs hIs
    replace hBs := Lib.hid hBs
    replace hIs := Lib.hid hIs
    replace hLs := Lib.hid hLs
    replace hLx := Lib.hid hLx
    clear hE hI hBad hHE
    repeat' (first | (with_reducible first | refine Q1 ?_ | refine Qe ?_ | refine QQ ?_ | (refine al_go ?_; intro b) | (refine Qa ?_; intro o' ho') | (refine Qp ?_; intro o' ho') | (refine QD ?_ <;> (try constructor) <;> intro hb <;> try intro hb1) | fail) | ((with_reducible apply (ck_gen hcall)); (focus exact List.Perm.refl _); (focus exact hIs.out _); (focus exact LEL.refl _); (focus exact ⟨_, _, rfl, rfl⟩); (rintro d st' ⟨rfl, rfl⟩)) | fail)
    refine ⟨i + 1, _, List.Sublist.refl _, ⟨hlt, ?_, ?_, ?_, ?_, ?_, o', Lx, s3, g3, ho', hLk, hE2, ?_, ?_⟩, ?_⟩
    rotate_right 3
    · rw [hLs.out]; exact Qf
    · rw [hLs.out]
    all_goals exact Qf
 · have hHE := hE.out
   rw [show m - i = 0 by omega, Rul.rdG] at hHE
   obtain ⟨r1, r2⟩ := res
   obtain ⟨hr1, hr2⟩ := hHE
   dsimp only at hr1 hr2
   rw [List.append_nil] at hr1
   subst hr1 hr2
   clear hE hI hBad
   repeat' (with_reducible first | refine Q1 ?_ | refine Qe ?_ | refine QQ ?_ | (refine al_go ?_; intro b) | (refine Qa ?_; intro o' ho') | (refine Qp ?_; intro o' ho') | (refine QD ?_ <;> (try constructor) <;> intro hb <;> try intro hb1) | fail)
   all_goals exact Qret (hs := by (repeat (first | exact List.Sublist.refl _ | with_reducible apply List.Sublist.cons_cons | apply List.Sublist.cons)))
theorem ruleGetRuleF (fn : FuncId) (caps : List D) (hcall : ∀ args w, (callFunc fn args).run Tryz.prog w = .ok (.enter fn args) w) (f : Rul.GS → Rl × Rul.GS) (rb gb fb tb eb pb ab : Nat)
 (hI0 : ∀ s g st, TrF Tryz.prog fn caps (envS rb gb fb tb eb pb ab s g st) fun d st' => d = .agg (f (s, g)).1.cells ∧ st' = envS rb gb fb tb eb pb ab (f (s, g)).2.1 (f (s, g)).2.2 st) (s : RS) (g : Bool) (st : St) : TrF Tryz.prog 124 [.ptr rb 0, .i 8, .fn (.func fn) [] caps] (envS rb gb fb tb eb pb ab s g st) fun x st' => x = .sl .shared ((Rul.glist f 9 (s, g)).1.map Rl.cells) ∧ st' = envS rb gb fb tb eb pb ab (Rul.glist f 9 (s, g)).2.1 (Rul.glist f 9 (s, g)).2.2 st := by
 have hN := Lib.hid (rdNumF rb s)
 have hnp := RS.rnum_pos s
 have hBad := Lib.hid (rdBadF rb)
 have hI := Lib.hid hI0
 clear hI0
 unfold Rul.glist
 dsimp only
 generalize s.rnum = q at *
 obtain ⟨n, s2⟩ := q
 dsimp only at *
 obtain ⟨m, hm⟩ : ∃ m : Nat, (if (9 : Int) < n then (9 : Int) else n) = m := ⟨(if (9 : Int) < n then (9 : Int) else n).toNat, by split <;> omega⟩
 have hm9 : m ≤ 9 := by split at hm <;> omega
 rw [hm, Int.toNat_natCast]
 obtain ⟨res, hres⟩ : ∃ r, Rul.rdG f m (s2, g) = r := ⟨_, rfl⟩
 have hE : Hid ([] ++ (Rul.rdG f (m - 0) (s2, g)).1 = res.1 ∧ (Rul.rdG f (m - 0) (s2, g)).2 = res.2) := by
  show _ ∧ _
  rw [Nat.sub_zero, hres]
  exact ⟨rfl, rfl⟩
 rw [hres]
 clear hres hnp
 refine Qin [6] Tryz.func124 Tryz.results124 Tryz.ntmps124 ?_
 refine tr_room 55 4 ([] : List (List D)).length ?_
 repeat' (with_reducible first | refine Q1 ?_ | refine Qe ?_ | refine QQ ?_ | (refine al_go ?_; intro b) | (refine Qa ?_; intro o' ho') | (refine Qp ?_; intro o' ho') | (refine QD ?_ <;> (try constructor) <;> intro hb <;> try intro hb1) | fail)
 clear hN
 refine tr_loopd (ι := Nat) (fun i A st' => i ≤ m ∧ A.df = [] ∧ A.e 0 = .ptr rb 0 ∧ A.e 2 = .fn (.func fn) [] caps ∧ A.e 14 = .i m ∧ A.e 15 = .i i ∧ ∃ o' L s' g', o' ≠ .shared ∧ L.length ≤ i ∧ Hid (L ++ (Rul.rdG f (m - i) (s', g')).1 = res.1 ∧ (Rul.rdG f (m - i) (s', g')).2 = res.2) ∧ A.e 8 = .sl o' (L.map Rl.cells) ∧ st'.Perm (envS rb gb fb tb eb pb ab s' g' (.room o' 55 4 (L.map Rl.cells).length :: st))) (fun i => m - i) 0 ⟨Nat.zero_le _, Qf, Qf, Qf, Qf, Qf, .tight, [], s2, g, by decide, Nat.le_refl _, hE, Qf, perm7⟩ ?_
 clear hE hm
 rintro i A st' ⟨hi, hdf, e0, e2, e14, e15, o', L, s', g', ho', hLi, hE, e8, hpm⟩
 refine tr_perm hpm ?_
 clear hpm
 have hLc : (L.map Rl.cells).length = L.length := List.length_map ..
 by_cases hlt : i < m
 · have hHE := hE.out
   rw [show m - i = (m - (i + 1)) + 1 by omega, Rul.rdG] at hHE
   dsimp only at hHE
   cases hsb : s'.bad with
   | true =>
    rw [hsb, if_pos rfl] at hHE
    obtain ⟨r1, r2⟩ := res
    obtain ⟨hr1, hr2⟩ := hHE
    dsimp only at hr1 hr2
    rw [List.append_nil] at hr1
    subst hr1 hr2
    have hBs := hBad.out s'
    rw [hsb] at hBs
    replace hBs := Lib.hid hBs
    clear hE hI hBad
    repeat' (with_reducible first | refine Q1 ?_ | refine Qe ?_ | refine QQ ?_ | (refine al_go ?_; intro b) | (refine Qa ?_; intro o' ho') | (refine Qp ?_; intro o' ho') | (refine QD ?_ <;> (try constructor) <;> intro hb <;> try intro hb1) | fail)
    all_goals exact Qret (hs := by (repeat (first | exact List.Sublist.refl _ | with_reducible apply List.Sublist.cons_cons | apply List.Sublist.cons)))
   | false =>
    rw [hsb, if_neg Bool.false_ne_true] at hHE
    have hIs := hI.out s' g'
    have hBs := hBad.out s'
    rw [hsb] at hBs
    generalize f (s', g') = x3 at *
    obtain ⟨x, s3, g3⟩ := x3
    dsimp only at hHE hIs
    have hE2 : Hid ((L ++ [x]) ++ (Rul.rdG f (m - (i + 1)) (s3, g3)).1 = res.1 ∧ (Rul.rdG f (m - (i + 1)) (s3, g3)).2 = res.2) := by
     show _ ∧ _
     rw [List.append_assoc]
     exact hHE
    have hL4 : ∀ a ∈ L.map Rl.cells, a.length = 4 := fun a ha => by
     obtain ⟨x, -, rfl⟩ := List.mem_map.1 ha
     exact rfl
    have hLs : (L ++ [x]).map Rl.cells = L.map Rl.cells ++ [Rl.cells x] := List.map_append ..
    have hLk : (L ++ [x]).length ≤ i + 1 := by rw [List.length_append, List.length_singleton]; omega
    generalize hLx : L ++ [x] = Lx at *
    generalize L.map Rl.cells = M at *
    cases x with
    | mk nm sal pats acts =>
    rw [show (Rl.mk nm sal pats acts).cells = [.str nm, .i sal, .sl .shared (pats.map Pt.cells), .sl .shared (acts.map Ac.cells)] from rfl] at hLs hIs
    replace hBs := Lib.hid hBs
    replace hIs := Lib.hid hIs
    replace hLs := Lib.hid hLs
    replace hLx := Lib.hid hLx
    clear hE hI hBad hHE
    repeat' (first | (with_reducible first | refine Q1 ?_ | refine Qe ?_ | refine QQ ?_ | (refine al_go ?_; intro b) | (refine Qa ?_; intro o' ho') | (refine Qp ?_; intro o' ho') | (refine QD ?_ <;> (try constructor) <;> intro hb <;> try intro hb1) | fail) | ((with_reducible apply (ck_gen hcall)); (focus exact List.Perm.refl _); (focus exact hIs.out _); (focus exact LEL.refl _); (focus exact ⟨_, _, rfl, rfl⟩); (rintro d st' ⟨rfl, rfl⟩)) | fail)
    refine ⟨i + 1, _, List.Sublist.refl _, ⟨hlt, ?_, ?_, ?_, ?_, ?_, o', Lx, s3, g3, ho', hLk, hE2, ?_, ?_⟩, ?_⟩
    rotate_right 3
    · rw [hLs.out]; exact Qf
    · rw [hLs.out]
    all_goals exact Qf
 · have hHE := hE.out
   rw [show m - i = 0 by omega, Rul.rdG] at hHE
   obtain ⟨r1, r2⟩ := res
   obtain ⟨hr1, hr2⟩ := hHE
   dsimp only at hr1 hr2
   rw [List.append_nil] at hr1
   subst hr1 hr2
   clear hE hI hBad
   repeat' (with_reducible first | refine Q1 ?_ | refine Qe ?_ | refine QQ ?_ | (refine al_go ?_; intro b) | (refine Qa ?_; intro o' ho') | (refine Qp ?_; intro o' ho') | (refine QD ?_ <;> (try constructor) <;> intro hb <;> try intro hb1) | fail)
   all_goals exact Qret (hs := by (repeat (first | exact List.Sublist.refl _ | with_reducible apply List.Sublist.cons_cons | apply List.Sublist.cons)))
theorem rulePatRF (rb gb fb tb eb pb ab : Nat) (s : RS) (g : Bool) (st : St) : TrF Tryz.prog 120 [.ip [.ptr rb 0], .ptr fb 0, .ptr tb 0] (envS rb gb fb tb eb pb ab s g st) fun d st' => d = .agg (Rul.ptG (s, g)).1.cells ∧ st' = envS rb gb fb tb eb pb ab (Rul.ptG (s, g)).2.1 (Rul.ptG (s, g)).2.2 st := by
 have hB1 := rdByteF rb s
 unfold Rul.ptG Rul.byteS
 dsimp only
 generalize s.byte = q1 at *
 obtain ⟨n1, s1⟩ := q1
 dsimp only at *
 have hF := ruleFlagF rb gb fb tb eb pb ab s1 g
 generalize Rul.flagS (s1, g) = q2 at *
 obtain ⟨n2, s2, g2⟩ := q2
 dsimp only at *
 have hG := ruleGetTestF 117 [.ip [.ptr rb 0]] Tryz.call117 Rul.tsG rb gb fb tb eb pb ab (ruleTestRF rb gb fb tb eb pb ab) s2 g2
 generalize Rul.glist Rul.tsG 7 (s2, g2) = q3 at *
 obtain ⟨l3, s3, g3⟩ := q3
 dsimp only at *
 unfold Pt.cells
 dsimp only
 generalize l3.map Ts.cells = L3 at *
 replace hB1 := Lib.hid hB1
 replace hF := Lib.hid hF
 replace hG := Lib.hid hG
 refine QinC 3 105 Tryz.func120 Tryz.ntmps120 ?_
 repeat' (first | (with_reducible first | refine Q1 ?_ | refine Qe ?_ | fail) | ((with_reducible apply (w_drawN [(fb, [.fn (.func 115) [] [.ip [.ptr rb 0], .ptr gb 0]]), (tb, [.fn (.func 117) [] [.ip [.ptr rb 0]]])])); (iterate 3 (focus kernel_rfl)); (focus ((repeat (first | exact keep_nil | refine keep_more (by (repeat (first | exact mm_h | apply mm_t)); done) ?_)); done)); intro hne; simp only [nes, ne1, and_assoc] at hne; repeat (have hq := hne.1; replace hne := hne.2)) | ((with_reducible refine And.intro ?_ ?_); (focus ((repeat (first | exact keep_nil | refine keep_more (by (repeat (first | exact mm_h | apply mm_t)); done) ?_)); done))) | (with_reducible first | refine QQ ?_ | (refine al_go ?_; intro b) | (refine QD ?_ <;> (try constructor) <;> intro hb <;> try intro hb1) | fail) | ((with_reducible apply (ck_gen Tryz.call115)); (focus exact perm7); (focus exact hF.out _); (focus exact LEL.refl _); (focus exact ⟨_, _, rfl, rfl⟩); (rintro d st' ⟨rfl, rfl⟩)) | ((with_reducible apply (ck_gen Tryz.call121)); (focus exact List.Perm.refl _); (focus exact hG.out _); (focus exact LEL.refl _); (focus exact ⟨_, _, rfl, rfl⟩); (rintro d st' ⟨rfl, rfl⟩)) | fail)
 all_goals exact QretC (hs := by (repeat (first | exact List.Sublist.refl _ | with_reducible apply List.Sublist.cons_cons | apply List.Sublist.cons)))
theorem ruleActRF (rb gb fb tb eb pb ab : Nat) (s : RS) (g : Bool) (st : St) : TrF Tryz.prog 122 [.ip [.ptr rb 0], .ptr eb 0] (envS rb gb fb tb eb pb ab s g st) fun d st' => d = .agg (Rul.acG (s, g)).1.cells ∧ st' = envS rb gb fb tb eb pb ab (Rul.acG (s, g)).2.1 (Rul.acG (s, g)).2.2 st := by
 have hB1 := rdByteF rb s
 unfold Rul.acG Rul.byteS
 dsimp only
 generalize s.byte = q1 at *
 obtain ⟨n1, s1⟩ := q1
 dsimp only at *
 have hB2 := rdByteF rb s1
 generalize s1.byte = q2 at *
 obtain ⟨n2, s2⟩ := q2
 dsimp only at *
 have hB3 := rdByteF rb s2
 generalize s2.byte = q3 at *
 obtain ⟨n3, s3⟩ := q3
 dsimp only at *
 have hB4 := rdByteF rb s3
 generalize s3.byte = q4 at *
 obtain ⟨n4, s4⟩ := q4
 dsimp only at *
 have hG := ruleGetExprF 119 [.ptr fb 0, .ip [.ptr rb 0]] Tryz.call119 Rul.exG rb gb fb tb eb pb ab (ruleExprRF rb gb fb tb eb pb ab) s4 g
 generalize Rul.glist Rul.exG 17 (s4, g) = q5 at *
 obtain ⟨l5, s5, g5⟩ := q5
 dsimp only at *
 unfold Ac.cells
 dsimp only
 generalize l5.map Ex.cells = L5 at *
 replace hB1 := Lib.hid hB1
 replace hB2 := Lib.hid hB2
 replace hB3 := Lib.hid hB3
 replace hB4 := Lib.hid hB4
 replace hG := Lib.hid hG
 refine QinC 2 110 Tryz.func122 Tryz.ntmps122 ?_
 repeat' (first | (with_reducible first | refine Q1 ?_ | refine Qe ?_ | fail) | ((with_reducible apply (w_drawN [(eb, [.fn (.func 119) [] [.ptr fb 0, .ip [.ptr rb 0]]])])); (iterate 3 (focus kernel_rfl)); (focus ((repeat (first | exact keep_nil | refine keep_more (by (repeat (first | exact mm_h | apply mm_t)); done) ?_)); done)); intro hne; simp only [nes, ne1, and_assoc] at hne; repeat (have hq := hne.1; replace hne := hne.2)) | ((with_reducible refine And.intro ?_ ?_); (focus ((repeat (first | exact keep_nil | refine keep_more (by (repeat (first | exact mm_h | apply mm_t)); done) ?_)); done))) | (with_reducible first | refine QQ ?_ | (refine al_go ?_; intro b) | (refine QD ?_ <;> (try constructor) <;> intro hb <;> try intro hb1) | fail) | refine QR Tryz.call116 hB1.out ?_ | refine QR Tryz.call116 hB2.out ?_ | refine QR Tryz.call116 hB3.out ?_ | refine QR Tryz.call116 hB4.out ?_ | ((with_reducible apply (ck_gen Tryz.call123)); (focus exact perm7); (focus exact hG.out _); (focus exact LEL.refl _); (focus exact ⟨_, _, rfl, rfl⟩); (rintro d st' ⟨rfl, rfl⟩)) | fail)
 all_goals exact QretC (hs := by (repeat (first | exact List.Sublist.refl _ | with_reducible apply List.Sublist.cons_cons | apply List.Sublist.cons)))
theorem wrap_i64b (n : Int) : -9223372036854775808 ≤ IntKind.i64.wrap n ∧ IntKind.i64.wrap n ≤ 9223372036854775807 := by
 simp [IntKind.wrap, IntKind.bits, IntKind.signed]; omega
theorem long_bd (s : RS) : -9223372036854775808 ≤ s.long.1 ∧ s.long.1 ≤ 9223372036854775807 := by
 unfold RS.long
 split
 · exact ⟨by decide, by decide⟩
 · exact wrap_i64b _
theorem ruleRuleRF (rb gb fb tb eb pb ab : Nat) (s : RS) (g : Bool) (st : St) : TrF Tryz.prog 125 [.ip [.ptr rb 0], .ptr pb 0, .ptr ab 0] (envS rb gb fb tb eb pb ab s g st) fun d st' => d = .agg (Rul.rlG (s, g)).1.cells ∧ st' = envS rb gb fb tb eb pb ab (Rul.rlG (s, g)).2.1 (Rul.rlG (s, g)).2.2 st := by
 have hT := rdTextF rb s
 unfold Rul.rlG
 dsimp only
 generalize s.text = q1 at *
 obtain ⟨n1, s1⟩ := q1
 dsimp only at *
 have hLo := rdLongF rb s1
 have hbd := long_bd s1
 generalize s1.long = q2 at *
 obtain ⟨n2, s2⟩ := q2
 dsimp only at *
 have hw : IntKind.i64.wrap n2 = n2 := by unfold IntKind.wrap; simp [IntKind.bits, IntKind.signed]; omega
 have hG := ruleGetPatF 120 [.ip [.ptr rb 0], .ptr fb 0, .ptr tb 0] Tryz.call120 Rul.ptG rb gb fb tb eb pb ab (rulePatRF rb gb fb tb eb pb ab) s2 g
 generalize Rul.glist Rul.ptG 5 (s2, g) = q3 at *
 obtain ⟨l3, s3, g3⟩ := q3
 dsimp only at *
 have hA := ruleGetActF 122 [.ip [.ptr rb 0], .ptr eb 0] Tryz.call122 Rul.acG rb gb fb tb eb pb ab (ruleActRF rb gb fb tb eb pb ab) s3 g3
 generalize Rul.glist Rul.acG 5 (s3, g3) = q4 at *
 obtain ⟨l4, s4, g4⟩ := q4
 dsimp only at *
 unfold Rl.cells
 dsimp only
 generalize l3.map Pt.cells = L3 at *
 generalize l4.map Ac.cells = L4 at *
 replace hT := Lib.hid hT
 replace hLo := Lib.hid hLo
 replace hG := Lib.hid hG
 replace hA := Lib.hid hA
 refine QinC 3 55 Tryz.func125 Tryz.ntmps125 ?_
 repeat' (first | (with_reducible first | refine Q1 ?_ | refine Qe ?_ | fail) | ((with_reducible apply (w_drawN [(pb, [.fn (.func 120) [] [.ip [.ptr rb 0], .ptr fb 0, .ptr tb 0]]), (ab, [.fn (.func 122) [] [.ip [.ptr rb 0], .ptr eb 0]])])); (iterate 3 (focus kernel_rfl)); (focus ((repeat (first | exact keep_nil | refine keep_more (by (repeat (first | exact mm_h | apply mm_t)); done) ?_)); done)); intro hne; simp only [nes, ne1, and_assoc] at hne; repeat (have hq := hne.1; replace hne := hne.2)) | ((with_reducible refine And.intro ?_ ?_); (focus ((repeat (first | exact keep_nil | refine keep_more (by (repeat (first | exact mm_h | apply mm_t)); done) ?_)); done))) | (with_reducible first | refine QQ ?_ | (refine al_go ?_; intro b) | (refine QD ?_ <;> (try constructor) <;> intro hb <;> try intro hb1) | fail) | ((with_reducible apply (ck_gen Tryz.call127)); (focus exact perm7); (focus exact hG.out _); (focus exact LEL.refl _); (focus exact ⟨_, _, rfl, rfl⟩); (rintro d st' ⟨rfl, rfl⟩)) | ((with_reducible apply (ck_gen Tryz.call128)); (focus exact List.Perm.refl _); (focus exact hA.out _); (focus exact LEL.refl _); (focus exact ⟨_, _, rfl, rfl⟩); (rintro d st' ⟨rfl, rfl⟩)) | fail)
 all_goals exact QretC (hs := by (repeat (first | exact List.Sublist.refl _ | with_reducible apply List.Sublist.cons_cons | apply List.Sublist.cons)))
theorem ruleReadF (L : List Tm) (hL : ∀ t ∈ L, TOk t) (hl : L.length ≤ 1000000) (rb : Nat) (s : RS) (hR : ∀ x ∈ (Rul.glist Rul.rlG 9 (s, true)).1, Rul.RK x) (hRl : (Rul.glist Rul.rlG 9 (s, true)).1.length ≤ 1000000) (st : St) : TrF Tryz.prog 44 [.ptr rb 0, .sl .shared (L.map Tm.cells)] (rdR rb s :: st) fun d st' => d = .tup [.sl .shared (((Rul.read L s).1.getD []).map Rl.cells), .b (Rul.read L s).1.isSome] ∧ st' = rdR rb (Rul.read L s).2 :: st := by
 have hG := fun (gb fb tb eb pb ab : Nat) => ruleGetRuleF 125 [.ip [.ptr rb 0], .ptr pb 0, .ptr ab 0] Tryz.call125 Rul.rlG rb gb fb tb eb pb ab (ruleRuleRF rb gb fb tb eb pb ab) s true
 unfold Rul.read
 dsimp only
 generalize Rul.glist Rul.rlG 9 (s, true) = q at *
 obtain ⟨R, s2, g2⟩ := q
 dsimp only at *
 have hRi := ruleRightF L hL hl R hR hRl
 have hB := rdBadF rb s2
 generalize Rul.right L R = qr at *
 generalize L.map Tm.cells = LS at *
 clear hR hRl hL hl
 replace hG := Lib.hid hG
 replace hRi := Lib.hid hRi
 cases hsb : s2.bad with
 | true =>
  rw [if_pos (.inl rfl)]
  rw [hsb] at hB
  replace hB := Lib.hid hB
  simp only [Option.getD, Option.isSome, List.map_nil]
  generalize R.map Rl.cells = RS' at *
  refine Qin [4,5] Tryz.func44 Tryz.results44 Tryz.ntmps44 ?_
  repeat' (first | (with_reducible first | refine Q1 ?_ | refine Qe ?_ | refine QQ ?_ | (refine al_go ?_; intro b) | (refine QD ?_ <;> (try constructor) <;> intro hb <;> try intro hb1) | fail) | ((with_reducible apply (ck_gen Tryz.call124)); (focus exact List.Perm.refl _); (focus exact hG.out _ _ _ _ _ _ _); (focus exact LEL.refl _); (focus exact ⟨_, _, rfl, rfl⟩); (rintro d st' ⟨rfl, rfl⟩)) | fail)
  all_goals exact Qret (hs := by (repeat (first | exact List.Sublist.refl _ | with_reducible apply List.Sublist.cons_cons | apply List.Sublist.cons)))
 | false =>
 rw [hsb] at hB
 replace hB := Lib.hid hB
 cases g2 with
 | false =>
  rw [if_pos (.inr (.inl rfl))]
  simp only [Option.getD, Option.isSome, List.map_nil]
  generalize R.map Rl.cells = RS' at *
  refine Qin [4,5] Tryz.func44 Tryz.results44 Tryz.ntmps44 ?_
  repeat' (first | (with_reducible first | refine Q1 ?_ | refine Qe ?_ | refine QQ ?_ | (refine al_go ?_; intro b) | (refine QD ?_ <;> (try constructor) <;> intro hb <;> try intro hb1) | fail) | ((with_reducible apply (ck_gen Tryz.call124)); (focus exact List.Perm.refl _); (focus exact hG.out _ _ _ _ _ _ _); (focus exact LEL.refl _); (focus exact ⟨_, _, rfl, rfl⟩); (rintro d st' ⟨rfl, rfl⟩)) | fail)
  all_goals exact Qret (hs := by (repeat (first | exact List.Sublist.refl _ | with_reducible apply List.Sublist.cons_cons | apply List.Sublist.cons)))
 | true =>
 cases qr with
 | false =>
  rw [if_pos (.inr (.inr rfl))]
  simp only [Option.getD, Option.isSome, List.map_nil]
  generalize R.map Rl.cells = RS' at *
  refine Qin [4,5] Tryz.func44 Tryz.results44 Tryz.ntmps44 ?_
  repeat' (first | (with_reducible first | refine Q1 ?_ | refine Qe ?_ | refine QQ ?_ | (refine al_go ?_; intro b) | (refine QD ?_ <;> (try constructor) <;> intro hb <;> try intro hb1) | fail) | ((with_reducible apply (ck_gen Tryz.call124)); (focus exact List.Perm.refl _); (focus exact hG.out _ _ _ _ _ _ _); (focus exact LEL.refl _); (focus exact ⟨_, _, rfl, rfl⟩); (rintro d st' ⟨rfl, rfl⟩)) | fail)
  all_goals exact Qret (hs := by (repeat (first | exact List.Sublist.refl _ | with_reducible apply List.Sublist.cons_cons | apply List.Sublist.cons)))
 | true =>
  rw [if_neg (by rintro (h | h | h) <;> cases h)]
  simp only [Option.getD, Option.isSome]
  generalize R.map Rl.cells = RS' at *
  refine Qin [4,5] Tryz.func44 Tryz.results44 Tryz.ntmps44 ?_
  repeat' (first | (with_reducible first | refine Q1 ?_ | refine Qe ?_ | refine QQ ?_ | (refine al_go ?_; intro b) | (refine QD ?_ <;> (try constructor) <;> intro hb <;> try intro hb1) | fail) | ((with_reducible apply (ck_gen Tryz.call124)); (focus exact List.Perm.refl _); (focus exact hG.out _ _ _ _ _ _ _); (focus exact LEL.refl _); (focus exact ⟨_, _, rfl, rfl⟩); (rintro d st' ⟨rfl, rfl⟩)) | fail)
  all_goals exact Qret (hs := by (repeat (first | exact List.Sublist.refl _ | with_reducible apply List.Sublist.cons_cons | apply List.Sublist.cons)))
end Go.Proofs.YtgcienlfpnpbgaaGreat
end
section
namespace Go.Proofs.YtgcienlfpnpbgaaGreat
open Go.RowKit B
set_option maxHeartbeats 4000000
namespace Rul
def Byt (n : Int) : Prop := 0 ≤ n ∧ n ≤ 255
structure ValG (v : V) : Prop where
 r : v.right = true
 ok : v.Ok
structure TsG (t : Ts) : Prop where
 k : Byt t.kind
 s : Byt t.slot
 v : Byt t.var
 g : ValG t.val
structure PtG (p : Pt) : Prop where
 t : Byt p.tmpl
 l : p.tests.length ≤ 6
 g : ∀ t ∈ p.tests, TsG t
structure ExG (e : Ex) : Prop where
 v : Byt e.var
 g : ValG e.val
structure AcG (a : Ac) : Prop where
 k : Byt a.kind
 p : Byt a.pat
 t : Byt a.tmpl
 s : Byt a.slot
 l : a.vals.length ≤ 16
 g : ∀ e ∈ a.vals, ExG e
structure RlG (x : Rl) : Prop where
 nm : x.name.size ≤ 900000
 sal : -9223372036854775808 ≤ x.sal ∧ x.sal ≤ 9223372036854775807
 lp : x.pats.length ≤ 4
 la : x.acts.length ≤ 4
 gp : ∀ p ∈ x.pats, PtG p
 ga : ∀ a ∈ x.acts, AcG a
theorem bin_ne {v : V} (h : v.right = true) : v.bin ≠ [] := by
 unfold V.bin
 rw [if_pos h]
 cases v
 unfold V.put
 exact List.cons_ne_nil _ _
theorem badN_no {n : Int} (h : Byt n) : badN n = false := by
 unfold badN
 rw [decide_eq_false (by have := h.1; omega), decide_eq_false (by have := h.2; omega)]; rfl
theorem bit_byt (b : Bool) : Byt (bitI b) := by cases b <;> exact ⟨by decide, by decide⟩
theorem valW_ok {v : V} (h : ValG v) : (valW v).2 = false := decide_eq_false (bin_ne h.r)
theorem tsW_ok {t : Ts} (h : TsG t) : (tsW t).2 = false := by
 unfold tsW catW numsW
 dsimp only
 rw [valW_ok h.g]
 simp [badN_no h.k, badN_no h.s, badN_no h.v]
theorem exW_ok {e : Ex} (h : ExG e) : (exW e).2 = false := by
 unfold exW catW numsW
 dsimp only
 rw [valW_ok h.g]
 simp [badN_no (bit_byt e.isVar), badN_no h.v]
theorem listW_ok {α : Type} {f : α → List UInt8 × Bool} {l : List α} (h : ∀ a ∈ l, (f a).2 = false) : (listW f l).2 = false := by
 unfold listW
 dsimp only
 rw [List.any_eq_false]
 intro a ha
 rw [h a ha]; exact Bool.false_ne_true
theorem ptW_ok {p : Pt} (h : PtG p) : (ptW p).2 = false := by
 unfold ptW catW numsW
 dsimp only
 rw [listW_ok fun t ht => tsW_ok (h.g t ht)]
 simp [badN_no h.t, badN_no (bit_byt p.neg)]
theorem acW_ok {a : Ac} (h : AcG a) : (acW a).2 = false := by
 unfold acW catW numsW
 dsimp only
 rw [listW_ok fun e he => exW_ok (h.g e he)]
 simp [badN_no h.k, badN_no h.p, badN_no h.t, badN_no h.s]
theorem rlW_ok {x : Rl} (h : RlG x) : (rlW x).2 = false := by
 unfold rlW catW
 dsimp only
 rw [listW_ok fun p hp => ptW_ok (h.gp p hp), listW_ok fun a ha => acW_ok (h.ga a ha)]; rfl
theorem byteS_put (o : Own) {n : Int} (h : Byt n) (l : List UInt8) (g : Bool) : byteS (⟨o, Reg.b8 n :: l, false⟩, g) = (n, ((⟨.shared, l, false⟩ : RS), g)) := by
 have := Reg.b8_put o n h l
 unfold byteS
 dsimp only
 rw [List.singleton_append] at this
 rw [this]
theorem flagS_put (o : Own) (b : Bool) (l : List UInt8) (g : Bool) : flagS (⟨o, Reg.b8 (bitI b) :: l, false⟩, g) = (b, ((⟨.shared, l, false⟩ : RS), g)) := by
 have := Reg.b8_put o (bitI b) (bit_byt b) l
 unfold flagS
 dsimp only
 rw [List.singleton_append] at this
 rw [this]
 dsimp only
 cases b <;> simp [bitI]
theorem valS_put (o : Own) {v : V} (h : ValG v) (l : List UInt8) (g : Bool) : valS (⟨o, v.bin ++ l, false⟩, g) = (v, ((⟨.shared, l, false⟩ : RS), g)) := by
 have := RS.val_put h.r h.ok o l
 unfold valS V.bin
 dsimp only
 rw [if_pos h.r, this]
theorem tsG_put (o : Own) {t : Ts} (h : TsG t) (r : List UInt8) (g : Bool) : tsG (⟨o, (tsW t).1 ++ r, false⟩, g) = (t, ((⟨.shared, r, false⟩ : RS), g)) := by
 have e : (tsW t).1 ++ r = Reg.b8 t.kind :: Reg.b8 t.slot :: Reg.b8 t.var :: (t.val.bin ++ r) := by
  unfold tsW catW numsW valW; simp
 rw [e]
 unfold tsG
 dsimp only
 rw [byteS_put o h.k]
 dsimp only
 rw [byteS_put .shared h.s]
 dsimp only
 rw [byteS_put .shared h.v]
 dsimp only
 rw [valS_put .shared h.g]
theorem exG_put (o : Own) {e : Ex} (h : ExG e) (r : List UInt8) (g : Bool) : exG (⟨o, (exW e).1 ++ r, false⟩, g) = (e, ((⟨.shared, r, false⟩ : RS), g)) := by
 have e' : (exW e).1 ++ r = Reg.b8 (bitI e.isVar) :: Reg.b8 e.var :: (e.val.bin ++ r) := by
  unfold exW catW numsW valW; simp
 rw [e']
 unfold exG
 dsimp only
 rw [flagS_put]
 dsimp only
 rw [byteS_put .shared h.v]
 dsimp only
 rw [valS_put .shared h.g]
theorem rdG_put {α : Type} {f : GS → α × GS} {W : α → List UInt8 × Bool} (g : Bool) (r : List UInt8) : ∀ (l : List α), (∀ x ∈ l, ∀ o r, f (⟨o, (W x).1 ++ r, false⟩, g) = (x, ((⟨.shared, r, false⟩ : RS), g))) → rdG f l.length ((⟨.shared, (l.map fun a => (W a).1).flatten ++ r, false⟩ : RS), g) = (l, ((⟨.shared, r, false⟩ : RS), g))
 | [], _ => rfl
 | x :: l, h => by
  rw [List.length_cons, rdG, if_neg Bool.false_ne_true, List.map_cons, List.flatten_cons, List.append_assoc, h x (List.mem_cons_self ..)]
  dsimp only
  rw [rdG_put g r l fun y hy => h y (List.mem_cons_of_mem _ hy)]
theorem glist_put {α : Type} {f : GS → α × GS} {W : α → List UInt8 × Bool} (k : Int) (l : List α) (hl : (l.length : Int) ≤ k) (hk : k ≤ 1000) (g : Bool) (h : ∀ x ∈ l, ∀ o r, f (⟨o, (W x).1 ++ r, false⟩, g) = (x, ((⟨.shared, r, false⟩ : RS), g))) (o : Own) (r : List UInt8) : glist f k (⟨o, (listW W l).1 ++ r, false⟩, g) = (l, ((⟨.shared, r, false⟩ : RS), g)) := by
 unfold glist listW
 dsimp only
 rw [List.append_assoc, RS.rnum_be o l.length (by omega)]
 dsimp only
 rw [if_neg (by omega), Int.toNat_natCast, rdG_put g r l h]
theorem ptG_put (o : Own) {p : Pt} (h : PtG p) (r : List UInt8) (g : Bool) : ptG (⟨o, (ptW p).1 ++ r, false⟩, g) = (p, ((⟨.shared, r, false⟩ : RS), g)) := by
 have e' : (ptW p).1 ++ r = Reg.b8 p.tmpl :: Reg.b8 (bitI p.neg) :: ((listW tsW p.tests).1 ++ r) := by
  unfold ptW catW numsW; simp
 rw [e']
 unfold ptG
 dsimp only
 rw [byteS_put o h.t]
 dsimp only
 rw [flagS_put]
 dsimp only
 rw [glist_put 7 p.tests (by have := h.l; omega) (by decide) g fun t ht o r => tsG_put o (h.g t ht) r g]
theorem acG_put (o : Own) {a : Ac} (h : AcG a) (r : List UInt8) (g : Bool) : acG (⟨o, (acW a).1 ++ r, false⟩, g) = (a, ((⟨.shared, r, false⟩ : RS), g)) := by
 have e' : (acW a).1 ++ r = Reg.b8 a.kind :: Reg.b8 a.pat :: Reg.b8 a.tmpl :: Reg.b8 a.slot :: ((listW exW a.vals).1 ++ r) := by
  unfold acW catW numsW; simp
 rw [e']
 unfold acG
 dsimp only
 rw [byteS_put o h.k]
 dsimp only
 rw [byteS_put .shared h.p]
 dsimp only
 rw [byteS_put .shared h.t]
 dsimp only
 rw [byteS_put .shared h.s]
 dsimp only
 rw [glist_put 17 a.vals (by have := h.l; omega) (by decide) g fun e he o r => exG_put o (h.g e he) r g]
theorem rlG_put (o : Own) {x : Rl} (h : RlG x) (r : List UInt8) (g : Bool) : rlG (⟨o, (rlW x).1 ++ r, false⟩, g) = (x, ((⟨.shared, r, false⟩ : RS), g)) := by
 have e' : (rlW x).1 ++ r = tx x.name.data.toList ++ (be 8 (IntKind.u64.wrap x.sal).toNat ++ ((listW ptW x.pats).1 ++ ((listW acW x.acts).1 ++ r))) := by
  unfold rlW catW headW; simp
 rw [e']
 unfold rlG
 dsimp only
 rw [RS.text_tx _ _ (by have := h.nm; omega)]
 dsimp only
 rw [RS.long_be _ _ h.sal]
 dsimp only
 rw [glist_put 5 x.pats (by have := h.lp; omega) (by decide) g fun p hp o r => ptG_put o (h.gp p hp) r g]
 dsimp only
 rw [glist_put 5 x.acts (by have := h.la; omega) (by decide) g fun a ha o r => acG_put o (h.ga a ha) r g]
theorem glist_rules (R : List Rl) (hl : R.length ≤ 8) (h : ∀ x ∈ R, RlG x) (o : Own) (r : List UInt8) : glist rlG 9 (⟨o, (listW rlW R).1 ++ r, false⟩, true) = (R, ((⟨.shared, r, false⟩ : RS), true)) :=
 glist_put 9 R (by omega) (by decide) true (fun x hx o r => rlG_put o (h x hx) r true) o r
theorem put_eq {R : List Rl} (h : ∀ x ∈ R, RlG x) : put R = (listW rlW R).1 := by
 unfold put
 rw [listW_ok fun x hx => rlW_ok (h x hx), if_neg Bool.false_ne_true]
theorem read_put (L : List Tm) (R : List Rl) (hr : right L R = true) (hl : R.length ≤ 8) (h : ∀ x ∈ R, RlG x) (o : Own) (r : List UInt8) : read L ⟨o, put R ++ r, false⟩ = (some R, (⟨.shared, r, false⟩ : RS)) := by
 unfold read
 rw [put_eq h, glist_rules R hl h o r]
 dsimp only
 rw [if_neg (by rintro (h | h | h) <;> first | (cases h; done) | (rw [hr] at h; cases h))]
theorem ver_memb {t : Tm} {v : Int} {x : Vr} (h : Sch.ver t v = some x) : x ∈ Sch.vers t := by
 unfold Sch.ver at h
 split at h
 · exact List.mem_of_getElem? h
 · cases h
theorem ver_len (t : Tm) (v : Int) : (Sch.verX t v).slots.length ≤ 16 := by
 unfold Sch.verX
 cases hv : Sch.ver t v with
 | none => exact Nat.zero_le _
 | some x => exact (Sch.vers_vi (ver_memb hv)).ls
theorem zero_right : V.zero.right = true := by kernel_rfl
theorem slots_le (L : List Tm) (k : Int) : (slots L k).length ≤ 16 := by
 unfold slots
 split
 · split
   · exact ver_len ..
   · exact Nat.zero_le _
 · exact Nat.zero_le _
theorem slots_in_range {L : List Tm} {k : Int} (h : (slots L k).length ≠ 0) : 0 ≤ k ∧ k < L.length := by
 unfold slots at h
 split at h
 · assumption
 · exact absurd rfl h
theorem testB_good {L : List Tm} {k : Int} {neg : Bool} {B : List Int} {t : Ts} (hv : VQ t.val) (h : testB (slots L k).length neg B t = true) : TsG t ∧ (t.kind = 5 → 0 ≤ t.var ∧ t.var < 8) := by
 have hs := slots_le L k
 unfold testB at h
 rw [Bool.and_eq_true, Bool.and_eq_true, decide_eq_true_eq, decide_eq_true_eq] at h
 obtain ⟨⟨h1, h2⟩, h3⟩ := h
 have hz : (t.val.cmp V.zero == 0) = true → ValG t.val := fun e => by
  rw [V.cmp_eq _ _ (beq_iff_eq.1 e)]
  exact ⟨zero_right, zero_ok⟩
 split at h3
 · rename_i hk
   rw [Bool.and_eq_true, beq_iff_eq] at h3
   exact ⟨⟨⟨by omega, by omega⟩, ⟨h1, by omega⟩, ⟨by omega, by omega⟩, ⟨h3.2, hv.ok⟩⟩, fun e => by omega⟩
 split at h3
 · rename_i hk
   rw [Bool.and_eq_true, Bool.and_eq_true, Bool.and_eq_true, decide_eq_true_eq, decide_eq_true_eq] at h3
   exact ⟨⟨⟨by omega, by omega⟩, ⟨h1, by omega⟩, ⟨h3.2.1.1, by omega⟩, hz h3.1⟩, fun _ => h3.2.1⟩
 split at h3
 · rename_i hk
   rw [Bool.and_eq_true, Bool.and_eq_true, Bool.and_eq_true, decide_eq_true_eq, decide_eq_true_eq] at h3
   exact ⟨⟨⟨by omega, by omega⟩, ⟨h1, by omega⟩, ⟨h3.2.1.1, by omega⟩, hz h3.1⟩, fun _ => h3.2.1⟩
 · cases h3
def In8 (B : List Int) : Prop := ∀ n ∈ B, 0 ≤ n ∧ n < 8
theorem testsF_good {L : List Tm} {k : Int} {neg : Bool} : ∀ (l : List Ts) (B : List Int), (∀ t ∈ l, VQ t.val) → In8 B → (testsF (slots L k).length neg l B).1 = true → (∀ t ∈ l, TsG t) ∧ In8 (testsF (slots L k).length neg l B).2
 | [], B, _, hB, _ => ⟨fun t h => (by cases h), hB⟩
 | t :: l, B, hv, hB, h => by
  rw [testsF] at h ⊢
  split at h
  · rename_i ht
    rw [if_pos ht]
    obtain ⟨g1, g2⟩ := testB_good (hv t (List.mem_cons_self ..)) ht
    have hB2 : In8 (testN B t) := by
     unfold testN
     split
     · rename_i h5
       intro n hn
       rcases List.mem_append.1 hn with hn | hn
       · exact hB n hn
       · rw [List.mem_singleton.1 hn]; exact g2 h5
     · exact hB
    obtain ⟨k1, k2⟩ := testsF_good l _ (fun t ht => hv t (List.mem_cons_of_mem _ ht)) hB2 h
    exact ⟨fun u hu => (List.mem_cons.1 hu).elim (fun e => e ▸ g1) (k1 u), k2⟩
  · cases h
theorem patsF_good {L : List Tm} (hL : L.length ≤ 6) : ∀ (l : List Pt) (B : List Int), (∀ p ∈ l, ∀ t ∈ p.tests, VQ t.val) → In8 B → (patsF L l B).1 = true → (∀ p ∈ l, PtG p) ∧ In8 (patsF L l B).2
 | [], B, _, hB, _ => ⟨fun t h => (by cases h), hB⟩
 | p :: l, B, hv, hB, h => by
  rw [patsF] at h ⊢
  split at h
  · rename_i hp
    rw [if_pos hp]
    have hp2 := hp
    unfold patF at hp2
    split at hp2
    · rename_i hc
      obtain ⟨k1, k2⟩ := testsF_good p.tests B (hv p (List.mem_cons_self ..)) hB hp2
      have hB2 : In8 (patF L B p).2 := by unfold patF; rw [if_pos hc]; exact k2
      obtain ⟨m1, m2⟩ := patsF_good hL l _ (fun p hp => hv p (List.mem_cons_of_mem _ hp)) hB2 h
      exact ⟨fun u hu => (List.mem_cons.1 hu).elim (fun e => e ▸ ⟨⟨by omega, by omega⟩, hc.2.2, k1⟩) (m1 u), m2⟩
    · cases hp2
  · cases h
theorem exprB_good {B : List Int} (hB : In8 B) {e : Ex} {s : Sl} (hv : VQ e.val) (h : exprB B e s = true) : ExG e := by
 unfold exprB at h
 split at h
 · rw [Bool.and_eq_true, decide_eq_true_eq, beq_iff_eq] at h
   have := hB _ h.1
   exact ⟨⟨by omega, by omega⟩, by rw [V.cmp_eq _ _ h.2]; exact ⟨zero_right, zero_ok⟩⟩
 · rw [Bool.and_eq_true, beq_iff_eq] at h
   exact ⟨⟨by omega, by omega⟩, ⟨Sch.fits_right h.2, hv.ok⟩⟩
theorem exprsB_good {B : List Int} (hB : In8 B) : ∀ (l : List Ex) (m : List Sl), l.length = m.length → (∀ e ∈ l, VQ e.val) → exprsB B l m = true → ∀ e ∈ l, ExG e
 | [], _, _, _, _, _, h => by cases h
 | e :: l, [], hl, _, _, _, _ => by simp at hl
 | e :: l, s :: m, hl, hv, h, u, hu => by
  rw [exprsB, Bool.and_eq_true] at h
  rcases List.mem_cons.1 hu with rfl | hu
  · exact exprB_good hB (hv _ (List.mem_cons_self ..)) h.1
  · exact exprsB_good hB l m (by simpa using hl) (fun e he => hv e (List.mem_cons_of_mem _ he)) h.2 u hu
theorem posB_range {ps : List Pt} {k : Int} (h : posB ps k = true) : 0 ≤ k ∧ k < ps.length := by
 unfold posB at h
 rw [Bool.and_eq_true, Bool.and_eq_true, decide_eq_true_eq, decide_eq_true_eq] at h
 exact h.1
theorem actB_good {L : List Tm} (hL : L.length ≤ 6) {ps : List Pt} (hps : ps.length ≤ 4) {B : List Int} (hB : In8 B) {a : Ac} (hv : ∀ e ∈ a.vals, VQ e.val) (h : actB L ps B a = true) : AcG a := by
 unfold actB at h
 split at h
 · rename_i hk
   simp only [Bool.and_eq_true, beq_iff_eq, decide_eq_true_eq] at h
   obtain ⟨⟨h1, h2⟩, ⟨h3, h4⟩, h5⟩ := h
   have hr := slots_in_range h3
   have hs := slots_le L a.tmpl
   exact ⟨⟨by omega, by omega⟩, ⟨by omega, by omega⟩, ⟨by omega, by omega⟩, ⟨by omega, by omega⟩, by omega, exprsB_good hB _ _ h4 hv h5⟩
 split at h
 · rename_i hk
   simp only [Bool.and_eq_true, beq_iff_eq, decide_eq_true_eq] at h
   obtain ⟨h1, h2, h3, h4⟩ := h
   have hr := posB_range h1
   exact ⟨⟨by omega, by omega⟩, ⟨by omega, by omega⟩, ⟨by omega, by omega⟩, ⟨by omega, by omega⟩, by omega, fun e he => by rw [List.eq_nil_of_length_eq_zero h4] at he; cases he⟩
 split at h
 · rename_i hk
   rw [Bool.and_eq_true, Bool.and_eq_true, Bool.and_eq_true, beq_iff_eq, decide_eq_true_eq] at h
   obtain ⟨⟨h1, h2, h3⟩, h4⟩ := h
   have hr := posB_range h1
   split at h4
   · rename_i p e hp he
     rw [Bool.and_eq_true, Bool.and_eq_true, decide_eq_true_eq, decide_eq_true_eq] at h4
     have hs := slots_le L p.tmpl
     refine ⟨⟨by omega, by omega⟩, ⟨by omega, by omega⟩, ⟨by omega, by omega⟩, ⟨h4.1, by omega⟩, by omega, fun u hu => ?_⟩
     have h5 := h4.2.2
     split at h5
     · rw [he] at hu
       rw [List.mem_singleton.1 hu]
       exact exprB_good hB (hv e (by rw [he]; exact List.mem_singleton.2 rfl)) h5
     · cases h5
   · cases h4
 · simp only [Bool.and_eq_true, beq_iff_eq, decide_eq_true_eq] at h
   obtain ⟨h1, h2, h3, h4, h5⟩ := h
   exact ⟨⟨by omega, by omega⟩, ⟨by omega, by omega⟩, ⟨by omega, by omega⟩, ⟨by omega, by omega⟩, by omega, fun e he => by rw [List.eq_nil_of_length_eq_zero h5] at he; cases he⟩
theorem oneB_good {L : List Tm} (hL : L.length ≤ 6) {x : Rl} (hx : RK x) (h : oneB L x = true) : RlG x := by
 unfold oneB headB at h
 simp only [Bool.and_eq_true, decide_eq_true_eq, List.all_eq_true] at h
 obtain ⟨⟨-, ⟨h1, h2⟩, ⟨h3, h4⟩, -, h5⟩, h6, h7⟩ := h
 obtain ⟨k1, k2⟩ := patsF_good hL x.pats [] hx.vt (fun n hn => by cases hn) h6
 exact ⟨hx.nm, ⟨by omega, by omega⟩, h4, h5, k1, fun a ha => actB_good hL h4 k2 (hx.va a ha) (h7 a ha)⟩
theorem rightL_iff {L : List Tm} {R : List Rl} : ∀ (l : List Rl) (i : Nat), rightL L R l i = true ↔ ∀ (j : Nat) (x : Rl), l[j]? = some x → oneB L x = true ∧ ∀ y ∈ R.take (i + j), ¬ y.name.toList = x.name.toList
 | [], i => ⟨fun _ j x h => (by cases h), fun _ => rfl⟩
 | x :: l, i => by
  rw [rightL, Bool.and_eq_true, Bool.and_eq_true, Bool.not_eq_true', List.any_eq_false, rightL_iff l (i + 1)]
  constructor
  · rintro ⟨h1, h2, h3⟩ j y hy
    cases j with
    | zero => cases hy; exact ⟨h1, fun y hy he => h2 y hy (beq_iff_eq.2 he)⟩
    | succ j =>
     have := h3 j y hy
     rwa [show i + 1 + j = i + (j + 1) by omega] at this
  · intro h
    refine ⟨(h 0 x rfl).1, fun y hy he => (h 0 x rfl).2 y hy (beq_iff_eq.1 he), fun j y hy => ?_⟩
    have := h (j + 1) y hy
    rwa [show i + (j + 1) = i + 1 + j by omega] at this
theorem right_iff {L : List Tm} {R : List Rl} : right L R = true ↔ Reg.right L = true ∧ R.length ≤ 8 ∧ (∀ x ∈ R, oneB L x = true) ∧ ∀ (i j : Nat) (x y : Rl), R[i]? = some x → R[j]? = some y → j < i → ¬ y.name.toList = x.name.toList := by
 unfold right
 rw [Bool.and_eq_true, Bool.and_eq_true, decide_eq_true_eq, rightL_iff]
 constructor
 · rintro ⟨h1, h2, h3⟩
   refine ⟨h1, h2, fun x hx => ?_, fun i j x y hx hy hij => ?_⟩
   · obtain ⟨i, hi⟩ := List.getElem?_of_mem hx
     exact (h3 i x hi).1
   · refine (h3 i x hx).2 y ?_
     rw [Nat.zero_add]
     exact List.mem_of_getElem? (by rw [List.getElem?_take_of_lt hij]; exact hy)
 · rintro ⟨h1, h2, h3, h4⟩
   refine ⟨h1, h2, fun i x hx => ⟨h3 x (List.mem_of_getElem? hx), fun y hy => ?_⟩⟩
   rw [Nat.zero_add] at hy
   obtain ⟨j, hj⟩ := List.getElem?_of_mem hy
   have hji : j < i := by
    have := (List.getElem?_eq_some_iff.1 hj).1
    rw [List.length_take] at this
    omega
   rw [List.getElem?_take_of_lt hji] at hj
   exact h4 i j x y hx hj hji
theorem right_good {L : List Tm} {R : List Rl} (hR : ∀ x ∈ R, RK x) (h : right L R = true) : R.length ≤ 8 ∧ ∀ x ∈ R, RlG x := by
 obtain ⟨h1, h2, h3, -⟩ := right_iff.1 h
 exact ⟨h2, fun x hx => oneB_good (Reg.right_iff.1 h1).1 (hR x hx) (h3 x hx)⟩
end Rul
end Go.Proofs.YtgcienlfpnpbgaaGreat
end
section
namespace Go.Proofs.YtgcienlfpnpbgaaGreat
attribute [local push_cast] encB encI encC V.cells_mk V.cells_len Nat.mul_one Int.sub_zero List.map_nil beq_self_eq_true List.head?_cons
open Go.RowKit
set_option maxHeartbeats 4000000
set_option maxRecDepth 10000
namespace Sch
def greatS (s : Sl) : Bool := s.dv.great || decide (300 < s.name.size)
def greatP (s : Stp) : Bool := s.slot.dv.great || (decide (300 < s.slot.name.size) || decide (30 < s.order.length))
def great (t : Tm) : Bool := decide (30 < t.slots.length) || (decide (30 < t.steps.length) || (decide (300 < t.name.size) || (t.slots.any greatS || t.steps.any greatP)))
end Sch
theorem any_drop {α : Type} {p : α → Bool} {l : List α} {i : Nat} {x : α} (h : l[i]? = some x) : (l.drop i).any p = (p x || (l.drop (i + 1)).any p) := by
 obtain ⟨h1, rfl⟩ := List.getElem?_eq_some_iff.1 h
 rw [List.drop_eq_getElem_cons h1, List.any_cons]
theorem refGreat10F (t : Tm) (hw : t.Wf) (st : St) : TrF Tryz.prog 49 [.agg t.cells] st fun d st' => d = .b (Sch.great t) ∧ st' = st := by
 obtain ⟨-, hws, hsl, hwp, hpl⟩ := hw
 obtain ⟨B, hB⟩ : ∃ B, Sch.great t = B := ⟨_, rfl⟩
 rw [hB]
 unfold Sch.great at hB
 cases t with
 | mk nm slots steps =>
 unfold Tm.cells
 dsimp only at hB hws hwp hsl hpl ⊢
 have hws2 := Lib.hid hws
 have hwp2 := Lib.hid hwp
 clear hws hwp
 have hml : (slots.map Sl.cells).length = slots.length := List.length_map ..
 have hmp : (steps.map Stp.cells).length = steps.length := List.length_map ..
 have hcl := hMp Sl.cells slots
 have hcp := hMp Stp.cells steps
 generalize slots.map Sl.cells = SL at *
 generalize steps.map Stp.cells = TL at *
 have hn1 := hml
 have hn2 := hmp
 unfold maxLen at hsl hpl
 by_cases h1 : 30 < slots.length
 · have hBt : B = true := by rw [← hB]; simp [h1]
   subst hBt
   clear hB
   refine Qin [2] Tryz.func49 Tryz.results49 Tryz.ntmps49 ?_
   exact WR
 by_cases h2 : 30 < steps.length
 · have hBt : B = true := by rw [← hB]; simp [h2]
   subst hBt
   clear hB
   refine Qin [2] Tryz.func49 Tryz.results49 Tryz.ntmps49 ?_
   exact WR
 by_cases h3 : 300 < nm.size
 · have hBt : B = true := by rw [← hB]; simp [h3]
   subst hBt
   clear hB
   refine Qin [2] Tryz.func49 Tryz.results49 Tryz.ntmps49 ?_
   exact WR
 have HB : Hid (((slots.drop 0).any Sch.greatS || steps.any Sch.greatP) = B) := Lib.hid (by rw [← hB]; simp [h1, h2, h3])
 clear hB
 refine Qin [2] Tryz.func49 Tryz.results49 Tryz.ntmps49 ?_
 repeat' (with_reducible first | refine Q1 ?_ | refine Qe ?_ | refine QQ ?_ | (refine al_go ?_; intro b) | (refine QD ?_ <;> (try constructor) <;> intro hb <;> try intro hb1) | fail)
 refine tr_loop (ι := Nat) (fun i A st' => i ≤ slots.length ∧ Hid (((slots.drop i).any Sch.greatS || steps.any Sch.greatP) = B) ∧ A.df = [] ∧ A.e 1 = .ip [.str nm, .sl .shared SL, .sl .shared TL] ∧ A.e 3 = .i i ∧ st = st') (fun i => slots.length - i) 0 ⟨Nat.zero_le _, HB, Qf, Qf, Qf, rfl⟩ ?_
 rintro i A st' ⟨hi, HT, hdf, e1, e3, rfl⟩
 clear HB
 by_cases hlt : i < slots.length
 · obtain ⟨s, hs⟩ := gEx hlt
   have HE := HT.out
   rw [any_drop hs, Bool.or_assoc] at HE
   have hc := hcl.out i s hs
   have hG := refGreatF s.dv (hws2.out s (List.mem_of_getElem? hs)).2.2
   clear HT hs
   unfold Sch.greatS at HE
   cases s with
   | mk snm ty rq dv =>
   dsimp only at HE hG
   generalize V.great dv = g at *
   cases dv with
   | mk k n sv l =>
   rw [Sl.cells_mk] at hc
   rw [V.cells_mk] at hG
   replace hG := Lib.hid hG
   cases g with
   | true =>
    simp only [Bool.true_or] at HE
    subst HE
    exact WR
   | false =>
    by_cases h4 : 300 < snm.size
    · simp only [h4, decide_true, Bool.or_true, Bool.true_or] at HE
      subst HE
      exact WR
    · rw [decide_eq_false h4, Bool.or_self, Bool.false_or] at HE
      replace HE := Lib.hid HE
      repeat' (with_reducible first | refine Q1 ?_ | refine Qe ?_ | refine QQ ?_ | (refine al_go ?_; intro b) | (refine QD ?_ <;> (try constructor) <;> intro hb <;> try intro hb1) | fail)
      refine ⟨i + 1, ⟨hlt, HE, ?_, ?_, ?_, rfl⟩, ?_⟩
      all_goals exact Qf
 · have HE := HT.out
   rw [List.drop_of_length_le (by omega), List.any_nil, Bool.false_or] at HE
   have HB : Hid ((steps.drop 0).any Sch.greatP = B) := HE
   clear HT HE
   repeat' (with_reducible first | refine Q1 ?_ | refine Qe ?_ | refine QQ ?_ | (refine al_go ?_; intro b) | (refine QD ?_ <;> (try constructor) <;> intro hb <;> try intro hb1) | fail)
   refine tr_loop (ι := Nat) (fun i A st' => i ≤ steps.length ∧ Hid ((steps.drop i).any Sch.greatP = B) ∧ A.df = [] ∧ A.e 1 = .ip [.str nm, .sl .shared SL, .sl .shared TL] ∧ A.e 4 = .i i ∧ st = st') (fun i => steps.length - i) 0 ⟨Nat.zero_le _, HB, Qf, Qf, Qf, rfl⟩ ?_
   clear hdf e1 e3
   rintro i A st' ⟨hi, HT, hdf, e1, e4, rfl⟩
   clear HB
   by_cases hlt : i < steps.length
   · obtain ⟨s, hs⟩ := gEx hlt
     have HE := HT.out
     rw [any_drop hs] at HE
     have hc := hcp.out i s hs
     have hG := refGreatF s.slot.dv (hwp2.out s (List.mem_of_getElem? hs)).2.2.1.2.2
     have hol := (hwp2.out s (List.mem_of_getElem? hs)).2.2.2
     clear HT hs
     unfold Sch.greatP at HE
     unfold maxLen at hol
     unfold Stp.cells at hc
     cases s with
     | mk kd col slot order =>
     cases slot with
     | mk snm ty rq dv =>
     dsimp only at HE hG hol
     generalize V.great dv = g at *
     cases dv with
     | mk k n sv l =>
     rw [Sl.cells_mk] at hc
     rw [V.cells_mk] at hG
     dsimp only [List.cons_append, List.nil_append] at hc
     replace hG := Lib.hid hG
     cases g with
     | true =>
      simp only [Bool.true_or] at HE
      subst HE
      exact WR
     | false =>
      by_cases h4 : 300 < snm.size
      · simp only [h4, decide_true, Bool.or_true, Bool.true_or] at HE
        subst HE
        exact WR
      · by_cases h5 : 30 < order.length
        · simp only [h5, decide_true, Bool.or_true, Bool.true_or] at HE
          subst HE
          exact WR
        · rw [decide_eq_false h4, decide_eq_false h5, Bool.or_self, Bool.or_self, Bool.false_or] at HE
          replace HE := Lib.hid HE
          repeat' (with_reducible first | refine Q1 ?_ | refine Qe ?_ | refine QQ ?_ | (refine al_go ?_; intro b) | (refine QD ?_ <;> (try constructor) <;> intro hb <;> try intro hb1) | fail)
          refine ⟨i + 1, ⟨hlt, HE, ?_, ?_, ?_, rfl⟩, ?_⟩
          all_goals exact Qf
   · have HE := HT.out
     rw [List.drop_of_length_le (by omega), List.any_nil] at HE
     subst HE
     clear HT
     exact WR
end Go.Proofs.YtgcienlfpnpbgaaGreat
end
section
namespace Go.Proofs.YtgcienlfpnpbgaaGreat
open Go.RowKit
theorem not_great10 {t : Tm} (hw : t.Wf) (h : Sch.great t = false) : TOk t ∧ (∀ s ∈ t.slots, s.dv.nodes ≤ 1000 ∧ s.dv.deep ≤ 10 ∧ s.name.size ≤ 300 ∧ s.Ok) ∧ (∀ s ∈ t.steps, s.slot.dv.nodes ≤ 1000 ∧ s.slot.dv.deep ≤ 10 ∧ s.slot.name.size ≤ 300 ∧ s.slot.Ok ∧ s.order.length ≤ 30) ∧ t.name.size ≤ 300 ∧ t.slots.length ≤ 30 ∧ t.steps.length ≤ 30 := by
 unfold Sch.great at h
 simp only [Bool.or_eq_false_iff, decide_eq_false_iff_not, List.any_eq_false, Bool.not_eq_true] at h
 obtain ⟨h1, h2, h3, h4, h5⟩ := h
 have hs : ∀ s ∈ t.slots, s.dv.nodes ≤ 1000 ∧ s.dv.deep ≤ 10 ∧ s.name.size ≤ 300 ∧ s.Ok := fun s hs => by
  have := h4 s hs
  unfold Sch.greatS at this
  rw [Bool.or_eq_false_iff, decide_eq_false_iff_not] at this
  obtain ⟨k1, k2⟩ := V.not_great this.1
  exact ⟨k1, k2, by omega, hw.ss s hs⟩
 have hp : ∀ s ∈ t.steps, s.slot.dv.nodes ≤ 1000 ∧ s.slot.dv.deep ≤ 10 ∧ s.slot.name.size ≤ 300 ∧ s.slot.Ok ∧ s.order.length ≤ 30 := fun s hs => by
  have := h5 s hs
  unfold Sch.greatP at this
  simp only [Bool.or_eq_false_iff, decide_eq_false_iff_not] at this
  obtain ⟨k1, k2⟩ := V.not_great this.1
  exact ⟨k1, k2, by omega, (hw.ps s hs).2.2.1, by omega⟩
 refine ⟨⟨by omega, by omega, fun s h => (hs s h).1, fun s h => ?_⟩, hs, hp, by omega, by omega, by omega⟩
 obtain ⟨k1, -, -, k4, k5⟩ := hp s h
 exact ⟨k1, V.Ok.bg k4.2.2, by omega⟩
end Go.Proofs.YtgcienlfpnpbgaaGreat
end
section
namespace Go.Proofs.YtgcienlfpnpbgaaGreat
attribute [local push_cast] encB encI encC encBs V.cells_mk V.cells_len Nat.mul_one Int.sub_zero List.map_nil beq_self_eq_true bne_self_eq_false List.head?_cons
open Go.RowKit B
set_option maxHeartbeats 8000000
set_option maxRecDepth 10000
namespace Reg
def great (L : List Tm) : Bool := decide (12 < L.length) || L.any Sch.great
structure Kn (t : Tm) : Prop where
 ok : TOk t
 q : TmQ t
 nm : t.name.size ≤ 300
 os : ∀ s ∈ t.slots, s.dv.Ok
 ot : ∀ s ∈ t.steps, s.slot.name.size ≤ 300 ∧ s.slot.dv.nodes ≤ 1000 ∧ s.slot.dv.Ok
theorem not_great {L : List Tm} (hw : ∀ t ∈ L, t.Wf) (h : great L = false) : L.length ≤ 12 ∧ ∀ t ∈ L, Kn t := by
 unfold great at h
 rw [Bool.or_eq_false_iff, decide_eq_false_iff_not, List.any_eq_false] at h
 refine ⟨by omega, fun t ht => ?_⟩
 have hg : Sch.great t = false := by
  have := h.2 t ht
  cases hq : Sch.great t with
  | false => rfl
  | true => exact absurd hq this
 obtain ⟨k1, k2, k3, k4, k5, k6⟩ := not_great10 (hw t ht) hg
 exact ⟨k1, ⟨by omega, by omega, fun s hs => V.Ok.bg (k2 s hs).2.2.2.2.2, fun s hs => ⟨V.Ok.bg (k3 s hs).2.2.2.1.2.2, by have := (k3 s hs).2.2.2.2; omega⟩⟩, k4, fun s hs => (k2 s hs).2.2.2.2.2, fun s hs => ⟨(k3 s hs).2.2.1, (k3 s hs).1, (k3 s hs).2.2.2.1.2.2⟩⟩
theorem Kn.good {t : Tm} (k : Kn t) (h : 0 < Sch.last t) : TmG t ∧ TmP t := by
 have hg := Sch.last_good h k.os fun s hs => (k.ot s hs).2.2
 exact ⟨hg, hg.put k.ot⟩
end Reg
theorem readsTms : Reads Tryz.prog 22 (fun l : List Tm => [D.sl .shared (l.map Tm.cells)]) fun l => (∀ x ∈ l, x.Wf) ∧ l.length ≤ maxLen :=
 reads_slice' (sz := 3) Tryz.underlying22 (by kernel_rfl) (by omega) readsTm (fun _ => rfl) fun t d hd => by
  unfold Tm.cells at hd
  simp only [List.mem_cons, List.not_mem_nil, or_false] at hd
  rcases hd with rfl | rfl | rfl <;> rfl
theorem refGreat13F (L : List Tm) (hw : ∀ t ∈ L, t.Wf) (hl : L.length ≤ maxLen) (st : St) : TrF Tryz.prog 15 [.sl .shared (L.map Tm.cells)] st fun d st' => d = .b (Reg.great L) ∧ st' = st := by
 unfold maxLen at hl
 have hm : (L.map Tm.cells).length = L.length := List.length_map ..
 have hc := hMp Tm.cells L
 have hG := Lib.hid fun (t : Tm) (ht : t ∈ L) => refGreat10F t (hw t ht)
 unfold Reg.great
 clear hw
 generalize L.map Tm.cells = LS at *
 by_cases h12 : 12 < L.length
 · rw [decide_eq_true h12, Bool.true_or]
   refine Qin [2] Tryz.func15 Tryz.results15 Tryz.ntmps15 ?_
   exact WR
 · rw [decide_eq_false h12, Bool.false_or]
   obtain ⟨F, hF⟩ : ∃ F, L.any Sch.great = F := ⟨_, rfl⟩
   rw [hF]
   have HF : Hid ((L.drop 0).any Sch.great = F) := hF
   clear hF
   refine Qin [2] Tryz.func15 Tryz.results15 Tryz.ntmps15 ?_
   repeat' (with_reducible first | refine Q1 ?_ | refine Qe ?_ | refine QQ ?_ | (refine al_go ?_; intro b) | (refine QD ?_ <;> (try constructor) <;> intro hb <;> try intro hb1) | fail)
   refine tr_loopd (ι := Nat) (fun i A st' => i ≤ L.length ∧ Hid ((L.drop i).any Sch.great = F) ∧ A.df = [] ∧ A.e 0 = .sl .shared LS ∧ A.e 3 = .i i ∧ st = st') (fun i => L.length - i) 0 ⟨Nat.zero_le _, HF, Qf, Qf, Qf, rfl⟩ ?_
   rintro i A st' ⟨hi, HT, hdf, e0, e3, rfl⟩
   clear HF
   by_cases hlt : i < L.length
   · obtain ⟨t, ht⟩ := gEx hlt
     have h1 := hc.out i t ht
     have HE := HT.out
     rw [any_drop ht] at HE
     have hR := hG.out t (List.mem_of_getElem? ht)
     clear HT ht
     obtain ⟨G, hGG⟩ : ∃ G, (L.drop (i + 1)).any Sch.great = G := ⟨_, rfl⟩
     rw [hGG] at HE
     replace hGG := Lib.hid hGG
     generalize Sch.great t = q at *
     unfold Tm.cells at h1 hR
     generalize t.slots.map Sl.cells = SL at *
     generalize t.steps.map Stp.cells = TL at *
     generalize t.name = nm at *
     replace hR := Lib.hid hR
     cases q with
     | true =>
      rw [Bool.true_or] at HE
      subst HE
      exact WR
     | false =>
      rw [Bool.false_or] at HE
      replace HE := Lib.hid (hGG.out.trans HE)
      clear hGG
      repeat' (with_reducible first | refine Q1 ?_ | refine Qe ?_ | refine QQ ?_ | (refine al_go ?_; intro b) | (refine QD ?_ <;> (try constructor) <;> intro hb <;> try intro hb1) | fail)
      refine ⟨i + 1, st, (by (repeat (first | exact List.Sublist.refl _ | apply List.Sublist.cons))), ⟨hlt, HE, ?_, ?_, ?_, rfl⟩, by omega⟩
      all_goals exact Qf
   · have HE := HT.out
     rw [List.drop_of_length_le (by omega)] at HE
     subst HE
     clear HT
     exact WR
theorem twoKn : Reg.Kn twoT := by
 have ho : ∀ k n : Int, (0 ≤ k ∧ k ≤ 9) → (0 ≤ n ∧ n ≤ 9) → (V.mk k n ⟨#[]⟩ []).Ok := fun k n h1 h2 => .mk (by omega) (by omega) (Nat.zero_le _) (Nat.zero_le _) fun x h => by cases h
 refine ⟨twoOk, ⟨by decide, by decide, ?_, ?_⟩, by decide, ?_, ?_⟩
 · intro s hs
   simp only [twoT, List.mem_cons, List.not_mem_nil, or_false] at hs
   rcases hs with rfl | rfl <;> exact (ho _ _ (by decide) (by decide)).bg
 · intro s hs
   simp only [twoT, List.mem_cons, List.not_mem_nil, or_false] at hs
   rcases hs with rfl | rfl <;> exact ⟨(ho _ _ (by decide) (by decide)).bg, by decide⟩
 · intro s hs
   simp only [twoT, List.mem_cons, List.not_mem_nil, or_false] at hs
   rcases hs with rfl | rfl <;> exact ho _ _ (by decide) (by decide)
 · intro s hs
   simp only [twoT, List.mem_cons, List.not_mem_nil, or_false] at hs
   rcases hs with rfl | rfl <;> exact ⟨by decide, by decide, ho _ _ (by decide) (by decide)⟩
abbrev L13 : List Tm := [twoT]
theorem l13_kn : ∀ t ∈ L13, Reg.Kn t := fun t h => by rw [List.mem_singleton.1 h]; exact twoKn
theorem l13_right : Reg.right L13 = true := Reg.right_iff.2 ⟨by decide, fun t h => by rw [List.mem_singleton.1 h, twoL]; decide, fun i j t u ht hu _ => by
 have h1 := (List.getElem?_eq_some_iff.1 ht).1
 have h2 := (List.getElem?_eq_some_iff.1 hu).1
 have : L13.length = 1 := rfl
 omega⟩
end Go.Proofs.YtgcienlfpnpbgaaGreat
end
section
namespace Go.Proofs.YtgcienlfpnpbgaaGreat
attribute [local push_cast] encB encI encC V.cells_mk V.cells_len Nat.mul_one Int.sub_zero List.map_nil beq_self_eq_true bne_self_eq_false List.head?_cons
open Go.RowKit B
set_option maxHeartbeats 8000000
set_option maxRecDepth 10000
def Ts.Wf (t : Ts) : Prop := t.val.Ok
def Ex.Wf (e : Ex) : Prop := e.val.Ok
def Pt.Wf (p : Pt) : Prop := (∀ t ∈ p.tests, t.Wf) ∧ p.tests.length ≤ maxLen
def Ac.Wf (a : Ac) : Prop := (∀ e ∈ a.vals, e.Wf) ∧ a.vals.length ≤ maxLen
structure Rl.Wf (x : Rl) : Prop where
 sal : -9223372036854775808 ≤ x.sal ∧ x.sal ≤ 9223372036854775807
 ps : ∀ p ∈ x.pats, p.Wf
 pl : x.pats.length ≤ maxLen
 ac : ∀ a ∈ x.acts, a.Wf
 al : x.acts.length ≤ maxLen
theorem Ts.cells_leaf (t : Ts) : ∀ d ∈ t.cells, d.leaf = true := by
 intro d hd
 unfold Ts.cells at hd
 simp only [List.mem_cons] at hd
 rcases hd with rfl | rfl | rfl | hd
 · rfl
 · rfl
 · rfl
 · exact V.cells_leaf _ d hd
theorem Ex.cells_leaf (t : Ex) : ∀ d ∈ t.cells, d.leaf = true := by
 intro d hd
 unfold Ex.cells at hd
 simp only [List.mem_cons] at hd
 rcases hd with rfl | rfl | hd
 · rfl
 · rfl
 · exact V.cells_leaf _ d hd
theorem readsTs : Reads Tryz.prog 102 Ts.cells Ts.Wf := by
 intro n H enc W fuel cs x hf h
 obtain ⟨xs, m, rfl, -, hl, hn, hx⟩ := DataW.trod_struct Tryz.underlying102 h
 have hl7 : cs.length = 7 := hl.trans (by kernel_rfl)
 obtain ⟨a, a1, a2⟩ := struct_field (i := 0) (n := m) (f := fun a : Int => [D.i a]) hx hn rfl (k := 1) (by kernel_rfl) (reads_int (k := .i64) Tryz.underlying3 _) (Nat.le_refl _)
 obtain ⟨b, b1, b2⟩ := struct_field (i := 1) (n := m) (f := fun a : Int => [D.i a]) hx hn rfl (k := 1) (by kernel_rfl) (reads_int (k := .i64) Tryz.underlying3 _) (Nat.le_refl _)
 obtain ⟨c, c1, c2⟩ := struct_field (i := 2) (n := m) (f := fun a : Int => [D.i a]) hx hn rfl (k := 1) (by kernel_rfl) (reads_int (k := .i64) Tryz.underlying3 _) (Nat.le_refl _)
 obtain ⟨d, d1, d2⟩ := struct_field (i := 3) (n := m) (f := V.cells) hx hn rfl (k := 4) (by kernel_rfl) (readsV _) (Nat.le_refl _)
 refine ⟨⟨a, b, c, d⟩, ?_, d2⟩
 have := RepL.glue a1 (RepL.glue b1 (RepL.glue c1 (RepL.glue d1 (RepL.glue_end hl7))))
 rw [List.append_nil] at this
 exact this
theorem readsEx : Reads Tryz.prog 107 Ex.cells Ex.Wf := by
 intro n H enc W fuel cs x hf h
 obtain ⟨xs, m, rfl, -, hl, hn, hx⟩ := DataW.trod_struct Tryz.underlying107 h
 have hl6 : cs.length = 6 := hl.trans (by kernel_rfl)
 obtain ⟨a, a1, a2⟩ := struct_field (i := 0) (n := m) (f := fun a : Bool => [D.b a]) hx hn rfl (k := 1) (by kernel_rfl) (reads_bool Tryz.underlying4 _) (Nat.le_refl _)
 obtain ⟨b, b1, b2⟩ := struct_field (i := 1) (n := m) (f := fun a : Int => [D.i a]) hx hn rfl (k := 1) (by kernel_rfl) (reads_int (k := .i64) Tryz.underlying3 _) (Nat.le_refl _)
 obtain ⟨d, d1, d2⟩ := struct_field (i := 2) (n := m) (f := V.cells) hx hn rfl (k := 4) (by kernel_rfl) (readsV _) (Nat.le_refl _)
 refine ⟨⟨a, b, d⟩, ?_, d2⟩
 have := RepL.glue a1 (RepL.glue b1 (RepL.glue d1 (RepL.glue_end hl6)))
 rw [List.append_nil] at this
 exact this
theorem readsPt : Reads Tryz.prog 105 Pt.cells Pt.Wf := by
 intro n H enc W fuel cs x hf h
 obtain ⟨xs, m, rfl, -, hl, hn, hx⟩ := DataW.trod_struct Tryz.underlying105 h
 have hl3 : cs.length = 3 := hl.trans (by kernel_rfl)
 obtain ⟨a, a1, a2⟩ := struct_field (i := 0) (n := m) (f := fun a : Int => [D.i a]) hx hn rfl (k := 1) (by kernel_rfl) (reads_int (k := .i64) Tryz.underlying3 _) (Nat.le_refl _)
 obtain ⟨b, b1, b2⟩ := struct_field (i := 1) (n := m) (f := fun a : Bool => [D.b a]) hx hn rfl (k := 1) (by kernel_rfl) (reads_bool Tryz.underlying4 _) (Nat.le_refl _)
 obtain ⟨c, c1, c2, c3⟩ := struct_field (i := 2) (n := m) (f := fun l : List Ts => [D.sl .shared (l.map Ts.cells)]) hx hn rfl (k := 1) (by kernel_rfl) (reads_slice' (sz := 7) Tryz.underlying103 (by kernel_rfl) (by omega) readsTs Ts.cells_len Ts.cells_leaf _) (Nat.le_refl _)
 refine ⟨⟨a, b, c⟩, ?_, c2, c3⟩
 exact RepL.glue a1 (RepL.glue b1 (RepL.glue c1 (RepL.glue_end hl3)))
theorem readsAc : Reads Tryz.prog 110 Ac.cells Ac.Wf := by
 intro n H enc W fuel cs x hf h
 obtain ⟨xs, m, rfl, -, hl, hn, hx⟩ := DataW.trod_struct Tryz.underlying110 h
 have hl5 : cs.length = 5 := hl.trans (by kernel_rfl)
 obtain ⟨a, a1, a2⟩ := struct_field (i := 0) (n := m) (f := fun a : Int => [D.i a]) hx hn rfl (k := 1) (by kernel_rfl) (reads_int (k := .i64) Tryz.underlying3 _) (Nat.le_refl _)
 obtain ⟨b, b1, b2⟩ := struct_field (i := 1) (n := m) (f := fun a : Int => [D.i a]) hx hn rfl (k := 1) (by kernel_rfl) (reads_int (k := .i64) Tryz.underlying3 _) (Nat.le_refl _)
 obtain ⟨c, c1, c2⟩ := struct_field (i := 2) (n := m) (f := fun a : Int => [D.i a]) hx hn rfl (k := 1) (by kernel_rfl) (reads_int (k := .i64) Tryz.underlying3 _) (Nat.le_refl _)
 obtain ⟨d, d1, d2⟩ := struct_field (i := 3) (n := m) (f := fun a : Int => [D.i a]) hx hn rfl (k := 1) (by kernel_rfl) (reads_int (k := .i64) Tryz.underlying3 _) (Nat.le_refl _)
 obtain ⟨e, e1, e2, e3⟩ := struct_field (i := 4) (n := m) (f := fun l : List Ex => [D.sl .shared (l.map Ex.cells)]) hx hn rfl (k := 1) (by kernel_rfl) (reads_slice' (sz := 6) Tryz.underlying108 (by kernel_rfl) (by omega) readsEx Ex.cells_len Ex.cells_leaf _) (Nat.le_refl _)
 refine ⟨⟨a, b, c, d, e⟩, ?_, e2, e3⟩
 exact RepL.glue a1 (RepL.glue b1 (RepL.glue c1 (RepL.glue d1 (RepL.glue e1 (RepL.glue_end hl5)))))
theorem readsRl : Reads Tryz.prog 55 Rl.cells Rl.Wf := by
 intro n H enc W fuel cs x hf h
 obtain ⟨xs, m, rfl, -, hl, hn, hx⟩ := DataW.trod_struct Tryz.underlying55 h
 have hl4 : cs.length = 4 := hl.trans (by kernel_rfl)
 obtain ⟨a, a1, a2⟩ := struct_field (i := 0) (n := m) (f := fun a : ByteArray => [D.str a]) hx hn rfl (k := 1) (by kernel_rfl) (reads_string Tryz.underlying9 _) (Nat.le_refl _)
 obtain ⟨b, b1, b2⟩ := struct_field (i := 1) (n := m) (f := fun a : Int => [D.i a]) hx hn rfl (k := 1) (by kernel_rfl) (reads_int (k := .i64) Tryz.underlying3 _) (Nat.le_refl _)
 obtain ⟨c, c1, c2, c3⟩ := struct_field (i := 2) (n := m) (f := fun l : List Pt => [D.sl .shared (l.map Pt.cells)]) hx hn rfl (k := 1) (by kernel_rfl) (reads_slice' (sz := 3) Tryz.underlying52 (by kernel_rfl) (by omega) readsPt (fun _ => rfl) (fun t d hd => by
  unfold Pt.cells at hd
  simp only [List.mem_cons, List.not_mem_nil, or_false] at hd
  rcases hd with rfl | rfl | rfl <;> rfl) _) (Nat.le_refl _)
 obtain ⟨e, e1, e2, e3⟩ := struct_field (i := 3) (n := m) (f := fun l : List Ac => [D.sl .shared (l.map Ac.cells)]) hx hn rfl (k := 1) (by kernel_rfl) (reads_slice' (sz := 5) Tryz.underlying53 (by kernel_rfl) (by omega) readsAc (fun _ => rfl) (fun t d hd => by
  unfold Ac.cells at hd
  simp only [List.mem_cons, List.not_mem_nil, or_false] at hd
  rcases hd with rfl | rfl | rfl | rfl | rfl <;> rfl) _) (Nat.le_refl _)
 refine ⟨⟨a, b, c, e⟩, ?_, i64_bounds b2, c2, c3, e2, e3⟩
 exact RepL.glue a1 (RepL.glue b1 (RepL.glue c1 (RepL.glue e1 (RepL.glue_end hl4))))
theorem readsRls : Reads Tryz.prog 47 (fun l : List Rl => [D.sl .shared (l.map Rl.cells)]) fun l => (∀ x ∈ l, x.Wf) ∧ l.length ≤ maxLen :=
 reads_slice' (sz := 4) Tryz.underlying47 (by kernel_rfl) (by omega) readsRl (fun _ => rfl) fun t d hd => by
  unfold Rl.cells at hd
  simp only [List.mem_cons, List.not_mem_nil, or_false] at hd
  rcases hd with rfl | rfl | rfl | rfl <;> rfl
namespace Rul
def gT (t : Ts) : Bool := t.val.great
def gE (e : Ex) : Bool := e.val.great
def gP (p : Pt) : Bool := decide (10 < p.tests.length) || p.tests.any gT
def gA (a : Ac) : Bool := decide (20 < a.vals.length) || a.vals.any gE
def gR (x : Rl) : Bool := decide (300 < x.name.size) || (decide (8 < x.pats.length) || (decide (8 < x.acts.length) || (x.pats.any gP || x.acts.any gA)))
def great (R : List Rl) : Bool := decide (12 < R.length) || R.any gR
theorem not_great {R : List Rl} (hw : ∀ x ∈ R, x.Wf) (h : great R = false) : R.length ≤ 12 ∧ ∀ x ∈ R, RK x := by
 unfold great at h
 simp only [Bool.or_eq_false_iff, decide_eq_false_iff_not, List.any_eq_false, Bool.not_eq_true] at h
 refine ⟨by omega, fun x hx => ?_⟩
 have h2 := h.2 x hx
 unfold gR at h2
 simp only [Bool.or_eq_false_iff, decide_eq_false_iff_not, List.any_eq_false, Bool.not_eq_true] at h2
 obtain ⟨k1, k2, k3, k4, k5⟩ := h2
 have hv : ∀ v : V, v.Ok → v.great = false → VQ v := fun v h1 h2 => by
  obtain ⟨a, b⟩ := V.not_great h2
  exact ⟨h1, a, by omega⟩
 have hp : ∀ p ∈ x.pats, p.tests.length ≤ 10 ∧ ∀ t ∈ p.tests, VQ t.val := fun p hp => by
  have := k4 p hp
  unfold gP at this
  simp only [Bool.or_eq_false_iff, decide_eq_false_iff_not, List.any_eq_false, Bool.not_eq_true] at this
  exact ⟨by omega, fun t ht => hv _ ((hw x hx).ps p hp |>.1 t ht) (this.2 t ht)⟩
 have ha : ∀ a ∈ x.acts, a.vals.length ≤ 20 ∧ ∀ e ∈ a.vals, VQ e.val := fun a ha => by
  have := k5 a ha
  unfold gA at this
  simp only [Bool.or_eq_false_iff, decide_eq_false_iff_not, List.any_eq_false, Bool.not_eq_true] at this
  exact ⟨by omega, fun t ht => hv _ ((hw x hx).ac a ha |>.1 t ht) (this.2 t ht)⟩
 exact ⟨by omega, by omega, by omega, fun p h => by have := (hp p h).1; omega, fun a h => by have := (ha a h).1; omega, fun p h => (hp p h).2, fun a h => (ha a h).2⟩
end Rul
end Go.Proofs.YtgcienlfpnpbgaaGreat
end
section
namespace Go.Proofs.YtgcienlfpnpbgaaGreat
attribute [local push_cast] encB encI encC V.cells_mk V.cells_len Nat.mul_one Int.sub_zero List.map_nil beq_self_eq_true bne_self_eq_false List.head?_cons
open Go.RowKit B
set_option maxHeartbeats 16000000
set_option maxRecDepth 10000
theorem refGreat17F (R : List Rl) (hw : ∀ x ∈ R, x.Wf) (hl : R.length ≤ maxLen) (st : St) : TrF Tryz.prog 85 [.sl .shared (R.map Rl.cells)] st fun d st' => d = .b (Rul.great R) ∧ st' = st := by
 unfold maxLen at hl
 have hm : (R.map Rl.cells).length = R.length := List.length_map ..
 have hc := hMp Rl.cells R
 replace hw := Lib.hid hw
 unfold Rul.great
 generalize R.map Rl.cells = LS at *
 by_cases h12 : 12 < R.length
 · rw [decide_eq_true h12, Bool.true_or]
   refine Qin [2] Tryz.func85 Tryz.results85 Tryz.ntmps85 ?_
   exact WR
 rw [decide_eq_false h12, Bool.false_or]
 obtain ⟨F, hF⟩ : ∃ F, R.any Rul.gR = F := ⟨_, rfl⟩
 rw [hF]
 have HF : Hid ((R.drop 0).any Rul.gR = F) := hF
 clear hF
 refine Qin [2] Tryz.func85 Tryz.results85 Tryz.ntmps85 ?_
 repeat' (with_reducible first | refine Q1 ?_ | refine Qe ?_ | refine QQ ?_ | (refine al_go ?_; intro b) | (refine QD ?_ <;> (try constructor) <;> intro hb <;> try intro hb1) | fail)
 refine tr_loopd (ι := Nat) (fun i A st' => i ≤ R.length ∧ Hid ((R.drop i).any Rul.gR = F) ∧ A.df = [] ∧ A.e 0 = .sl .shared LS ∧ A.e 3 = .i i ∧ st = st') (fun i => R.length - i) 0 ⟨Nat.zero_le _, HF, Qf, Qf, Qf, rfl⟩ ?_
 rintro i A st' ⟨hi, HT, hdf, e0, e3, rfl⟩
 clear HF
 by_cases hlt : ¬ i < R.length
 · have HE := HT.out
   rw [List.drop_of_length_le (by omega)] at HE
   subst HE
   clear HT
   exact WR
 rw [Classical.not_not] at hlt
 obtain ⟨x, hx⟩ := gEx hlt
 have h1 := hc.out i x hx
 have HE := HT.out
 rw [any_drop hx] at HE
 have hxw := hw.out x (List.mem_of_getElem? hx)
 clear HT hx
 obtain ⟨G, hGG⟩ : ∃ G, (R.drop (i + 1)).any Rul.gR = G := ⟨_, rfl⟩
 rw [hGG] at HE
 replace hGG := Lib.hid hGG
 cases x with
 | mk nm sal ps ac =>
 unfold Rl.cells at h1
 unfold Rul.gR at HE
 obtain ⟨-, hps, hpl, hac, hal⟩ := hxw
 dsimp only at h1 HE hps hpl hac hal
 replace hps := Lib.hid hps
 replace hac := Lib.hid hac
 unfold maxLen at hpl hal
 have hmp : (ps.map Pt.cells).length = ps.length := List.length_map ..
 have hcp := hMp Pt.cells ps
 have hma : (ac.map Ac.cells).length = ac.length := List.length_map ..
 have hca := hMp Ac.cells ac
 generalize ps.map Pt.cells = PS at *
 generalize ac.map Ac.cells = AS at *
 by_cases hz : 300 < nm.size
 · rw [decide_eq_true hz] at HE
   simp only [Bool.true_or, Bool.or_true] at HE
   subst HE
   exact WR
 rw [decide_eq_false hz, Bool.false_or] at HE
 by_cases hy : 8 < ps.length
 · rw [decide_eq_true hy] at HE
   simp only [Bool.true_or, Bool.or_true] at HE
   subst HE
   exact WR
 rw [decide_eq_false hy, Bool.false_or] at HE
 by_cases hv : 8 < ac.length
 · rw [decide_eq_true hv] at HE
   simp only [Bool.true_or, Bool.or_true] at HE
   subst HE
   exact WR
 rw [decide_eq_false hv, Bool.false_or] at HE
 rw [Bool.or_assoc] at HE
 replace HE := Lib.hid HE
 repeat' (with_reducible first | refine Q1 ?_ | refine Qe ?_ | refine QQ ?_ | (refine al_go ?_; intro b) | (refine QD ?_ <;> (try constructor) <;> intro hb <;> try intro hb1) | fail)
 refine tr_loopd (ι := Nat) (fun j A st' => j ≤ ps.length ∧ Hid (((ps.drop j).any Rul.gP || (ac.any Rul.gA || G)) = F) ∧ A.df = [] ∧ A.e 0 = .sl .shared LS ∧ A.e 3 = .i i ∧ A.e 5 = .i j ∧ (∃ b : Nat, A.e 4 = .ptr b 0 ∧ st' = .box b 55 [.str nm, .i sal, .sl .shared PS, .sl .shared AS] :: st)) (fun j => ps.length - j) 0 ⟨Nat.zero_le _, HE, Qf, Qf, Qf, Qf, _, Qf, rfl⟩ ?_
 clear hdf e0 e3
 rintro j A st' ⟨hj, HT, hdf, e0, e3, e5, b, e4, rfl⟩
 clear HE
 by_cases hlj : j < ps.length
 · obtain ⟨p, hp⟩ := gEx hlj
   have k1 := hcp.out j p hp
   have HE := HT.out
   rw [any_drop hp, Bool.or_assoc] at HE
   have hpw := hps.out p (List.mem_of_getElem? hp)
   clear HT hp
   obtain ⟨G2, hG2⟩ : ∃ G2, ((ps.drop (j + 1)).any Rul.gP || (ac.any Rul.gA || G)) = G2 := ⟨_, rfl⟩
   rw [hG2] at HE
   replace hG2 := Lib.hid hG2
   cases p with
   | mk tm ng ts =>
   unfold Pt.cells at k1
   unfold Rul.gP at HE
   obtain ⟨hts, htl⟩ := hpw
   dsimp only at k1 HE hts htl
   replace hts := Lib.hid hts
   unfold maxLen at htl
   have hmt : (ts.map Ts.cells).length = ts.length := List.length_map ..
   have hct := hMp Ts.cells ts
   generalize ts.map Ts.cells = TL at *
   by_cases hz : 10 < ts.length
   · rw [decide_eq_true hz] at HE
     simp only [Bool.true_or, Bool.or_true] at HE
     subst HE
     exact WR
   rw [decide_eq_false hz, Bool.false_or] at HE
   have HU : Hid (((ts.drop 0).any Rul.gT || G2) = F) := HE
   clear HE
   repeat' (with_reducible first | refine Q1 ?_ | refine Qe ?_ | refine QQ ?_ | (refine al_go ?_; intro b) | (refine QD ?_ <;> (try constructor) <;> intro hb <;> try intro hb1) | fail)
   refine tr_loopd (ι := Nat) (fun k A st' => k ≤ ts.length ∧ Hid (((ts.drop k).any Rul.gT || G2) = F) ∧ A.df = [] ∧ A.e 0 = .sl .shared LS ∧ A.e 3 = .i i ∧ A.e 5 = .i j ∧ A.e 6 = .i k ∧ (∃ b : Nat, A.e 4 = .ptr b 0 ∧ st' = .box b 55 [.str nm, .i sal, .sl .shared PS, .sl .shared AS] :: st)) (fun k => ts.length - k) 0 ⟨Nat.zero_le _, HU, Qf, Qf, Qf, Qf, Qf, _, Qf, rfl⟩ ?_
   clear hdf e0 e3 e4 e5
   rintro k A st' ⟨hk, HT, hdf, e0, e3, e5, e6, b, e4, rfl⟩
   clear HU
   by_cases hlk : k < ts.length
   · obtain ⟨t, ht⟩ := gEx hlk
     have k2 := hct.out k t ht
     have HE := HT.out
     rw [any_drop ht, Bool.or_assoc] at HE
     have hG := refGreatF t.val (hts.out t (List.mem_of_getElem? ht))
     clear HT ht
     unfold Rul.gT at HE
     cases t with
     | mk kd sl vr v =>
     dsimp only at HE hG
     generalize V.great v = g at *
     cases v with
     | mk vk vn vs vl =>
     rw [Ts.cells_mk] at k2
     rw [V.cells_mk] at hG
     replace hG := Lib.hid hG
     cases g with
     | true =>
      rw [Bool.true_or] at HE
      subst HE
      exact WR
     | false =>
      rw [Bool.false_or] at HE
      replace HE := Lib.hid HE
      repeat' (with_reducible first | refine Q1 ?_ | refine Qe ?_ | refine QQ ?_ | (refine al_go ?_; intro b) | (refine QD ?_ <;> (try constructor) <;> intro hb <;> try intro hb1) | fail)
      refine ⟨k + 1, .box b 55 [.str nm, .i sal, .sl .shared PS, .sl .shared AS] :: st, (by (repeat (first | exact List.Sublist.refl _ | apply List.Sublist.cons))), ⟨hlk, HE, ?_, ?_, ?_, ?_, ?_, b, ?_, rfl⟩, by omega⟩
      all_goals exact Qf
   · have HE := HT.out
     rw [List.drop_of_length_le (by omega), List.any_nil, Bool.false_or] at HE
     replace HE := Lib.hid (hG2.out.trans HE)
     clear HT hG2
     repeat' (with_reducible first | refine Q1 ?_ | refine Qe ?_ | refine QQ ?_ | (refine al_go ?_; intro b) | (refine QD ?_ <;> (try constructor) <;> intro hb <;> try intro hb1) | fail)
     refine ⟨j + 1, .box b 55 [.str nm, .i sal, .sl .shared PS, .sl .shared AS] :: st, (by (repeat (first | exact List.Sublist.refl _ | apply List.Sublist.cons))), ⟨hlj, HE, ?_, ?_, ?_, ?_, b, ?_, rfl⟩, by omega⟩
     all_goals exact Qf
 have HE := HT.out
 rw [List.drop_of_length_le (by omega), List.any_nil, Bool.false_or] at HE
 replace HE := Lib.hid HE
 clear HT
 repeat' (with_reducible first | refine Q1 ?_ | refine Qe ?_ | refine QQ ?_ | (refine al_go ?_; intro b) | (refine QD ?_ <;> (try constructor) <;> intro hb <;> try intro hb1) | fail)
 refine tr_loopd (ι := Nat) (fun j A st' => j ≤ ac.length ∧ Hid (((ac.drop j).any Rul.gA || G) = F) ∧ A.df = [] ∧ A.e 0 = .sl .shared LS ∧ A.e 3 = .i i ∧ A.e 7 = .i j ∧ (∃ b : Nat, A.e 4 = .ptr b 0 ∧ st' = .box b 55 [.str nm, .i sal, .sl .shared PS, .sl .shared AS] :: st)) (fun j => ac.length - j) 0 ⟨Nat.zero_le _, HE, Qf, Qf, Qf, Qf, _, Qf, rfl⟩ ?_
 clear hdf e0 e3 e4 e5
 rintro j A st' ⟨hj, HT, hdf, e0, e3, e5, b, e4, rfl⟩
 clear HE
 by_cases hlj : j < ac.length
 · obtain ⟨p, hp⟩ := gEx hlj
   have k1 := hca.out j p hp
   have HE := HT.out
   rw [any_drop hp, Bool.or_assoc] at HE
   have hpw := hac.out p (List.mem_of_getElem? hp)
   clear HT hp
   obtain ⟨G2, hG2⟩ : ∃ G2, ((ac.drop (j + 1)).any Rul.gA || G) = G2 := ⟨_, rfl⟩
   rw [hG2] at HE
   replace hG2 := Lib.hid hG2
   cases p with
   | mk kd pt tm sl ts =>
   unfold Ac.cells at k1
   unfold Rul.gA at HE
   obtain ⟨hts, htl⟩ := hpw
   dsimp only at k1 HE hts htl
   replace hts := Lib.hid hts
   unfold maxLen at htl
   have hmt : (ts.map Ex.cells).length = ts.length := List.length_map ..
   have hct := hMp Ex.cells ts
   generalize ts.map Ex.cells = TL at *
   by_cases hz : 20 < ts.length
   · rw [decide_eq_true hz] at HE
     simp only [Bool.true_or, Bool.or_true] at HE
     subst HE
     exact WR
   rw [decide_eq_false hz, Bool.false_or] at HE
   have HU : Hid (((ts.drop 0).any Rul.gE || G2) = F) := HE
   clear HE
   repeat' (with_reducible first | refine Q1 ?_ | refine Qe ?_ | refine QQ ?_ | (refine al_go ?_; intro b) | (refine QD ?_ <;> (try constructor) <;> intro hb <;> try intro hb1) | fail)
   refine tr_loopd (ι := Nat) (fun k A st' => k ≤ ts.length ∧ Hid (((ts.drop k).any Rul.gE || G2) = F) ∧ A.df = [] ∧ A.e 0 = .sl .shared LS ∧ A.e 3 = .i i ∧ A.e 7 = .i j ∧ A.e 8 = .i k ∧ (∃ b : Nat, A.e 4 = .ptr b 0 ∧ st' = .box b 55 [.str nm, .i sal, .sl .shared PS, .sl .shared AS] :: st)) (fun k => ts.length - k) 0 ⟨Nat.zero_le _, HU, Qf, Qf, Qf, Qf, Qf, _, Qf, rfl⟩ ?_
   clear hdf e0 e3 e4 e5
   rintro k A st' ⟨hk, HT, hdf, e0, e3, e5, e6, b, e4, rfl⟩
   clear HU
   by_cases hlk : k < ts.length
   · obtain ⟨t, ht⟩ := gEx hlk
     have k2 := hct.out k t ht
     have HE := HT.out
     rw [any_drop ht, Bool.or_assoc] at HE
     have hG := refGreatF t.val (hts.out t (List.mem_of_getElem? ht))
     clear HT ht
     unfold Rul.gE at HE
     cases t with
     | mk iv vr v =>
     dsimp only at HE hG
     generalize V.great v = g at *
     cases v with
     | mk vk vn vs vl =>
     rw [Ex.cells_mk] at k2
     rw [V.cells_mk] at hG
     replace hG := Lib.hid hG
     cases g with
     | true =>
      rw [Bool.true_or] at HE
      subst HE
      exact WR
     | false =>
      rw [Bool.false_or] at HE
      replace HE := Lib.hid HE
      repeat' (with_reducible first | refine Q1 ?_ | refine Qe ?_ | refine QQ ?_ | (refine al_go ?_; intro b) | (refine QD ?_ <;> (try constructor) <;> intro hb <;> try intro hb1) | fail)
      refine ⟨k + 1, .box b 55 [.str nm, .i sal, .sl .shared PS, .sl .shared AS] :: st, (by (repeat (first | exact List.Sublist.refl _ | apply List.Sublist.cons))), ⟨hlk, HE, ?_, ?_, ?_, ?_, ?_, b, ?_, rfl⟩, by omega⟩
      all_goals exact Qf
   · have HE := HT.out
     rw [List.drop_of_length_le (by omega), List.any_nil, Bool.false_or] at HE
     replace HE := Lib.hid (hG2.out.trans HE)
     clear HT hG2
     repeat' (with_reducible first | refine Q1 ?_ | refine Qe ?_ | refine QQ ?_ | (refine al_go ?_; intro b) | (refine QD ?_ <;> (try constructor) <;> intro hb <;> try intro hb1) | fail)
     refine ⟨j + 1, .box b 55 [.str nm, .i sal, .sl .shared PS, .sl .shared AS] :: st, (by (repeat (first | exact List.Sublist.refl _ | apply List.Sublist.cons))), ⟨hlj, HE, ?_, ?_, ?_, ?_, b, ?_, rfl⟩, by omega⟩
     all_goals exact Qf
 have HE := HT.out
 rw [List.drop_of_length_le (by omega), List.any_nil, Bool.false_or] at HE
 replace HE := Lib.hid (hGG.out.trans HE)
 clear HT hGG
 repeat' (with_reducible first | refine Q1 ?_ | refine Qe ?_ | refine QQ ?_ | (refine al_go ?_; intro b) | (refine QD ?_ <;> (try constructor) <;> intro hb <;> try intro hb1) | fail)
 refine ⟨i + 1, st, (by (repeat (first | exact List.Sublist.refl _ | apply List.Sublist.cons))), ⟨hlt, HE, ?_, ?_, ?_, rfl⟩, by omega⟩
 all_goals exact Qf
end Go.Proofs.YtgcienlfpnpbgaaGreat
end
section
namespace Go.Proofs.YtgcienlfpnpbgaaGreat
attribute [local push_cast] encB encI encC encBs V.cells_mk V.cells_len Nat.mul_one Int.sub_zero List.map_nil beq_self_eq_true bne_self_eq_false List.head?_cons
open Go.RowKit B
set_option maxHeartbeats 16000000
set_option maxRecDepth 10000
abbrev v0 : V := .mk 0 0 ⟨#[]⟩ []
abbrev xR : Rl := ⟨⟨#[114]⟩, 0, [⟨0, false, [⟨5, 1, 0, v0⟩]⟩], [⟨1, 0, 0, 0, [⟨true, 0, v0⟩, ⟨true, 0, v0⟩, ⟨false, 0, v0⟩]⟩]⟩
abbrev yR : Rl := ⟨⟨#[114]⟩, 0, [⟨0, false, []⟩], [⟨1, 0, 0, 0, [⟨true, 0, v0⟩, ⟨true, 0, v0⟩, ⟨false, 0, v0⟩]⟩]⟩
theorem xR_cells : xR.cells = [.str ⟨#[114]⟩, .i 0, .sl .shared [[.i 0, .b false, .sl .shared [[.i 5, .i 1, .i 0, .i 0, .i 0, .str ⟨#[]⟩, .sl .shared []]]]], .sl .shared [[.i 1, .i 0, .i 0, .i 0, .sl .shared [[.b true, .i 0, .i 0, .i 0, .str ⟨#[]⟩, .sl .shared []], [.b true, .i 0, .i 0, .i 0, .str ⟨#[]⟩, .sl .shared []], [.b false, .i 0, .i 0, .i 0, .str ⟨#[]⟩, .sl .shared []]]]]] := by
 simp only [Rl.cells, Pt.cells, Ac.cells, List.map_cons, List.map_nil, Ts.cells_mk, Ex.cells_mk]
theorem yR_cells : yR.cells = [.str ⟨#[114]⟩, .i 0, .sl .shared [[.i 0, .b false, .sl .shared []]], .sl .shared [[.i 1, .i 0, .i 0, .i 0, .sl .shared [[.b true, .i 0, .i 0, .i 0, .str ⟨#[]⟩, .sl .shared []], [.b true, .i 0, .i 0, .i 0, .str ⟨#[]⟩, .sl .shared []], [.b false, .i 0, .i 0, .i 0, .str ⟨#[]⟩, .sl .shared []]]]]] := by
 simp only [Rl.cells, Pt.cells, Ac.cells, List.map_cons, List.map_nil, Ts.cells_mk, Ex.cells_mk]
theorem v0_q : VQ v0 := ⟨.mk (by omega) (by omega) (Nat.zero_le _) (Nat.zero_le _) (fun x h => by cases h), by decide, by decide⟩
theorem x_rk : Rul.RK xR ∧ Rul.RK yR := by
 constructor <;> (refine ⟨by decide, by decide, by decide, ?_, ?_, ?_, ?_⟩ <;> intro p hp <;> rw [List.mem_singleton.1 hp] <;> first | decide | skip)
 · intro t ht; rw [List.mem_singleton.1 ht]; exact v0_q
 · intro t ht
   simp only [List.mem_cons, List.not_mem_nil, or_false] at ht
   rcases ht with rfl | rfl | rfl <;> exact v0_q
 · intro t ht; cases ht
 · intro t ht
   simp only [List.mem_cons, List.not_mem_nil, or_false] at ht
   rcases ht with rfl | rfl | rfl <;> exact v0_q
theorem x_right : Rul.right L13 [xR] = true ∧ Rul.right L13 [yR] = false := by
 unfold Rul.right
 rw [l13_right]
 exact ⟨by kernel_rfl, by kernel_rfl⟩
theorem x_slots : (Rul.slots L13 0).length = 3 ∧ (Rul.slots L13 1).length = 0 := ⟨by kernel_rfl, by kernel_rfl⟩
theorem x_bound : Rul.bound xR = [0] := by kernel_rfl
theorem x_good : ∀ x ∈ [xR], Rul.RlG x := (Rul.right_good (fun x h => by rw [List.mem_singleton.1 h]; exact x_rk.1) x_right.1).2
theorem x_len : (Rul.put [xR]).length ≤ 10000000 := by
 exact of_decide_eq_true (by kernel_rfl)
theorem rul17GreatF (L : List Tm) (R : List Rl) (hwL : ∀ t ∈ L, t.Wf) (hlL : L.length ≤ maxLen) (hw : ∀ x ∈ R, x.Wf) (hl : R.length ≤ maxLen) (st : St) : TrF Tryz.prog 33 [.sl .shared (L.map Tm.cells), .sl .shared (R.map Rl.cells)] st fun d st' => d = .b (Reg.great L || Rul.great R) ∧ st' = st := by
 have h1 := refGreat13F L hwL hlL
 have h2 := refGreat17F R hw hl
 generalize Reg.great L = g at *
 generalize Rul.great R = q at *
 clear hwL hw hlL hl
 generalize L.map Tm.cells = LS at *
 generalize R.map Rl.cells = RS at *
 replace h1 := Lib.hid h1
 replace h2 := Lib.hid h2
 cases g <;> cases q
 all_goals (
  refine Qin [4] Tryz.func33 Tryz.results33 Tryz.ntmps33 ?_
  exact WR)
theorem rul17AliveF (st : St) : TrF Tryz.prog 32 [] st fun d st' => d = .b true ∧ st' = st := by
 have hT := twoF
 have hok : ∀ t ∈ L13, TOk t := fun t h => (l13_kn t h).ok
 have hkx : ∀ x ∈ [xR], Rul.RK x := fun x h => by rw [List.mem_singleton.1 h]; exact x_rk.1
 have hky : ∀ x ∈ [yR], Rul.RK x := fun x h => by rw [List.mem_singleton.1 h]; exact x_rk.2
 have hP := rulePutF [xR] (fun x h => ⟨hkx x h, by rw [List.mem_singleton.1 h]; decide⟩) (by decide)
 have hR1 := ruleRightF L13 hok (by decide) [xR] hkx (by decide)
 have hR2 := ruleRightF L13 hok (by decide) [yR] hky (by decide)
 have hRd := binRead2F .shared (Rul.put [xR]) x_len
 have hgl := Rul.glist_rules [xR] (by decide) x_good .shared []
 have hrp := Rul.read_put L13 [xR] x_right.1 (by decide) x_good .shared []
 rw [Rul.put_eq x_good] at hrp
 have hRR := fun rb => ruleReadF L13 hok (by decide) rb ⟨.shared, (Rul.listW Rul.rlW [xR]).1 ++ [], false⟩ (by rw [hgl]; exact hkx) (by rw [hgl]; decide)
 rw [hrp, List.append_nil, ← Rul.put_eq x_good] at hRR
 clear hgl hrp
 have hB := ruleBoundF xR (by decide) (fun p h => by rw [List.mem_singleton.1 h]; decide)
 have hS0 := ruleSlotsF L13 hok (by decide) 0
 have hS1 := ruleSlotsF L13 hok (by decide) 1
 have hl0 : ((Rul.slots L13 0).map Sl.cells).length = 3 := (List.length_map ..).trans x_slots.1
 have hl1 : ((Rul.slots L13 1).map Sl.cells).length = 0 := (List.length_map ..).trans x_slots.2
 rw [x_right.1] at hR1
 rw [x_right.2] at hR2
 rw [x_bound] at hB
 generalize (Rul.slots L13 0).map Sl.cells = S0 at *
 generalize (Rul.slots L13 1).map Sl.cells = S1 at *
 generalize Rul.put [xR] = PB at *
 simp only [List.map_cons, List.map_nil, twoC, xR_cells, yR_cells, encB, encI, Option.getD, Option.isSome] at hT hP hRd hRR hR1 hR2 hB hS0 hS1
 replace hT := Lib.hid hT
 replace hP := Lib.hid hP
 replace hRd := Lib.hid hRd
 replace hRR := Lib.hid hRR
 replace hR1 := Lib.hid hR1
 replace hR2 := Lib.hid hR2
 replace hB := Lib.hid hB
 replace hS0 := Lib.hid hS0
 replace hS1 := Lib.hid hS1
 clear hok hkx hky
 refine Qin [0] Tryz.func32 Tryz.results32 Tryz.ntmps32 ?_
 repeat' (first | (with_reducible first | refine Q1 ?_ | refine Qe ?_ | refine s_boxP ?_ | refine QQ ?_ | (refine al_go ?_; intro b) | (refine QD ?_ <;> (try constructor) <;> intro hb <;> try intro hb1) | fail) | refine QL Tryz.call39 (hP.out _) ?_ | (refine QN Tryz.call27 (hRd.out _) ?_; intro rb) | refine QL Tryz.call44 (hRR.out rb _) ?_ | refine QL Tryz.call34 (hR1.out _) ?_ | refine QL Tryz.call34 (hR2.out _) ?_ | refine QL Tryz.call37 (hB.out _) ?_ | refine QL Tryz.call42 (hS0.out _) ?_ | refine QL Tryz.call42 (hS1.out _) ?_ | fail)
 all_goals exact Qret
abbrev penQ (pb : Nat) (o : Own) (X : List UInt8) (q : Bool) (s : St) : St := .box pb 136 [.sl o (X.map encB), .b q] :: .room o 5 1 (X.map encB).length :: s
def PenD (f : FuncId) (args : List D) (pb : Nat) (X Y : List UInt8) (q q' : Bool) : Prop := ∀ (o : Own), o ≠ .shared → ∀ s, TrF Tryz.prog f args (penQ pb o X q s) fun d st' => ∃ o', o' ≠ .shared ∧ d = .tup [] ∧ st' = penQ pb o' (X ++ Y) (q || q') s
namespace Rul
def r8 (n : Int) : UInt8 := if badN n = true then 0 else Reg.b8 n
end Rul
theorem pen17ManyF (pb n : Nat) (hn : n ≤ 1000000) (X : List UInt8) (q : Bool) (hX : X.length ≤ 10000000000000) : PenD 106 [.ptr pb 0, .i n] pb X (be 4 n) q false := by
 intro o ho s
 have hN := refNumN n hn
 have hb4 : (be 4 n).length = 4 := be_len ..
 have happ : (X ++ be 4 n).map encB = X.map encB ++ (be 4 n).map encB := List.map_append ..
 have hXm : (X.map encB).length = X.length := List.length_map ..
 have hBm : ((be 4 n).map encB).length = (be 4 n).length := List.length_map ..
 rw [Bool.or_false]
 generalize be 4 n = Y at *
 replace hN := Lib.hid hN
 refine Qin [] Tryz.func106 Tryz.results106 Tryz.ntmps106 ?_
 repeat' (first | (with_reducible first | refine Q1 ?_ | refine Qe ?_ | fail) | ((with_reducible refine w_draw [(pb, [.sl o (X.map encB), .b q])] ?_ ?_ ?_ ?_ ?_); (iterate 3 (focus kernel_rfl)); (focus exact keep_one (by repeat (first | exact mm_h | apply mm_t)))) | ((with_reducible refine And.intro ?_ ?_); (focus exact keep_one (by repeat (first | exact mm_h | apply mm_t)))) | (with_reducible first | refine QQ ?_ | (refine al_go ?_; intro b) | (refine Qa ?_; intro o' ho') | (refine Qp ?_; intro o' ho') | (refine QD ?_ <;> (try constructor) <;> intro hb <;> try intro hb1) | fail) | fail)
 all_goals (refine retA_mk (by simp) (by first | rfl | assumption) (st' := .box pb 136 [.sl o' (X.map encB ++ Y.map encB), .b q] :: .room o' 5 1 (X.map encB ++ Y.map encB).length :: s) (by (repeat (first | exact List.Sublist.refl _ | with_reducible apply List.Sublist.cons_cons | apply List.Sublist.cons))) (LE.of_eq rfl) ⟨o', ho', rfl, ?_⟩; unfold penQ; rw [happ])
theorem pen17PutF (pb : Nat) (n : Int) (X : List UInt8) (q : Bool) (hX : X.length ≤ 10000000000000) : PenD 108 [.ptr pb 0, .i n] pb X [Rul.r8 n] q (Rul.badN n) := by
 intro o ho s
 have hXm : (X.map encB).length = X.length := List.length_map ..
 have hw := u8_wrapI n
 have hw0 := u8_wrapI 0
 have h0 : Reg.b8 0 = 0 := by decide
 have happ : (X ++ [Rul.r8 n]).map encB = X.map encB ++ [encB (Rul.r8 n)] := List.map_append ..
 unfold Rul.r8 at *
 cases hb : Rul.badN n with
 | true =>
  have hb2 : n < 0 ∨ 255 < n := by
   unfold Rul.badN at hb
   rw [Bool.or_eq_true, decide_eq_true_eq, decide_eq_true_eq] at hb
   exact hb
  rw [hb, if_pos rfl] at happ
  rw [if_pos rfl, Bool.or_true]
  rw [h0] at hw0
  clear hb hw
  generalize (0 : UInt8) = z at *
  rcases hb2 with hb | hb
  all_goals (
   refine Qin [] Tryz.func108 Tryz.results108 Tryz.ntmps108 ?_
   repeat' (with_reducible first | refine Q1 ?_ | refine Qe ?_ | refine QQ ?_ | (refine al_go ?_; intro b) | (refine Qa ?_; intro o' ho') | (refine Qp ?_; intro o' ho') | (refine QD ?_ <;> (try constructor) <;> intro hb <;> try intro hb1) | fail)
   all_goals (refine retA_mk (by simp) (by first | rfl | assumption) (st' := .box pb 136 [.sl o' (X.map encB ++ [encB z]), .b true] :: .room o' 5 1 (X.map encB ++ [encB z]).length :: s) (by (repeat (first | exact List.Sublist.refl _ | with_reducible apply List.Sublist.cons_cons | apply List.Sublist.cons))) (LE.of_eq rfl) ⟨o', ho', rfl, ?_⟩; unfold penQ; rw [happ]))
 | false =>
  have hb2 : ¬ n < 0 ∧ ¬ 255 < n := by
   unfold Rul.badN at hb
   rw [Bool.or_eq_false_iff, decide_eq_false_iff_not, decide_eq_false_iff_not] at hb
   exact hb
  rw [hb, if_neg Bool.false_ne_true] at happ
  rw [if_neg Bool.false_ne_true, Bool.or_false]
  obtain ⟨c1, c2⟩ := hb2
  clear hb hw0 h0
  generalize Reg.b8 n = z at *
  refine Qin [] Tryz.func108 Tryz.results108 Tryz.ntmps108 ?_
  repeat' (with_reducible first | refine Q1 ?_ | refine Qe ?_ | refine QQ ?_ | (refine al_go ?_; intro b) | (refine Qa ?_; intro o' ho') | (refine Qp ?_; intro o' ho') | (refine QD ?_ <;> (try constructor) <;> intro hb <;> try intro hb1) | fail)
  all_goals (refine retA_mk (by simp) (by first | rfl | assumption) (st' := .box pb 136 [.sl o' (X.map encB ++ [encB z]), .b q] :: .room o' 5 1 (X.map encB ++ [encB z]).length :: s) (by (repeat (first | exact List.Sublist.refl _ | with_reducible apply List.Sublist.cons_cons | apply List.Sublist.cons))) (LE.of_eq rfl) ⟨o', ho', rfl, ?_⟩; unfold penQ; rw [happ])
theorem pen17FlagF (pb : Nat) (b : Bool) (X : List UInt8) (q : Bool) (hX : X.length ≤ 10000000000000) : PenD 109 [.ptr pb 0, .b b] pb X [if b = true then 1 else 0] q false := by
 intro o ho s
 have h1 := pen17PutF pb 1 X q hX o ho
 have h0 := pen17PutF pb 0 X q hX o ho
 rw [show Rul.r8 1 = 1 from by decide, show Rul.badN 1 = false from rfl] at h1
 rw [show Rul.r8 0 = 0 from by decide, show Rul.badN 0 = false from rfl] at h0
 replace h1 := Lib.hid h1
 replace h0 := Lib.hid h0
 cases b
 · refine Qin [] Tryz.func109 Tryz.results109 Tryz.ntmps109 ?_
   repeat' (first | (with_reducible first | refine Q1 ?_ | refine Qe ?_ | refine QQ ?_ | (refine al_go ?_; intro b) | (refine Qa ?_; intro o' ho') | (refine Qp ?_; intro o' ho') | (refine QD ?_ <;> (try constructor) <;> intro hb <;> try intro hb1) | fail) | (refine QE Tryz.call108 (h0.out _) ?_; intro o1 ho1) | fail)
   all_goals exact retA_mk (by simp) (by first | rfl | assumption) (List.Sublist.refl _) (LE.of_eq rfl) ⟨o1, ho1, rfl, rfl⟩
 · refine Qin [] Tryz.func109 Tryz.results109 Tryz.ntmps109 ?_
   repeat' (first | (with_reducible first | refine Q1 ?_ | refine Qe ?_ | refine QQ ?_ | (refine al_go ?_; intro b) | (refine Qa ?_; intro o' ho') | (refine Qp ?_; intro o' ho') | (refine QD ?_ <;> (try constructor) <;> intro hb <;> try intro hb1) | fail) | (refine QE Tryz.call108 (h1.out _) ?_; intro o1 ho1) | fail)
   all_goals exact retA_mk (by simp) (by first | rfl | assumption) (List.Sublist.refl _) (LE.of_eq rfl) ⟨o1, ho1, rfl, rfl⟩
theorem pen17ValueF (pb : Nat) (v : V) (hv : VQ v) (X : List UInt8) (q : Bool) (hX : X.length ≤ 10000000000000) : PenD 110 [.ptr pb 0, .agg v.cells] pb X v.bin q (decide (v.bin = [])) := by
 intro o ho s
 have hB := refValueF v hv.ok hv.nodes hv.deep
 have hbl := Reg.bin_len v
 have hm : (v.bin.map encB).length = v.bin.length := List.length_map ..
 have hXm : (X.map encB).length = X.length := List.length_map ..
 have hn : Hid (decide (v.bin = []) = decide ((v.bin.length : Int) = 0)) := Lib.hid (by
  cases v.bin with
  | nil => rfl
  | cons a l => rw [decide_eq_false (by intro h; cases h), decide_eq_false (by rw [List.length_cons]; omega)])
 rw [hn.out]
 clear hn
 generalize v.bin = Y at *
 cases v with
 | mk k n sv lv =>
 rw [V.cells_mk] at *
 generalize lv.map V.cells = VL at *
 clear hv
 replace hB := Lib.hid hB
 have happ : (X ++ Y).map encB = X.map encB ++ Y.map encB := List.map_append ..
 by_cases h0 : (Y.length : Int) = 0
 · rw [decide_eq_true h0, Bool.or_true]
   refine Qin [] Tryz.func110 Tryz.results110 Tryz.ntmps110 ?_
   repeat' (with_reducible first | refine Q1 ?_ | refine Qe ?_ | refine QQ ?_ | (refine al_go ?_; intro b) | (refine Qa ?_; intro o' ho') | (refine Qp ?_; intro o' ho') | (refine QD ?_ <;> (try constructor) <;> intro hb <;> try intro hb1) | fail)
   all_goals (refine retA_mk (by simp) (by first | rfl | assumption) (st' := .box pb 136 [.sl o' (X.map encB ++ Y.map encB), .b true] :: .room o' 5 1 (X.map encB ++ Y.map encB).length :: s) (by (repeat (first | exact List.Sublist.refl _ | with_reducible apply List.Sublist.cons_cons | apply List.Sublist.cons))) (LE.of_eq rfl) ⟨o', ho', rfl, ?_⟩; unfold penQ; rw [happ])
 · rw [decide_eq_false h0, Bool.or_false]
   have h0b : ((Y.length : Int) == 0) = false := beq_eq_false_iff_ne.2 h0
   refine Qin [] Tryz.func110 Tryz.results110 Tryz.ntmps110 ?_
   repeat' (with_reducible first | refine Q1 ?_ | refine Qe ?_ | refine QQ ?_ | (refine al_go ?_; intro b) | (refine Qa ?_; intro o' ho') | (refine Qp ?_; intro o' ho') | (refine QD ?_ <;> (try constructor) <;> intro hb <;> try intro hb1) | fail)
   all_goals (refine retA_mk (by simp) (by first | rfl | assumption) (st' := .box pb 136 [.sl o' (X.map encB ++ Y.map encB), .b q] :: .room o' 5 1 (X.map encB ++ Y.map encB).length :: s) (by (repeat (first | exact List.Sublist.refl _ | with_reducible apply List.Sublist.cons_cons | apply List.Sublist.cons))) (LE.of_eq rfl) ⟨o', ho', rfl, ?_⟩; unfold penQ; rw [happ])
end Go.Proofs.YtgcienlfpnpbgaaGreat
end
section
namespace Go.Proofs.YtgcienlfpnpbgaaGreat
attribute [local push_cast] encB encI encC encBs V.cells_mk V.cells_len Nat.mul_one Int.sub_zero List.map_nil beq_self_eq_true bne_self_eq_false List.head?_cons
open Go.RowKit B
set_option maxHeartbeats 32000000
set_option maxRecDepth 10000
namespace Rul
def bitB (b : Bool) : UInt8 := if b = true then 1 else 0
def tsQ (t : Ts) : List UInt8 × Bool := ([r8 t.kind] ++ [r8 t.slot] ++ [r8 t.var] ++ t.val.bin, badN t.kind || badN t.slot || badN t.var || decide (t.val.bin = []))
def ptQ (p : Pt) : List UInt8 × Bool := ([r8 p.tmpl] ++ [bitB p.neg] ++ (listW tsQ p.tests).1, badN p.tmpl || (listW tsQ p.tests).2)
def exQ (e : Ex) : List UInt8 × Bool := ([bitB e.isVar] ++ [r8 e.var] ++ e.val.bin, badN e.var || decide (e.val.bin = []))
def acQ (a : Ac) : List UInt8 × Bool := ([r8 a.kind] ++ [r8 a.pat] ++ [r8 a.tmpl] ++ [r8 a.slot] ++ (listW exQ a.vals).1, badN a.kind || badN a.pat || badN a.tmpl || badN a.slot || (listW exQ a.vals).2)
def rlQ (x : Rl) : List UInt8 × Bool := (headW x ++ (listW ptQ x.pats).1 ++ (listW acQ x.acts).1, (listW ptQ x.pats).2 || (listW acQ x.acts).2)
def putQ (R : List Rl) : List UInt8 := if (listW rlQ R).2 = true then [] else (listW rlQ R).1
theorem flat_drop {α : Type} {f : α → List UInt8} {l : List α} {i : Nat} {a : α} (h : l[i]? = some a) : ((l.drop i).map f).flatten = f a ++ ((l.drop (i + 1)).map f).flatten := by
 obtain ⟨h1, rfl⟩ := List.getElem?_eq_some_iff.1 h
 rw [List.drop_eq_getElem_cons h1, List.map_cons, List.flatten_cons]
theorem any_dropQ {α : Type} {p : α → Bool} {l : List α} {i : Nat} {x : α} (h : l[i]? = some x) : (l.drop i).any p = (p x || (l.drop (i + 1)).any p) := by
 obtain ⟨h1, rfl⟩ := List.getElem?_eq_some_iff.1 h
 rw [List.drop_eq_getElem_cons h1, List.any_cons]
def Eqv {α : Type} (f g : α → List UInt8 × Bool) : Prop := ∀ a, (f a).2 = (g a).2 ∧ ((g a).2 = false → (f a).1 = (g a).1)
theorem listW_eqv {α : Type} {f g : α → List UInt8 × Bool} (h : Eqv f g) : Eqv (listW f) (listW g) := fun l => by
 unfold listW
 dsimp only
 constructor
 · congr 1; funext a; exact (h a).1
 · intro hb
   congr 2
   refine List.map_congr_left fun a ha => (h a).2 ?_
   rw [List.any_eq_false] at hb
   exact Bool.not_eq_true _ ▸ hb a ha
theorem r8_b8 {n : Int} (h : badN n = false) : r8 n = Reg.b8 n := by unfold r8; rw [h]; rfl
theorem bit_b8 (b : Bool) : Reg.b8 (bitI b) = bitB b ∧ badN (bitI b) = false := by cases b <;> exact ⟨by decide, rfl⟩
theorem ts_eqv : Eqv tsQ tsW := fun t => by
 unfold tsQ tsW catW numsW valW
 simp only [List.any_cons, List.any_nil, List.map_cons, List.map_nil, Bool.or_false]
 refine ⟨by simp only [Bool.or_assoc], fun h => ?_⟩
 simp only [Bool.or_eq_false_iff] at h
 obtain ⟨⟨h1, h2, h3⟩, -⟩ := h
 rw [r8_b8 h1, r8_b8 h2, r8_b8 h3]
 rfl
theorem pt_eqv : Eqv ptQ ptW := fun p => by
 have hl := listW_eqv ts_eqv p.tests
 have hb := bit_b8 p.neg
 unfold ptQ ptW catW numsW
 simp only [List.any_cons, List.any_nil, List.map_cons, List.map_nil, Bool.or_false, hb.2, hb.1]
 refine ⟨by rw [hl.1], fun h => ?_⟩
 simp only [Bool.or_eq_false_iff] at h
 rw [r8_b8 h.1, hl.2 h.2]
 rfl
theorem ex_eqv : Eqv exQ exW := fun e => by
 have hb := bit_b8 e.isVar
 unfold exQ exW catW numsW valW
 simp only [List.any_cons, List.any_nil, List.map_cons, List.map_nil, Bool.or_false, Bool.false_or, hb.2, hb.1]
 refine ⟨trivial, fun h => ?_⟩
 simp only [Bool.or_eq_false_iff] at h
 rw [r8_b8 h.1]
 rfl
theorem ac_eqv : Eqv acQ acW := fun a => by
 have hl := listW_eqv ex_eqv a.vals
 unfold acQ acW catW numsW
 simp only [List.any_cons, List.any_nil, List.map_cons, List.map_nil, Bool.or_false]
 refine ⟨by rw [hl.1]; simp only [Bool.or_assoc], fun h => ?_⟩
 simp only [Bool.or_eq_false_iff] at h
 obtain ⟨⟨h1, h2, h3, h4⟩, h5⟩ := h
 rw [r8_b8 h1, r8_b8 h2, r8_b8 h3, r8_b8 h4, hl.2 h5]
 rfl
theorem rl_eqv : Eqv rlQ rlW := fun x => by
 have h1 := listW_eqv pt_eqv x.pats
 have h2 := listW_eqv ac_eqv x.acts
 unfold rlQ rlW catW
 simp only [Bool.false_or]
 refine ⟨by rw [h1.1, h2.1], fun h => ?_⟩
 simp only [Bool.or_eq_false_iff] at h
 rw [h1.2 h.1, h2.2 h.2]
theorem putQ_eq (R : List Rl) : putQ R = put R := by
 have h := listW_eqv rl_eqv R
 unfold putQ put
 rw [h.1]
 cases hq : (listW rlW R).2 with
 | true => rfl
 | false => rw [if_neg Bool.false_ne_true, if_neg Bool.false_ne_true, h.2 hq]
theorem listQ_len {α : Type} (f : α → List UInt8 × Bool) (c : Nat) (l : List α) (h : ∀ a ∈ l, (f a).1.length ≤ c) : (listW f l).1.length ≤ 4 + l.length * c := Reg.listB_len (fun a => (f a).1) c l h
theorem tsQ_len (t : Ts) : (tsQ t).1.length ≤ 20510 := by
 have := Reg.bin_len t.val
 unfold tsQ
 simp only [List.length_append, List.length_cons, List.length_nil]
 omega
theorem exQ_len (t : Ex) : (exQ t).1.length ≤ 20510 := by
 have := Reg.bin_len t.val
 unfold exQ
 simp only [List.length_append, List.length_cons, List.length_nil]
 omega
theorem ptQ_len (p : Pt) (h : p.tests.length ≤ 100) : (ptQ p).1.length ≤ 2051010 := by
 have h1 := listQ_len tsQ 20510 p.tests fun t _ => tsQ_len t
 have h2 : p.tests.length * 20510 ≤ 100 * 20510 := Nat.mul_le_mul_right _ h
 unfold ptQ
 simp only [List.length_append, List.length_cons, List.length_nil]
 omega
theorem acQ_len (a : Ac) (h : a.vals.length ≤ 100) : (acQ a).1.length ≤ 2051010 := by
 have h1 := listQ_len exQ 20510 a.vals fun t _ => exQ_len t
 have h2 : a.vals.length * 20510 ≤ 100 * 20510 := Nat.mul_le_mul_right _ h
 unfold acQ
 simp only [List.length_append, List.length_cons, List.length_nil]
 omega
theorem rlQ_len (x : Rl) (h : RK x) : (rlQ x).1.length ≤ 411103000 := by
 have h0 := headW_len x h.nm
 have h1 := listQ_len ptQ 2051010 x.pats fun p hp => ptQ_len p (h.nt p hp)
 have h2 := listQ_len acQ 2051010 x.acts fun a ha => acQ_len a (h.nv a ha)
 have h3 : x.pats.length * 2051010 ≤ 100 * 2051010 := Nat.mul_le_mul_right _ h.np
 have h4 : x.acts.length * 2051010 ≤ 100 * 2051010 := Nat.mul_le_mul_right _ h.na
 unfold rlQ
 simp only [List.length_append]
 omega
end Rul
end Go.Proofs.YtgcienlfpnpbgaaGreat
end
