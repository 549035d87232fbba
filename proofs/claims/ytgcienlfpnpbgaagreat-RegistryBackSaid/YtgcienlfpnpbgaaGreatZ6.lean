/- Texts put together: RegE, Nodes4, RegF, RegG, BinLaw, BinLaw2, SchO, RefRight, SchN, CastL, RegL, RegM, SchP, SchGr, RegN. No statement is proved here. -/
import Derived.Test.YtgcienlfpnpbgaaGreatZ5
set_option linter.all false
section
namespace Go.Proofs.YtgcienlfpnpbgaaGreat
set_option linter.unusedSimpArgs false
attribute [local push_cast] encB encI encC V.cells_mk V.cells_len Nat.mul_one Int.sub_zero List.map_nil beq_self_eq_true bne_self_eq_false List.head?_cons
open Go.RowKit
set_option maxRecDepth 10000
set_option maxHeartbeats 8000000
namespace Reg
def all2 {α : Type} (f : α → α → Bool) : List α → List α → Bool
  | [], [] => true
  | a :: l, b :: m => f a b && all2 f l m
  | _, _ => false
theorem all2_len {α : Type} {f : α → α → Bool} : ∀ (a b : List α), all2 f a b = true → a.length = b.length
  | [], [], _ => rfl
  | s :: a, v :: b, h => by
    rw [all2, Bool.and_eq_true] at h
    rw [List.length_cons, List.length_cons, all2_len a b h.2]
  | [], _ :: _, h => by cases h
  | _ :: _, [], h => by cases h
theorem all2_drop {α : Type} {f : α → α → Bool} {a b : List α} {i : Nat} {s v : α} (h1 : a[i]? = some s) (h2 : b[i]? = some v) : all2 f (a.drop i) (b.drop i) = (f s v && all2 f (a.drop (i + 1)) (b.drop (i + 1))) := by
  obtain ⟨k1, rfl⟩ := List.getElem?_eq_some_iff.1 h1
  obtain ⟨k2, rfl⟩ := List.getElem?_eq_some_iff.1 h2
  rw [List.drop_eq_getElem_cons k1, List.drop_eq_getElem_cons k2, all2]
def slotS (a b : Sl) : Bool := (a.name.toList == b.name.toList) && ((a.types == b.types) && ((a.req == b.req) && (a.dv.cmp b.dv == 0)))
def stepS (a b : Stp) : Bool := (a.kind == b.kind) && ((a.col == b.col) && (slotS a.slot b.slot && all2 (· == ·) a.order b.order))
def tmS (a b : Tm) : Bool := (a.name.toList == b.name.toList) && (all2 slotS a.slots b.slots && all2 stepS a.steps b.steps)
def same (a b : List Tm) : Bool := all2 tmS a b
structure TmQ (t : Tm) : Prop where
  ls : t.slots.length ≤ 1000000
  lt : t.steps.length ≤ 1000000
  os : ∀ s ∈ t.slots, s.dv.Bg
  ot : ∀ s ∈ t.steps, s.slot.dv.Bg ∧ s.order.length ≤ 1000000
end Reg
theorem regSlotF (a b : Sl) (ha : a.dv.Bg) (hb : b.dv.Bg) (st : St) : TrF Tryz.prog 68 [.agg a.cells, .agg b.cells] st fun d st' => d = .b (Reg.slotS a b) ∧ st' = st := by
  have hV := valSameB a.dv b.dv ha hb
  clear ha hb
  cases a with
  | mk an at_ ar av =>
  cases b with
  | mk bn bt br bv =>
  unfold Reg.slotS
  dsimp only at *
  generalize (av.cmp bv == 0) = q4 at *
  generalize hq1 : (an.toList == bn.toList) = q1
  cases av with
  | mk k n s l =>
  cases bv with
  | mk k' n' s' l' =>
  rw [Sl.cells_mk, Sl.cells_mk]
  rw [V.cells_mk] at hV
  rw [V.cells_mk] at hV
  replace hV := Lib.hid hV
  cases q1 with
  | false =>
    rw [Bool.false_and]
    refine trF_enter (ts := [4]) Tryz.func68 rfl (by rw [Tryz.ntmps68]; exact Nat.le_of_ble_eq_true rfl) (fun tmps w => by simp [results, Tryz.results68, go_sem, resVal]) ?_
    simp only [Tryz.ntmps68]
    repeat' (first | with_reducible refine Go1.go ?_ | ((with_reducible apply ev_go); (focus ((try simp (disch := omega) only [push_cast, simprocAttr, *]); (try exact rfl); done))) | ((with_reducible refine w_last ?_ ?_ ?_); kernel_rfl; rfl) | with_reducible refine Go2.go ?_ | ((with_reducible first | apply w_stepG | refine s_bi ?_ ?_ | refine blk_ne ?_ ?_); rfl) | ((with_reducible refine al_go ?_); intro b) | ((with_reducible apply (ck_le Tryz.call140)); exact LEL.refl _; exact hV.out _) | ((with_reducible first | refine w_region ?_ ?_ | refine w_dra ?_ ?_); kernel_rfl) | ((with_reducible refine Go3.go ?_ ?_); all_goals (intro hb; (try with_reducible intro hb1); (try (exfalso; first | contradiction | omega)))) | fail)
    all_goals (refine ret_eq (by simp) (by first | rfl | assumption) (by (repeat (first | exact List.Sublist.refl _ | apply List.Sublist.cons))) ?_; (try simp (disch := omega) only [push_cast, simprocAttr, *]); try (first | exact LE.refl _ | exact LE.sl _ _ | ((first | refine LE.tup ?_ | refine LE.agg ?_); (repeat' (first | exact LEL.nil | refine LEL.cons ?_ ?_ | exact LE.refl _ | exact LE.sl _ _ | refine LE.agg ?_)); done) | refine LE.of_eq ?_))
  | true =>
    by_cases h2 : at_ = bt
    · subst h2
      rw [beq_self_eq_true, Bool.true_and, Bool.true_and]
      cases ar
      all_goals (
        cases br
        all_goals (
          simp only [beq_self_eq_true, Bool.true_and, show (true == false) = false from rfl, show (false == true) = false from rfl, Bool.false_and]
          refine trF_enter (ts := [4]) Tryz.func68 rfl (by rw [Tryz.ntmps68]; exact Nat.le_of_ble_eq_true rfl) (fun tmps w => by simp [results, Tryz.results68, go_sem, resVal]) ?_
          simp only [Tryz.ntmps68]
          repeat' (first | with_reducible refine Go1.go ?_ | ((with_reducible apply ev_go); (focus ((try simp (disch := omega) only [push_cast, simprocAttr, *]); (try exact rfl); done))) | ((with_reducible refine w_last ?_ ?_ ?_); kernel_rfl; rfl) | with_reducible refine Go2.go ?_ | ((with_reducible first | apply w_stepG | refine s_bi ?_ ?_ | refine blk_ne ?_ ?_); rfl) | ((with_reducible refine al_go ?_); intro b) | ((with_reducible apply (ck_le Tryz.call140)); exact LEL.refl _; exact hV.out _) | ((with_reducible first | refine w_region ?_ ?_ | refine w_dra ?_ ?_); kernel_rfl) | ((with_reducible refine Go3.go ?_ ?_); all_goals (intro hb; (try with_reducible intro hb1); (try (exfalso; first | contradiction | omega)))) | fail)
          all_goals (refine ret_eq (by simp) (by first | rfl | assumption) (by (repeat (first | exact List.Sublist.refl _ | apply List.Sublist.cons))) ?_; (try simp (disch := omega) only [push_cast, simprocAttr, *]); try (first | exact LE.refl _ | exact LE.sl _ _ | ((first | refine LE.tup ?_ | refine LE.agg ?_); (repeat' (first | exact LEL.nil | refine LEL.cons ?_ ?_ | exact LE.refl _ | exact LE.sl _ _ | refine LE.agg ?_)); done) | refine LE.of_eq ?_))))
    · rw [beq_eq_false_iff_ne.2 h2, Bool.false_and, Bool.and_false]
      refine trF_enter (ts := [4]) Tryz.func68 rfl (by rw [Tryz.ntmps68]; exact Nat.le_of_ble_eq_true rfl) (fun tmps w => by simp [results, Tryz.results68, go_sem, resVal]) ?_
      simp only [Tryz.ntmps68]
      repeat' (first | with_reducible refine Go1.go ?_ | ((with_reducible apply ev_go); (focus ((try simp (disch := omega) only [push_cast, simprocAttr, *]); (try exact rfl); done))) | ((with_reducible refine w_last ?_ ?_ ?_); kernel_rfl; rfl) | with_reducible refine Go2.go ?_ | ((with_reducible first | apply w_stepG | refine s_bi ?_ ?_ | refine blk_ne ?_ ?_); rfl) | ((with_reducible refine al_go ?_); intro b) | ((with_reducible apply (ck_le Tryz.call140)); exact LEL.refl _; exact hV.out _) | ((with_reducible first | refine w_region ?_ ?_ | refine w_dra ?_ ?_); kernel_rfl) | ((with_reducible refine Go3.go ?_ ?_); all_goals (intro hb; (try with_reducible intro hb1); (try (exfalso; first | contradiction | omega)))) | fail)
      all_goals (refine ret_eq (by simp) (by first | rfl | assumption) (by (repeat (first | exact List.Sublist.refl _ | apply List.Sublist.cons))) ?_; (try simp (disch := omega) only [push_cast, simprocAttr, *]); try (first | exact LE.refl _ | exact LE.sl _ _ | ((first | refine LE.tup ?_ | refine LE.agg ?_); (repeat' (first | exact LEL.nil | refine LEL.cons ?_ ?_ | exact LE.refl _ | exact LE.sl _ _ | refine LE.agg ?_)); done) | refine LE.of_eq ?_))
theorem intsEqF (a b : List Int) (hl : a.length ≤ 1000000) (hlb : b.length ≤ 1000000) (st : St) : TrF Tryz.prog 141 [.sl .shared (a.map encI), .sl .shared (b.map encI)] st fun d st' => d = .b (Reg.all2 (· == ·) a b) ∧ st' = st := by
  obtain ⟨B, hB⟩ : ∃ B, Reg.all2 (· == ·) a b = B := ⟨_, rfl⟩
  rw [hB]
  have hm1 : (a.map encI).length = a.length := List.length_map ..
  have hm2 : (b.map encI).length = b.length := List.length_map ..
  have hc1 : Hid (∀ (i : Nat) (v : Int), a[i]? = some v → (a.map encI)[i]? = some [.i v]) := fun i v h => by rw [List.getElem?_map, h]; rfl
  have hc2 : Hid (∀ (i : Nat) (v : Int), b[i]? = some v → (b.map encI)[i]? = some [.i v]) := fun i v h => by rw [List.getElem?_map, h]; rfl
  generalize a.map encI = AS at *
  generalize b.map encI = BS at *
  by_cases hlen : a.length = b.length
  · have HB : Hid (Reg.all2 (· == ·) (a.drop 0) (b.drop 0) = B) := hB
    clear hB
    refine trF_enter (ts := [4]) Tryz.func141 rfl (by rw [Tryz.ntmps141]; exact Nat.le_of_ble_eq_true rfl) (fun tmps w => by simp [results, Tryz.results141, go_sem, resVal]) ?_
    simp only [Tryz.ntmps141]
    repeat' (first | with_reducible refine Go1.go ?_ | ((with_reducible apply ev_go); (focus ((try simp (disch := omega) only [push_cast, simprocAttr, *]); (try exact rfl); done))) | ((with_reducible refine w_last ?_ ?_ ?_); kernel_rfl; rfl) | with_reducible refine Go2.go ?_ | ((with_reducible first | apply w_stepG | refine s_bi ?_ ?_ | refine blk_ne ?_ ?_); rfl) | ((with_reducible refine al_go ?_); intro b) | ((with_reducible first | refine w_region ?_ ?_ | refine w_dra ?_ ?_); kernel_rfl) | ((with_reducible refine Go3.go ?_ ?_); all_goals (intro hb; (try with_reducible intro hb1); (try (exfalso; first | contradiction | omega)))) | fail)
    refine tr_loopd (ι := Nat) (fun i A st' => i ≤ a.length ∧ Hid (Reg.all2 (· == ·) (a.drop i) (b.drop i) = B) ∧ A.df = [] ∧ A.e 0 = .sl .shared AS ∧ A.e 1 = .sl .shared BS ∧ A.e 12 = .i a.length ∧ A.e 13 = .i i ∧ st = st') (fun i => a.length - i) 0 ⟨Nat.zero_le _, HB, ?_, ?_, ?_, ?_, ?_, rfl⟩ ?_
    iterate 5 (focus (first | rfl | assumption | omega | (simp (disch := omega) only [push_cast, simprocAttr, *]; try omega; done)))
    rintro i A st' ⟨hi, HT, hdf, e0, e1, e12, e13, rfl⟩
    clear HB
    by_cases hlt : i < a.length
    · obtain ⟨s, hs⟩ : ∃ s, a[i]? = some s := ⟨_, List.getElem?_eq_getElem hlt⟩
      obtain ⟨v, hv⟩ : ∃ v, b[i]? = some v := ⟨_, List.getElem?_eq_getElem (by omega)⟩
      have HE := HT.out
      rw [Reg.all2_drop hs hv] at HE
      have h1 := hc1.out i s hs
      have h2 := hc2.out i v hv
      clear HT hs hv
      obtain ⟨G, hGG⟩ : ∃ G, Reg.all2 (· == ·) (a.drop (i + 1)) (b.drop (i + 1)) = G := ⟨_, rfl⟩
      rw [hGG] at HE
      replace hGG := Lib.hid hGG
      by_cases hq : s = v
      · subst hq
        rw [beq_self_eq_true, Bool.true_and] at HE
        replace HE := Lib.hid (hGG.out.trans HE)
        clear hGG
        repeat' (first | with_reducible refine Go1.go ?_ | ((with_reducible apply ev_go); (focus ((try simp (disch := omega) only [push_cast, simprocAttr, *]); (try exact rfl); done))) | ((with_reducible refine w_last ?_ ?_ ?_); kernel_rfl; rfl) | with_reducible refine Go2.go ?_ | ((with_reducible first | apply w_stepG | refine s_bi ?_ ?_ | refine blk_ne ?_ ?_); rfl) | ((with_reducible refine al_go ?_); intro b) | ((with_reducible first | refine w_region ?_ ?_ | refine w_dra ?_ ?_); kernel_rfl) | ((with_reducible refine Go3.go ?_ ?_); all_goals (intro hb; (try with_reducible intro hb1); (try (exfalso; first | contradiction | omega)))) | fail)
        refine ⟨i + 1, st, (by (repeat (first | exact List.Sublist.refl _ | apply List.Sublist.cons))), ⟨hlt, HE, ?_, ?_, ?_, ?_, ?_, rfl⟩, by omega⟩
        all_goals (first | rfl | assumption | omega | (simp (disch := omega) only [push_cast, simprocAttr, *]; try omega; done))
      · rw [beq_eq_false_iff_ne.2 hq, Bool.false_and] at HE
        subst HE
        clear hGG
        repeat' (first | with_reducible refine Go1.go ?_ | ((with_reducible apply ev_go); (focus ((try simp (disch := omega) only [push_cast, simprocAttr, *]); (try exact rfl); done))) | ((with_reducible refine w_last ?_ ?_ ?_); kernel_rfl; rfl) | with_reducible refine Go2.go ?_ | ((with_reducible first | apply w_stepG | refine s_bi ?_ ?_ | refine blk_ne ?_ ?_); rfl) | ((with_reducible refine al_go ?_); intro b) | ((with_reducible first | refine w_region ?_ ?_ | refine w_dra ?_ ?_); kernel_rfl) | ((with_reducible refine Go3.go ?_ ?_); all_goals (intro hb; (try with_reducible intro hb1); (try (exfalso; first | contradiction | omega)))) | fail)
        all_goals (refine ret_eq (by simp) (by first | rfl | assumption) (by (repeat (first | exact List.Sublist.refl _ | apply List.Sublist.cons))) ?_; (try simp (disch := omega) only [push_cast, simprocAttr, *]); try (first | exact LE.refl _ | exact LE.sl _ _ | ((first | refine LE.tup ?_ | refine LE.agg ?_); (repeat' (first | exact LEL.nil | refine LEL.cons ?_ ?_ | exact LE.refl _ | exact LE.sl _ _ | refine LE.agg ?_)); done) | refine LE.of_eq ?_))
    · have HE := HT.out
      rw [List.drop_of_length_le (by omega), List.drop_of_length_le (by omega), Reg.all2] at HE
      subst HE
      clear HT
      repeat' (first | with_reducible refine Go1.go ?_ | ((with_reducible apply ev_go); (focus ((try simp (disch := omega) only [push_cast, simprocAttr, *]); (try exact rfl); done))) | ((with_reducible refine w_last ?_ ?_ ?_); kernel_rfl; rfl) | with_reducible refine Go2.go ?_ | ((with_reducible first | apply w_stepG | refine s_bi ?_ ?_ | refine blk_ne ?_ ?_); rfl) | ((with_reducible refine al_go ?_); intro b) | ((with_reducible first | refine w_region ?_ ?_ | refine w_dra ?_ ?_); kernel_rfl) | ((with_reducible refine Go3.go ?_ ?_); all_goals (intro hb; (try with_reducible intro hb1); (try (exfalso; first | contradiction | omega)))) | fail)
      all_goals (refine ret_eq (by simp) (by first | rfl | assumption) (by (repeat (first | exact List.Sublist.refl _ | apply List.Sublist.cons))) ?_; (try simp (disch := omega) only [push_cast, simprocAttr, *]); try (first | exact LE.refl _ | exact LE.sl _ _ | ((first | refine LE.tup ?_ | refine LE.agg ?_); (repeat' (first | exact LEL.nil | refine LEL.cons ?_ ?_ | exact LE.refl _ | exact LE.sl _ _ | refine LE.agg ?_)); done) | refine LE.of_eq ?_))
  · have hBf : B = false := by
      cases B with
      | false => rfl
      | true => exact absurd (Reg.all2_len _ _ hB) hlen
    subst hBf
    clear hB
    have hl2 : ¬ (a.length : Int) = (b.length : Int) := by omega
    clear hlen
    refine trF_enter (ts := [4]) Tryz.func141 rfl (by rw [Tryz.ntmps141]; exact Nat.le_of_ble_eq_true rfl) (fun tmps w => by simp [results, Tryz.results141, go_sem, resVal]) ?_
    simp only [Tryz.ntmps141]
    repeat' (first | with_reducible refine Go1.go ?_ | ((with_reducible apply ev_go); (focus ((try simp (disch := omega) only [push_cast, simprocAttr, *]); (try exact rfl); done))) | ((with_reducible refine w_last ?_ ?_ ?_); kernel_rfl; rfl) | with_reducible refine Go2.go ?_ | ((with_reducible first | apply w_stepG | refine s_bi ?_ ?_ | refine blk_ne ?_ ?_); rfl) | ((with_reducible refine al_go ?_); intro b) | ((with_reducible first | refine w_region ?_ ?_ | refine w_dra ?_ ?_); kernel_rfl) | ((with_reducible refine Go3.go ?_ ?_); all_goals (intro hb; (try with_reducible intro hb1); (try (exfalso; first | contradiction | omega)))) | fail)
    all_goals (refine ret_eq (by simp) (by first | rfl | assumption) (by (repeat (first | exact List.Sublist.refl _ | apply List.Sublist.cons))) ?_; (try simp (disch := omega) only [push_cast, simprocAttr, *]); try (first | exact LE.refl _ | exact LE.sl _ _ | ((first | refine LE.tup ?_ | refine LE.agg ?_); (repeat' (first | exact LEL.nil | refine LEL.cons ?_ ?_ | exact LE.refl _ | exact LE.sl _ _ | refine LE.agg ?_)); done) | refine LE.of_eq ?_))
theorem regEqSlF (a b : List Sl) (ha : ∀ s ∈ a, s.dv.Bg) (hb : ∀ s ∈ b, s.dv.Bg) (hl : a.length ≤ 1000000) (hlb : b.length ≤ 1000000) (st : St) : TrF Tryz.prog 67 [.sl .shared (a.map Sl.cells), .sl .shared (b.map Sl.cells), .fn (.func 68) [] []] st fun d st' => d = .b (Reg.all2 Reg.slotS a b) ∧ st' = st := by
  obtain ⟨B, hB⟩ : ∃ B, Reg.all2 Reg.slotS a b = B := ⟨_, rfl⟩
  rw [hB]
  have hm1 : (a.map Sl.cells).length = a.length := List.length_map ..
  have hm2 : (b.map Sl.cells).length = b.length := List.length_map ..
  have hc1 : Hid (∀ (i : Nat) (v : Sl), a[i]? = some v → (a.map Sl.cells)[i]? = some (Sl.cells v)) := fun i v h => by rw [List.getElem?_map, h]; rfl
  have hc2 : Hid (∀ (i : Nat) (v : Sl), b[i]? = some v → (b.map Sl.cells)[i]? = some (Sl.cells v)) := fun i v h => by rw [List.getElem?_map, h]; rfl
  have ha2 := Lib.hid ha
  have hb2 := Lib.hid hb
  clear ha hb
  generalize a.map Sl.cells = AS at *
  generalize b.map Sl.cells = BS at *
  by_cases hlen : a.length = b.length
  · have HB : Hid (Reg.all2 Reg.slotS (a.drop 0) (b.drop 0) = B) := hB
    clear hB
    refine trF_enter (ts := [6]) Tryz.func67 rfl (by rw [Tryz.ntmps67]; exact Nat.le_of_ble_eq_true rfl) (fun tmps w => by simp [results, Tryz.results67, go_sem, resVal]) ?_
    simp only [Tryz.ntmps67]
    repeat' (first | with_reducible refine Go1.go ?_ | ((with_reducible apply ev_go); (focus ((try simp (disch := omega) only [push_cast, simprocAttr, *]); (try exact rfl); done))) | ((with_reducible refine w_last ?_ ?_ ?_); kernel_rfl; rfl) | with_reducible refine Go2.go ?_ | ((with_reducible first | apply w_stepG | refine s_bi ?_ ?_ | refine blk_ne ?_ ?_); rfl) | ((with_reducible refine al_go ?_); intro b) | ((with_reducible first | refine w_region ?_ ?_ | refine w_dra ?_ ?_); kernel_rfl) | ((with_reducible refine Go3.go ?_ ?_); all_goals (intro hb; (try with_reducible intro hb1); (try (exfalso; first | contradiction | omega)))) | fail)
    refine tr_loopd (ι := Nat) (fun i A st' => i ≤ a.length ∧ Hid (Reg.all2 Reg.slotS (a.drop i) (b.drop i) = B) ∧ A.df = [] ∧ A.e 1 = .sl .shared BS ∧ A.e 2 = .fn (.func 68) [] [] ∧ A.e 15 = .sl .shared AS ∧ A.e 16 = .i a.length ∧ A.e 17 = .i i ∧ st = st') (fun i => a.length - i) 0 ⟨Nat.zero_le _, HB, ?_, ?_, ?_, ?_, ?_, ?_, rfl⟩ ?_
    iterate 6 (focus (first | rfl | assumption | omega | (simp (disch := omega) only [push_cast, simprocAttr, *]; try omega; done)))
    rintro i A st' ⟨hi, HT, hdf, e1, e2, e15, e16, e17, rfl⟩
    clear HB
    by_cases hlt : i < a.length
    · obtain ⟨s, hs⟩ : ∃ s, a[i]? = some s := ⟨_, List.getElem?_eq_getElem hlt⟩
      obtain ⟨v, hv⟩ : ∃ v, b[i]? = some v := ⟨_, List.getElem?_eq_getElem (by omega)⟩
      have HE := HT.out
      rw [Reg.all2_drop hs hv] at HE
      have h1 := hc1.out i s hs
      have h2 := hc2.out i v hv
      have hF := regSlotF s v (ha2.out s (List.mem_of_getElem? hs)) (hb2.out v (List.mem_of_getElem? hv))
      clear HT hs hv
      obtain ⟨G, hGG⟩ : ∃ G, Reg.all2 Reg.slotS (a.drop (i + 1)) (b.drop (i + 1)) = G := ⟨_, rfl⟩
      rw [hGG] at HE
      replace hGG := Lib.hid hGG
      generalize Reg.slotS s v = q at *
      cases s with
      | mk an at_ ar av =>
      cases v with
      | mk bn bt br bv =>
      cases av with
      | mk k n s l =>
      cases bv with
      | mk k' n' s' l' =>
      rw [Sl.cells_mk] at h1 hF
      rw [Sl.cells_mk] at h2 hF
      replace hF := Lib.hid hF
      cases q with
      | true =>
        rw [Bool.true_and] at HE
        replace HE := Lib.hid (hGG.out.trans HE)
        clear hGG
        repeat' (first | with_reducible refine Go1.go ?_ | ((with_reducible apply ev_go); (focus ((try simp (disch := omega) only [push_cast, simprocAttr, *]); (try exact rfl); done))) | ((with_reducible refine w_last ?_ ?_ ?_); kernel_rfl; rfl) | with_reducible refine Go2.go ?_ | ((with_reducible first | apply w_stepG | refine s_bi ?_ ?_ | refine blk_ne ?_ ?_); rfl) | ((with_reducible refine al_go ?_); intro b) | ((with_reducible apply (ck_le Tryz.call68)); exact LEL.refl _; exact hF.out _) | ((with_reducible first | refine w_region ?_ ?_ | refine w_dra ?_ ?_); kernel_rfl) | ((with_reducible refine Go3.go ?_ ?_); all_goals (intro hb; (try with_reducible intro hb1); (try (exfalso; first | contradiction | omega)))) | fail)
        refine ⟨i + 1, st, (by (repeat (first | exact List.Sublist.refl _ | apply List.Sublist.cons))), ⟨hlt, HE, ?_, ?_, ?_, ?_, ?_, ?_, rfl⟩, by omega⟩
        all_goals (first | rfl | assumption | omega | (simp (disch := omega) only [push_cast, simprocAttr, *]; try omega; done))
      | false =>
        rw [Bool.false_and] at HE
        subst HE
        clear hGG
        repeat' (first | with_reducible refine Go1.go ?_ | ((with_reducible apply ev_go); (focus ((try simp (disch := omega) only [push_cast, simprocAttr, *]); (try exact rfl); done))) | ((with_reducible refine w_last ?_ ?_ ?_); kernel_rfl; rfl) | with_reducible refine Go2.go ?_ | ((with_reducible first | apply w_stepG | refine s_bi ?_ ?_ | refine blk_ne ?_ ?_); rfl) | ((with_reducible refine al_go ?_); intro b) | ((with_reducible apply (ck_le Tryz.call68)); exact LEL.refl _; exact hF.out _) | ((with_reducible first | refine w_region ?_ ?_ | refine w_dra ?_ ?_); kernel_rfl) | ((with_reducible refine Go3.go ?_ ?_); all_goals (intro hb; (try with_reducible intro hb1); (try (exfalso; first | contradiction | omega)))) | fail)
        all_goals (refine ret_eq (by simp) (by first | rfl | assumption) (by (repeat (first | exact List.Sublist.refl _ | apply List.Sublist.cons))) ?_; (try simp (disch := omega) only [push_cast, simprocAttr, *]); try (first | exact LE.refl _ | exact LE.sl _ _ | ((first | refine LE.tup ?_ | refine LE.agg ?_); (repeat' (first | exact LEL.nil | refine LEL.cons ?_ ?_ | exact LE.refl _ | exact LE.sl _ _ | refine LE.agg ?_)); done) | refine LE.of_eq ?_))
    · have HE := HT.out
      rw [List.drop_of_length_le (by omega), List.drop_of_length_le (by omega), Reg.all2] at HE
      subst HE
      clear HT
      repeat' (first | with_reducible refine Go1.go ?_ | ((with_reducible apply ev_go); (focus ((try simp (disch := omega) only [push_cast, simprocAttr, *]); (try exact rfl); done))) | ((with_reducible refine w_last ?_ ?_ ?_); kernel_rfl; rfl) | with_reducible refine Go2.go ?_ | ((with_reducible first | apply w_stepG | refine s_bi ?_ ?_ | refine blk_ne ?_ ?_); rfl) | ((with_reducible refine al_go ?_); intro b) | ((with_reducible first | refine w_region ?_ ?_ | refine w_dra ?_ ?_); kernel_rfl) | ((with_reducible refine Go3.go ?_ ?_); all_goals (intro hb; (try with_reducible intro hb1); (try (exfalso; first | contradiction | omega)))) | fail)
      all_goals (refine ret_eq (by simp) (by first | rfl | assumption) (by (repeat (first | exact List.Sublist.refl _ | apply List.Sublist.cons))) ?_; (try simp (disch := omega) only [push_cast, simprocAttr, *]); try (first | exact LE.refl _ | exact LE.sl _ _ | ((first | refine LE.tup ?_ | refine LE.agg ?_); (repeat' (first | exact LEL.nil | refine LEL.cons ?_ ?_ | exact LE.refl _ | exact LE.sl _ _ | refine LE.agg ?_)); done) | refine LE.of_eq ?_))
  · have hBf : B = false := by
      cases B with
      | false => rfl
      | true => exact absurd (Reg.all2_len _ _ hB) hlen
    subst hBf
    clear hB
    have hl2 : ¬ (a.length : Int) = (b.length : Int) := by omega
    clear hlen
    refine trF_enter (ts := [6]) Tryz.func67 rfl (by rw [Tryz.ntmps67]; exact Nat.le_of_ble_eq_true rfl) (fun tmps w => by simp [results, Tryz.results67, go_sem, resVal]) ?_
    simp only [Tryz.ntmps67]
    repeat' (first | with_reducible refine Go1.go ?_ | ((with_reducible apply ev_go); (focus ((try simp (disch := omega) only [push_cast, simprocAttr, *]); (try exact rfl); done))) | ((with_reducible refine w_last ?_ ?_ ?_); kernel_rfl; rfl) | with_reducible refine Go2.go ?_ | ((with_reducible first | apply w_stepG | refine s_bi ?_ ?_ | refine blk_ne ?_ ?_); rfl) | ((with_reducible refine al_go ?_); intro b) | ((with_reducible first | refine w_region ?_ ?_ | refine w_dra ?_ ?_); kernel_rfl) | ((with_reducible refine Go3.go ?_ ?_); all_goals (intro hb; (try with_reducible intro hb1); (try (exfalso; first | contradiction | omega)))) | fail)
    all_goals (refine ret_eq (by simp) (by first | rfl | assumption) (by (repeat (first | exact List.Sublist.refl _ | apply List.Sublist.cons))) ?_; (try simp (disch := omega) only [push_cast, simprocAttr, *]); try (first | exact LE.refl _ | exact LE.sl _ _ | ((first | refine LE.tup ?_ | refine LE.agg ?_); (repeat' (first | exact LEL.nil | refine LEL.cons ?_ ?_ | exact LE.refl _ | exact LE.sl _ _ | refine LE.agg ?_)); done) | refine LE.of_eq ?_))
theorem regStepSF (a b : Stp) (ha : a.slot.dv.Bg ∧ a.order.length ≤ 1000000) (hb : b.slot.dv.Bg ∧ b.order.length ≤ 1000000) (st : St) : TrF Tryz.prog 70 [.agg a.cells, .agg b.cells] st fun d st' => d = .b (Reg.stepS a b) ∧ st' = st := by
  have hS := regSlotF a.slot b.slot ha.1 hb.1
  have hI := intsEqF a.order b.order ha.2 hb.2
  clear ha hb
  unfold Reg.stepS
  generalize Reg.slotS a.slot b.slot = q3 at *
  generalize Reg.all2 (· == ·) a.order b.order = q4 at *
  cases a with
  | mk ak ac as_ ao =>
  cases b with
  | mk bk bc bs bo =>
  unfold Stp.cells
  dsimp only at *
  generalize ao.map encI = AO at *
  generalize bo.map encI = BO at *
  cases as_ with
  | mk an at_ ar av =>
  cases bs with
  | mk bn bt br bv =>
  cases av with
  | mk k n s l =>
  cases bv with
  | mk k' n' s' l' =>
  rw [Sl.cells_mk] at *
  rw [Sl.cells_mk] at *
  dsimp only [List.cons_append, List.nil_append] at *
  replace hS := Lib.hid hS
  replace hI := Lib.hid hI
  by_cases h1 : ak = bk
  · subst h1
    by_cases h2 : ac = bc
    · subst h2
      rw [beq_self_eq_true, beq_self_eq_true, Bool.true_and, Bool.true_and]
      cases q3
      all_goals (
        simp only [Bool.true_and, Bool.false_and]
        refine trF_enter (ts := [4]) Tryz.func70 rfl (by rw [Tryz.ntmps70]; exact Nat.le_of_ble_eq_true rfl) (fun tmps w => by simp [results, Tryz.results70, go_sem, resVal]) ?_
        simp only [Tryz.ntmps70]
        repeat' (first | with_reducible refine Go1.go ?_ | ((with_reducible apply ev_go); (focus ((try simp (disch := omega) only [push_cast, simprocAttr, *]); (try exact rfl); done))) | ((with_reducible refine w_last ?_ ?_ ?_); kernel_rfl; rfl) | with_reducible refine Go2.go ?_ | ((with_reducible first | apply w_stepG | refine s_bi ?_ ?_ | refine blk_ne ?_ ?_); rfl) | ((with_reducible refine al_go ?_); intro b) | ((with_reducible apply (ck_le Tryz.call68)); exact LEL.refl _; exact hS.out _) | ((with_reducible apply (ck_le Tryz.call141)); exact LEL.refl _; exact hI.out _) | ((with_reducible first | refine w_region ?_ ?_ | refine w_dra ?_ ?_); kernel_rfl) | ((with_reducible refine Go3.go ?_ ?_); all_goals (intro hb; (try with_reducible intro hb1); (try (exfalso; first | contradiction | omega)))) | fail)
        all_goals (refine ret_eq (by simp) (by first | rfl | assumption) (by (repeat (first | exact List.Sublist.refl _ | apply List.Sublist.cons))) ?_; (try simp (disch := omega) only [push_cast, simprocAttr, *]); try (first | exact LE.refl _ | exact LE.sl _ _ | ((first | refine LE.tup ?_ | refine LE.agg ?_); (repeat' (first | exact LEL.nil | refine LEL.cons ?_ ?_ | exact LE.refl _ | exact LE.sl _ _ | refine LE.agg ?_)); done) | refine LE.of_eq ?_)))
    · rw [beq_eq_false_iff_ne.2 h2, Bool.false_and, Bool.and_false]
      refine trF_enter (ts := [4]) Tryz.func70 rfl (by rw [Tryz.ntmps70]; exact Nat.le_of_ble_eq_true rfl) (fun tmps w => by simp [results, Tryz.results70, go_sem, resVal]) ?_
      simp only [Tryz.ntmps70]
      repeat' (first | with_reducible refine Go1.go ?_ | ((with_reducible apply ev_go); (focus ((try simp (disch := omega) only [push_cast, simprocAttr, *]); (try exact rfl); done))) | ((with_reducible refine w_last ?_ ?_ ?_); kernel_rfl; rfl) | with_reducible refine Go2.go ?_ | ((with_reducible first | apply w_stepG | refine s_bi ?_ ?_ | refine blk_ne ?_ ?_); rfl) | ((with_reducible refine al_go ?_); intro b) | ((with_reducible apply (ck_le Tryz.call68)); exact LEL.refl _; exact hS.out _) | ((with_reducible apply (ck_le Tryz.call141)); exact LEL.refl _; exact hI.out _) | ((with_reducible first | refine w_region ?_ ?_ | refine w_dra ?_ ?_); kernel_rfl) | ((with_reducible refine Go3.go ?_ ?_); all_goals (intro hb; (try with_reducible intro hb1); (try (exfalso; first | contradiction | omega)))) | fail)
      all_goals (refine ret_eq (by simp) (by first | rfl | assumption) (by (repeat (first | exact List.Sublist.refl _ | apply List.Sublist.cons))) ?_; (try simp (disch := omega) only [push_cast, simprocAttr, *]); try (first | exact LE.refl _ | exact LE.sl _ _ | ((first | refine LE.tup ?_ | refine LE.agg ?_); (repeat' (first | exact LEL.nil | refine LEL.cons ?_ ?_ | exact LE.refl _ | exact LE.sl _ _ | refine LE.agg ?_)); done) | refine LE.of_eq ?_))
  · rw [beq_eq_false_iff_ne.2 h1, Bool.false_and]
    refine trF_enter (ts := [4]) Tryz.func70 rfl (by rw [Tryz.ntmps70]; exact Nat.le_of_ble_eq_true rfl) (fun tmps w => by simp [results, Tryz.results70, go_sem, resVal]) ?_
    simp only [Tryz.ntmps70]
    repeat' (first | with_reducible refine Go1.go ?_ | ((with_reducible apply ev_go); (focus ((try simp (disch := omega) only [push_cast, simprocAttr, *]); (try exact rfl); done))) | ((with_reducible refine w_last ?_ ?_ ?_); kernel_rfl; rfl) | with_reducible refine Go2.go ?_ | ((with_reducible first | apply w_stepG | refine s_bi ?_ ?_ | refine blk_ne ?_ ?_); rfl) | ((with_reducible refine al_go ?_); intro b) | ((with_reducible apply (ck_le Tryz.call68)); exact LEL.refl _; exact hS.out _) | ((with_reducible apply (ck_le Tryz.call141)); exact LEL.refl _; exact hI.out _) | ((with_reducible first | refine w_region ?_ ?_ | refine w_dra ?_ ?_); kernel_rfl) | ((with_reducible refine Go3.go ?_ ?_); all_goals (intro hb; (try with_reducible intro hb1); (try (exfalso; first | contradiction | omega)))) | fail)
    all_goals (refine ret_eq (by simp) (by first | rfl | assumption) (by (repeat (first | exact List.Sublist.refl _ | apply List.Sublist.cons))) ?_; (try simp (disch := omega) only [push_cast, simprocAttr, *]); try (first | exact LE.refl _ | exact LE.sl _ _ | ((first | refine LE.tup ?_ | refine LE.agg ?_); (repeat' (first | exact LEL.nil | refine LEL.cons ?_ ?_ | exact LE.refl _ | exact LE.sl _ _ | refine LE.agg ?_)); done) | refine LE.of_eq ?_))
theorem regEqStpF (a b : List Stp) (ha : ∀ s ∈ a, s.slot.dv.Bg ∧ s.order.length ≤ 1000000) (hb : ∀ s ∈ b, s.slot.dv.Bg ∧ s.order.length ≤ 1000000) (hl : a.length ≤ 1000000) (hlb : b.length ≤ 1000000) (st : St) : TrF Tryz.prog 69 [.sl .shared (a.map Stp.cells), .sl .shared (b.map Stp.cells), .fn (.func 70) [] []] st fun d st' => d = .b (Reg.all2 Reg.stepS a b) ∧ st' = st := by
  obtain ⟨B, hB⟩ : ∃ B, Reg.all2 Reg.stepS a b = B := ⟨_, rfl⟩
  rw [hB]
  have hm1 : (a.map Stp.cells).length = a.length := List.length_map ..
  have hm2 : (b.map Stp.cells).length = b.length := List.length_map ..
  have hc1 : Hid (∀ (i : Nat) (v : Stp), a[i]? = some v → (a.map Stp.cells)[i]? = some (Stp.cells v)) := fun i v h => by rw [List.getElem?_map, h]; rfl
  have hc2 : Hid (∀ (i : Nat) (v : Stp), b[i]? = some v → (b.map Stp.cells)[i]? = some (Stp.cells v)) := fun i v h => by rw [List.getElem?_map, h]; rfl
  have ha2 := Lib.hid ha
  have hb2 := Lib.hid hb
  clear ha hb
  generalize a.map Stp.cells = AS at *
  generalize b.map Stp.cells = BS at *
  by_cases hlen : a.length = b.length
  · have HB : Hid (Reg.all2 Reg.stepS (a.drop 0) (b.drop 0) = B) := hB
    clear hB
    refine trF_enter (ts := [6]) Tryz.func69 rfl (by rw [Tryz.ntmps69]; exact Nat.le_of_ble_eq_true rfl) (fun tmps w => by simp [results, Tryz.results69, go_sem, resVal]) ?_
    simp only [Tryz.ntmps69]
    repeat' (first | with_reducible refine Go1.go ?_ | ((with_reducible apply ev_go); (focus ((try simp (disch := omega) only [push_cast, simprocAttr, *]); (try exact rfl); done))) | ((with_reducible refine w_last ?_ ?_ ?_); kernel_rfl; rfl) | with_reducible refine Go2.go ?_ | ((with_reducible first | apply w_stepG | refine s_bi ?_ ?_ | refine blk_ne ?_ ?_); rfl) | ((with_reducible refine al_go ?_); intro b) | ((with_reducible first | refine w_region ?_ ?_ | refine w_dra ?_ ?_); kernel_rfl) | ((with_reducible refine Go3.go ?_ ?_); all_goals (intro hb; (try with_reducible intro hb1); (try (exfalso; first | contradiction | omega)))) | fail)
    refine tr_loopd (ι := Nat) (fun i A st' => i ≤ a.length ∧ Hid (Reg.all2 Reg.stepS (a.drop i) (b.drop i) = B) ∧ A.df = [] ∧ A.e 1 = .sl .shared BS ∧ A.e 2 = .fn (.func 70) [] [] ∧ A.e 15 = .sl .shared AS ∧ A.e 16 = .i a.length ∧ A.e 17 = .i i ∧ st = st') (fun i => a.length - i) 0 ⟨Nat.zero_le _, HB, ?_, ?_, ?_, ?_, ?_, ?_, rfl⟩ ?_
    iterate 6 (focus (first | rfl | assumption | omega | (simp (disch := omega) only [push_cast, simprocAttr, *]; try omega; done)))
    rintro i A st' ⟨hi, HT, hdf, e1, e2, e15, e16, e17, rfl⟩
    clear HB
    by_cases hlt : i < a.length
    · obtain ⟨s, hs⟩ : ∃ s, a[i]? = some s := ⟨_, List.getElem?_eq_getElem hlt⟩
      obtain ⟨v, hv⟩ : ∃ v, b[i]? = some v := ⟨_, List.getElem?_eq_getElem (by omega)⟩
      have HE := HT.out
      rw [Reg.all2_drop hs hv] at HE
      have h1 := hc1.out i s hs
      have h2 := hc2.out i v hv
      have hF := regStepSF s v (ha2.out s (List.mem_of_getElem? hs)) (hb2.out v (List.mem_of_getElem? hv))
      clear HT hs hv
      obtain ⟨G, hGG⟩ : ∃ G, Reg.all2 Reg.stepS (a.drop (i + 1)) (b.drop (i + 1)) = G := ⟨_, rfl⟩
      rw [hGG] at HE
      replace hGG := Lib.hid hGG
      generalize Reg.stepS s v = q at *
      cases s with
      | mk ak ac as_ ao =>
      cases v with
      | mk bk bc bs bo =>
      cases as_ with
      | mk an at_ ar av =>
      cases bs with
      | mk bn bt br bv =>
      cases av with
      | mk k n s l =>
      cases bv with
      | mk k' n' s' l' =>
      unfold Stp.cells at h1 h2 hF
      dsimp only at *
      rw [Sl.cells_mk] at h1 hF
      rw [Sl.cells_mk] at h2 hF
      dsimp only [List.cons_append, List.nil_append] at *
      generalize ao.map encI = AO at *
      generalize bo.map encI = BO at *
      replace hF := Lib.hid hF
      cases q with
      | true =>
        rw [Bool.true_and] at HE
        replace HE := Lib.hid (hGG.out.trans HE)
        clear hGG
        repeat' (first | with_reducible refine Go1.go ?_ | ((with_reducible apply ev_go); (focus ((try simp (disch := omega) only [push_cast, simprocAttr, *]); (try exact rfl); done))) | ((with_reducible refine w_last ?_ ?_ ?_); kernel_rfl; rfl) | with_reducible refine Go2.go ?_ | ((with_reducible first | apply w_stepG | refine s_bi ?_ ?_ | refine blk_ne ?_ ?_); rfl) | ((with_reducible refine al_go ?_); intro b) | ((with_reducible apply (ck_le Tryz.call70)); exact LEL.refl _; exact hF.out _) | ((with_reducible first | refine w_region ?_ ?_ | refine w_dra ?_ ?_); kernel_rfl) | ((with_reducible refine Go3.go ?_ ?_); all_goals (intro hb; (try with_reducible intro hb1); (try (exfalso; first | contradiction | omega)))) | fail)
        refine ⟨i + 1, st, (by (repeat (first | exact List.Sublist.refl _ | apply List.Sublist.cons))), ⟨hlt, HE, ?_, ?_, ?_, ?_, ?_, ?_, rfl⟩, by omega⟩
        all_goals (first | rfl | assumption | omega | (simp (disch := omega) only [push_cast, simprocAttr, *]; try omega; done))
      | false =>
        rw [Bool.false_and] at HE
        subst HE
        clear hGG
        repeat' (first | with_reducible refine Go1.go ?_ | ((with_reducible apply ev_go); (focus ((try simp (disch := omega) only [push_cast, simprocAttr, *]); (try exact rfl); done))) | ((with_reducible refine w_last ?_ ?_ ?_); kernel_rfl; rfl) | with_reducible refine Go2.go ?_ | ((with_reducible first | apply w_stepG | refine s_bi ?_ ?_ | refine blk_ne ?_ ?_); rfl) | ((with_reducible refine al_go ?_); intro b) | ((with_reducible apply (ck_le Tryz.call70)); exact LEL.refl _; exact hF.out _) | ((with_reducible first | refine w_region ?_ ?_ | refine w_dra ?_ ?_); kernel_rfl) | ((with_reducible refine Go3.go ?_ ?_); all_goals (intro hb; (try with_reducible intro hb1); (try (exfalso; first | contradiction | omega)))) | fail)
        all_goals (refine ret_eq (by simp) (by first | rfl | assumption) (by (repeat (first | exact List.Sublist.refl _ | apply List.Sublist.cons))) ?_; (try simp (disch := omega) only [push_cast, simprocAttr, *]); try (first | exact LE.refl _ | exact LE.sl _ _ | ((first | refine LE.tup ?_ | refine LE.agg ?_); (repeat' (first | exact LEL.nil | refine LEL.cons ?_ ?_ | exact LE.refl _ | exact LE.sl _ _ | refine LE.agg ?_)); done) | refine LE.of_eq ?_))
    · have HE := HT.out
      rw [List.drop_of_length_le (by omega), List.drop_of_length_le (by omega), Reg.all2] at HE
      subst HE
      clear HT
      repeat' (first | with_reducible refine Go1.go ?_ | ((with_reducible apply ev_go); (focus ((try simp (disch := omega) only [push_cast, simprocAttr, *]); (try exact rfl); done))) | ((with_reducible refine w_last ?_ ?_ ?_); kernel_rfl; rfl) | with_reducible refine Go2.go ?_ | ((with_reducible first | apply w_stepG | refine s_bi ?_ ?_ | refine blk_ne ?_ ?_); rfl) | ((with_reducible refine al_go ?_); intro b) | ((with_reducible first | refine w_region ?_ ?_ | refine w_dra ?_ ?_); kernel_rfl) | ((with_reducible refine Go3.go ?_ ?_); all_goals (intro hb; (try with_reducible intro hb1); (try (exfalso; first | contradiction | omega)))) | fail)
      all_goals (refine ret_eq (by simp) (by first | rfl | assumption) (by (repeat (first | exact List.Sublist.refl _ | apply List.Sublist.cons))) ?_; (try simp (disch := omega) only [push_cast, simprocAttr, *]); try (first | exact LE.refl _ | exact LE.sl _ _ | ((first | refine LE.tup ?_ | refine LE.agg ?_); (repeat' (first | exact LEL.nil | refine LEL.cons ?_ ?_ | exact LE.refl _ | exact LE.sl _ _ | refine LE.agg ?_)); done) | refine LE.of_eq ?_))
  · have hBf : B = false := by
      cases B with
      | false => rfl
      | true => exact absurd (Reg.all2_len _ _ hB) hlen
    subst hBf
    clear hB
    have hl2 : ¬ (a.length : Int) = (b.length : Int) := by omega
    clear hlen
    refine trF_enter (ts := [6]) Tryz.func69 rfl (by rw [Tryz.ntmps69]; exact Nat.le_of_ble_eq_true rfl) (fun tmps w => by simp [results, Tryz.results69, go_sem, resVal]) ?_
    simp only [Tryz.ntmps69]
    repeat' (first | with_reducible refine Go1.go ?_ | ((with_reducible apply ev_go); (focus ((try simp (disch := omega) only [push_cast, simprocAttr, *]); (try exact rfl); done))) | ((with_reducible refine w_last ?_ ?_ ?_); kernel_rfl; rfl) | with_reducible refine Go2.go ?_ | ((with_reducible first | apply w_stepG | refine s_bi ?_ ?_ | refine blk_ne ?_ ?_); rfl) | ((with_reducible refine al_go ?_); intro b) | ((with_reducible first | refine w_region ?_ ?_ | refine w_dra ?_ ?_); kernel_rfl) | ((with_reducible refine Go3.go ?_ ?_); all_goals (intro hb; (try with_reducible intro hb1); (try (exfalso; first | contradiction | omega)))) | fail)
    all_goals (refine ret_eq (by simp) (by first | rfl | assumption) (by (repeat (first | exact List.Sublist.refl _ | apply List.Sublist.cons))) ?_; (try simp (disch := omega) only [push_cast, simprocAttr, *]); try (first | exact LE.refl _ | exact LE.sl _ _ | ((first | refine LE.tup ?_ | refine LE.agg ?_); (repeat' (first | exact LEL.nil | refine LEL.cons ?_ ?_ | exact LE.refl _ | exact LE.sl _ _ | refine LE.agg ?_)); done) | refine LE.of_eq ?_))
theorem regTmSF (a b : Tm) (ha : Reg.TmQ a) (hb : Reg.TmQ b) (st : St) : TrF Tryz.prog 66 [.agg a.cells, .agg b.cells] st fun d st' => d = .b (Reg.tmS a b) ∧ st' = st := by
  have hS := regEqSlF a.slots b.slots ha.os hb.os ha.ls hb.ls
  have hP := regEqStpF a.steps b.steps ha.ot hb.ot ha.lt hb.lt
  clear ha hb
  unfold Reg.tmS Tm.cells
  generalize Reg.all2 Reg.slotS a.slots b.slots = q2 at *
  generalize Reg.all2 Reg.stepS a.steps b.steps = q3 at *
  generalize a.slots.map Sl.cells = S1 at *
  generalize a.steps.map Stp.cells = T1 at *
  generalize a.name = n1 at *
  generalize b.slots.map Sl.cells = S2 at *
  generalize b.steps.map Stp.cells = T2 at *
  generalize b.name = n2 at *
  generalize hq1 : (n1.toList == n2.toList) = q1
  replace hS := Lib.hid hS
  replace hP := Lib.hid hP
  cases q1
  all_goals (
    cases q2
    all_goals (
      simp only [Bool.true_and, Bool.false_and]
      refine trF_enter (ts := [4]) Tryz.func66 rfl (by rw [Tryz.ntmps66]; exact Nat.le_of_ble_eq_true rfl) (fun tmps w => by simp [results, Tryz.results66, go_sem, resVal]) ?_
      simp only [Tryz.ntmps66]
      repeat' (first | with_reducible refine Go1.go ?_ | ((with_reducible apply ev_go); (focus ((try simp (disch := omega) only [push_cast, simprocAttr, *]); (try exact rfl); done))) | ((with_reducible refine w_last ?_ ?_ ?_); kernel_rfl; rfl) | with_reducible refine Go2.go ?_ | ((with_reducible first | apply w_stepG | refine s_bi ?_ ?_ | refine blk_ne ?_ ?_); rfl) | ((with_reducible refine al_go ?_); intro b) | ((with_reducible apply (ck_le Tryz.call67)); exact LEL.refl _; exact hS.out _) | ((with_reducible apply (ck_le Tryz.call69)); exact LEL.refl _; exact hP.out _) | ((with_reducible first | refine w_region ?_ ?_ | refine w_dra ?_ ?_); kernel_rfl) | ((with_reducible refine Go3.go ?_ ?_); all_goals (intro hb; (try with_reducible intro hb1); (try (exfalso; first | contradiction | omega)))) | fail)
      all_goals (refine ret_eq (by simp) (by first | rfl | assumption) (by (repeat (first | exact List.Sublist.refl _ | apply List.Sublist.cons))) ?_; (try simp (disch := omega) only [push_cast, simprocAttr, *]); try (first | exact LE.refl _ | exact LE.sl _ _ | ((first | refine LE.tup ?_ | refine LE.agg ?_); (repeat' (first | exact LEL.nil | refine LEL.cons ?_ ?_ | exact LE.refl _ | exact LE.sl _ _ | refine LE.agg ?_)); done) | refine LE.of_eq ?_))))
theorem regEqTmF (a b : List Tm) (ha : ∀ s ∈ a, Reg.TmQ s) (hb : ∀ s ∈ b, Reg.TmQ s) (hl : a.length ≤ 1000000) (hlb : b.length ≤ 1000000) (st : St) : TrF Tryz.prog 65 [.sl .shared (a.map Tm.cells), .sl .shared (b.map Tm.cells), .fn (.func 66) [] []] st fun d st' => d = .b (Reg.all2 Reg.tmS a b) ∧ st' = st := by
  obtain ⟨B, hB⟩ : ∃ B, Reg.all2 Reg.tmS a b = B := ⟨_, rfl⟩
  rw [hB]
  have hm1 : (a.map Tm.cells).length = a.length := List.length_map ..
  have hm2 : (b.map Tm.cells).length = b.length := List.length_map ..
  have hc1 : Hid (∀ (i : Nat) (v : Tm), a[i]? = some v → (a.map Tm.cells)[i]? = some (Tm.cells v)) := fun i v h => by rw [List.getElem?_map, h]; rfl
  have hc2 : Hid (∀ (i : Nat) (v : Tm), b[i]? = some v → (b.map Tm.cells)[i]? = some (Tm.cells v)) := fun i v h => by rw [List.getElem?_map, h]; rfl
  have ha2 := Lib.hid ha
  have hb2 := Lib.hid hb
  clear ha hb
  generalize a.map Tm.cells = AS at *
  generalize b.map Tm.cells = BS at *
  by_cases hlen : a.length = b.length
  · have HB : Hid (Reg.all2 Reg.tmS (a.drop 0) (b.drop 0) = B) := hB
    clear hB
    refine trF_enter (ts := [6]) Tryz.func65 rfl (by rw [Tryz.ntmps65]; exact Nat.le_of_ble_eq_true rfl) (fun tmps w => by simp [results, Tryz.results65, go_sem, resVal]) ?_
    simp only [Tryz.ntmps65]
    repeat' (first | with_reducible refine Go1.go ?_ | ((with_reducible apply ev_go); (focus ((try simp (disch := omega) only [push_cast, simprocAttr, *]); (try exact rfl); done))) | ((with_reducible refine w_last ?_ ?_ ?_); kernel_rfl; rfl) | with_reducible refine Go2.go ?_ | ((with_reducible first | apply w_stepG | refine s_bi ?_ ?_ | refine blk_ne ?_ ?_); rfl) | ((with_reducible refine al_go ?_); intro b) | ((with_reducible first | refine w_region ?_ ?_ | refine w_dra ?_ ?_); kernel_rfl) | ((with_reducible refine Go3.go ?_ ?_); all_goals (intro hb; (try with_reducible intro hb1); (try (exfalso; first | contradiction | omega)))) | fail)
    refine tr_loopd (ι := Nat) (fun i A st' => i ≤ a.length ∧ Hid (Reg.all2 Reg.tmS (a.drop i) (b.drop i) = B) ∧ A.df = [] ∧ A.e 1 = .sl .shared BS ∧ A.e 2 = .fn (.func 66) [] [] ∧ A.e 15 = .sl .shared AS ∧ A.e 16 = .i a.length ∧ A.e 17 = .i i ∧ st = st') (fun i => a.length - i) 0 ⟨Nat.zero_le _, HB, ?_, ?_, ?_, ?_, ?_, ?_, rfl⟩ ?_
    iterate 6 (focus (first | rfl | assumption | omega | (simp (disch := omega) only [push_cast, simprocAttr, *]; try omega; done)))
    rintro i A st' ⟨hi, HT, hdf, e1, e2, e15, e16, e17, rfl⟩
    clear HB
    by_cases hlt : i < a.length
    · obtain ⟨s, hs⟩ : ∃ s, a[i]? = some s := ⟨_, List.getElem?_eq_getElem hlt⟩
      obtain ⟨v, hv⟩ : ∃ v, b[i]? = some v := ⟨_, List.getElem?_eq_getElem (by omega)⟩
      have HE := HT.out
      rw [Reg.all2_drop hs hv] at HE
      have h1 := hc1.out i s hs
      have h2 := hc2.out i v hv
      have hF := regTmSF s v (ha2.out s (List.mem_of_getElem? hs)) (hb2.out v (List.mem_of_getElem? hv))
      clear HT hs hv
      obtain ⟨G, hGG⟩ : ∃ G, Reg.all2 Reg.tmS (a.drop (i + 1)) (b.drop (i + 1)) = G := ⟨_, rfl⟩
      rw [hGG] at HE
      replace hGG := Lib.hid hGG
      generalize Reg.tmS s v = q at *
      unfold Tm.cells at h1 h2 hF
      generalize s.slots.map Sl.cells = S1 at *
      generalize s.steps.map Stp.cells = T1 at *
      generalize s.name = n1 at *
      generalize v.slots.map Sl.cells = S2 at *
      generalize v.steps.map Stp.cells = T2 at *
      generalize v.name = n2 at *
      replace hF := Lib.hid hF
      cases q with
      | true =>
        rw [Bool.true_and] at HE
        replace HE := Lib.hid (hGG.out.trans HE)
        clear hGG
        repeat' (first | with_reducible refine Go1.go ?_ | ((with_reducible apply ev_go); (focus ((try simp (disch := omega) only [push_cast, simprocAttr, *]); (try exact rfl); done))) | ((with_reducible refine w_last ?_ ?_ ?_); kernel_rfl; rfl) | with_reducible refine Go2.go ?_ | ((with_reducible first | apply w_stepG | refine s_bi ?_ ?_ | refine blk_ne ?_ ?_); rfl) | ((with_reducible refine al_go ?_); intro b) | ((with_reducible apply (ck_le Tryz.call66)); exact LEL.refl _; exact hF.out _) | ((with_reducible first | refine w_region ?_ ?_ | refine w_dra ?_ ?_); kernel_rfl) | ((with_reducible refine Go3.go ?_ ?_); all_goals (intro hb; (try with_reducible intro hb1); (try (exfalso; first | contradiction | omega)))) | fail)
        refine ⟨i + 1, st, (by (repeat (first | exact List.Sublist.refl _ | apply List.Sublist.cons))), ⟨hlt, HE, ?_, ?_, ?_, ?_, ?_, ?_, rfl⟩, by omega⟩
        all_goals (first | rfl | assumption | omega | (simp (disch := omega) only [push_cast, simprocAttr, *]; try omega; done))
      | false =>
        rw [Bool.false_and] at HE
        subst HE
        clear hGG
        repeat' (first | with_reducible refine Go1.go ?_ | ((with_reducible apply ev_go); (focus ((try simp (disch := omega) only [push_cast, simprocAttr, *]); (try exact rfl); done))) | ((with_reducible refine w_last ?_ ?_ ?_); kernel_rfl; rfl) | with_reducible refine Go2.go ?_ | ((with_reducible first | apply w_stepG | refine s_bi ?_ ?_ | refine blk_ne ?_ ?_); rfl) | ((with_reducible refine al_go ?_); intro b) | ((with_reducible apply (ck_le Tryz.call66)); exact LEL.refl _; exact hF.out _) | ((with_reducible first | refine w_region ?_ ?_ | refine w_dra ?_ ?_); kernel_rfl) | ((with_reducible refine Go3.go ?_ ?_); all_goals (intro hb; (try with_reducible intro hb1); (try (exfalso; first | contradiction | omega)))) | fail)
        all_goals (refine ret_eq (by simp) (by first | rfl | assumption) (by (repeat (first | exact List.Sublist.refl _ | apply List.Sublist.cons))) ?_; (try simp (disch := omega) only [push_cast, simprocAttr, *]); try (first | exact LE.refl _ | exact LE.sl _ _ | ((first | refine LE.tup ?_ | refine LE.agg ?_); (repeat' (first | exact LEL.nil | refine LEL.cons ?_ ?_ | exact LE.refl _ | exact LE.sl _ _ | refine LE.agg ?_)); done) | refine LE.of_eq ?_))
    · have HE := HT.out
      rw [List.drop_of_length_le (by omega), List.drop_of_length_le (by omega), Reg.all2] at HE
      subst HE
      clear HT
      repeat' (first | with_reducible refine Go1.go ?_ | ((with_reducible apply ev_go); (focus ((try simp (disch := omega) only [push_cast, simprocAttr, *]); (try exact rfl); done))) | ((with_reducible refine w_last ?_ ?_ ?_); kernel_rfl; rfl) | with_reducible refine Go2.go ?_ | ((with_reducible first | apply w_stepG | refine s_bi ?_ ?_ | refine blk_ne ?_ ?_); rfl) | ((with_reducible refine al_go ?_); intro b) | ((with_reducible first | refine w_region ?_ ?_ | refine w_dra ?_ ?_); kernel_rfl) | ((with_reducible refine Go3.go ?_ ?_); all_goals (intro hb; (try with_reducible intro hb1); (try (exfalso; first | contradiction | omega)))) | fail)
      all_goals (refine ret_eq (by simp) (by first | rfl | assumption) (by (repeat (first | exact List.Sublist.refl _ | apply List.Sublist.cons))) ?_; (try simp (disch := omega) only [push_cast, simprocAttr, *]); try (first | exact LE.refl _ | exact LE.sl _ _ | ((first | refine LE.tup ?_ | refine LE.agg ?_); (repeat' (first | exact LEL.nil | refine LEL.cons ?_ ?_ | exact LE.refl _ | exact LE.sl _ _ | refine LE.agg ?_)); done) | refine LE.of_eq ?_))
  · have hBf : B = false := by
      cases B with
      | false => rfl
      | true => exact absurd (Reg.all2_len _ _ hB) hlen
    subst hBf
    clear hB
    have hl2 : ¬ (a.length : Int) = (b.length : Int) := by omega
    clear hlen
    refine trF_enter (ts := [6]) Tryz.func65 rfl (by rw [Tryz.ntmps65]; exact Nat.le_of_ble_eq_true rfl) (fun tmps w => by simp [results, Tryz.results65, go_sem, resVal]) ?_
    simp only [Tryz.ntmps65]
    repeat' (first | with_reducible refine Go1.go ?_ | ((with_reducible apply ev_go); (focus ((try simp (disch := omega) only [push_cast, simprocAttr, *]); (try exact rfl); done))) | ((with_reducible refine w_last ?_ ?_ ?_); kernel_rfl; rfl) | with_reducible refine Go2.go ?_ | ((with_reducible first | apply w_stepG | refine s_bi ?_ ?_ | refine blk_ne ?_ ?_); rfl) | ((with_reducible refine al_go ?_); intro b) | ((with_reducible first | refine w_region ?_ ?_ | refine w_dra ?_ ?_); kernel_rfl) | ((with_reducible refine Go3.go ?_ ?_); all_goals (intro hb; (try with_reducible intro hb1); (try (exfalso; first | contradiction | omega)))) | fail)
    all_goals (refine ret_eq (by simp) (by first | rfl | assumption) (by (repeat (first | exact List.Sublist.refl _ | apply List.Sublist.cons))) ?_; (try simp (disch := omega) only [push_cast, simprocAttr, *]); try (first | exact LE.refl _ | exact LE.sl _ _ | ((first | refine LE.tup ?_ | refine LE.agg ?_); (repeat' (first | exact LEL.nil | refine LEL.cons ?_ ?_ | exact LE.refl _ | exact LE.sl _ _ | refine LE.agg ?_)); done) | refine LE.of_eq ?_))
theorem regSameF (a b : List Tm) (ha : ∀ t ∈ a, Reg.TmQ t) (hb : ∀ t ∈ b, Reg.TmQ t) (hl : a.length ≤ 1000000) (hlb : b.length ≤ 1000000) (st : St) : TrF Tryz.prog 23 [.sl .shared (a.map Tm.cells), .sl .shared (b.map Tm.cells)] st fun d st' => d = .b (Reg.same a b) ∧ st' = st := by
  have hE := regEqTmF a b ha hb hl hlb
  unfold Reg.same
  generalize Reg.all2 Reg.tmS a b = q at *
  generalize a.map Tm.cells = AS at *
  generalize b.map Tm.cells = BS at *
  replace hE := Lib.hid hE
  clear ha hb
  refine trF_enter (ts := [4]) Tryz.func23 rfl (by rw [Tryz.ntmps23]; exact Nat.le_of_ble_eq_true rfl) (fun tmps w => by simp [results, Tryz.results23, go_sem, resVal]) ?_
  simp only [Tryz.ntmps23]
  repeat' (first | with_reducible refine Go1.go ?_ | ((with_reducible apply ev_go); (focus ((try simp (disch := omega) only [push_cast, simprocAttr, *]); (try exact rfl); done))) | ((with_reducible refine w_last ?_ ?_ ?_); kernel_rfl; rfl) | with_reducible refine Go2.go ?_ | ((with_reducible first | apply w_stepG | refine s_bi ?_ ?_ | refine blk_ne ?_ ?_); rfl) | ((with_reducible refine al_go ?_); intro b) | ((with_reducible apply (ck_le Tryz.call65)); exact LEL.refl _; exact hE.out _) | ((with_reducible first | refine w_region ?_ ?_ | refine w_dra ?_ ?_); kernel_rfl) | ((with_reducible refine Go3.go ?_ ?_); all_goals (intro hb; (try with_reducible intro hb1); (try (exfalso; first | contradiction | omega)))) | fail)
  all_goals (refine ret_eq (by simp) (by first | rfl | assumption) (by (repeat (first | exact List.Sublist.refl _ | apply List.Sublist.cons))) ?_; (try simp (disch := omega) only [push_cast, simprocAttr, *]); try (first | exact LE.refl _ | exact LE.sl _ _ | ((first | refine LE.tup ?_ | refine LE.agg ?_); (repeat' (first | exact LEL.nil | refine LEL.cons ?_ ?_ | exact LE.refl _ | exact LE.sl _ _ | refine LE.agg ?_)); done) | refine LE.of_eq ?_))
end Go.Proofs.YtgcienlfpnpbgaaGreat
end

section
namespace Go.Proofs.YtgcienlfpnpbgaaGreat
set_option linter.unusedSimpArgs false
open Go.RowKit
namespace RS
theorem vals_nodes {f : RS → V × RS} {B : Nat} (hf : ∀ s, (f s).1.nodes ≤ B) : ∀ n s, V.nodesL (vals f n s).1 ≤ n * B
  | 0, s => by rw [vals]; simp [V.nodesL]
  | n + 1, s => by
    rw [vals]
    split
    · simp [V.nodesL]
    · have h1 := vals_nodes hf n (f s).2
      have h2 := hf s
      dsimp only
      rw [V.nodesL, Nat.succ_mul]
      omega
theorem body_nodes {f : Option (RS → V × RS)} {B : Nat} (hf : ∀ g, f = some g → ∀ s, (g s).1.nodes ≤ B) (s : RS) : (body f s).1.nodes ≤ 1 + 20 * B := by
  unfold body
  split
  · simp [V.nodes, V.nodesL]
  split
  · simp [V.nodes, V.nodesL]
  split
  · simp [V.nodes, V.nodesL]
  split
  · unfold list5
    cases f with
    | none => simp [V.nodes, V.nodesL]
    | some g =>
      dsimp only
      split
      · simp [V.nodes, V.nodesL]
      · rename_i hn
        have h1 := vals_nodes (hf g rfl) s.byte.2.rnum.1.toNat s.byte.2.rnum.2
        have h2 : s.byte.2.rnum.1.toNat * B ≤ 20 * B := Nat.mul_le_mul_right _ (by omega)
        dsimp only
        rw [V.nodes]
        omega
  · simp [V.nodes, V.nodesL]
theorem value_nodes4 (s : RS) : (value 4 s).1.nodes ≤ 4611686018427387904 := by
  have h0 := fun s => body_nodes (f := none) (B := 0) (fun g h => by cases h) s
  have h1 := fun s => body_nodes (f := some (value 0)) (B := 1 + 20 * 0) (fun g h => by cases h; exact h0) s
  have h2 := fun s => body_nodes (f := some (value 1)) (B := 1 + 20 * (1 + 20 * 0)) (fun g h => by cases h; exact h1) s
  have h3 := fun s => body_nodes (f := some (value 2)) (B := 1 + 20 * (1 + 20 * (1 + 20 * 0))) (fun g h => by cases h; exact h2) s
  have h4 := body_nodes (f := some (value 3)) (B := 1 + 20 * (1 + 20 * (1 + 20 * (1 + 20 * 0)))) (fun g h => by cases h; exact h3) s
  exact Nat.le_trans h4 (by decide)
end RS
end Go.Proofs.YtgcienlfpnpbgaaGreat
end

section
namespace Go.Proofs.YtgcienlfpnpbgaaGreat
set_option linter.unusedSimpArgs false
attribute [local push_cast] encB encI RS.cells V.cells_mk V.cells_len Nat.mul_one Int.sub_zero List.map_nil beq_self_eq_true bne_self_eq_false List.head?_cons
open Go.RowKit B
set_option maxRecDepth 10000
set_option maxHeartbeats 8000000
namespace Reg
def rdL {α : Type} (f : RS → α × RS) : Nat → RS → List α × RS
  | 0, s => ([], s)
  | n + 1, s => if s.bad = true then ([], s) else ((f s).1 :: (rdL f n (f s).2).1, (rdL f n (f s).2).2)
def rlist {α : Type} (f : RS → α × RS) (k : Int) (s : RS) : List α × RS := rdL f (if k < s.rnum.1 then k else s.rnum.1).toNat s.rnum.2
def slot0 : Sl := ⟨⟨#[]⟩, 0, false, V.zero⟩
def getSlot (s : RS) : Sl × RS :=
  (⟨if 1 < s.text.2.byte.2.byte.1 then ⟨#[]⟩ else s.text.1, s.text.2.byte.1, s.text.2.byte.2.byte.1 == 1, s.text.2.byte.2.byte.2.val.1⟩, s.text.2.byte.2.byte.2.val.2)
def getStep (s : RS) : Stp × RS :=
  if s.byte.1 = 1 then (⟨1, 0, (getSlot s.byte.2).1, []⟩, (getSlot s.byte.2).2)
  else if s.byte.1 = 2 then (⟨2, s.byte.2.byte.1, slot0, []⟩, s.byte.2.byte.2)
  else if s.byte.1 = 3 then (⟨3, s.byte.2.byte.1, { slot0 with name := s.byte.2.byte.2.text.1 }, []⟩, s.byte.2.byte.2.text.2)
  else if s.byte.1 = 4 then (⟨4, s.byte.2.byte.1, { slot0 with types := s.byte.2.byte.2.byte.1 }, []⟩, s.byte.2.byte.2.byte.2)
  else if s.byte.1 = 5 then (⟨5, 0, slot0, (rlist RS.byte 9 s.byte.2).1⟩, (rlist RS.byte 9 s.byte.2).2)
  else (⟨s.byte.1, 0, slot0, []⟩, s.byte.2)
def getTm (s : RS) : Tm × RS :=
  (⟨s.text.1, (rlist getSlot 9 s.text.2).1, (rlist getStep 9 (rlist getSlot 9 s.text.2).2).1⟩, (rlist getStep 9 (rlist getSlot 9 s.text.2).2).2)
def read (s : RS) : Option (List Tm) × RS :=
  if (rlist getTm 7 s).2.bad = true ∨ right (rlist getTm 7 s).1 = false then (none, (rlist getTm 7 s).2) else (some (rlist getTm 7 s).1, (rlist getTm 7 s).2)
end Reg
theorem regGetSlotF (rb : Nat) (s : RS) (st : St) : TrF Tryz.prog 77 [.ptr rb 0] (rdR rb s :: st) fun x st' => x = .agg (Reg.getSlot s).1.cells ∧ st' = rdR rb (Reg.getSlot s).2 :: st := by
  have hT := rdTextF rb s
  unfold Reg.getSlot
  generalize s.text = q1 at *
  obtain ⟨nm, s1⟩ := q1
  dsimp only at *
  have hB1 := rdByteF rb s1
  generalize s1.byte = q2 at *
  obtain ⟨ty, s2⟩ := q2
  dsimp only at *
  have hB2 := rdByteF rb s2
  generalize s2.byte = q3 at *
  obtain ⟨rq, s3⟩ := q3
  dsimp only at *
  have hV := rdValF rb s3 (RS.value_nodes4 s3)
  generalize s3.val = q4 at *
  obtain ⟨⟨k, n, sv, lv⟩, s4⟩ := q4
  dsimp only at *
  rw [V.cells_mk] at hV
  rw [Sl.cells_mk]
  replace hT := Lib.hid hT
  replace hB1 := Lib.hid hB1
  replace hB2 := Lib.hid hB2
  replace hV := Lib.hid hV
  by_cases h1 : 1 < rq
  · rw [if_pos h1]
    refine trF_enterC (G := cellA 2 75 Tryz.prog) Tryz.func77 rfl (by rw [Tryz.ntmps77]; exact Nat.le_of_ble_eq_true rfl) (fun h1 h2 h3 => res_cell rfl h1 h2 h3) ?_
    simp only [Tryz.ntmps77]
    repeat' (first | with_reducible refine Go1.go ?_ | ((with_reducible apply ev_go); (focus ((try simp (disch := omega) only [push_cast, simprocAttr, *]); (try exact rfl); done))) | ((with_reducible refine w_last ?_ ?_ ?_); kernel_rfl; rfl) | with_reducible refine Go2.go ?_ | ((with_reducible first | apply w_stepG | refine s_bi ?_ ?_ | refine blk_ne ?_ ?_); rfl) | ((with_reducible refine al_go ?_); intro b) | ((with_reducible apply (ck_at Tryz.call75)); exact LEL.refl _; exact hT.out; (focus ((repeat (first | exact ra_h | apply ra_t)); done))) | ((with_reducible apply (ck_at Tryz.call116)); exact LEL.refl _; exact hB1.out; (focus ((repeat (first | exact ra_h | apply ra_t)); done))) | ((with_reducible apply (ck_at Tryz.call116)); exact LEL.refl _; exact hB2.out; (focus ((repeat (first | exact ra_h | apply ra_t)); done))) | ((with_reducible apply (ck_at Tryz.call118)); exact LEL.refl _; exact hV.out; (focus ((repeat (first | exact ra_h | apply ra_t)); done))) | ((with_reducible first | refine w_region ?_ ?_ | refine w_dra ?_ ?_); kernel_rfl) | ((with_reducible refine Go3.go ?_ ?_); all_goals (intro hb; (try with_reducible intro hb1); (try (exfalso; first | contradiction | omega)))) | fail)
    all_goals (refine retC_cell (by simp) (by first | rfl | assumption) (by simp (disch := omega) only [push_cast, simprocAttr, *]; exact rfl) (by repeat (first | exact mm_h | apply mm_t)) (by simp (disch := omega) only [push_cast, simprocAttr, *]; exact rfl) (by (try simp (disch := omega) only [push_cast, simprocAttr, *]); (try exact rfl); done) (by (repeat (first | exact List.Sublist.refl _ | apply List.Sublist.cons))) ?_ ⟨rfl, rfl⟩; (try simp (disch := omega) only [push_cast, simprocAttr, *]); try (first | exact LE.refl _ | exact LE.sl _ _ | ((first | refine LE.tup ?_ | refine LE.agg ?_); (repeat' (first | exact LEL.nil | refine LEL.cons ?_ ?_ | exact LE.refl _ | exact LE.sl _ _ | refine LE.agg ?_)); done) | refine LE.of_eq ?_))
  · rw [if_neg h1]
    refine trF_enterC (G := cellA 2 75 Tryz.prog) Tryz.func77 rfl (by rw [Tryz.ntmps77]; exact Nat.le_of_ble_eq_true rfl) (fun h1 h2 h3 => res_cell rfl h1 h2 h3) ?_
    simp only [Tryz.ntmps77]
    repeat' (first | with_reducible refine Go1.go ?_ | ((with_reducible apply ev_go); (focus ((try simp (disch := omega) only [push_cast, simprocAttr, *]); (try exact rfl); done))) | ((with_reducible refine w_last ?_ ?_ ?_); kernel_rfl; rfl) | with_reducible refine Go2.go ?_ | ((with_reducible first | apply w_stepG | refine s_bi ?_ ?_ | refine blk_ne ?_ ?_); rfl) | ((with_reducible refine al_go ?_); intro b) | ((with_reducible apply (ck_at Tryz.call75)); exact LEL.refl _; exact hT.out; (focus ((repeat (first | exact ra_h | apply ra_t)); done))) | ((with_reducible apply (ck_at Tryz.call116)); exact LEL.refl _; exact hB1.out; (focus ((repeat (first | exact ra_h | apply ra_t)); done))) | ((with_reducible apply (ck_at Tryz.call116)); exact LEL.refl _; exact hB2.out; (focus ((repeat (first | exact ra_h | apply ra_t)); done))) | ((with_reducible apply (ck_at Tryz.call118)); exact LEL.refl _; exact hV.out; (focus ((repeat (first | exact ra_h | apply ra_t)); done))) | ((with_reducible first | refine w_region ?_ ?_ | refine w_dra ?_ ?_); kernel_rfl) | ((with_reducible refine Go3.go ?_ ?_); all_goals (intro hb; (try with_reducible intro hb1); (try (exfalso; first | contradiction | omega)))) | fail)
    all_goals (refine retC_cell (by simp) (by first | rfl | assumption) (by simp (disch := omega) only [push_cast, simprocAttr, *]; exact rfl) (by repeat (first | exact mm_h | apply mm_t)) (by simp (disch := omega) only [push_cast, simprocAttr, *]; exact rfl) (by (try simp (disch := omega) only [push_cast, simprocAttr, *]); (try exact rfl); done) (by (repeat (first | exact List.Sublist.refl _ | apply List.Sublist.cons))) ?_ ⟨rfl, rfl⟩; (try simp (disch := omega) only [push_cast, simprocAttr, *]); try (first | exact LE.refl _ | exact LE.sl _ _ | ((first | refine LE.tup ?_ | refine LE.agg ?_); (repeat' (first | exact LEL.nil | refine LEL.cons ?_ ?_ | exact LE.refl _ | exact LE.sl _ _ | refine LE.agg ?_)); done) | refine LE.of_eq ?_))
theorem regGetByteF (rb : Nat) (s : RS) (st : St) : TrF Tryz.prog 146 [.ptr rb 0] (rdR rb s :: st) fun x st' => x = .i s.byte.1 ∧ st' = rdR rb s.byte.2 :: st := by
  have hB := rdByteF rb s
  generalize s.byte = q at *
  replace hB := Lib.hid hB
  refine trF_enter (ts := [2]) Tryz.func146 rfl (by rw [Tryz.ntmps146]; exact Nat.le_of_ble_eq_true rfl) (fun tmps w => by simp [results, Tryz.results146, go_sem, resVal]) ?_
  simp only [Tryz.ntmps146]
  repeat' (first | with_reducible refine Go1.go ?_ | ((with_reducible apply ev_go); (focus ((try simp (disch := omega) only [push_cast, simprocAttr, *]); (try exact rfl); done))) | ((with_reducible refine w_last ?_ ?_ ?_); kernel_rfl; rfl) | with_reducible refine Go2.go ?_ | ((with_reducible first | apply w_stepG | refine s_bi ?_ ?_ | refine blk_ne ?_ ?_); rfl) | ((with_reducible refine al_go ?_); intro b) | ((with_reducible apply (ck_at Tryz.call116)); exact LEL.refl _; exact hB.out; (focus ((repeat (first | exact ra_h | apply ra_t)); done))) | ((with_reducible first | refine w_region ?_ ?_ | refine w_dra ?_ ?_); kernel_rfl) | ((with_reducible refine Go3.go ?_ ?_); all_goals (intro hb; (try with_reducible intro hb1); (try (exfalso; first | contradiction | omega)))) | fail)
  all_goals (refine ret_eq (by simp) (by first | rfl | assumption) (by (repeat (first | exact List.Sublist.refl _ | apply List.Sublist.cons))) ?_; (try simp (disch := omega) only [push_cast, simprocAttr, *]); try (first | exact LE.refl _ | exact LE.sl _ _ | ((first | refine LE.tup ?_ | refine LE.agg ?_); (repeat' (first | exact LEL.nil | refine LEL.cons ?_ ?_ | exact LE.refl _ | exact LE.sl _ _ | refine LE.agg ?_)); done) | refine LE.of_eq ?_))
theorem regReadSlF (rb : Nat) (s : RS) (st : St) : TrF Tryz.prog 76 [.ptr rb 0, .i 8, .fn (.func 77) [] []] (rdR rb s :: st) fun x st' => x = .sl .shared ((Reg.rlist Reg.getSlot 9 s).1.map Sl.cells) ∧ st' = rdR rb (Reg.rlist Reg.getSlot 9 s).2 :: st := by
  have hN := Lib.hid (rdNumF rb s)
  have hnp := RS.rnum_pos s
  have hBad := Lib.hid (rdBadF rb)
  have hI := Lib.hid fun s st => regGetSlotF rb s st
  unfold Reg.rlist
  generalize s.rnum = q at *
  obtain ⟨n, s2⟩ := q
  dsimp only at *
  obtain ⟨m, hm⟩ : ∃ m : Nat, (if (9 : Int) < n then (9 : Int) else n) = m := ⟨(if (9 : Int) < n then (9 : Int) else n).toNat, by split <;> omega⟩
  have hm9 : m ≤ 9 := by split at hm <;> omega
  rw [hm, Int.toNat_natCast]
  obtain ⟨res, hres⟩ : ∃ r, Reg.rdL Reg.getSlot m s2 = r := ⟨_, rfl⟩
  have hE : Hid ([] ++ (Reg.rdL Reg.getSlot (m - 0) s2).1 = res.1 ∧ (Reg.rdL Reg.getSlot (m - 0) s2).2 = res.2) := by
    show _ ∧ _
    rw [Nat.sub_zero, hres]
    exact ⟨rfl, rfl⟩
  rw [hres]
  clear hres hnp
  refine trF_enter (ts := [6]) Tryz.func76 rfl (by rw [Tryz.ntmps76]; exact Nat.le_of_ble_eq_true rfl) (fun tmps w => by simp [results, Tryz.results76, go_sem, resVal]) ?_
  simp only [Tryz.ntmps76]
  refine tr_room 75 7 ([] : List (List D)).length ?_
  repeat' (first | with_reducible refine Go1.go ?_ | ((with_reducible apply ev_go); (focus ((try simp (disch := omega) only [push_cast, simprocAttr, *]); (try exact rfl); done))) | ((with_reducible refine w_last ?_ ?_ ?_); kernel_rfl; rfl) | with_reducible refine Go2.go ?_ | ((with_reducible first | apply w_stepG | refine s_bi ?_ ?_ | refine blk_ne ?_ ?_); rfl) | ((with_reducible refine al_go ?_); intro b) | ((with_reducible apply (ck_at Tryz.call142)); exact LEL.refl _; exact hN.out; (focus ((repeat (first | exact ra_h | apply ra_t)); done))) | ((with_reducible apply a2_go); (focus (first | assumption | (intro h; cases h))); (focus (intro o'; repeat (first | exact ra_h | apply ra_t))); (iterate 2 (focus (first | assumption | exact len_nil | exact len_one rfl | (intro a ha; obtain ⟨x, -, rfl⟩ := List.mem_map.1 ha; first | rfl | simp) | (intro a ha; simp at ha; simp [ha])))); (iterate 2 (focus (first | omega | (simp only [List.length_map, List.length_cons, List.length_nil, List.length_append]; omega)))); intro o' ho') | ((with_reducible first | refine w_region ?_ ?_ | refine w_dra ?_ ?_); kernel_rfl) | ((with_reducible refine Go3.go ?_ ?_); all_goals (intro hb; (try with_reducible intro hb1); (try (exfalso; first | contradiction | omega)))) | fail)
  clear hN
  refine tr_loopd (ι := Nat) (fun i A st' => i ≤ m ∧ A.df = [] ∧ A.e 0 = .ptr rb 0 ∧ A.e 2 = .fn (.func 77) [] [] ∧ A.e 14 = .i m ∧ A.e 15 = .i i ∧ ∃ o' L s', o' ≠ .shared ∧ L.length ≤ i ∧ Hid (L ++ (Reg.rdL Reg.getSlot (m - i) s').1 = res.1 ∧ (Reg.rdL Reg.getSlot (m - i) s').2 = res.2) ∧ A.e 8 = .sl o' (L.map Sl.cells) ∧ st' = .room o' 75 7 (L.map Sl.cells).length :: rdR rb s' :: st) (fun i => m - i) 0 ⟨Nat.zero_le _, ?_, ?_, ?_, ?_, ?_, .tight, [], s2, by decide, Nat.le_refl _, hE, ?_, rfl⟩ ?_
  iterate 6 (focus (first | rfl | assumption | omega | (simp (disch := omega) only [push_cast, simprocAttr, *]; try omega; done)))
  clear hE hm
  rintro i A st' ⟨hi, hdf, e0, e2, e14, e15, o', L, s', ho', hLi, hE, e8, rfl⟩
  have hLc : (L.map Sl.cells).length = L.length := List.length_map ..
  by_cases hlt : i < m
  · have hHE := hE.out
    rw [show m - i = (m - (i + 1)) + 1 by omega, Reg.rdL] at hHE
    cases hsb : s'.bad with
    | true =>
      rw [hsb, if_pos rfl] at hHE
      obtain ⟨r1, r2⟩ := res
      obtain ⟨hr1, hr2⟩ := hHE
      dsimp only at hr1 hr2
      rw [List.append_nil] at hr1
      subst hr1 hr2
      have hBs := hBad.out s'
      rw [hsb] at hBs
      replace hBs := Lib.hid hBs
      clear hE hI hBad
      repeat' (first | with_reducible refine Go1.go ?_ | ((with_reducible apply ev_go); (focus ((try simp (disch := omega) only [push_cast, simprocAttr, *]); (try exact rfl); done))) | ((with_reducible refine w_last ?_ ?_ ?_); kernel_rfl; rfl) | with_reducible refine Go2.go ?_ | ((with_reducible first | apply w_stepG | refine s_bi ?_ ?_ | refine blk_ne ?_ ?_); rfl) | ((with_reducible refine al_go ?_); intro b) | ((with_reducible apply (ck_at Tryz.call80)); exact LEL.refl _; exact hBs.out; (focus ((repeat (first | exact ra_h | apply ra_t)); done))) | ((with_reducible apply a2_go); (focus (first | assumption | (intro h; cases h))); (focus (intro o'; repeat (first | exact ra_h | apply ra_t))); (iterate 2 (focus (first | assumption | exact len_nil | exact len_one rfl | (intro a ha; obtain ⟨x, -, rfl⟩ := List.mem_map.1 ha; first | rfl | simp) | (intro a ha; simp at ha; simp [ha])))); (iterate 2 (focus (first | omega | (simp only [List.length_map, List.length_cons, List.length_nil, List.length_append]; omega)))); intro o' ho') | ((with_reducible first | refine w_region ?_ ?_ | refine w_dra ?_ ?_); kernel_rfl) | ((with_reducible refine Go3.go ?_ ?_); all_goals (intro hb; (try with_reducible intro hb1); (try (exfalso; first | contradiction | omega)))) | fail)
      all_goals (refine ret_eq (by simp) (by first | rfl | assumption) (by (repeat (first | exact List.Sublist.refl _ | apply List.Sublist.cons))) ?_; (try simp (disch := omega) only [push_cast, simprocAttr, *]); try (first | exact LE.refl _ | exact LE.sl _ _ | ((first | refine LE.tup ?_ | refine LE.agg ?_); (repeat' (first | exact LEL.nil | refine LEL.cons ?_ ?_ | exact LE.refl _ | exact LE.sl _ _ | refine LE.agg ?_)); done) | refine LE.of_eq ?_))
    | false =>
      rw [hsb, if_neg Bool.false_ne_true] at hHE
      have hIs := hI.out s'
      have hBs := hBad.out s'
      rw [hsb] at hBs
      generalize Reg.getSlot s' = x3 at *
      obtain ⟨x, s3⟩ := x3
      dsimp only at hHE hIs
      have hE2 : Hid ((L ++ [x]) ++ (Reg.rdL Reg.getSlot (m - (i + 1)) s3).1 = res.1 ∧ (Reg.rdL Reg.getSlot (m - (i + 1)) s3).2 = res.2) := by
        show _ ∧ _
        rw [List.append_assoc]
        exact hHE
      have hL4 : ∀ a ∈ L.map Sl.cells, a.length = 7 := fun a ha => by
        obtain ⟨x, -, rfl⟩ := List.mem_map.1 ha
        exact Sl.cells_len x
      have hLs : (L ++ [x]).map Sl.cells = L.map Sl.cells ++ [Sl.cells x] := List.map_append ..
      have hLk : (L ++ [x]).length ≤ i + 1 := by rw [List.length_append, List.length_singleton]; omega
      generalize L.map Sl.cells = M at *
      cases x with
      | mk nm ty rq dv =>
      cases dv with
      | mk k n sv lv =>
      rw [Sl.cells_mk] at hLs hIs
      replace hBs := Lib.hid hBs
      replace hIs := Lib.hid hIs
      replace hLs := Lib.hid hLs
      clear hE hI hBad hHE
      repeat' (first | with_reducible refine Go1.go ?_ | ((with_reducible apply ev_go); (focus ((try simp (disch := omega) only [push_cast, simprocAttr, *]); (try exact rfl); done))) | ((with_reducible refine w_last ?_ ?_ ?_); kernel_rfl; rfl) | with_reducible refine Go2.go ?_ | ((with_reducible first | apply w_stepG | refine s_bi ?_ ?_ | refine blk_ne ?_ ?_); rfl) | ((with_reducible refine al_go ?_); intro b) | ((with_reducible apply (ck_at Tryz.call80)); exact LEL.refl _; exact hBs.out; (focus ((repeat (first | exact ra_h | apply ra_t)); done))) | ((with_reducible apply (ck_at Tryz.call77)); exact LEL.refl _; exact hIs.out; (focus ((repeat (first | exact ra_h | apply ra_t)); done))) | ((with_reducible apply a2_go); (focus (first | assumption | (intro h; cases h))); (focus (intro o'; repeat (first | exact ra_h | apply ra_t))); (iterate 2 (focus (first | assumption | exact len_nil | exact len_one rfl | (intro a ha; obtain ⟨x, -, rfl⟩ := List.mem_map.1 ha; first | rfl | simp) | (intro a ha; simp at ha; simp [ha])))); (iterate 2 (focus (first | omega | (simp only [List.length_map, List.length_cons, List.length_nil, List.length_append]; omega)))); intro o' ho') | ((with_reducible first | refine w_region ?_ ?_ | refine w_dra ?_ ?_); kernel_rfl) | ((with_reducible refine Go3.go ?_ ?_); all_goals (intro hb; (try with_reducible intro hb1); (try (exfalso; first | contradiction | omega)))) | fail)
      refine ⟨i + 1, .room o' 75 7 ((L ++ [(⟨nm, ty, rq, .mk k n sv lv⟩ : Sl)]).map Sl.cells).length :: rdR rb s3 :: st, ?_, ⟨hlt, ?_, ?_, ?_, ?_, ?_, o', L ++ [⟨nm, ty, rq, .mk k n sv lv⟩], s3, ho', hLk, hE2, ?_, rfl⟩, ?_⟩
      · rw [hLs.out]; (repeat (first | exact List.Sublist.refl _ | apply List.Sublist.cons))
      rotate_right 2
      · rw [hLs.out]; (first | rfl | assumption | omega | (simp (disch := omega) only [push_cast, simprocAttr, *]; try omega; done))
      all_goals (first | rfl | assumption | omega | (simp (disch := omega) only [push_cast, simprocAttr, *]; try omega; done))
  · have hHE := hE.out
    rw [show m - i = 0 by omega, Reg.rdL] at hHE
    obtain ⟨r1, r2⟩ := res
    obtain ⟨hr1, hr2⟩ := hHE
    dsimp only at hr1 hr2
    rw [List.append_nil] at hr1
    subst hr1 hr2
    clear hE hI hBad
    repeat' (first | with_reducible refine Go1.go ?_ | ((with_reducible apply ev_go); (focus ((try simp (disch := omega) only [push_cast, simprocAttr, *]); (try exact rfl); done))) | ((with_reducible refine w_last ?_ ?_ ?_); kernel_rfl; rfl) | with_reducible refine Go2.go ?_ | ((with_reducible first | apply w_stepG | refine s_bi ?_ ?_ | refine blk_ne ?_ ?_); rfl) | ((with_reducible refine al_go ?_); intro b) | ((with_reducible apply a2_go); (focus (first | assumption | (intro h; cases h))); (focus (intro o'; repeat (first | exact ra_h | apply ra_t))); (iterate 2 (focus (first | assumption | exact len_nil | exact len_one rfl | (intro a ha; obtain ⟨x, -, rfl⟩ := List.mem_map.1 ha; first | rfl | simp) | (intro a ha; simp at ha; simp [ha])))); (iterate 2 (focus (first | omega | (simp only [List.length_map, List.length_cons, List.length_nil, List.length_append]; omega)))); intro o' ho') | ((with_reducible first | refine w_region ?_ ?_ | refine w_dra ?_ ?_); kernel_rfl) | ((with_reducible refine Go3.go ?_ ?_); all_goals (intro hb; (try with_reducible intro hb1); (try (exfalso; first | contradiction | omega)))) | fail)
    all_goals (refine ret_eq (by simp) (by first | rfl | assumption) (by (repeat (first | exact List.Sublist.refl _ | apply List.Sublist.cons))) ?_; (try simp (disch := omega) only [push_cast, simprocAttr, *]); try (first | exact LE.refl _ | exact LE.sl _ _ | ((first | refine LE.tup ?_ | refine LE.agg ?_); (repeat' (first | exact LEL.nil | refine LEL.cons ?_ ?_ | exact LE.refl _ | exact LE.sl _ _ | refine LE.agg ?_)); done) | refine LE.of_eq ?_))
theorem regReadIF (rb : Nat) (s : RS) (st : St) : TrF Tryz.prog 145 [.ptr rb 0, .i 8, .fn (.func 146) [] []] (rdR rb s :: st) fun x st' => x = .sl .shared ((Reg.rlist RS.byte 9 s).1.map encI) ∧ st' = rdR rb (Reg.rlist RS.byte 9 s).2 :: st := by
  have hN := Lib.hid (rdNumF rb s)
  have hnp := RS.rnum_pos s
  have hBad := Lib.hid (rdBadF rb)
  have hI := Lib.hid fun s st => regGetByteF rb s st
  unfold Reg.rlist
  generalize s.rnum = q at *
  obtain ⟨n, s2⟩ := q
  dsimp only at *
  obtain ⟨m, hm⟩ : ∃ m : Nat, (if (9 : Int) < n then (9 : Int) else n) = m := ⟨(if (9 : Int) < n then (9 : Int) else n).toNat, by split <;> omega⟩
  have hm9 : m ≤ 9 := by split at hm <;> omega
  rw [hm, Int.toNat_natCast]
  obtain ⟨res, hres⟩ : ∃ r, Reg.rdL RS.byte m s2 = r := ⟨_, rfl⟩
  have hE : Hid ([] ++ (Reg.rdL RS.byte (m - 0) s2).1 = res.1 ∧ (Reg.rdL RS.byte (m - 0) s2).2 = res.2) := by
    show _ ∧ _
    rw [Nat.sub_zero, hres]
    exact ⟨rfl, rfl⟩
  rw [hres]
  clear hres hnp
  refine trF_enter (ts := [6]) Tryz.func145 rfl (by rw [Tryz.ntmps145]; exact Nat.le_of_ble_eq_true rfl) (fun tmps w => by simp [results, Tryz.results145, go_sem, resVal]) ?_
  simp only [Tryz.ntmps145]
  refine tr_room 3 1 ([] : List (List D)).length ?_
  repeat' (first | with_reducible refine Go1.go ?_ | ((with_reducible apply ev_go); (focus ((try simp (disch := omega) only [push_cast, simprocAttr, *]); (try exact rfl); done))) | ((with_reducible refine w_last ?_ ?_ ?_); kernel_rfl; rfl) | with_reducible refine Go2.go ?_ | ((with_reducible first | apply w_stepG | refine s_bi ?_ ?_ | refine blk_ne ?_ ?_); rfl) | ((with_reducible refine al_go ?_); intro b) | ((with_reducible apply (ck_at Tryz.call142)); exact LEL.refl _; exact hN.out; (focus ((repeat (first | exact ra_h | apply ra_t)); done))) | ((with_reducible apply a2_go); (focus (first | assumption | (intro h; cases h))); (focus (intro o'; repeat (first | exact ra_h | apply ra_t))); (iterate 2 (focus (first | assumption | exact len_nil | exact len_one rfl | (intro a ha; obtain ⟨x, -, rfl⟩ := List.mem_map.1 ha; first | rfl | simp) | (intro a ha; simp at ha; simp [ha])))); (iterate 2 (focus (first | omega | (simp only [List.length_map, List.length_cons, List.length_nil, List.length_append]; omega)))); intro o' ho') | ((with_reducible first | refine w_region ?_ ?_ | refine w_dra ?_ ?_); kernel_rfl) | ((with_reducible refine Go3.go ?_ ?_); all_goals (intro hb; (try with_reducible intro hb1); (try (exfalso; first | contradiction | omega)))) | fail)
  clear hN
  refine tr_loopd (ι := Nat) (fun i A st' => i ≤ m ∧ A.df = [] ∧ A.e 0 = .ptr rb 0 ∧ A.e 2 = .fn (.func 146) [] [] ∧ A.e 14 = .i m ∧ A.e 15 = .i i ∧ ∃ o' L s', o' ≠ .shared ∧ L.length ≤ i ∧ Hid (L ++ (Reg.rdL RS.byte (m - i) s').1 = res.1 ∧ (Reg.rdL RS.byte (m - i) s').2 = res.2) ∧ A.e 8 = .sl o' (L.map encI) ∧ st' = .room o' 3 1 (L.map encI).length :: rdR rb s' :: st) (fun i => m - i) 0 ⟨Nat.zero_le _, ?_, ?_, ?_, ?_, ?_, .tight, [], s2, by decide, Nat.le_refl _, hE, ?_, rfl⟩ ?_
  iterate 6 (focus (first | rfl | assumption | omega | (simp (disch := omega) only [push_cast, simprocAttr, *]; try omega; done)))
  clear hE hm
  rintro i A st' ⟨hi, hdf, e0, e2, e14, e15, o', L, s', ho', hLi, hE, e8, rfl⟩
  have hLc : (L.map encI).length = L.length := List.length_map ..
  by_cases hlt : i < m
  · have hHE := hE.out
    rw [show m - i = (m - (i + 1)) + 1 by omega, Reg.rdL] at hHE
    cases hsb : s'.bad with
    | true =>
      rw [hsb, if_pos rfl] at hHE
      obtain ⟨r1, r2⟩ := res
      obtain ⟨hr1, hr2⟩ := hHE
      dsimp only at hr1 hr2
      rw [List.append_nil] at hr1
      subst hr1 hr2
      have hBs := hBad.out s'
      rw [hsb] at hBs
      replace hBs := Lib.hid hBs
      clear hE hI hBad
      repeat' (first | with_reducible refine Go1.go ?_ | ((with_reducible apply ev_go); (focus ((try simp (disch := omega) only [push_cast, simprocAttr, *]); (try exact rfl); done))) | ((with_reducible refine w_last ?_ ?_ ?_); kernel_rfl; rfl) | with_reducible refine Go2.go ?_ | ((with_reducible first | apply w_stepG | refine s_bi ?_ ?_ | refine blk_ne ?_ ?_); rfl) | ((with_reducible refine al_go ?_); intro b) | ((with_reducible apply (ck_at Tryz.call80)); exact LEL.refl _; exact hBs.out; (focus ((repeat (first | exact ra_h | apply ra_t)); done))) | ((with_reducible apply a2_go); (focus (first | assumption | (intro h; cases h))); (focus (intro o'; repeat (first | exact ra_h | apply ra_t))); (iterate 2 (focus (first | assumption | exact len_nil | exact len_one rfl | (intro a ha; obtain ⟨x, -, rfl⟩ := List.mem_map.1 ha; first | rfl | simp) | (intro a ha; simp at ha; simp [ha])))); (iterate 2 (focus (first | omega | (simp only [List.length_map, List.length_cons, List.length_nil, List.length_append]; omega)))); intro o' ho') | ((with_reducible first | refine w_region ?_ ?_ | refine w_dra ?_ ?_); kernel_rfl) | ((with_reducible refine Go3.go ?_ ?_); all_goals (intro hb; (try with_reducible intro hb1); (try (exfalso; first | contradiction | omega)))) | fail)
      all_goals (refine ret_eq (by simp) (by first | rfl | assumption) (by (repeat (first | exact List.Sublist.refl _ | apply List.Sublist.cons))) ?_; (try simp (disch := omega) only [push_cast, simprocAttr, *]); try (first | exact LE.refl _ | exact LE.sl _ _ | ((first | refine LE.tup ?_ | refine LE.agg ?_); (repeat' (first | exact LEL.nil | refine LEL.cons ?_ ?_ | exact LE.refl _ | exact LE.sl _ _ | refine LE.agg ?_)); done) | refine LE.of_eq ?_))
    | false =>
      rw [hsb, if_neg Bool.false_ne_true] at hHE
      have hIs := hI.out s'
      have hBs := hBad.out s'
      rw [hsb] at hBs
      generalize RS.byte s' = x3 at *
      obtain ⟨x, s3⟩ := x3
      dsimp only at hHE hIs
      have hE2 : Hid ((L ++ [x]) ++ (Reg.rdL RS.byte (m - (i + 1)) s3).1 = res.1 ∧ (Reg.rdL RS.byte (m - (i + 1)) s3).2 = res.2) := by
        show _ ∧ _
        rw [List.append_assoc]
        exact hHE
      have hL4 : ∀ a ∈ L.map encI, a.length = 1 := fun a ha => by
        obtain ⟨x, -, rfl⟩ := List.mem_map.1 ha
        exact rfl
      have hLs : (L ++ [x]).map encI = L.map encI ++ [encI x] := List.map_append ..
      have hLk : (L ++ [x]).length ≤ i + 1 := by rw [List.length_append, List.length_singleton]; omega
      generalize L.map encI = M at *

      replace hBs := Lib.hid hBs
      replace hIs := Lib.hid hIs
      replace hLs := Lib.hid hLs
      clear hE hI hBad hHE
      repeat' (first | with_reducible refine Go1.go ?_ | ((with_reducible apply ev_go); (focus ((try simp (disch := omega) only [push_cast, simprocAttr, *]); (try exact rfl); done))) | ((with_reducible refine w_last ?_ ?_ ?_); kernel_rfl; rfl) | with_reducible refine Go2.go ?_ | ((with_reducible first | apply w_stepG | refine s_bi ?_ ?_ | refine blk_ne ?_ ?_); rfl) | ((with_reducible refine al_go ?_); intro b) | ((with_reducible apply (ck_at Tryz.call80)); exact LEL.refl _; exact hBs.out; (focus ((repeat (first | exact ra_h | apply ra_t)); done))) | ((with_reducible apply (ck_at Tryz.call146)); exact LEL.refl _; exact hIs.out; (focus ((repeat (first | exact ra_h | apply ra_t)); done))) | ((with_reducible apply a2_go); (focus (first | assumption | (intro h; cases h))); (focus (intro o'; repeat (first | exact ra_h | apply ra_t))); (iterate 2 (focus (first | assumption | exact len_nil | exact len_one rfl | (intro a ha; obtain ⟨x, -, rfl⟩ := List.mem_map.1 ha; first | rfl | simp) | (intro a ha; simp at ha; simp [ha])))); (iterate 2 (focus (first | omega | (simp only [List.length_map, List.length_cons, List.length_nil, List.length_append]; omega)))); intro o' ho') | ((with_reducible first | refine w_region ?_ ?_ | refine w_dra ?_ ?_); kernel_rfl) | ((with_reducible refine Go3.go ?_ ?_); all_goals (intro hb; (try with_reducible intro hb1); (try (exfalso; first | contradiction | omega)))) | fail)
      refine ⟨i + 1, .room o' 3 1 ((L ++ [(x : Int)]).map encI).length :: rdR rb s3 :: st, ?_, ⟨hlt, ?_, ?_, ?_, ?_, ?_, o', L ++ [x], s3, ho', hLk, hE2, ?_, rfl⟩, ?_⟩
      · rw [hLs.out]; (repeat (first | exact List.Sublist.refl _ | apply List.Sublist.cons))
      rotate_right 2
      · rw [hLs.out]; (first | rfl | assumption | omega | (simp (disch := omega) only [push_cast, simprocAttr, *]; try omega; done))
      all_goals (first | rfl | assumption | omega | (simp (disch := omega) only [push_cast, simprocAttr, *]; try omega; done))
  · have hHE := hE.out
    rw [show m - i = 0 by omega, Reg.rdL] at hHE
    obtain ⟨r1, r2⟩ := res
    obtain ⟨hr1, hr2⟩ := hHE
    dsimp only at hr1 hr2
    rw [List.append_nil] at hr1
    subst hr1 hr2
    clear hE hI hBad
    repeat' (first | with_reducible refine Go1.go ?_ | ((with_reducible apply ev_go); (focus ((try simp (disch := omega) only [push_cast, simprocAttr, *]); (try exact rfl); done))) | ((with_reducible refine w_last ?_ ?_ ?_); kernel_rfl; rfl) | with_reducible refine Go2.go ?_ | ((with_reducible first | apply w_stepG | refine s_bi ?_ ?_ | refine blk_ne ?_ ?_); rfl) | ((with_reducible refine al_go ?_); intro b) | ((with_reducible apply a2_go); (focus (first | assumption | (intro h; cases h))); (focus (intro o'; repeat (first | exact ra_h | apply ra_t))); (iterate 2 (focus (first | assumption | exact len_nil | exact len_one rfl | (intro a ha; obtain ⟨x, -, rfl⟩ := List.mem_map.1 ha; first | rfl | simp) | (intro a ha; simp at ha; simp [ha])))); (iterate 2 (focus (first | omega | (simp only [List.length_map, List.length_cons, List.length_nil, List.length_append]; omega)))); intro o' ho') | ((with_reducible first | refine w_region ?_ ?_ | refine w_dra ?_ ?_); kernel_rfl) | ((with_reducible refine Go3.go ?_ ?_); all_goals (intro hb; (try with_reducible intro hb1); (try (exfalso; first | contradiction | omega)))) | fail)
    all_goals (refine ret_eq (by simp) (by first | rfl | assumption) (by (repeat (first | exact List.Sublist.refl _ | apply List.Sublist.cons))) ?_; (try simp (disch := omega) only [push_cast, simprocAttr, *]); try (first | exact LE.refl _ | exact LE.sl _ _ | ((first | refine LE.tup ?_ | refine LE.agg ?_); (repeat' (first | exact LEL.nil | refine LEL.cons ?_ ?_ | exact LE.refl _ | exact LE.sl _ _ | refine LE.agg ?_)); done) | refine LE.of_eq ?_))
theorem Stp.cells_len2 (s : Stp) : s.cells.length = 10 := by
  unfold Stp.cells
  rw [List.length_cons, List.length_cons, List.length_append, Sl.cells_len]; rfl
theorem Stp.cells_mk (kind col : Int) (nm : ByteArray) (ty : Int) (rq : Bool) (k n : Int) (sv : ByteArray) (lv : List V) (order : List Int) : (Stp.mk kind col (Sl.mk nm ty rq (.mk k n sv lv)) order).cells = [.i kind, .i col, .str nm, .i ty, .b rq, .i k, .i n, .str sv, .sl .shared (lv.map V.cells), .sl .shared (order.map encI)] := by
  unfold Stp.cells
  rw [Sl.cells_mk]; rfl
theorem Tm.cells_mk (nm : ByteArray) (ss : List Sl) (tt : List Stp) : (Tm.mk nm ss tt).cells = [.str nm, .sl .shared (ss.map Sl.cells), .sl .shared (tt.map Stp.cells)] := rfl
theorem slot0C : Reg.slot0.cells = [.str ⟨#[]⟩, .i 0, .b false, .i 0, .i 0, .str ⟨#[]⟩, .sl .shared []] := by unfold Reg.slot0 V.zero; rw [Sl.cells_mk]; rfl
theorem regGetStepF (rb : Nat) (s : RS) (st : St) : TrF Tryz.prog 79 [.ptr rb 0] (rdR rb s :: st) fun x st' => x = .agg (Reg.getStep s).1.cells ∧ st' = rdR rb (Reg.getStep s).2 :: st := by
  have hB := rdByteF rb s
  unfold Reg.getStep Stp.cells
  generalize s.byte = q at *
  obtain ⟨k, s1⟩ := q
  dsimp only at *
  have hB2 := rdByteF rb s1
  replace hB := Lib.hid hB
  by_cases h1 : k = 1
  · subst h1
    rw [if_pos rfl]
    have hS := regGetSlotF rb s1
    generalize Reg.getSlot s1 = q2 at *
    obtain ⟨⟨nm, ty, rq, ⟨k, n, sv, lv⟩⟩, s2⟩ := q2
    clear hB2
    dsimp only at *
    rw [Sl.cells_mk] at *
    replace hS := Lib.hid hS
    refine trF_enterC (G := cellA 2 79 Tryz.prog) Tryz.func79 rfl (by rw [Tryz.ntmps79]; exact Nat.le_of_ble_eq_true rfl) (fun h1 h2 h3 => res_cell rfl h1 h2 h3) ?_
    simp only [Tryz.ntmps79]
    repeat' (first | with_reducible refine Go1.go ?_ | ((with_reducible apply ev_go); (focus ((try simp (disch := omega) only [push_cast, simprocAttr, *]); (try exact rfl); done))) | ((with_reducible refine w_last ?_ ?_ ?_); kernel_rfl; rfl) | with_reducible refine Go2.go ?_ | ((with_reducible first | apply w_stepG | refine s_bi ?_ ?_ | refine blk_ne ?_ ?_); rfl) | ((with_reducible refine al_go ?_); intro b) | ((with_reducible apply (ck_at Tryz.call116)); exact LEL.refl _; exact hB.out; (focus ((repeat (first | exact ra_h | apply ra_t)); done))) | ((with_reducible apply (ck_at Tryz.call77)); exact LEL.refl _; exact hS.out; (focus ((repeat (first | exact ra_h | apply ra_t)); done))) | ((with_reducible first | refine w_region ?_ ?_ | refine w_dra ?_ ?_); kernel_rfl) | ((with_reducible refine Go3.go ?_ ?_); all_goals (intro hb; (try with_reducible intro hb1); (try (exfalso; first | contradiction | omega)))) | fail)
    all_goals (refine retC_cell (by simp) (by first | rfl | assumption) (by simp (disch := omega) only [push_cast, simprocAttr, *]; exact rfl) (by repeat (first | exact mm_h | apply mm_t)) (by simp (disch := omega) only [push_cast, simprocAttr, *]; exact rfl) (by (try simp (disch := omega) only [push_cast, simprocAttr, *]); (try exact rfl); done) (by (repeat (first | exact List.Sublist.refl _ | apply List.Sublist.cons))) ?_ ⟨rfl, rfl⟩; (try simp (disch := omega) only [push_cast, simprocAttr, *]); try (first | exact LE.refl _ | exact LE.sl _ _ | ((first | refine LE.tup ?_ | refine LE.agg ?_); (repeat' (first | exact LEL.nil | refine LEL.cons ?_ ?_ | exact LE.refl _ | exact LE.sl _ _ | refine LE.agg ?_)); done) | refine LE.of_eq ?_))
  rw [if_neg h1]
  have b1 : (k == 1) = false := beq_eq_false_iff_ne.2 h1
  by_cases h2 : k = 2
  · subst h2
    rw [if_pos rfl]
    generalize s1.byte = q2 at *
    obtain ⟨c, s2⟩ := q2
    dsimp only at *
    rw [slot0C]
    replace hB2 := Lib.hid hB2
    refine trF_enterC (G := cellA 2 79 Tryz.prog) Tryz.func79 rfl (by rw [Tryz.ntmps79]; exact Nat.le_of_ble_eq_true rfl) (fun h1 h2 h3 => res_cell rfl h1 h2 h3) ?_
    simp only [Tryz.ntmps79]
    repeat' (first | with_reducible refine Go1.go ?_ | ((with_reducible apply ev_go); (focus ((try simp (disch := omega) only [push_cast, simprocAttr, *]); (try exact rfl); done))) | ((with_reducible refine w_last ?_ ?_ ?_); kernel_rfl; rfl) | with_reducible refine Go2.go ?_ | ((with_reducible first | apply w_stepG | refine s_bi ?_ ?_ | refine blk_ne ?_ ?_); rfl) | ((with_reducible refine al_go ?_); intro b) | ((with_reducible apply (ck_at Tryz.call116)); exact LEL.refl _; exact hB.out; (focus ((repeat (first | exact ra_h | apply ra_t)); done))) | ((with_reducible apply (ck_at Tryz.call116)); exact LEL.refl _; exact hB2.out; (focus ((repeat (first | exact ra_h | apply ra_t)); done))) | ((with_reducible first | refine w_region ?_ ?_ | refine w_dra ?_ ?_); kernel_rfl) | ((with_reducible refine Go3.go ?_ ?_); all_goals (intro hb; (try with_reducible intro hb1); (try (exfalso; first | contradiction | omega)))) | fail)
    all_goals (refine retC_cell (by simp) (by first | rfl | assumption) (by simp (disch := omega) only [push_cast, simprocAttr, *]; exact rfl) (by repeat (first | exact mm_h | apply mm_t)) (by simp (disch := omega) only [push_cast, simprocAttr, *]; exact rfl) (by (try simp (disch := omega) only [push_cast, simprocAttr, *]); (try exact rfl); done) (by (repeat (first | exact List.Sublist.refl _ | apply List.Sublist.cons))) ?_ ⟨rfl, rfl⟩; (try simp (disch := omega) only [push_cast, simprocAttr, *]); try (first | exact LE.refl _ | exact LE.sl _ _ | ((first | refine LE.tup ?_ | refine LE.agg ?_); (repeat' (first | exact LEL.nil | refine LEL.cons ?_ ?_ | exact LE.refl _ | exact LE.sl _ _ | refine LE.agg ?_)); done) | refine LE.of_eq ?_))
  rw [if_neg h2]
  have b2 : (k == 2) = false := beq_eq_false_iff_ne.2 h2
  by_cases h3 : k = 3
  · subst h3
    rw [if_pos rfl]
    generalize s1.byte = q2 at *
    obtain ⟨c, s2⟩ := q2
    dsimp only at *
    have hT := rdTextF rb s2
    generalize s2.text = q3 at *
    obtain ⟨nm, s3⟩ := q3
    unfold Reg.slot0 V.zero
    dsimp only at *
    rw [Sl.cells_mk]
    replace hB2 := Lib.hid hB2
    replace hT := Lib.hid hT
    refine trF_enterC (G := cellA 2 79 Tryz.prog) Tryz.func79 rfl (by rw [Tryz.ntmps79]; exact Nat.le_of_ble_eq_true rfl) (fun h1 h2 h3 => res_cell rfl h1 h2 h3) ?_
    simp only [Tryz.ntmps79]
    repeat' (first | with_reducible refine Go1.go ?_ | ((with_reducible apply ev_go); (focus ((try simp (disch := omega) only [push_cast, simprocAttr, *]); (try exact rfl); done))) | ((with_reducible refine w_last ?_ ?_ ?_); kernel_rfl; rfl) | with_reducible refine Go2.go ?_ | ((with_reducible first | apply w_stepG | refine s_bi ?_ ?_ | refine blk_ne ?_ ?_); rfl) | ((with_reducible refine al_go ?_); intro b) | ((with_reducible apply (ck_at Tryz.call116)); exact LEL.refl _; exact hB.out; (focus ((repeat (first | exact ra_h | apply ra_t)); done))) | ((with_reducible apply (ck_at Tryz.call116)); exact LEL.refl _; exact hB2.out; (focus ((repeat (first | exact ra_h | apply ra_t)); done))) | ((with_reducible apply (ck_at Tryz.call75)); exact LEL.refl _; exact hT.out; (focus ((repeat (first | exact ra_h | apply ra_t)); done))) | ((with_reducible first | refine w_region ?_ ?_ | refine w_dra ?_ ?_); kernel_rfl) | ((with_reducible refine Go3.go ?_ ?_); all_goals (intro hb; (try with_reducible intro hb1); (try (exfalso; first | contradiction | omega)))) | fail)
    all_goals (refine retC_cell (by simp) (by first | rfl | assumption) (by simp (disch := omega) only [push_cast, simprocAttr, *]; exact rfl) (by repeat (first | exact mm_h | apply mm_t)) (by simp (disch := omega) only [push_cast, simprocAttr, *]; exact rfl) (by (try simp (disch := omega) only [push_cast, simprocAttr, *]); (try exact rfl); done) (by (repeat (first | exact List.Sublist.refl _ | apply List.Sublist.cons))) ?_ ⟨rfl, rfl⟩; (try simp (disch := omega) only [push_cast, simprocAttr, *]); try (first | exact LE.refl _ | exact LE.sl _ _ | ((first | refine LE.tup ?_ | refine LE.agg ?_); (repeat' (first | exact LEL.nil | refine LEL.cons ?_ ?_ | exact LE.refl _ | exact LE.sl _ _ | refine LE.agg ?_)); done) | refine LE.of_eq ?_))
  rw [if_neg h3]
  have b3 : (k == 3) = false := beq_eq_false_iff_ne.2 h3
  by_cases h4 : k = 4
  · subst h4
    rw [if_pos rfl]
    generalize s1.byte = q2 at *
    obtain ⟨c, s2⟩ := q2
    dsimp only at *
    have hB3 := rdByteF rb s2
    generalize s2.byte = q3 at *
    obtain ⟨ty, s3⟩ := q3
    unfold Reg.slot0 V.zero
    dsimp only at *
    rw [Sl.cells_mk]
    replace hB2 := Lib.hid hB2
    replace hB3 := Lib.hid hB3
    refine trF_enterC (G := cellA 2 79 Tryz.prog) Tryz.func79 rfl (by rw [Tryz.ntmps79]; exact Nat.le_of_ble_eq_true rfl) (fun h1 h2 h3 => res_cell rfl h1 h2 h3) ?_
    simp only [Tryz.ntmps79]
    repeat' (first | with_reducible refine Go1.go ?_ | ((with_reducible apply ev_go); (focus ((try simp (disch := omega) only [push_cast, simprocAttr, *]); (try exact rfl); done))) | ((with_reducible refine w_last ?_ ?_ ?_); kernel_rfl; rfl) | with_reducible refine Go2.go ?_ | ((with_reducible first | apply w_stepG | refine s_bi ?_ ?_ | refine blk_ne ?_ ?_); rfl) | ((with_reducible refine al_go ?_); intro b) | ((with_reducible apply (ck_at Tryz.call116)); exact LEL.refl _; exact hB.out; (focus ((repeat (first | exact ra_h | apply ra_t)); done))) | ((with_reducible apply (ck_at Tryz.call116)); exact LEL.refl _; exact hB2.out; (focus ((repeat (first | exact ra_h | apply ra_t)); done))) | ((with_reducible apply (ck_at Tryz.call116)); exact LEL.refl _; exact hB3.out; (focus ((repeat (first | exact ra_h | apply ra_t)); done))) | ((with_reducible first | refine w_region ?_ ?_ | refine w_dra ?_ ?_); kernel_rfl) | ((with_reducible refine Go3.go ?_ ?_); all_goals (intro hb; (try with_reducible intro hb1); (try (exfalso; first | contradiction | omega)))) | fail)
    all_goals (refine retC_cell (by simp) (by first | rfl | assumption) (by simp (disch := omega) only [push_cast, simprocAttr, *]; exact rfl) (by repeat (first | exact mm_h | apply mm_t)) (by simp (disch := omega) only [push_cast, simprocAttr, *]; exact rfl) (by (try simp (disch := omega) only [push_cast, simprocAttr, *]); (try exact rfl); done) (by (repeat (first | exact List.Sublist.refl _ | apply List.Sublist.cons))) ?_ ⟨rfl, rfl⟩; (try simp (disch := omega) only [push_cast, simprocAttr, *]); try (first | exact LE.refl _ | exact LE.sl _ _ | ((first | refine LE.tup ?_ | refine LE.agg ?_); (repeat' (first | exact LEL.nil | refine LEL.cons ?_ ?_ | exact LE.refl _ | exact LE.sl _ _ | refine LE.agg ?_)); done) | refine LE.of_eq ?_))
  rw [if_neg h4]
  have b4 : (k == 4) = false := beq_eq_false_iff_ne.2 h4
  by_cases h5 : k = 5
  · subst h5
    rw [if_pos rfl]
    have hR := regReadIF rb s1
    generalize Reg.rlist RS.byte 9 s1 = q2 at *
    obtain ⟨o, s2⟩ := q2
    dsimp only at *
    generalize o.map encI = OS at *
    rw [slot0C]
    clear hB2
    replace hR := Lib.hid hR
    refine trF_enterC (G := cellA 2 79 Tryz.prog) Tryz.func79 rfl (by rw [Tryz.ntmps79]; exact Nat.le_of_ble_eq_true rfl) (fun h1 h2 h3 => res_cell rfl h1 h2 h3) ?_
    simp only [Tryz.ntmps79]
    repeat' (first | with_reducible refine Go1.go ?_ | ((with_reducible apply ev_go); (focus ((try simp (disch := omega) only [push_cast, simprocAttr, *]); (try exact rfl); done))) | ((with_reducible refine w_last ?_ ?_ ?_); kernel_rfl; rfl) | with_reducible refine Go2.go ?_ | ((with_reducible first | apply w_stepG | refine s_bi ?_ ?_ | refine blk_ne ?_ ?_); rfl) | ((with_reducible refine al_go ?_); intro b) | ((with_reducible apply (ck_at Tryz.call116)); exact LEL.refl _; exact hB.out; (focus ((repeat (first | exact ra_h | apply ra_t)); done))) | ((with_reducible apply (ck_at Tryz.call145)); exact LEL.refl _; exact hR.out; (focus ((repeat (first | exact ra_h | apply ra_t)); done))) | ((with_reducible first | refine w_region ?_ ?_ | refine w_dra ?_ ?_); kernel_rfl) | ((with_reducible refine Go3.go ?_ ?_); all_goals (intro hb; (try with_reducible intro hb1); (try (exfalso; first | contradiction | omega)))) | fail)
    all_goals (refine retC_cell (by simp) (by first | rfl | assumption) (by simp (disch := omega) only [push_cast, simprocAttr, *]; exact rfl) (by repeat (first | exact mm_h | apply mm_t)) (by simp (disch := omega) only [push_cast, simprocAttr, *]; exact rfl) (by (try simp (disch := omega) only [push_cast, simprocAttr, *]); (try exact rfl); done) (by (repeat (first | exact List.Sublist.refl _ | apply List.Sublist.cons))) ?_ ⟨rfl, rfl⟩; (try simp (disch := omega) only [push_cast, simprocAttr, *]); try (first | exact LE.refl _ | exact LE.sl _ _ | ((first | refine LE.tup ?_ | refine LE.agg ?_); (repeat' (first | exact LEL.nil | refine LEL.cons ?_ ?_ | exact LE.refl _ | exact LE.sl _ _ | refine LE.agg ?_)); done) | refine LE.of_eq ?_))
  rw [if_neg h5]
  have b5 : (k == 5) = false := beq_eq_false_iff_ne.2 h5
  rw [slot0C]
  clear hB2
  refine trF_enterC (G := cellA 2 79 Tryz.prog) Tryz.func79 rfl (by rw [Tryz.ntmps79]; exact Nat.le_of_ble_eq_true rfl) (fun h1 h2 h3 => res_cell rfl h1 h2 h3) ?_
  simp only [Tryz.ntmps79]
  repeat' (first | with_reducible refine Go1.go ?_ | ((with_reducible apply ev_go); (focus ((try simp (disch := omega) only [push_cast, simprocAttr, *]); (try exact rfl); done))) | ((with_reducible refine w_last ?_ ?_ ?_); kernel_rfl; rfl) | with_reducible refine Go2.go ?_ | ((with_reducible first | apply w_stepG | refine s_bi ?_ ?_ | refine blk_ne ?_ ?_); rfl) | ((with_reducible refine al_go ?_); intro b) | ((with_reducible apply (ck_at Tryz.call116)); exact LEL.refl _; exact hB.out; (focus ((repeat (first | exact ra_h | apply ra_t)); done))) | ((with_reducible first | refine w_region ?_ ?_ | refine w_dra ?_ ?_); kernel_rfl) | ((with_reducible refine Go3.go ?_ ?_); all_goals (intro hb; (try with_reducible intro hb1); (try (exfalso; first | contradiction | omega)))) | fail)
  all_goals (refine retC_cell (by simp) (by first | rfl | assumption) (by simp (disch := omega) only [push_cast, simprocAttr, *]; exact rfl) (by repeat (first | exact mm_h | apply mm_t)) (by simp (disch := omega) only [push_cast, simprocAttr, *]; exact rfl) (by (try simp (disch := omega) only [push_cast, simprocAttr, *]); (try exact rfl); done) (by (repeat (first | exact List.Sublist.refl _ | apply List.Sublist.cons))) ?_ ⟨rfl, rfl⟩; (try simp (disch := omega) only [push_cast, simprocAttr, *]); try (first | exact LE.refl _ | exact LE.sl _ _ | ((first | refine LE.tup ?_ | refine LE.agg ?_); (repeat' (first | exact LEL.nil | refine LEL.cons ?_ ?_ | exact LE.refl _ | exact LE.sl _ _ | refine LE.agg ?_)); done) | refine LE.of_eq ?_))
theorem regReadStpF (rb : Nat) (s : RS) (st : St) : TrF Tryz.prog 78 [.ptr rb 0, .i 8, .fn (.func 79) [] []] (rdR rb s :: st) fun x st' => x = .sl .shared ((Reg.rlist Reg.getStep 9 s).1.map Stp.cells) ∧ st' = rdR rb (Reg.rlist Reg.getStep 9 s).2 :: st := by
  have hN := Lib.hid (rdNumF rb s)
  have hnp := RS.rnum_pos s
  have hBad := Lib.hid (rdBadF rb)
  have hI := Lib.hid fun s st => regGetStepF rb s st
  unfold Reg.rlist
  generalize s.rnum = q at *
  obtain ⟨n, s2⟩ := q
  dsimp only at *
  obtain ⟨m, hm⟩ : ∃ m : Nat, (if (9 : Int) < n then (9 : Int) else n) = m := ⟨(if (9 : Int) < n then (9 : Int) else n).toNat, by split <;> omega⟩
  have hm9 : m ≤ 9 := by split at hm <;> omega
  rw [hm, Int.toNat_natCast]
  obtain ⟨res, hres⟩ : ∃ r, Reg.rdL Reg.getStep m s2 = r := ⟨_, rfl⟩
  have hE : Hid ([] ++ (Reg.rdL Reg.getStep (m - 0) s2).1 = res.1 ∧ (Reg.rdL Reg.getStep (m - 0) s2).2 = res.2) := by
    show _ ∧ _
    rw [Nat.sub_zero, hres]
    exact ⟨rfl, rfl⟩
  rw [hres]
  clear hres hnp
  refine trF_enter (ts := [6]) Tryz.func78 rfl (by rw [Tryz.ntmps78]; exact Nat.le_of_ble_eq_true rfl) (fun tmps w => by simp [results, Tryz.results78, go_sem, resVal]) ?_
  simp only [Tryz.ntmps78]
  refine tr_room 79 10 ([] : List (List D)).length ?_
  repeat' (first | with_reducible refine Go1.go ?_ | ((with_reducible apply ev_go); (focus ((try simp (disch := omega) only [push_cast, simprocAttr, *]); (try exact rfl); done))) | ((with_reducible refine w_last ?_ ?_ ?_); kernel_rfl; rfl) | with_reducible refine Go2.go ?_ | ((with_reducible first | apply w_stepG | refine s_bi ?_ ?_ | refine blk_ne ?_ ?_); rfl) | ((with_reducible refine al_go ?_); intro b) | ((with_reducible apply (ck_at Tryz.call142)); exact LEL.refl _; exact hN.out; (focus ((repeat (first | exact ra_h | apply ra_t)); done))) | ((with_reducible apply a2_go); (focus (first | assumption | (intro h; cases h))); (focus (intro o'; repeat (first | exact ra_h | apply ra_t))); (iterate 2 (focus (first | assumption | exact len_nil | exact len_one rfl | (intro a ha; obtain ⟨x, -, rfl⟩ := List.mem_map.1 ha; first | rfl | simp) | (intro a ha; simp at ha; simp [ha])))); (iterate 2 (focus (first | omega | (simp only [List.length_map, List.length_cons, List.length_nil, List.length_append]; omega)))); intro o' ho') | ((with_reducible first | refine w_region ?_ ?_ | refine w_dra ?_ ?_); kernel_rfl) | ((with_reducible refine Go3.go ?_ ?_); all_goals (intro hb; (try with_reducible intro hb1); (try (exfalso; first | contradiction | omega)))) | fail)
  clear hN
  refine tr_loopd (ι := Nat) (fun i A st' => i ≤ m ∧ A.df = [] ∧ A.e 0 = .ptr rb 0 ∧ A.e 2 = .fn (.func 79) [] [] ∧ A.e 14 = .i m ∧ A.e 15 = .i i ∧ ∃ o' L s', o' ≠ .shared ∧ L.length ≤ i ∧ Hid (L ++ (Reg.rdL Reg.getStep (m - i) s').1 = res.1 ∧ (Reg.rdL Reg.getStep (m - i) s').2 = res.2) ∧ A.e 8 = .sl o' (L.map Stp.cells) ∧ st' = .room o' 79 10 (L.map Stp.cells).length :: rdR rb s' :: st) (fun i => m - i) 0 ⟨Nat.zero_le _, ?_, ?_, ?_, ?_, ?_, .tight, [], s2, by decide, Nat.le_refl _, hE, ?_, rfl⟩ ?_
  iterate 6 (focus (first | rfl | assumption | omega | (simp (disch := omega) only [push_cast, simprocAttr, *]; try omega; done)))
  clear hE hm
  rintro i A st' ⟨hi, hdf, e0, e2, e14, e15, o', L, s', ho', hLi, hE, e8, rfl⟩
  have hLc : (L.map Stp.cells).length = L.length := List.length_map ..
  by_cases hlt : i < m
  · have hHE := hE.out
    rw [show m - i = (m - (i + 1)) + 1 by omega, Reg.rdL] at hHE
    cases hsb : s'.bad with
    | true =>
      rw [hsb, if_pos rfl] at hHE
      obtain ⟨r1, r2⟩ := res
      obtain ⟨hr1, hr2⟩ := hHE
      dsimp only at hr1 hr2
      rw [List.append_nil] at hr1
      subst hr1 hr2
      have hBs := hBad.out s'
      rw [hsb] at hBs
      replace hBs := Lib.hid hBs
      clear hE hI hBad
      repeat' (first | with_reducible refine Go1.go ?_ | ((with_reducible apply ev_go); (focus ((try simp (disch := omega) only [push_cast, simprocAttr, *]); (try exact rfl); done))) | ((with_reducible refine w_last ?_ ?_ ?_); kernel_rfl; rfl) | with_reducible refine Go2.go ?_ | ((with_reducible first | apply w_stepG | refine s_bi ?_ ?_ | refine blk_ne ?_ ?_); rfl) | ((with_reducible refine al_go ?_); intro b) | ((with_reducible apply (ck_at Tryz.call80)); exact LEL.refl _; exact hBs.out; (focus ((repeat (first | exact ra_h | apply ra_t)); done))) | ((with_reducible apply a2_go); (focus (first | assumption | (intro h; cases h))); (focus (intro o'; repeat (first | exact ra_h | apply ra_t))); (iterate 2 (focus (first | assumption | exact len_nil | exact len_one rfl | (intro a ha; obtain ⟨x, -, rfl⟩ := List.mem_map.1 ha; first | rfl | simp) | (intro a ha; simp at ha; simp [ha])))); (iterate 2 (focus (first | omega | (simp only [List.length_map, List.length_cons, List.length_nil, List.length_append]; omega)))); intro o' ho') | ((with_reducible first | refine w_region ?_ ?_ | refine w_dra ?_ ?_); kernel_rfl) | ((with_reducible refine Go3.go ?_ ?_); all_goals (intro hb; (try with_reducible intro hb1); (try (exfalso; first | contradiction | omega)))) | fail)
      all_goals (refine ret_eq (by simp) (by first | rfl | assumption) (by (repeat (first | exact List.Sublist.refl _ | apply List.Sublist.cons))) ?_; (try simp (disch := omega) only [push_cast, simprocAttr, *]); try (first | exact LE.refl _ | exact LE.sl _ _ | ((first | refine LE.tup ?_ | refine LE.agg ?_); (repeat' (first | exact LEL.nil | refine LEL.cons ?_ ?_ | exact LE.refl _ | exact LE.sl _ _ | refine LE.agg ?_)); done) | refine LE.of_eq ?_))
    | false =>
      rw [hsb, if_neg Bool.false_ne_true] at hHE
      have hIs := hI.out s'
      have hBs := hBad.out s'
      rw [hsb] at hBs
      generalize Reg.getStep s' = x3 at *
      obtain ⟨x, s3⟩ := x3
      dsimp only at hHE hIs
      have hE2 : Hid ((L ++ [x]) ++ (Reg.rdL Reg.getStep (m - (i + 1)) s3).1 = res.1 ∧ (Reg.rdL Reg.getStep (m - (i + 1)) s3).2 = res.2) := by
        show _ ∧ _
        rw [List.append_assoc]
        exact hHE
      have hL4 : ∀ a ∈ L.map Stp.cells, a.length = 10 := fun a ha => by
        obtain ⟨x, -, rfl⟩ := List.mem_map.1 ha
        exact Stp.cells_len2 x
      have hLs : (L ++ [x]).map Stp.cells = L.map Stp.cells ++ [Stp.cells x] := List.map_append ..
      have hLk : (L ++ [x]).length ≤ i + 1 := by rw [List.length_append, List.length_singleton]; omega
      generalize L.map Stp.cells = M at *
      cases x with
      | mk kind col slot order =>
      cases slot with
      | mk nm ty rq dv =>
      cases dv with
      | mk k n sv lv =>
      rw [Stp.cells_mk] at hLs hIs
      generalize order.map encI = OS at *
      replace hBs := Lib.hid hBs
      replace hIs := Lib.hid hIs
      replace hLs := Lib.hid hLs
      clear hE hI hBad hHE
      repeat' (first | with_reducible refine Go1.go ?_ | ((with_reducible apply ev_go); (focus ((try simp (disch := omega) only [push_cast, simprocAttr, *]); (try exact rfl); done))) | ((with_reducible refine w_last ?_ ?_ ?_); kernel_rfl; rfl) | with_reducible refine Go2.go ?_ | ((with_reducible first | apply w_stepG | refine s_bi ?_ ?_ | refine blk_ne ?_ ?_); rfl) | ((with_reducible refine al_go ?_); intro b) | ((with_reducible apply (ck_at Tryz.call80)); exact LEL.refl _; exact hBs.out; (focus ((repeat (first | exact ra_h | apply ra_t)); done))) | ((with_reducible apply (ck_at Tryz.call79)); exact LEL.refl _; exact hIs.out; (focus ((repeat (first | exact ra_h | apply ra_t)); done))) | ((with_reducible apply a2_go); (focus (first | assumption | (intro h; cases h))); (focus (intro o'; repeat (first | exact ra_h | apply ra_t))); (iterate 2 (focus (first | assumption | exact len_nil | exact len_one rfl | (intro a ha; obtain ⟨x, -, rfl⟩ := List.mem_map.1 ha; first | rfl | simp) | (intro a ha; simp at ha; simp [ha])))); (iterate 2 (focus (first | omega | (simp only [List.length_map, List.length_cons, List.length_nil, List.length_append]; omega)))); intro o' ho') | ((with_reducible first | refine w_region ?_ ?_ | refine w_dra ?_ ?_); kernel_rfl) | ((with_reducible refine Go3.go ?_ ?_); all_goals (intro hb; (try with_reducible intro hb1); (try (exfalso; first | contradiction | omega)))) | fail)
      refine ⟨i + 1, .room o' 79 10 ((L ++ [(⟨kind, col, ⟨nm, ty, rq, .mk k n sv lv⟩, order⟩ : Stp)]).map Stp.cells).length :: rdR rb s3 :: st, ?_, ⟨hlt, ?_, ?_, ?_, ?_, ?_, o', L ++ [⟨kind, col, ⟨nm, ty, rq, .mk k n sv lv⟩, order⟩], s3, ho', hLk, hE2, ?_, rfl⟩, ?_⟩
      · rw [hLs.out]; (repeat (first | exact List.Sublist.refl _ | apply List.Sublist.cons))
      rotate_right 2
      · rw [hLs.out]; (first | rfl | assumption | omega | (simp (disch := omega) only [push_cast, simprocAttr, *]; try omega; done))
      all_goals (first | rfl | assumption | omega | (simp (disch := omega) only [push_cast, simprocAttr, *]; try omega; done))
  · have hHE := hE.out
    rw [show m - i = 0 by omega, Reg.rdL] at hHE
    obtain ⟨r1, r2⟩ := res
    obtain ⟨hr1, hr2⟩ := hHE
    dsimp only at hr1 hr2
    rw [List.append_nil] at hr1
    subst hr1 hr2
    clear hE hI hBad
    repeat' (first | with_reducible refine Go1.go ?_ | ((with_reducible apply ev_go); (focus ((try simp (disch := omega) only [push_cast, simprocAttr, *]); (try exact rfl); done))) | ((with_reducible refine w_last ?_ ?_ ?_); kernel_rfl; rfl) | with_reducible refine Go2.go ?_ | ((with_reducible first | apply w_stepG | refine s_bi ?_ ?_ | refine blk_ne ?_ ?_); rfl) | ((with_reducible refine al_go ?_); intro b) | ((with_reducible apply a2_go); (focus (first | assumption | (intro h; cases h))); (focus (intro o'; repeat (first | exact ra_h | apply ra_t))); (iterate 2 (focus (first | assumption | exact len_nil | exact len_one rfl | (intro a ha; obtain ⟨x, -, rfl⟩ := List.mem_map.1 ha; first | rfl | simp) | (intro a ha; simp at ha; simp [ha])))); (iterate 2 (focus (first | omega | (simp only [List.length_map, List.length_cons, List.length_nil, List.length_append]; omega)))); intro o' ho') | ((with_reducible first | refine w_region ?_ ?_ | refine w_dra ?_ ?_); kernel_rfl) | ((with_reducible refine Go3.go ?_ ?_); all_goals (intro hb; (try with_reducible intro hb1); (try (exfalso; first | contradiction | omega)))) | fail)
    all_goals (refine ret_eq (by simp) (by first | rfl | assumption) (by (repeat (first | exact List.Sublist.refl _ | apply List.Sublist.cons))) ?_; (try simp (disch := omega) only [push_cast, simprocAttr, *]); try (first | exact LE.refl _ | exact LE.sl _ _ | ((first | refine LE.tup ?_ | refine LE.agg ?_); (repeat' (first | exact LEL.nil | refine LEL.cons ?_ ?_ | exact LE.refl _ | exact LE.sl _ _ | refine LE.agg ?_)); done) | refine LE.of_eq ?_))
theorem regGetTmF (rb : Nat) (s : RS) (st : St) : TrF Tryz.prog 74 [.ptr rb 0] (rdR rb s :: st) fun x st' => x = .agg (Reg.getTm s).1.cells ∧ st' = rdR rb (Reg.getTm s).2 :: st := by
  have hT := rdTextF rb s
  unfold Reg.getTm Tm.cells
  generalize s.text = q at *
  obtain ⟨nm, s1⟩ := q
  dsimp only at *
  have hS := regReadSlF rb s1
  generalize Reg.rlist Reg.getSlot 9 s1 = q at *
  obtain ⟨ss, s2⟩ := q
  dsimp only at *
  have hP := regReadStpF rb s2
  generalize Reg.rlist Reg.getStep 9 s2 = q at *
  obtain ⟨tt, s3⟩ := q
  dsimp only at *
  generalize ss.map Sl.cells = SS at *
  generalize tt.map Stp.cells = TT at *
  replace hT := Lib.hid hT
  replace hS := Lib.hid hS
  replace hP := Lib.hid hP
  refine trF_enterC (G := cellA 2 36 Tryz.prog) Tryz.func74 rfl (by rw [Tryz.ntmps74]; exact Nat.le_of_ble_eq_true rfl) (fun h1 h2 h3 => res_cell rfl h1 h2 h3) ?_
  simp only [Tryz.ntmps74]
  repeat' (first | with_reducible refine Go1.go ?_ | ((with_reducible apply ev_go); (focus ((try simp (disch := omega) only [push_cast, simprocAttr, *]); (try exact rfl); done))) | ((with_reducible refine w_last ?_ ?_ ?_); kernel_rfl; rfl) | with_reducible refine Go2.go ?_ | ((with_reducible first | apply w_stepG | refine s_bi ?_ ?_ | refine blk_ne ?_ ?_); rfl) | ((with_reducible refine al_go ?_); intro b) | ((with_reducible apply (ck_at Tryz.call75)); exact LEL.refl _; exact hT.out; (focus ((repeat (first | exact ra_h | apply ra_t)); done))) | ((with_reducible apply (ck_at Tryz.call76)); exact LEL.refl _; exact hS.out; (focus ((repeat (first | exact ra_h | apply ra_t)); done))) | ((with_reducible apply (ck_at Tryz.call78)); exact LEL.refl _; exact hP.out; (focus ((repeat (first | exact ra_h | apply ra_t)); done))) | ((with_reducible first | refine w_region ?_ ?_ | refine w_dra ?_ ?_); kernel_rfl) | ((with_reducible refine Go3.go ?_ ?_); all_goals (intro hb; (try with_reducible intro hb1); (try (exfalso; first | contradiction | omega)))) | fail)
  all_goals (refine retC_cell (by simp) (by first | rfl | assumption) (by simp (disch := omega) only [push_cast, simprocAttr, *]; exact rfl) (by repeat (first | exact mm_h | apply mm_t)) (by simp (disch := omega) only [push_cast, simprocAttr, *]; exact rfl) (by (try simp (disch := omega) only [push_cast, simprocAttr, *]); (try exact rfl); done) (by (repeat (first | exact List.Sublist.refl _ | apply List.Sublist.cons))) ?_ ⟨rfl, rfl⟩; (try simp (disch := omega) only [push_cast, simprocAttr, *]); try (first | exact LE.refl _ | exact LE.sl _ _ | ((first | refine LE.tup ?_ | refine LE.agg ?_); (repeat' (first | exact LEL.nil | refine LEL.cons ?_ ?_ | exact LE.refl _ | exact LE.sl _ _ | refine LE.agg ?_)); done) | refine LE.of_eq ?_))
theorem regReadTmF (rb : Nat) (s : RS) (st : St) : TrF Tryz.prog 73 [.ptr rb 0, .i 6, .fn (.func 74) [] []] (rdR rb s :: st) fun x st' => x = .sl .shared ((Reg.rlist Reg.getTm 7 s).1.map Tm.cells) ∧ st' = rdR rb (Reg.rlist Reg.getTm 7 s).2 :: st := by
  have hN := Lib.hid (rdNumF rb s)
  have hnp := RS.rnum_pos s
  have hBad := Lib.hid (rdBadF rb)
  have hI := Lib.hid fun s st => regGetTmF rb s st
  unfold Reg.rlist
  generalize s.rnum = q at *
  obtain ⟨n, s2⟩ := q
  dsimp only at *
  obtain ⟨m, hm⟩ : ∃ m : Nat, (if (7 : Int) < n then (7 : Int) else n) = m := ⟨(if (7 : Int) < n then (7 : Int) else n).toNat, by split <;> omega⟩
  have hm9 : m ≤ 7 := by split at hm <;> omega
  rw [hm, Int.toNat_natCast]
  obtain ⟨res, hres⟩ : ∃ r, Reg.rdL Reg.getTm m s2 = r := ⟨_, rfl⟩
  have hE : Hid ([] ++ (Reg.rdL Reg.getTm (m - 0) s2).1 = res.1 ∧ (Reg.rdL Reg.getTm (m - 0) s2).2 = res.2) := by
    show _ ∧ _
    rw [Nat.sub_zero, hres]
    exact ⟨rfl, rfl⟩
  rw [hres]
  clear hres hnp
  refine trF_enter (ts := [6]) Tryz.func73 rfl (by rw [Tryz.ntmps73]; exact Nat.le_of_ble_eq_true rfl) (fun tmps w => by simp [results, Tryz.results73, go_sem, resVal]) ?_
  simp only [Tryz.ntmps73]
  refine tr_room 36 3 ([] : List (List D)).length ?_
  repeat' (first | with_reducible refine Go1.go ?_ | ((with_reducible apply ev_go); (focus ((try simp (disch := omega) only [push_cast, simprocAttr, *]); (try exact rfl); done))) | ((with_reducible refine w_last ?_ ?_ ?_); kernel_rfl; rfl) | with_reducible refine Go2.go ?_ | ((with_reducible first | apply w_stepG | refine s_bi ?_ ?_ | refine blk_ne ?_ ?_); rfl) | ((with_reducible refine al_go ?_); intro b) | ((with_reducible apply (ck_at Tryz.call142)); exact LEL.refl _; exact hN.out; (focus ((repeat (first | exact ra_h | apply ra_t)); done))) | ((with_reducible apply a2_go); (focus (first | assumption | (intro h; cases h))); (focus (intro o'; repeat (first | exact ra_h | apply ra_t))); (iterate 2 (focus (first | assumption | exact len_nil | exact len_one rfl | (intro a ha; obtain ⟨x, -, rfl⟩ := List.mem_map.1 ha; first | rfl | simp) | (intro a ha; simp at ha; simp [ha])))); (iterate 2 (focus (first | omega | (simp only [List.length_map, List.length_cons, List.length_nil, List.length_append]; omega)))); intro o' ho') | ((with_reducible first | refine w_region ?_ ?_ | refine w_dra ?_ ?_); kernel_rfl) | ((with_reducible refine Go3.go ?_ ?_); all_goals (intro hb; (try with_reducible intro hb1); (try (exfalso; first | contradiction | omega)))) | fail)
  clear hN
  refine tr_loopd (ι := Nat) (fun i A st' => i ≤ m ∧ A.df = [] ∧ A.e 0 = .ptr rb 0 ∧ A.e 2 = .fn (.func 74) [] [] ∧ A.e 14 = .i m ∧ A.e 15 = .i i ∧ ∃ o' L s', o' ≠ .shared ∧ L.length ≤ i ∧ Hid (L ++ (Reg.rdL Reg.getTm (m - i) s').1 = res.1 ∧ (Reg.rdL Reg.getTm (m - i) s').2 = res.2) ∧ A.e 8 = .sl o' (L.map Tm.cells) ∧ st' = .room o' 36 3 (L.map Tm.cells).length :: rdR rb s' :: st) (fun i => m - i) 0 ⟨Nat.zero_le _, ?_, ?_, ?_, ?_, ?_, .tight, [], s2, by decide, Nat.le_refl _, hE, ?_, rfl⟩ ?_
  iterate 6 (focus (first | rfl | assumption | omega | (simp (disch := omega) only [push_cast, simprocAttr, *]; try omega; done)))
  clear hE hm
  rintro i A st' ⟨hi, hdf, e0, e2, e14, e15, o', L, s', ho', hLi, hE, e8, rfl⟩
  have hLc : (L.map Tm.cells).length = L.length := List.length_map ..
  by_cases hlt : i < m
  · have hHE := hE.out
    rw [show m - i = (m - (i + 1)) + 1 by omega, Reg.rdL] at hHE
    cases hsb : s'.bad with
    | true =>
      rw [hsb, if_pos rfl] at hHE
      obtain ⟨r1, r2⟩ := res
      obtain ⟨hr1, hr2⟩ := hHE
      dsimp only at hr1 hr2
      rw [List.append_nil] at hr1
      subst hr1 hr2
      have hBs := hBad.out s'
      rw [hsb] at hBs
      replace hBs := Lib.hid hBs
      clear hE hI hBad
      repeat' (first | with_reducible refine Go1.go ?_ | ((with_reducible apply ev_go); (focus ((try simp (disch := omega) only [push_cast, simprocAttr, *]); (try exact rfl); done))) | ((with_reducible refine w_last ?_ ?_ ?_); kernel_rfl; rfl) | with_reducible refine Go2.go ?_ | ((with_reducible first | apply w_stepG | refine s_bi ?_ ?_ | refine blk_ne ?_ ?_); rfl) | ((with_reducible refine al_go ?_); intro b) | ((with_reducible apply (ck_at Tryz.call80)); exact LEL.refl _; exact hBs.out; (focus ((repeat (first | exact ra_h | apply ra_t)); done))) | ((with_reducible apply a2_go); (focus (first | assumption | (intro h; cases h))); (focus (intro o'; repeat (first | exact ra_h | apply ra_t))); (iterate 2 (focus (first | assumption | exact len_nil | exact len_one rfl | (intro a ha; obtain ⟨x, -, rfl⟩ := List.mem_map.1 ha; first | rfl | simp) | (intro a ha; simp at ha; simp [ha])))); (iterate 2 (focus (first | omega | (simp only [List.length_map, List.length_cons, List.length_nil, List.length_append]; omega)))); intro o' ho') | ((with_reducible first | refine w_region ?_ ?_ | refine w_dra ?_ ?_); kernel_rfl) | ((with_reducible refine Go3.go ?_ ?_); all_goals (intro hb; (try with_reducible intro hb1); (try (exfalso; first | contradiction | omega)))) | fail)
      all_goals (refine ret_eq (by simp) (by first | rfl | assumption) (by (repeat (first | exact List.Sublist.refl _ | apply List.Sublist.cons))) ?_; (try simp (disch := omega) only [push_cast, simprocAttr, *]); try (first | exact LE.refl _ | exact LE.sl _ _ | ((first | refine LE.tup ?_ | refine LE.agg ?_); (repeat' (first | exact LEL.nil | refine LEL.cons ?_ ?_ | exact LE.refl _ | exact LE.sl _ _ | refine LE.agg ?_)); done) | refine LE.of_eq ?_))
    | false =>
      rw [hsb, if_neg Bool.false_ne_true] at hHE
      have hIs := hI.out s'
      have hBs := hBad.out s'
      rw [hsb] at hBs
      generalize Reg.getTm s' = x3 at *
      obtain ⟨x, s3⟩ := x3
      dsimp only at hHE hIs
      have hE2 : Hid ((L ++ [x]) ++ (Reg.rdL Reg.getTm (m - (i + 1)) s3).1 = res.1 ∧ (Reg.rdL Reg.getTm (m - (i + 1)) s3).2 = res.2) := by
        show _ ∧ _
        rw [List.append_assoc]
        exact hHE
      have hL4 : ∀ a ∈ L.map Tm.cells, a.length = 3 := fun a ha => by
        obtain ⟨x, -, rfl⟩ := List.mem_map.1 ha
        exact rfl
      have hLs : (L ++ [x]).map Tm.cells = L.map Tm.cells ++ [Tm.cells x] := List.map_append ..
      have hLk : (L ++ [x]).length ≤ i + 1 := by rw [List.length_append, List.length_singleton]; omega
      generalize L.map Tm.cells = M at *
      cases x with
      | mk nm ss tt =>
      rw [Tm.cells_mk] at hLs hIs
      generalize ss.map Sl.cells = SS at *
      generalize tt.map Stp.cells = TT at *
      replace hBs := Lib.hid hBs
      replace hIs := Lib.hid hIs
      replace hLs := Lib.hid hLs
      clear hE hI hBad hHE
      repeat' (first | with_reducible refine Go1.go ?_ | ((with_reducible apply ev_go); (focus ((try simp (disch := omega) only [push_cast, simprocAttr, *]); (try exact rfl); done))) | ((with_reducible refine w_last ?_ ?_ ?_); kernel_rfl; rfl) | with_reducible refine Go2.go ?_ | ((with_reducible first | apply w_stepG | refine s_bi ?_ ?_ | refine blk_ne ?_ ?_); rfl) | ((with_reducible refine al_go ?_); intro b) | ((with_reducible apply (ck_at Tryz.call80)); exact LEL.refl _; exact hBs.out; (focus ((repeat (first | exact ra_h | apply ra_t)); done))) | ((with_reducible apply (ck_at Tryz.call74)); exact LEL.refl _; exact hIs.out; (focus ((repeat (first | exact ra_h | apply ra_t)); done))) | ((with_reducible apply a2_go); (focus (first | assumption | (intro h; cases h))); (focus (intro o'; repeat (first | exact ra_h | apply ra_t))); (iterate 2 (focus (first | assumption | exact len_nil | exact len_one rfl | (intro a ha; obtain ⟨x, -, rfl⟩ := List.mem_map.1 ha; first | rfl | simp) | (intro a ha; simp at ha; simp [ha])))); (iterate 2 (focus (first | omega | (simp only [List.length_map, List.length_cons, List.length_nil, List.length_append]; omega)))); intro o' ho') | ((with_reducible first | refine w_region ?_ ?_ | refine w_dra ?_ ?_); kernel_rfl) | ((with_reducible refine Go3.go ?_ ?_); all_goals (intro hb; (try with_reducible intro hb1); (try (exfalso; first | contradiction | omega)))) | fail)
      refine ⟨i + 1, .room o' 36 3 ((L ++ [(⟨nm, ss, tt⟩ : Tm)]).map Tm.cells).length :: rdR rb s3 :: st, ?_, ⟨hlt, ?_, ?_, ?_, ?_, ?_, o', L ++ [⟨nm, ss, tt⟩], s3, ho', hLk, hE2, ?_, rfl⟩, ?_⟩
      · rw [hLs.out]; (repeat (first | exact List.Sublist.refl _ | apply List.Sublist.cons))
      rotate_right 2
      · rw [hLs.out]; (first | rfl | assumption | omega | (simp (disch := omega) only [push_cast, simprocAttr, *]; try omega; done))
      all_goals (first | rfl | assumption | omega | (simp (disch := omega) only [push_cast, simprocAttr, *]; try omega; done))
  · have hHE := hE.out
    rw [show m - i = 0 by omega, Reg.rdL] at hHE
    obtain ⟨r1, r2⟩ := res
    obtain ⟨hr1, hr2⟩ := hHE
    dsimp only at hr1 hr2
    rw [List.append_nil] at hr1
    subst hr1 hr2
    clear hE hI hBad
    repeat' (first | with_reducible refine Go1.go ?_ | ((with_reducible apply ev_go); (focus ((try simp (disch := omega) only [push_cast, simprocAttr, *]); (try exact rfl); done))) | ((with_reducible refine w_last ?_ ?_ ?_); kernel_rfl; rfl) | with_reducible refine Go2.go ?_ | ((with_reducible first | apply w_stepG | refine s_bi ?_ ?_ | refine blk_ne ?_ ?_); rfl) | ((with_reducible refine al_go ?_); intro b) | ((with_reducible apply a2_go); (focus (first | assumption | (intro h; cases h))); (focus (intro o'; repeat (first | exact ra_h | apply ra_t))); (iterate 2 (focus (first | assumption | exact len_nil | exact len_one rfl | (intro a ha; obtain ⟨x, -, rfl⟩ := List.mem_map.1 ha; first | rfl | simp) | (intro a ha; simp at ha; simp [ha])))); (iterate 2 (focus (first | omega | (simp only [List.length_map, List.length_cons, List.length_nil, List.length_append]; omega)))); intro o' ho') | ((with_reducible first | refine w_region ?_ ?_ | refine w_dra ?_ ?_); kernel_rfl) | ((with_reducible refine Go3.go ?_ ?_); all_goals (intro hb; (try with_reducible intro hb1); (try (exfalso; first | contradiction | omega)))) | fail)
    all_goals (refine ret_eq (by simp) (by first | rfl | assumption) (by (repeat (first | exact List.Sublist.refl _ | apply List.Sublist.cons))) ?_; (try simp (disch := omega) only [push_cast, simprocAttr, *]); try (first | exact LE.refl _ | exact LE.sl _ _ | ((first | refine LE.tup ?_ | refine LE.agg ?_); (repeat' (first | exact LEL.nil | refine LEL.cons ?_ ?_ | exact LE.refl _ | exact LE.sl _ _ | refine LE.agg ?_)); done) | refine LE.of_eq ?_))
end Go.Proofs.YtgcienlfpnpbgaaGreat
end

section
namespace Go.Proofs.YtgcienlfpnpbgaaGreat
set_option linter.unusedSimpArgs false
attribute [local push_cast] encB encI RS.cells V.cells_mk V.cells_len Nat.mul_one Int.sub_zero List.map_nil beq_self_eq_true bne_self_eq_false List.head?_cons
open Go.RowKit B
set_option maxRecDepth 10000
set_option maxHeartbeats 8000000
namespace Reg
theorem rdL_len {α : Type} (f : RS → α × RS) : ∀ (n : Nat) (s : RS), (rdL f n s).1.length ≤ n
  | 0, s => Nat.le_refl _
  | n + 1, s => by
    rw [rdL]
    split
    · exact Nat.zero_le _
    · rw [List.length_cons]
      have := rdL_len f n (f s).2
      omega
theorem rlist_len {α : Type} (f : RS → α × RS) (k : Int) (s : RS) : (rlist f k s).1.length ≤ k.toNat := by
  unfold rlist
  have := rdL_len f (if k < s.rnum.1 then k else s.rnum.1).toNat s.rnum.2
  split at this <;> split <;> omega
def get (b : List UInt8) : Option (List Tm) := if (read ⟨.shared, b, false⟩).1.isSome = true ∧ (read ⟨.shared, b, false⟩).2.bad = false ∧ (read ⟨.shared, b, false⟩).2.l.length = 0 then (read ⟨.shared, b, false⟩).1 else none
end Reg
theorem cloneB2F (o : Own) (l : List UInt8) (hl : l.length ≤ 10000000) (st : St) : TrF Tryz.prog 72 [.sl o (l.map encB)] st fun d st' => d = .sl .shared (l.map encB) ∧ st' = st := by
  refine trF_enter (ts := [2]) Tryz.func72 rfl (by rw [Tryz.ntmps72]; exact Nat.le_of_ble_eq_true rfl) (fun tmps w => by simp [results, Tryz.results72, go_sem, resVal]) ?_
  simp only [Tryz.ntmps72]
  refine tr_room 5 1 0 ?_
  repeat' (first | with_reducible refine Go1.go ?_ | ((with_reducible apply ev_go); (focus ((try simp (disch := omega) only [push_cast, simprocAttr, *]); (try exact rfl); done))) | ((with_reducible apply s_isNil); (focus ((try simp (disch := omega) only [push_cast, simprocAttr, *]); (try exact rfl); done)); (focus ((try simp (disch := omega) only [push_cast, simprocAttr, *]); (try exact rfl); done)); intro bn hbn) | ((with_reducible refine w_last ?_ ?_ ?_); kernel_rfl; rfl) | with_reducible refine Go2.go ?_ | ((with_reducible first | apply w_stepG | refine s_bi ?_ ?_ | refine blk_ne ?_ ?_); rfl) | ((with_reducible refine al_go ?_); intro b) | ((with_reducible apply a2_go); (focus (first | assumption | (intro h; cases h))); (focus (intro o'; repeat (first | exact ra_h | apply ra_t))); (iterate 2 (focus (first | assumption | exact len_nil | exact len_one rfl | (intro a ha; obtain ⟨x, -, rfl⟩ := List.mem_map.1 ha; first | rfl | simp) | (intro a ha; simp at ha; simp [ha])))); (iterate 2 (focus (first | omega | (simp only [List.length_map, List.length_cons, List.length_nil, List.length_append]; omega)))); intro o' ho') | ((with_reducible apply p2_go); (focus (first | assumption | (intro h; cases h))); (focus (intro o'; repeat (first | exact ra_h | apply ra_t))); (focus (first | assumption | exact len_nil | exact len_one rfl | (intro a ha; obtain ⟨x, -, rfl⟩ := List.mem_map.1 ha; first | rfl | simp) | (intro a ha; simp at ha; simp [ha]))); (iterate 2 (focus (first | omega | (simp only [List.length_map, List.length_cons, List.length_nil, List.length_append]; omega)))); intro o' ho') | ((with_reducible first | refine w_region ?_ ?_ | refine w_dra ?_ ?_); kernel_rfl) | ((with_reducible refine Go3.go ?_ ?_); all_goals (intro hb; (try with_reducible intro hb1); (try (exfalso; first | contradiction | omega)))) | fail)
  · have h := hbn hb
    rw [h]
    clear hbn hb h
    (refine ret_eq (by simp) (by first | rfl | assumption) (by (repeat (first | exact List.Sublist.refl _ | apply List.Sublist.cons))) ?_; (try simp (disch := omega) only [push_cast, simprocAttr, *]); try (first | exact LE.refl _ | exact LE.sl _ _ | ((first | refine LE.tup ?_ | refine LE.agg ?_); (repeat' (first | exact LEL.nil | refine LEL.cons ?_ ?_ | exact LE.refl _ | exact LE.sl _ _ | refine LE.agg ?_)); done) | refine LE.of_eq ?_))
  · (refine ret_eq (by simp) (by first | rfl | assumption) (by (repeat (first | exact List.Sublist.refl _ | apply List.Sublist.cons))) ?_; (try simp (disch := omega) only [push_cast, simprocAttr, *]); try (first | exact LE.refl _ | exact LE.sl _ _ | ((first | refine LE.tup ?_ | refine LE.agg ?_); (repeat' (first | exact LEL.nil | refine LEL.cons ?_ ?_ | exact LE.refl _ | exact LE.sl _ _ | refine LE.agg ?_)); done) | refine LE.of_eq ?_))
theorem binRead2F (o : Own) (l : List UInt8) (hl : l.length ≤ 10000000) (st : St) : TrF Tryz.prog 27 [.sl o (l.map encB)] st fun d st' => ∃ b, d = .ptr b 0 ∧ st' = rdR b ⟨.shared, l, false⟩ :: st := by
  have hC := Lib.hid (cloneB2F o l hl)
  refine trF_enter (ts := [2]) Tryz.func27 rfl (by rw [Tryz.ntmps27]; exact Nat.le_of_ble_eq_true rfl) (fun tmps w => by simp [results, Tryz.results27, go_sem, resVal]) ?_
  simp only [Tryz.ntmps27]
  repeat' (first | with_reducible refine Go1.go ?_ | ((with_reducible apply ev_go); (focus ((try simp (disch := omega) only [push_cast, simprocAttr, *]); (try exact rfl); done))) | with_reducible refine s_boxP ?_ | ((with_reducible refine w_last ?_ ?_ ?_); kernel_rfl; rfl) | with_reducible refine Go2.go ?_ | ((with_reducible first | apply w_stepG | refine s_bi ?_ ?_ | refine blk_ne ?_ ?_); rfl) | ((with_reducible refine al_go ?_); intro b) | ((with_reducible apply (ck_le Tryz.call72)); exact LEL.refl _; exact hC.out _) | ((with_reducible apply a2_go); (focus (first | assumption | (intro h; cases h))); (focus (intro o'; repeat (first | exact ra_h | apply ra_t))); (iterate 2 (focus (first | assumption | exact len_nil | exact len_one rfl | (intro a ha; obtain ⟨x, -, rfl⟩ := List.mem_map.1 ha; first | rfl | simp) | (intro a ha; simp at ha; simp [ha])))); (iterate 2 (focus (first | omega | (simp only [List.length_map, List.length_cons, List.length_nil, List.length_append]; omega)))); intro o' ho') | ((with_reducible apply p2_go); (focus (first | assumption | (intro h; cases h))); (focus (intro o'; repeat (first | exact ra_h | apply ra_t))); (focus (first | assumption | exact len_nil | exact len_one rfl | (intro a ha; obtain ⟨x, -, rfl⟩ := List.mem_map.1 ha; first | rfl | simp) | (intro a ha; simp at ha; simp [ha]))); (iterate 2 (focus (first | omega | (simp only [List.length_map, List.length_cons, List.length_nil, List.length_append]; omega)))); intro o' ho') | ((with_reducible first | refine w_region ?_ ?_ | refine w_dra ?_ ?_); kernel_rfl) | ((with_reducible refine Go3.go ?_ ?_); all_goals (intro hb; (try with_reducible intro hb1); (try (exfalso; first | contradiction | omega)))) | fail)
  refine ret_new (b := b) (B := fun b => rdR b ⟨.shared, l, false⟩) (by first | exact .inl rfl | exact .inr rfl) (by (first | rfl | assumption | omega | (simp (disch := omega) only [push_cast, simprocAttr, *]; try omega; done))) (by (first | rfl | assumption | omega | (simp (disch := omega) only [push_cast, simprocAttr, *]; try omega; done))) (.refl _)
theorem regReadF (rb : Nat) (s : RS) (hL : ∀ t ∈ (Reg.rlist Reg.getTm 7 s).1, TOk t) (st : St) : TrF Tryz.prog 28 [.ptr rb 0] (rdR rb s :: st) fun x st' => x = .tup [.sl .shared (((Reg.read s).1.getD []).map Tm.cells), .b (Reg.read s).1.isSome] ∧ st' = rdR rb (Reg.read s).2 :: st := by
  have hR := regReadTmF rb s
  have hT := regRightF _ hL (by have := Reg.rlist_len Reg.getTm 7 s; omega)
  have hB := rdBadF rb (Reg.rlist Reg.getTm 7 s).2
  unfold Reg.read
  clear hL
  generalize Reg.rlist Reg.getTm 7 s = q at *
  obtain ⟨L, s2⟩ := q
  dsimp only at *
  obtain ⟨LS, hLS⟩ : ∃ LS, L.map Tm.cells = LS := ⟨_, rfl⟩
  rw [hLS] at hR hT
  generalize Reg.right L = q at *
  obtain ⟨bd, hbd⟩ : ∃ b, s2.bad = b := ⟨_, rfl⟩
  rw [hbd] at hB ⊢
  replace hR := Lib.hid hR
  replace hT := Lib.hid hT
  replace hB := Lib.hid hB
  cases bd with
  | true =>
    rw [if_pos (.inl rfl)]
    dsimp only [Option.getD, Option.isSome]
    clear hLS
    refine trF_enter (ts := [2,3]) Tryz.func28 rfl (by rw [Tryz.ntmps28]; exact Nat.le_of_ble_eq_true rfl) (fun tmps w => by simp [results, Tryz.results28, go_sem, resVal]) ?_
    simp only [Tryz.ntmps28]
    repeat' (first | with_reducible refine Go1.go ?_ | ((with_reducible apply ev_go); (focus ((try simp (disch := omega) only [push_cast, simprocAttr, *]); (try exact rfl); done))) | ((with_reducible refine w_last ?_ ?_ ?_); kernel_rfl; rfl) | with_reducible refine Go2.go ?_ | ((with_reducible first | apply w_stepG | refine s_bi ?_ ?_ | refine blk_ne ?_ ?_); rfl) | ((with_reducible refine al_go ?_); intro b) | ((with_reducible apply (ck_at Tryz.call73)); exact LEL.refl _; exact hR.out; (focus ((repeat (first | exact ra_h | apply ra_t)); done))) | ((with_reducible apply (ck_at Tryz.call80)); exact LEL.refl _; exact hB.out; (focus ((repeat (first | exact ra_h | apply ra_t)); done))) | ((with_reducible apply (ck_le Tryz.call16)); exact LEL.refl _; exact hT.out _) | ((with_reducible first | refine w_region ?_ ?_ | refine w_dra ?_ ?_); kernel_rfl) | ((with_reducible refine Go3.go ?_ ?_); all_goals (intro hb; (try with_reducible intro hb1); (try (exfalso; first | contradiction | omega)))) | fail)
    all_goals (refine ret_eq (by simp) (by first | rfl | assumption) (by (repeat (first | exact List.Sublist.refl _ | apply List.Sublist.cons))) ?_; (try simp (disch := omega) only [push_cast, simprocAttr, *]); try (first | exact LE.refl _ | exact LE.sl _ _ | ((first | refine LE.tup ?_ | refine LE.agg ?_); (repeat' (first | exact LEL.nil | refine LEL.cons ?_ ?_ | exact LE.refl _ | exact LE.sl _ _ | refine LE.agg ?_)); done) | refine LE.of_eq ?_))
  | false =>
    cases q with
    | false =>
      rw [if_pos (.inr rfl)]
      dsimp only [Option.getD, Option.isSome]
      clear hLS
      refine trF_enter (ts := [2,3]) Tryz.func28 rfl (by rw [Tryz.ntmps28]; exact Nat.le_of_ble_eq_true rfl) (fun tmps w => by simp [results, Tryz.results28, go_sem, resVal]) ?_
      simp only [Tryz.ntmps28]
      repeat' (first | with_reducible refine Go1.go ?_ | ((with_reducible apply ev_go); (focus ((try simp (disch := omega) only [push_cast, simprocAttr, *]); (try exact rfl); done))) | ((with_reducible refine w_last ?_ ?_ ?_); kernel_rfl; rfl) | with_reducible refine Go2.go ?_ | ((with_reducible first | apply w_stepG | refine s_bi ?_ ?_ | refine blk_ne ?_ ?_); rfl) | ((with_reducible refine al_go ?_); intro b) | ((with_reducible apply (ck_at Tryz.call73)); exact LEL.refl _; exact hR.out; (focus ((repeat (first | exact ra_h | apply ra_t)); done))) | ((with_reducible apply (ck_at Tryz.call80)); exact LEL.refl _; exact hB.out; (focus ((repeat (first | exact ra_h | apply ra_t)); done))) | ((with_reducible apply (ck_le Tryz.call16)); exact LEL.refl _; exact hT.out _) | ((with_reducible first | refine w_region ?_ ?_ | refine w_dra ?_ ?_); kernel_rfl) | ((with_reducible refine Go3.go ?_ ?_); all_goals (intro hb; (try with_reducible intro hb1); (try (exfalso; first | contradiction | omega)))) | fail)
      all_goals (refine ret_eq (by simp) (by first | rfl | assumption) (by (repeat (first | exact List.Sublist.refl _ | apply List.Sublist.cons))) ?_; (try simp (disch := omega) only [push_cast, simprocAttr, *]); try (first | exact LE.refl _ | exact LE.sl _ _ | ((first | refine LE.tup ?_ | refine LE.agg ?_); (repeat' (first | exact LEL.nil | refine LEL.cons ?_ ?_ | exact LE.refl _ | exact LE.sl _ _ | refine LE.agg ?_)); done) | refine LE.of_eq ?_))
    | true =>
      rw [if_neg (by rintro (h | h) <;> cases h)]
      dsimp only [Option.getD, Option.isSome]
      rw [hLS]
      clear hLS
      refine trF_enter (ts := [2,3]) Tryz.func28 rfl (by rw [Tryz.ntmps28]; exact Nat.le_of_ble_eq_true rfl) (fun tmps w => by simp [results, Tryz.results28, go_sem, resVal]) ?_
      simp only [Tryz.ntmps28]
      repeat' (first | with_reducible refine Go1.go ?_ | ((with_reducible apply ev_go); (focus ((try simp (disch := omega) only [push_cast, simprocAttr, *]); (try exact rfl); done))) | ((with_reducible refine w_last ?_ ?_ ?_); kernel_rfl; rfl) | with_reducible refine Go2.go ?_ | ((with_reducible first | apply w_stepG | refine s_bi ?_ ?_ | refine blk_ne ?_ ?_); rfl) | ((with_reducible refine al_go ?_); intro b) | ((with_reducible apply (ck_at Tryz.call73)); exact LEL.refl _; exact hR.out; (focus ((repeat (first | exact ra_h | apply ra_t)); done))) | ((with_reducible apply (ck_at Tryz.call80)); exact LEL.refl _; exact hB.out; (focus ((repeat (first | exact ra_h | apply ra_t)); done))) | ((with_reducible apply (ck_le Tryz.call16)); exact LEL.refl _; exact hT.out _) | ((with_reducible first | refine w_region ?_ ?_ | refine w_dra ?_ ?_); kernel_rfl) | ((with_reducible refine Go3.go ?_ ?_); all_goals (intro hb; (try with_reducible intro hb1); (try (exfalso; first | contradiction | omega)))) | fail)
      all_goals (refine ret_eq (by simp) (by first | rfl | assumption) (by (repeat (first | exact List.Sublist.refl _ | apply List.Sublist.cons))) ?_; (try simp (disch := omega) only [push_cast, simprocAttr, *]); try (first | exact LE.refl _ | exact LE.sl _ _ | ((first | refine LE.tup ?_ | refine LE.agg ?_); (repeat' (first | exact LEL.nil | refine LEL.cons ?_ ?_ | exact LE.refl _ | exact LE.sl _ _ | refine LE.agg ?_)); done) | refine LE.of_eq ?_))
theorem regGetF (o : Own) (l : List UInt8) (hl : l.length ≤ 10000000) (hL : ∀ t ∈ (Reg.rlist Reg.getTm 7 ⟨.shared, l, false⟩).1, TOk t) (st : St) : TrF Tryz.prog 25 [.sl o (l.map encB)] st fun x st' => x = .tup [.sl .shared (((Reg.get l).getD []).map Tm.cells), .b (Reg.get l).isSome] ∧ st' = st := by
  have hR := binRead2F o l hl
  have hG := fun rb => regReadF rb ⟨.shared, l, false⟩ hL
  have hD := fun rb => rdDoneF rb (Reg.read ⟨.shared, l, false⟩).2
  unfold Reg.get
  clear hL
  generalize Reg.read ⟨.shared, l, false⟩ = q at *
  obtain ⟨m, s2⟩ := q
  dsimp only at *
  replace hR := Lib.hid hR
  replace hG := Lib.hid hG
  cases m with
  | none =>
    rw [if_neg (fun h => by cases h.1)]
    dsimp only [Option.getD, Option.isSome] at *
    replace hD := Lib.hid hD
    refine trF_enter (ts := [2,3]) Tryz.func25 rfl (by rw [Tryz.ntmps25]; exact Nat.le_of_ble_eq_true rfl) (fun tmps w => by simp [results, Tryz.results25, go_sem, resVal]) ?_
    simp only [Tryz.ntmps25]
    repeat' (first | with_reducible refine Go1.go ?_ | ((with_reducible apply ev_go); (focus ((try simp (disch := omega) only [push_cast, simprocAttr, *]); (try exact rfl); done))) | ((with_reducible refine w_last ?_ ?_ ?_); kernel_rfl; rfl) | with_reducible refine Go2.go ?_ | ((with_reducible first | apply w_stepG | refine s_bi ?_ ?_ | refine blk_ne ?_ ?_); rfl) | ((with_reducible refine al_go ?_); intro b) | ((with_reducible apply (ck_new Tryz.call27)); exact LEL.refl _; exact hR.out _; intro rb) | ((with_reducible apply (ck_at Tryz.call28)); exact LEL.refl _; exact (hG.out _); (focus ((repeat (first | exact ra_h | apply ra_t)); done))) | ((with_reducible apply (ck_at Tryz.call45)); exact LEL.refl _; exact (hD.out _); (focus ((repeat (first | exact ra_h | apply ra_t)); done))) | ((with_reducible apply a2_go); (focus (first | assumption | (intro h; cases h))); (focus (intro o'; repeat (first | exact ra_h | apply ra_t))); (iterate 2 (focus (first | assumption | exact len_nil | exact len_one rfl | (intro a ha; obtain ⟨x, -, rfl⟩ := List.mem_map.1 ha; first | rfl | simp) | (intro a ha; simp at ha; simp [ha])))); (iterate 2 (focus (first | omega | (simp only [List.length_map, List.length_cons, List.length_nil, List.length_append]; omega)))); intro o' ho') | ((with_reducible apply p2_go); (focus (first | assumption | (intro h; cases h))); (focus (intro o'; repeat (first | exact ra_h | apply ra_t))); (focus (first | assumption | exact len_nil | exact len_one rfl | (intro a ha; obtain ⟨x, -, rfl⟩ := List.mem_map.1 ha; first | rfl | simp) | (intro a ha; simp at ha; simp [ha]))); (iterate 2 (focus (first | omega | (simp only [List.length_map, List.length_cons, List.length_nil, List.length_append]; omega)))); intro o' ho') | ((with_reducible first | refine w_region ?_ ?_ | refine w_dra ?_ ?_); kernel_rfl) | ((with_reducible refine Go3.go ?_ ?_); all_goals (intro hb; (try with_reducible intro hb1); (try (exfalso; first | contradiction | omega)))) | fail)
    all_goals (refine ret_eq (by simp) (by first | rfl | assumption) (by (repeat (first | exact List.Sublist.refl _ | apply List.Sublist.cons))) ?_; (try simp (disch := omega) only [push_cast, simprocAttr, *]); try (first | exact LE.refl _ | exact LE.sl _ _ | ((first | refine LE.tup ?_ | refine LE.agg ?_); (repeat' (first | exact LEL.nil | refine LEL.cons ?_ ?_ | exact LE.refl _ | exact LE.sl _ _ | refine LE.agg ?_)); done) | refine LE.of_eq ?_))
  | some L =>
    dsimp only [Option.getD, Option.isSome] at hG
    obtain ⟨LS, hLS⟩ : ∃ LS, L.map Tm.cells = LS := ⟨_, rfl⟩
    rw [hLS] at hG
    by_cases h : s2.bad = false ∧ s2.l.length = 0
    · rw [if_pos ⟨rfl, h⟩]
      dsimp only [Option.getD, Option.isSome]
      rw [hLS]
      clear hLS
      rw [show (!s2.bad && decide (s2.l.length = 0)) = true by rw [h.1, decide_eq_true h.2]; rfl] at hD
      replace hD := Lib.hid hD
      clear h
      refine trF_enter (ts := [2,3]) Tryz.func25 rfl (by rw [Tryz.ntmps25]; exact Nat.le_of_ble_eq_true rfl) (fun tmps w => by simp [results, Tryz.results25, go_sem, resVal]) ?_
      simp only [Tryz.ntmps25]
      repeat' (first | with_reducible refine Go1.go ?_ | ((with_reducible apply ev_go); (focus ((try simp (disch := omega) only [push_cast, simprocAttr, *]); (try exact rfl); done))) | ((with_reducible refine w_last ?_ ?_ ?_); kernel_rfl; rfl) | with_reducible refine Go2.go ?_ | ((with_reducible first | apply w_stepG | refine s_bi ?_ ?_ | refine blk_ne ?_ ?_); rfl) | ((with_reducible refine al_go ?_); intro b) | ((with_reducible apply (ck_new Tryz.call27)); exact LEL.refl _; exact hR.out _; intro rb) | ((with_reducible apply (ck_at Tryz.call28)); exact LEL.refl _; exact (hG.out _); (focus ((repeat (first | exact ra_h | apply ra_t)); done))) | ((with_reducible apply (ck_at Tryz.call45)); exact LEL.refl _; exact (hD.out _); (focus ((repeat (first | exact ra_h | apply ra_t)); done))) | ((with_reducible apply a2_go); (focus (first | assumption | (intro h; cases h))); (focus (intro o'; repeat (first | exact ra_h | apply ra_t))); (iterate 2 (focus (first | assumption | exact len_nil | exact len_one rfl | (intro a ha; obtain ⟨x, -, rfl⟩ := List.mem_map.1 ha; first | rfl | simp) | (intro a ha; simp at ha; simp [ha])))); (iterate 2 (focus (first | omega | (simp only [List.length_map, List.length_cons, List.length_nil, List.length_append]; omega)))); intro o' ho') | ((with_reducible apply p2_go); (focus (first | assumption | (intro h; cases h))); (focus (intro o'; repeat (first | exact ra_h | apply ra_t))); (focus (first | assumption | exact len_nil | exact len_one rfl | (intro a ha; obtain ⟨x, -, rfl⟩ := List.mem_map.1 ha; first | rfl | simp) | (intro a ha; simp at ha; simp [ha]))); (iterate 2 (focus (first | omega | (simp only [List.length_map, List.length_cons, List.length_nil, List.length_append]; omega)))); intro o' ho') | ((with_reducible first | refine w_region ?_ ?_ | refine w_dra ?_ ?_); kernel_rfl) | ((with_reducible refine Go3.go ?_ ?_); all_goals (intro hb; (try with_reducible intro hb1); (try (exfalso; first | contradiction | omega)))) | fail)
      all_goals (refine ret_eq (by simp) (by first | rfl | assumption) (by (repeat (first | exact List.Sublist.refl _ | apply List.Sublist.cons))) ?_; (try simp (disch := omega) only [push_cast, simprocAttr, *]); try (first | exact LE.refl _ | exact LE.sl _ _ | ((first | refine LE.tup ?_ | refine LE.agg ?_); (repeat' (first | exact LEL.nil | refine LEL.cons ?_ ?_ | exact LE.refl _ | exact LE.sl _ _ | refine LE.agg ?_)); done) | refine LE.of_eq ?_))
    · rw [if_neg (fun k => h k.2)]
      dsimp only [Option.getD, Option.isSome]
      clear hLS
      rw [show (!s2.bad && decide (s2.l.length = 0)) = false by
        by_cases hb : s2.bad = false
        · rw [hb, decide_eq_false fun k => h ⟨hb, k⟩]; rfl
        · rw [show s2.bad = true by cases hq : s2.bad with | false => exact absurd hq hb | true => rfl]; rfl] at hD
      replace hD := Lib.hid hD
      clear h
      refine trF_enter (ts := [2,3]) Tryz.func25 rfl (by rw [Tryz.ntmps25]; exact Nat.le_of_ble_eq_true rfl) (fun tmps w => by simp [results, Tryz.results25, go_sem, resVal]) ?_
      simp only [Tryz.ntmps25]
      repeat' (first | with_reducible refine Go1.go ?_ | ((with_reducible apply ev_go); (focus ((try simp (disch := omega) only [push_cast, simprocAttr, *]); (try exact rfl); done))) | ((with_reducible refine w_last ?_ ?_ ?_); kernel_rfl; rfl) | with_reducible refine Go2.go ?_ | ((with_reducible first | apply w_stepG | refine s_bi ?_ ?_ | refine blk_ne ?_ ?_); rfl) | ((with_reducible refine al_go ?_); intro b) | ((with_reducible apply (ck_new Tryz.call27)); exact LEL.refl _; exact hR.out _; intro rb) | ((with_reducible apply (ck_at Tryz.call28)); exact LEL.refl _; exact (hG.out _); (focus ((repeat (first | exact ra_h | apply ra_t)); done))) | ((with_reducible apply (ck_at Tryz.call45)); exact LEL.refl _; exact (hD.out _); (focus ((repeat (first | exact ra_h | apply ra_t)); done))) | ((with_reducible apply a2_go); (focus (first | assumption | (intro h; cases h))); (focus (intro o'; repeat (first | exact ra_h | apply ra_t))); (iterate 2 (focus (first | assumption | exact len_nil | exact len_one rfl | (intro a ha; obtain ⟨x, -, rfl⟩ := List.mem_map.1 ha; first | rfl | simp) | (intro a ha; simp at ha; simp [ha])))); (iterate 2 (focus (first | omega | (simp only [List.length_map, List.length_cons, List.length_nil, List.length_append]; omega)))); intro o' ho') | ((with_reducible apply p2_go); (focus (first | assumption | (intro h; cases h))); (focus (intro o'; repeat (first | exact ra_h | apply ra_t))); (focus (first | assumption | exact len_nil | exact len_one rfl | (intro a ha; obtain ⟨x, -, rfl⟩ := List.mem_map.1 ha; first | rfl | simp) | (intro a ha; simp at ha; simp [ha]))); (iterate 2 (focus (first | omega | (simp only [List.length_map, List.length_cons, List.length_nil, List.length_append]; omega)))); intro o' ho') | ((with_reducible first | refine w_region ?_ ?_ | refine w_dra ?_ ?_); kernel_rfl) | ((with_reducible refine Go3.go ?_ ?_); all_goals (intro hb; (try with_reducible intro hb1); (try (exfalso; first | contradiction | omega)))) | fail)
      all_goals (refine ret_eq (by simp) (by first | rfl | assumption) (by (repeat (first | exact List.Sublist.refl _ | apply List.Sublist.cons))) ?_; (try simp (disch := omega) only [push_cast, simprocAttr, *]); try (first | exact LE.refl _ | exact LE.sl _ _ | ((first | refine LE.tup ?_ | refine LE.agg ?_); (repeat' (first | exact LEL.nil | refine LEL.cons ?_ ?_ | exact LE.refl _ | exact LE.sl _ _ | refine LE.agg ?_)); done) | refine LE.of_eq ?_))
end Go.Proofs.YtgcienlfpnpbgaaGreat
end

section
namespace Go.Proofs.YtgcienlfpnpbgaaGreat
set_option linter.unusedSimpArgs false
open Go.RowKit B
namespace B
theorem fold_num : ∀ (l : List UInt8) (a : Nat), l.foldl (fun n c => n * 256 + c.toNat) a = a * 256 ^ l.length + num l
  | [], a => by simp [num]
  | c :: l, a => by
    have h1 := fold_num l (a * 256 + c.toNat)
    have h2 := fold_num l (0 * 256 + c.toNat)
    unfold num
    rw [List.foldl_cons, List.foldl_cons, h1, h2, List.length_cons, Nat.pow_succ, Nat.zero_mul, Nat.zero_add, Nat.add_mul, Nat.mul_assoc, Nat.mul_comm 256 (256 ^ l.length)]
    omega
theorem num_cons (c : UInt8) (l : List UInt8) : num (c :: l) = c.toNat * 256 ^ l.length + num l := by
  have := fold_num l (0 * 256 + c.toNat)
  rw [Nat.zero_mul, Nat.zero_add] at this
  rw [← this]; unfold num; rw [List.foldl_cons, Nat.zero_mul, Nat.zero_add]
theorem num_be : ∀ m x, num (be m x) = x % 256 ^ m
  | 0, x => by simp [be, num, Nat.mod_one]
  | m + 1, x => by
    rw [be, num_cons, be_len, num_be m x, UInt8.toNat_ofNat', show 256 ^ (m + 1) = 256 ^ m * 256 from Nat.pow_succ .., Nat.mod_mul (x := x) (a := 256 ^ m) (b := 256), Nat.mul_comm, Nat.add_comm]
end B
namespace RS
theorem byte_cons (o : Own) (c : UInt8) (l : List UInt8) : byte ⟨o, c :: l, false⟩ = ((c.toNat : Int), (⟨.shared, l, false⟩ : RS)) := rfl
theorem rnum_be (o : Own) (n : Nat) (hn : n ≤ 2147483647) (l : List UInt8) : rnum ⟨o, be 4 n ++ l, false⟩ = ((n : Int), (⟨.shared, l, false⟩ : RS)) := by
  have h4 := be_len 4 n
  unfold rnum
  dsimp only
  rw [if_neg (by rw [List.length_append, h4]; simp <;> omega), show (be 4 n ++ l).take 4 = be 4 n from List.take_left' h4, num_be]
  have : n % 256 ^ 4 = n := Nat.mod_eq_of_lt (by omega)
  rw [this, if_pos hn]
  unfold cut
  dsimp only
  rw [show (be 4 n ++ l).drop 4 = l from List.drop_left' h4]
theorem wrap_wrap (m : Int) (hm : -9223372036854775808 ≤ m ∧ m ≤ 9223372036854775807) : IntKind.i64.wrap ((IntKind.u64.wrap m).toNat : Int) = m := by
  simp [IntKind.wrap, IntKind.bits, IntKind.signed]; omega
theorem long_be (o : Own) (m : Int) (hm : -9223372036854775808 ≤ m ∧ m ≤ 9223372036854775807) (l : List UInt8) : long ⟨o, be 8 (IntKind.u64.wrap m).toNat ++ l, false⟩ = (m, (⟨.shared, l, false⟩ : RS)) := by
  have h8 := be_len 8 (IntKind.u64.wrap m).toNat
  unfold long
  dsimp only
  rw [if_neg (by rw [List.length_append, h8]; simp <;> omega), show (be 8 (IntKind.u64.wrap m).toNat ++ l).take 8 = be 8 (IntKind.u64.wrap m).toNat from List.take_left' h8, num_be]
  have : (IntKind.u64.wrap m).toNat % 256 ^ 8 = (IntKind.u64.wrap m).toNat := Nat.mod_eq_of_lt (by simp [IntKind.wrap, IntKind.bits, IntKind.signed] <;> omega)
  rw [this, wrap_wrap m hm]
  unfold cut
  dsimp only
  rw [show (be 8 (IntKind.u64.wrap m).toNat ++ l).drop 8 = l from List.drop_left' h8]
theorem text_tx (o : Own) (s : ByteArray) (hs : s.size ≤ 2147483647) (l : List UInt8) : text ⟨o, tx s.data.toList ++ l, false⟩ = (s, (⟨.shared, l, false⟩ : RS)) := by
  have hl : s.data.toList.length = s.size := by simp
  unfold text tx
  rw [List.append_assoc, hl, rnum_be o s.size hs]
  unfold textN
  dsimp only
  rw [if_neg (by rw [List.length_append, hl]; simp <;> omega), Int.toNat_natCast]
  unfold cut
  dsimp only
  rw [show (s.data.toList ++ l).take s.size = s.data.toList from List.take_left' hl, show (s.data.toList ++ l).drop s.size = l from List.drop_left' hl]
theorem vals_put {f : RS → V × RS} (l0 : List UInt8) : ∀ (l : List V), (∀ x ∈ l, ∀ r, f ⟨.shared, x.put ++ r, false⟩ = (x, ⟨.shared, r, false⟩)) → vals f l.length ⟨.shared, V.putL l ++ l0, false⟩ = (l, ⟨.shared, l0, false⟩)
  | [], _ => by simp [vals, V.putL]
  | x :: l, h => by
    rw [List.length_cons, vals, if_neg (by simp), V.putL, List.append_assoc, h x (List.mem_cons_self ..)]
    dsimp only
    rw [vals_put l0 l fun y hy => h y (List.mem_cons_of_mem _ hy)]
theorem empty_of {s : ByteArray} (h : s.size = 0) : s = ⟨#[]⟩ := by
  apply ByteArray.ext
  apply Array.ext'
  have : s.data.toList.length = s.size := by simp
  exact List.eq_nil_of_length_eq_zero (by omega)
theorem deepL_mem {x : V} : ∀ {l : List V}, x ∈ l → x.deep ≤ V.deepL l
  | y :: l, h => by
    rw [V.deepL]
    rcases List.mem_cons.1 h with rfl | h
    · omega
    · have := deepL_mem h; omega
theorem value_put : ∀ (d : Nat) (v : V), v.parts = true → v.deep ≤ d → v.Ok → ∀ (o : Own) (r : List UInt8), value d ⟨o, v.put ++ r, false⟩ = (v, (⟨.shared, r, false⟩ : RS)) := fun d => by
  induction d using Nat.strongRecOn with
  | _ d IH =>
  intro v
  cases v with
  | mk k n s l =>
  intro hp hd hok o r
  obtain ⟨-, hkn, -, -, hall⟩ := hok
  obtain ⟨h1, h2, h3⟩ := V.parts_facts hp
  obtain ⟨f1, f2, f3, f4, f5, f6⟩ := V.sgl_facts h1
  have hsub : value d = body (match d with | 0 => none | e + 1 => some (value e)) := by cases d <;> rfl
  rw [hsub, V.put, List.cons_append]
  have hkb : ((UInt8.ofNat k.toNat).toNat : Int) = k := by rw [UInt8.toNat_ofNat']; omega
  unfold body
  rw [byte_cons, hkb]
  dsimp only
  have hse : k ≠ 3 ∧ k ≠ 4 → s = ⟨#[]⟩ := fun h => empty_of (f5 h)
  have hle : k ≠ 5 → l = [] := fun h => h2.resolve_left h
  have hn0 : k ≠ 1 ∧ k ≠ 2 → n = 0 := fun h => by
    unfold V.sgl at h1
    by_cases k0 : k = 0
    · subst k0; simp at h1; exact h1.1
    rw [if_neg k0, if_neg h.1, if_neg h.2] at h1
    by_cases k3 : k = 3
    · subst k3; simp at h1; exact h1.1
    rw [if_neg k3] at h1
    by_cases k4 : k = 4
    · subst k4; simp at h1; exact h1.1
    rw [if_neg k4] at h1
    by_cases k5 : k = 5
    · subst k5; simp at h1; exact h1.1
    rw [if_neg k5] at h1; cases h1
  by_cases k1 : k = 1
  · subst k1
    have hn := f3 (by omega)
    have hnb : ((UInt8.ofNat n.toNat).toNat : Int) = n := by rw [UInt8.toNat_ofNat']; omega
    rw [if_pos rfl, if_pos rfl, List.singleton_append, byte_cons, hnb, hse (by omega), hle (by omega)]
  rw [if_neg k1, if_neg k1]
  by_cases k2 : k = 2
  · subst k2
    rw [if_pos rfl, if_pos rfl, long_be _ n hkn, hse (by omega), hle (by omega)]
  rw [if_neg k2, if_neg k2]
  by_cases k34 : k = 3 ∨ k = 4
  · rw [if_pos k34, if_pos k34, text_tx _ s (by omega), hn0 (by omega), hle (by omega)]
  rw [if_neg k34, if_neg k34]
  by_cases k5 : k = 5
  · subst k5
    rw [if_pos rfl, if_pos rfl, List.append_assoc, rnum_be _ l.length (by have := f6 rfl; omega)]
    dsimp only
    rw [V.deep, if_pos (.inl rfl)] at hd
    obtain ⟨e, rfl⟩ : ∃ e, d = e + 1 := ⟨d - 1, by omega⟩
    unfold list5
    dsimp only
    rw [if_neg (by have := f6 rfl; omega), Int.toNat_natCast, vals_put r l fun x hx r => IH e (by omega) x (h3 x hx) (by
      have := deepL_mem hx
      omega) (hall x hx) _ r, hn0 (by omega), hse (by omega)]
  · rw [if_neg k5, if_neg k5, List.nil_append, hn0 (by omega), hse (by omega), hle k5]
theorem val_put {v : V} (hr : v.right = true) (hok : v.Ok) (o : Own) (r : List UInt8) : val ⟨o, v.put ++ r, false⟩ = (v, (⟨.shared, r, false⟩ : RS)) := by
  obtain ⟨h1, h2, h3⟩ := V.right_iff.1 hr
  unfold val
  rw [if_neg (by simp), value_put 4 v h1 h2 hok, if_neg (by simp [hr])]
end RS
end Go.Proofs.YtgcienlfpnpbgaaGreat
end

section
namespace Go.Proofs.YtgcienlfpnpbgaaGreat
set_option linter.unusedSimpArgs false
open Go.RowKit B
namespace RS
def Ex {α : Type} (f : RS → α × RS) : Prop := ∀ o l x o' r, f ⟨o, l, false⟩ = (x, ⟨o', r, false⟩) → ∀ q, f ⟨o, l ++ q, false⟩ = (x, ⟨o', r ++ q, false⟩)
def Bd {α : Type} (f : RS → α × RS) : Prop := ∀ s, s.bad = true → (f s).2.bad = true
theorem put_good {v : V} (hr : v.right = true) (hok : v.Ok) (o : Own) (r : List UInt8) : value 4 ⟨o, v.put ++ r, false⟩ = (v, (⟨.shared, r, false⟩ : RS)) := by
  obtain ⟨h1, h2, h3⟩ := V.right_iff.1 hr
  exact value_put 4 v h1 h2 hok o r
theorem put_inj {a b : V} (ha : a.right = true) (hao : a.Ok) (hb : b.right = true) (hbo : b.Ok) (h : a.put = b.put) : a = b := by
  have h1 := put_good ha hao .shared []
  have h2 := put_good hb hbo .shared []
  rw [h, h2] at h1
  injection h1 with h3 h4
  exact h3.symm
end RS
end Go.Proofs.YtgcienlfpnpbgaaGreat
end

section
namespace Go.Proofs.YtgcienlfpnpbgaaGreat
set_option linter.unusedSimpArgs false
open Go.RowKit
namespace Sch
def cut (t : Tm) (k : Nat) : Tm := ⟨t.name, t.slots, t.steps.take k⟩
end Sch
end Go.Proofs.YtgcienlfpnpbgaaGreat
end

section
namespace Go.Proofs.YtgcienlfpnpbgaaGreat
set_option linter.unusedSimpArgs false
attribute [local push_cast] encB encI V.cells_mk V.cells_take V.cells_len Nat.mul_one Int.sub_zero
open Go.RowKit
set_option maxRecDepth 10000
set_option maxHeartbeats 4000000
end Go.Proofs.YtgcienlfpnpbgaaGreat
end

section
namespace Go.Proofs.YtgcienlfpnpbgaaGreat
set_option linter.unusedSimpArgs false
attribute [local push_cast] encB encI encC V.cells_mk V.cells_len Nat.mul_one Int.sub_zero List.map_nil beq_self_eq_true List.head?_cons
open Go.RowKit
set_option maxRecDepth 10000
set_option maxHeartbeats 4000000
def Sch.has (t k : Nat) : Bool := t / 2 ^ k % 2 == 1
end Go.Proofs.YtgcienlfpnpbgaaGreat
end

section
namespace Go.Proofs.YtgcienlfpnpbgaaGreat
set_option linter.unusedSimpArgs false
open Go.RowKit
structure Rc where
  v : Int
  s : List V
def Rc.cells (r : Rc) : List D := [.i r.v, .sl .shared (r.s.map V.cells)]
namespace Sch
structure Grow (a b : List Sl) : Prop where
  len : a.length ≤ b.length
  old : ∀ (i : Nat) (s : Sl), a[i]? = some s → ∃ s', b[i]? = some s' ∧ s'.dv = s.dv ∧ ∀ v, fits s v = true → fits s' v = true
theorem Grow.refl (a : List Sl) : Grow a a := ⟨Nat.le_refl _, fun _ s h => ⟨s, h, rfl, fun _ h => h⟩⟩
theorem Grow.trans {a b c : List Sl} (h : Grow a b) (k : Grow b c) : Grow a c := by
  refine ⟨Nat.le_trans h.len k.len, fun i s hs => ?_⟩
  obtain ⟨s1, h1, h2, h3⟩ := h.old i s hs
  obtain ⟨s2, k1, k2, k3⟩ := k.old i s1 h1
  exact ⟨s2, k1, k2.trans h2, fun v hv => k3 v (h3 v hv)⟩
structure SOk (s : Sl) : Prop where
  name : V.isName s.name.data.toList = true
  types : takes s.types = true
  def_ : fits s s.dv = true
theorem sound_ok {s : Sl} (h : sound s = true) : SOk s := by
  unfold sound at h
  rw [Bool.and_eq_true, Bool.and_eq_true] at h
  exact ⟨h.1.1, h.1.2, h.2⟩
theorem takes_iff {t : Int} : takes t = true ↔ 1 ≤ t ∧ t ≤ 63 := by
  unfold takes
  rw [Bool.and_eq_true, decide_eq_true_eq, decide_eq_true_eq]
end Sch
end Go.Proofs.YtgcienlfpnpbgaaGreat
end

section
namespace Go.Proofs.YtgcienlfpnpbgaaGreat
set_option linter.unusedSimpArgs false
open Go.RowKit B
set_option maxHeartbeats 4000000
namespace Reg
theorem byte_put (o : Own) (n : Int) (h : 0 ≤ n ∧ n ≤ 255) (l : List UInt8) : RS.byte ⟨o, byteB n ++ l, false⟩ = (n, (⟨.shared, l, false⟩ : RS)) := by
  have e : byteB n = [UInt8.ofNat n.toNat] := if_pos h
  rw [e, List.singleton_append, RS.byte_cons]
  have : ((UInt8.ofNat n.toNat).toNat : Int) = n := by
    rw [UInt8.toNat_ofNat']; omega
  rw [this]
theorem b8_put (o : Own) (n : Int) (h : 0 ≤ n ∧ n ≤ 255) (l : List UInt8) : RS.byte ⟨o, [b8 n] ++ l, false⟩ = (n, (⟨.shared, l, false⟩ : RS)) := by
  rw [List.singleton_append, RS.byte_cons]
  have : ((b8 n).toNat : Int) = n := by
    unfold b8
    rw [UInt8.toNat_ofNat']; omega
  rw [this]
theorem rdL_put {α : Type} {f : RS → α × RS} {g : α → List UInt8} (r : List UInt8) : ∀ (l : List α), (∀ x ∈ l, ∀ o r, f ⟨o, g x ++ r, false⟩ = (x, ⟨.shared, r, false⟩)) → rdL f l.length ⟨.shared, (l.map g).flatten ++ r, false⟩ = (l, (⟨.shared, r, false⟩ : RS))
  | [], _ => rfl
  | x :: l, h => by
    rw [List.length_cons, rdL, if_neg Bool.false_ne_true, List.map_cons, List.flatten_cons, List.append_assoc, h x (List.mem_cons_self ..)]
    dsimp only
    rw [rdL_put r l fun y hy => h y (List.mem_cons_of_mem _ hy)]
theorem rlist_put {α : Type} {f : RS → α × RS} {g : α → List UInt8} (k : Int) (l : List α) (hl : (l.length : Int) ≤ k) (hk : k ≤ 1000) (h : ∀ x ∈ l, ∀ o r, f ⟨o, g x ++ r, false⟩ = (x, ⟨.shared, r, false⟩)) (o : Own) (r : List UInt8) : rlist f k ⟨o, listB g l ++ r, false⟩ = (l, (⟨.shared, r, false⟩ : RS)) := by
  unfold rlist listB
  rw [List.append_assoc, RS.rnum_be o l.length (by omega)]
  dsimp only
  rw [if_neg (by omega), Int.toNat_natCast, rdL_put r l h]
structure SlG (s : Sl) : Prop where
  nm : s.name.size ≤ 300
  ty : 0 ≤ s.types ∧ s.types ≤ 255
  dv : s.dv.right = true
  ok : s.dv.Ok
def StG (p : Stp) : Prop :=
  (p.kind = 1 ∧ p.col = 0 ∧ SlG p.slot ∧ p.order = []) ∨ (p.kind = 2 ∧ (0 ≤ p.col ∧ p.col ≤ 255) ∧ p.slot = slot0 ∧ p.order = []) ∨
  (p.kind = 3 ∧ (0 ≤ p.col ∧ p.col ≤ 255) ∧ p.slot = { slot0 with name := p.slot.name } ∧ p.slot.name.size ≤ 300 ∧ p.order = []) ∨
  (p.kind = 4 ∧ (0 ≤ p.col ∧ p.col ≤ 255) ∧ p.slot = { slot0 with types := p.slot.types } ∧ (0 ≤ p.slot.types ∧ p.slot.types ≤ 255) ∧ p.order = []) ∨
  (p.kind = 5 ∧ p.col = 0 ∧ p.slot = slot0 ∧ p.order.length ≤ 8 ∧ ∀ k ∈ p.order, 0 ≤ k ∧ k ≤ 255)
structure TmG (t : Tm) : Prop where
  nm : t.name.size ≤ 300
  ls : t.slots.length ≤ 8
  lt : t.steps.length ≤ 8
  os : ∀ s ∈ t.slots, SlG s
  ot : ∀ s ∈ t.steps, StG s
theorem getSlot_put (s : Sl) (h : SlG s) (o : Own) (r : List UInt8) : getSlot ⟨o, slotB s ++ r, false⟩ = (s, (⟨.shared, r, false⟩ : RS)) := by
  have e : slotB s ++ r = tx s.name.data.toList ++ (byteB s.types ++ (byteB (if s.req then 1 else 0) ++ (s.dv.put ++ r))) := by
    unfold slotB slotP V.bin
    rw [if_pos h.dv]
    simp only [List.flatten_cons, List.flatten_nil, List.append_nil, List.append_assoc]
  have hq : (0 : Int) ≤ (if s.req then 1 else 0) ∧ (if s.req then 1 else 0 : Int) ≤ 255 := by split <;> omega
  unfold getSlot
  rw [e, RS.text_tx _ _ (by have := h.nm; omega)]
  dsimp only
  rw [byte_put _ _ h.ty]
  dsimp only
  rw [byte_put _ _ hq]
  dsimp only
  rw [RS.val_put h.dv h.ok]
  dsimp only
  cases s with
  | mk nm ty rq dv => cases rq <;> rfl
theorem getStep_put (p : Stp) (h : StG p) (o : Own) (r : List UInt8) : getStep ⟨o, stepB p ++ r, false⟩ = (p, (⟨.shared, r, false⟩ : RS)) := by
  cases p with
  | mk kind col slot order =>
  unfold StG at h
  dsimp only at h
  have f2 : ∀ a b : List UInt8, [a, b].flatten = a ++ b := fun a b => by simp
  unfold getStep
  rcases h with ⟨rfl, rfl, hs, rfl⟩ | ⟨rfl, hc, rfl, rfl⟩ | ⟨rfl, hc, hs, hn, rfl⟩ | ⟨rfl, hc, hs, hn, rfl⟩ | ⟨rfl, rfl, rfl, hl, hk⟩
  · rw [show stepB ⟨1, 0, slot, []⟩ = byteB 1 ++ slotB slot from f2 .., List.append_assoc, byte_put _ _ (by decide)]
    dsimp only
    rw [if_pos rfl, getSlot_put slot hs]
  · rw [show stepB ⟨2, col, slot0, []⟩ = byteB 2 ++ byteB col from f2 .., List.append_assoc, byte_put _ _ (by decide)]
    dsimp only
    rw [if_neg (by decide), if_pos rfl, byte_put _ _ hc]
  · rw [show stepB ⟨3, col, slot, []⟩ = (byteB 3 ++ byteB col) ++ tx slot.name.data.toList by unfold stepB; rw [if_pos rfl, f2]; exact congrArg (· ++ _) (f2 ..), List.append_assoc, List.append_assoc, byte_put _ _ (by decide)]
    dsimp only
    rw [if_neg (by decide), if_neg (by decide), if_pos rfl, byte_put _ _ hc]
    dsimp only
    rw [RS.text_tx _ _ (by omega)]
    dsimp only
    rw [← hs]
  · rw [show stepB ⟨4, col, slot, []⟩ = (byteB 4 ++ byteB col) ++ byteB slot.types by unfold stepB; rw [if_neg (by show ¬ (4 : Int) = 3; decide), if_pos rfl, f2]; exact congrArg (· ++ _) (f2 ..), List.append_assoc, List.append_assoc, byte_put _ _ (by decide)]
    dsimp only
    rw [if_neg (by decide), if_neg (by decide), if_neg (by decide), if_pos rfl, byte_put _ _ hc]
    dsimp only
    rw [byte_put _ _ hn]
    dsimp only
    rw [← hs]
  · have hm : order.map b8 = (order.map fun k => [b8 k]).flatten := by
      clear hl hk
      induction order with
      | nil => rfl
      | cons a l ih => rw [List.map_cons, List.map_cons, List.flatten_cons, ← ih]; rfl
    rw [show stepB ⟨5, 0, slot0, order⟩ = byteB 5 ++ listB (fun k => [b8 k]) order by unfold stepB; rw [if_neg (by show ¬ (5 : Int) = 3; decide), if_neg (by show ¬ (5 : Int) = 4; decide)]; unfold listB; rw [← hm, ← List.append_assoc]; exact congrArg (· ++ _) (f2 ..), List.append_assoc, byte_put _ _ (by decide)]
    dsimp only
    rw [if_neg (by decide), if_neg (by decide), if_neg (by decide), if_neg (by decide), if_pos rfl, rlist_put 9 order (by omega) (by decide) fun k hk2 o r => b8_put o k (hk k hk2) r]
theorem getTm_put (t : Tm) (h : TmG t) (o : Own) (r : List UInt8) : getTm ⟨o, tmB t ++ r, false⟩ = (t, (⟨.shared, r, false⟩ : RS)) := by
  have e : tmB t ++ r = tx t.name.data.toList ++ (listB slotB t.slots ++ (listB stepB t.steps ++ r)) := by
    unfold tmB tmP
    simp only [List.flatten_cons, List.flatten_nil, List.append_nil, List.append_assoc]
  unfold getTm
  rw [e, RS.text_tx _ _ (by have := h.nm; omega)]
  dsimp only
  rw [rlist_put 9 t.slots (by have := h.ls; omega) (by decide) fun s hs o r => getSlot_put s (h.os s hs) o r]
  dsimp only
  rw [rlist_put 9 t.steps (by have := h.lt; omega) (by decide) fun s hs o r => getStep_put s (h.ot s hs) o r]
theorem rlist_tms (L : List Tm) (hl : L.length ≤ 6) (h : ∀ t ∈ L, TmG t) (o : Own) (r : List UInt8) : rlist getTm 7 ⟨o, listB tmB L ++ r, false⟩ = (L, (⟨.shared, r, false⟩ : RS)) :=
  rlist_put 7 L (by omega) (by decide) (fun t ht o r => getTm_put t (h t ht) o r) o r
theorem read_put (L : List Tm) (hr : right L = true) (hl : L.length ≤ 6) (h : ∀ t ∈ L, TmG t) (o : Own) (r : List UInt8) : read ⟨o, put L ++ r, false⟩ = (some L, (⟨.shared, r, false⟩ : RS)) := by
  unfold read put
  rw [if_pos hr, rlist_tms L hl h o r]
  dsimp only
  rw [if_neg (by rintro (h | h); cases h; rw [hr] at h; cases h)]
theorem get_put (L : List Tm) (hr : right L = true) (hl : L.length ≤ 6) (h : ∀ t ∈ L, TmG t) : get (put L) = some L := by
  have := read_put L hr hl h .shared []
  rw [List.append_nil] at this
  unfold get
  rw [this]
  exact if_pos ⟨rfl, rfl, rfl⟩
end Reg
namespace Sch
theorem fits_right {s : Sl} {v : V} (h : fits s v = true) : v.right = true := by
  unfold fits at h
  rw [Bool.and_eq_true] at h
  exact h.1
theorem bare_slot {s : Sl} {a b : Bool} (h : bare s a b = true) : (a = true ∨ s.name = ⟨#[]⟩) ∧ (b = true ∨ s.types = 0) ∧ s.req = false ∧ s.dv = V.zero := by
  unfold bare at h
  rw [Bool.and_eq_true, Bool.and_eq_true, Bool.and_eq_true, Bool.or_eq_true, Bool.or_eq_true, decide_eq_true_eq, beq_iff_eq, beq_iff_eq] at h
  obtain ⟨⟨⟨h1, h2⟩, h3⟩, h4⟩ := h
  refine ⟨h1.imp id RS.empty_of, h2, ?_, V.cmp_eq _ _ h4⟩
  cases hr : s.req with
  | false => rfl
  | true => rw [hr] at h3; cases h3
theorem name_le {s : ByteArray} (h : V.isName s.data.toList = true) : s.size ≤ 40 := by
  unfold V.isName at h
  rw [Bool.and_eq_true, Bool.and_eq_true, decide_eq_true_eq, decide_eq_true_eq] at h
  have : s.data.toList.length = s.size := by simp
  omega
theorem sound_good {s : Sl} (h : sound s = true) (ho : s.dv.Ok) : Reg.SlG s := by
  have k := sound_ok h
  have := takes_iff.1 k.types
  exact ⟨by have := name_le k.name; omega, by omega, fits_right k.def_, ho⟩
theorem reo_ge {cols : List Nat} : ∀ (l : List Int) (out r : List Nat), reo cols l out = some r → ∀ k ∈ l, 0 ≤ k ∧ k < cols.length
  | [], _, _, _, _, h => by cases h
  | a :: l, out, r, h, k, hk => by
    rw [reo] at h
    split at h
    · rename_i hc
      rcases List.mem_cons.1 hk with rfl | hk
      · exact ⟨hc.1, hc.2.1⟩
      · exact reo_ge l _ r h k hk
    · cases h
theorem step_good {n : Nat} {x y : Vr} {s : Stp} (hx : VI n x) (h : stepV x s = some y) (ho : s.slot.dv.Ok) : Reg.StG s := by
  have hlc := hx.lc
  unfold stepV at h
  have hcol : column x s = true → (0 ≤ s.col ∧ s.col ≤ 255) ∧ s.order = [] := fun hc => by
    unfold column at hc
    rw [Bool.and_eq_true, Bool.and_eq_true, decide_eq_true_eq, decide_eq_true_eq, decide_eq_true_eq] at hc
    exact ⟨by omega, List.eq_nil_of_length_eq_zero hc.2⟩
  cases s with
  | mk kind col slot order =>
  cases slot with
  | mk nm ty rq dv =>
  dsimp only at h hcol ho
  split at h
  · rename_i hk
    unfold addS at h
    split at h
    · rename_i hc
      exact .inl ⟨hk, hc.1, sound_good hc.2.2.2.1 ho, List.eq_nil_of_length_eq_zero hc.2.1⟩
    · cases h
  split at h
  · rename_i hk
    unfold loseS at h
    split at h
    · rename_i hc
      obtain ⟨c1, c2⟩ := hcol hc.1
      obtain ⟨b1, b2, b3, b4⟩ := bare_slot hc.2.1
      simp only [Bool.false_eq_true, false_or] at b1 b2
      dsimp only at b1 b2 b3 b4
      subst b1 b2 b3 b4
      exact .inr (.inl ⟨hk, c1, rfl, c2⟩)
    · cases h
  split at h
  · rename_i hk
    unfold renameS at h
    split at h
    · rename_i hc
      obtain ⟨c1, c2⟩ := hcol hc.1
      obtain ⟨b1, b2, b3, b4⟩ := bare_slot hc.2.1
      simp only [Bool.false_eq_true, false_or] at b2
      dsimp only at b2 b3 b4
      subst b2 b3 b4
      exact .inr (.inr (.inl ⟨hk, c1, rfl, by have := name_le hc.2.2.1; dsimp only at *; omega, c2⟩))
    · cases h
  split at h
  · rename_i hk
    unfold widenS at h
    split at h
    · rename_i hc
      obtain ⟨c1, c2⟩ := hcol hc.1
      obtain ⟨b1, b2, b3, b4⟩ := bare_slot hc.2.1
      simp only [Bool.false_eq_true, false_or] at b1
      dsimp only at b1 b3 b4
      subst b1 b3 b4
      have := takes_iff.1 hc.2.2.1
      exact .inr (.inr (.inr (.inl ⟨hk, c1, rfl, by dsimp only at *; omega, c2⟩)))
    · cases h
  split at h
  · rename_i hk
    unfold reorderS at h
    split at h
    · rename_i hc
      obtain ⟨b1, b2, b3, b4⟩ := bare_slot hc.2.1
      simp only [Bool.false_eq_true, false_or] at b1 b2
      dsimp only at b1 b2 b3 b4
      subst b1 b2 b3 b4
      cases hr : reo x.cols order [] with
      | none => rw [show (Stp.mk kind col _ order).order = order from rfl, hr] at h; cases h
      | some r => exact .inr (.inr (.inr (.inr ⟨hk, hc.1, rfl, by have := hc.2.2; dsimp only at *; omega, fun k hk => by have := reo_ge _ _ _ hr k hk; omega⟩)))
    · cases h
  · cases h
theorem firstL_good : ∀ (l : List Sl) (x y : Vr), firstL l x = some y → ∀ s ∈ l, sound s = true
  | [], _, _, _, _, h => by cases h
  | a :: l, x, y, h, s, hs => by
    rw [firstL] at h
    split at h
    · rename_i hc
      rcases List.mem_cons.1 hs with rfl | hs
      · exact hc.1
      · exact firstL_good l _ y h s hs
    · cases h
theorem versL_good : ∀ (l : List Stp) (n : Nat) (x : Vr), VI n x → (versL x l).length = l.length → (∀ s ∈ l, s.slot.dv.Ok) → ∀ s ∈ l, Reg.StG s
  | [], _, _, _, _, _, _, h => by cases h
  | a :: l, n, x, hx, hl, ho, s, hs => by
    rw [versL] at hl
    cases hv : stepV x a with
    | none => rw [hv] at hl; cases hl
    | some y =>
      rw [hv] at hl
      rcases List.mem_cons.1 hs with rfl | hs
      · exact step_good hx hv (ho _ (List.mem_cons_self ..))
      · exact versL_good l (n + 1) y (step_vi hx hv) (by simpa using hl) (fun s h => ho s (List.mem_cons_of_mem _ h)) s hs
theorem last_good {t : Tm} (h : 0 < last t) (hs : ∀ s ∈ t.slots, s.dv.Ok) (hp : ∀ s ∈ t.steps, s.slot.dv.Ok) : Reg.TmG t := by
  have h1 : (vers t).length = t.steps.length + 1 := by
    unfold last at h
    split at h
    · assumption
    · omega
  unfold vers at h1
  cases hf : firstV t with
  | none => rw [hf] at h1; cases h1
  | some x =>
    rw [hf] at h1
    obtain ⟨k1, k2, k3⟩ := first_vi hf
    have h2 : (versL x t.steps).length = t.steps.length := by simpa using h1
    have hg := versL_good t.steps 8 x k1 h2 hp
    unfold firstV at hf
    split at hf
    · rename_i hc
      exact ⟨by have := name_le hc.1; omega, hc.2.2.1, hc.2.2.2, fun s hs' => sound_good (firstL_good _ _ _ hf s hs') (hs s hs'), hg⟩
    · cases hf
end Sch
theorem Reg.TmG.put {t : Tm} (h : Reg.TmG t) (hs : ∀ s ∈ t.steps, s.slot.name.size ≤ 300 ∧ s.slot.dv.nodes ≤ 1000 ∧ s.slot.dv.Ok) : Reg.TmP t :=
  ⟨h.nm, h.ls, h.lt, fun s k => ⟨(h.os s k).nm, by have := (V.right_iff.1 (h.os s k).dv).2.2; omega, (h.os s k).ok⟩, fun s k => ⟨hs s k, by
    rcases h.ot s k with h | h | h | h | h
    · rw [h.2.2.2]; exact Nat.zero_le _
    · rw [h.2.2.2]; exact Nat.zero_le _
    · rw [h.2.2.2.2]; exact Nat.zero_le _
    · rw [h.2.2.2.2]; exact Nat.zero_le _
    · have := h.2.2.2.1; omega⟩⟩
end Go.Proofs.YtgcienlfpnpbgaaGreat
end

section
namespace Go.Proofs.YtgcienlfpnpbgaaGreat
set_option linter.unusedSimpArgs false
open Go.RowKit B
set_option maxHeartbeats 4000000
namespace Reg
theorem findL_spec (nm : ByteArray) : ∀ (l : List Tm) (i : Nat), (findL nm l i = -1 ∧ ∀ t ∈ l, ¬ t.name.toList = nm.toList) ∨ ∃ (j : Nat) (t : Tm), l[j]? = some t ∧ t.name.toList = nm.toList ∧ findL nm l i = ((i + j : Nat) : Int) ∧ ∀ (k : Nat) (u : Tm), k < j → l[k]? = some u → ¬ u.name.toList = nm.toList
  | [], i => .inl ⟨rfl, fun t h => by cases h⟩
  | t :: l, i => by
    rw [findL]
    by_cases h : t.name.toList = nm.toList
    · rw [if_pos (beq_iff_eq.2 h)]
      exact .inr ⟨0, t, rfl, h, rfl, fun k u hk => by omega⟩
    · rw [if_neg (fun k => h (beq_iff_eq.1 k))]
      rcases findL_spec nm l (i + 1) with ⟨h1, h2⟩ | ⟨j, u, h1, h2, h3, h4⟩
      · exact .inl ⟨h1, fun u hu => by
          rcases List.mem_cons.1 hu with rfl | hu
          · exact h
          · exact h2 u hu⟩
      · refine .inr ⟨j + 1, u, h1, h2, by rw [h3]; congr 1; omega, fun k v hk hv => ?_⟩
        cases k with
        | zero => cases hv; exact h
        | succ k => exact h4 k v (by omega) hv
theorem find_none {L : List Tm} {nm : ByteArray} (h : ∀ t ∈ L, ¬ t.name.toList = nm.toList) : find L nm = -1 := by
  rcases findL_spec nm L 0 with ⟨h1, h2⟩ | ⟨j, u, h1, h2, h3, h4⟩
  · exact h1
  · exact absurd h2 (h u (List.mem_of_getElem? h1))
theorem find_at {L : List Tm} {nm : ByteArray} {i : Nat} {t : Tm} (ht : L[i]? = some t) (hn : t.name.toList = nm.toList) (h : ∀ (k : Nat) (u : Tm), k < i → L[k]? = some u → ¬ u.name.toList = nm.toList) : find L nm = i := by
  unfold find
  rcases findL_spec nm L 0 with ⟨h1, h2⟩ | ⟨j, u, h1, h2, h3, h4⟩
  · exact absurd hn (h2 t (List.mem_of_getElem? ht))
  · rw [h3, Nat.zero_add]
    rcases Nat.lt_trichotomy i j with hl | he | hl
    · exact absurd hn (h4 i t hl ht)
    · rw [he]
    · exact absurd h2 (h j u hl h1)
def Apart (L : List Tm) : Prop := ∀ (i j : Nat) (t u : Tm), L[i]? = some t → L[j]? = some u → t.name.toList = u.name.toList → i = j
theorem apart_find {L : List Tm} : Apart L ↔ ∀ (i : Nat) (t : Tm), L[i]? = some t → find L t.name = i := by
  constructor
  · intro h i t ht
    exact find_at ht rfl fun k u hk hu he => by have := h k i u t hu ht he; omega
  · intro h i j t u ht hu he
    have h1 := h i t ht
    have h2 := h j u hu
    have e : find L t.name = find L u.name := by
      have : ∀ (l : List Tm) (i : Nat), findL t.name l i = findL u.name l i := fun l => by
        induction l with
        | nil => intro _; rfl
        | cons a l ih => intro i; rw [findL, findL, he, ih]
      exact this L 0
    rw [h1, h2] at e
    exact Int.ofNat.inj e
theorem rightL_iff (L : List Tm) : ∀ (l : List Tm) (i : Nat), rightL L l i = true ↔ ∀ (j : Nat) (t : Tm), l[j]? = some t → i + j < 6 ∧ 0 < Sch.last t ∧ find L t.name = ((i + j : Nat) : Int)
  | [], i => ⟨fun _ j t h => (by cases h), fun _ => rfl⟩
  | t :: l, i => by
    rw [rightL, Bool.and_eq_true, Bool.and_eq_true, Bool.and_eq_true, decide_eq_true_eq, decide_eq_true_eq, beq_iff_eq, rightL_iff L l (i + 1)]
    constructor
    · rintro ⟨h1, h2, h3, h4⟩ j u hu
      cases j with
      | zero => cases hu; exact ⟨h1, h2, h3⟩
      | succ j =>
        have := h4 j u hu
        rw [show i + 1 + j = i + (j + 1) by omega] at this
        exact this
    · intro h
      have h0 := h 0 t rfl
      refine ⟨h0.1, h0.2.1, h0.2.2, fun j u hu => ?_⟩
      have := h (j + 1) u hu
      rw [show i + (j + 1) = i + 1 + j by omega] at this
      exact this
theorem right_iff {L : List Tm} : right L = true ↔ L.length ≤ 6 ∧ (∀ t ∈ L, 0 < Sch.last t) ∧ Apart L := by
  unfold right
  rw [rightL_iff, apart_find]
  constructor
  · intro h
    refine ⟨?_, ?_, ?_⟩
    · rcases Nat.lt_or_ge 6 L.length with hl | hl
      · obtain ⟨t, ht⟩ : ∃ t, L[6]? = some t := ⟨_, List.getElem?_eq_getElem hl⟩
        have := (h 6 t ht).1
        omega
      · exact hl
    · intro t ht
      obtain ⟨i, hi⟩ := List.getElem?_of_mem ht
      exact (h i t hi).2.1
    · intro i t ht
      have := (h i t ht).2.2
      rwa [Nat.zero_add] at this
  · rintro ⟨h1, h2, h3⟩ j t ht
    have hj := (List.getElem?_eq_some_iff.1 ht).1
    exact ⟨by omega, h2 t (List.mem_of_getElem? ht), by rw [Nat.zero_add]; exact h3 j t ht⟩
theorem twice_not {L : List Tm} {t : Tm} (h : t ∈ L) : right (L ++ [t]) = false := by
  cases hr : right (L ++ [t]) with
  | false => rfl
  | true =>
    have h3 := (right_iff.1 hr).2.2
    obtain ⟨i, hi⟩ := List.getElem?_of_mem h
    have hl := (List.getElem?_eq_some_iff.1 hi).1
    have := h3 i L.length t t (by rw [List.getElem?_append_left hl]; exact hi) (by rw [List.getElem?_append_right (Nat.le_refl _), Nat.sub_self]; rfl) rfl
    omega
theorem split_at {L : List Tm} {n : Nat} {t : Tm} (h : L[n]? = some t) : L = L.take n ++ t :: L.drop (n + 1) := by
  obtain ⟨h1, rfl⟩ := List.getElem?_eq_some_iff.1 h
  rw [← List.drop_eq_getElem_cons h1, List.take_append_drop]
theorem fewer_right {L : List Tm} {n : Nat} {t : Tm} (h : L[n]? = some t) (hr : right L = true) : right (L.take n ++ L.drop (n + 1)) = true ∧ find (L.take n ++ L.drop (n + 1)) t.name = -1 ∧ (put (L.take n ++ L.drop (n + 1))).length < (put L).length ∧ same (L.take n ++ L.drop (n + 1)) L = false := by
  obtain ⟨h1, h2, h3⟩ := right_iff.1 hr
  have hn := (List.getElem?_eq_some_iff.1 h).1
  have hlen : (L.take n ++ L.drop (n + 1)).length + 1 = L.length := by
    rw [List.length_append, List.length_take, List.length_drop]; omega
  have hget : ∀ (i : Nat), (L.take n ++ L.drop (n + 1))[i]? = if i < n then L[i]? else L[i + 1]? := fun i => by
    split
    · rename_i hi
      rw [List.getElem?_append_left (by rw [List.length_take]; omega), List.getElem?_take_of_lt hi]
    · rename_i hi
      rw [List.getElem?_append_right (by rw [List.length_take]; omega), List.getElem?_drop, List.length_take]
      congr 1
      omega
  have hra : right (L.take n ++ L.drop (n + 1)) = true := by
    refine right_iff.2 ⟨by omega, fun u hu => ?_, fun i j u v hu hv he => ?_⟩
    · rcases List.mem_append.1 hu with hu | hu
      · exact h2 u (List.mem_of_mem_take hu)
      · exact h2 u (List.mem_of_mem_drop hu)
    · rw [hget] at hu hv
      split at hu <;> split at hv
      · exact h3 i j u v hu hv he
      · have := h3 i (j + 1) u v hu hv he; omega
      · have := h3 (i + 1) j u v hu hv he; omega
      · have := h3 (i + 1) (j + 1) u v hu hv he; omega
  refine ⟨hra, find_none fun u hu he => ?_, ?_, ?_⟩
  · obtain ⟨i, hi⟩ := List.getElem?_of_mem hu
    rw [hget] at hi
    split at hi
    · have := h3 i n u t hi h he; omega
    · have := h3 (i + 1) n u t hi h he; omega
  · unfold put
    rw [if_pos hr, if_pos hra]
    have e := split_at h
    have : (listB tmB L).length = (listB tmB (L.take n ++ L.drop (n + 1))).length + (tmB t).length := by
      rw (config := {occs := .pos [1]}) [e]
      unfold listB
      simp only [List.length_append, be_len, List.map_append, List.map_cons, List.flatten_append, List.flatten_cons]
      omega
    have h4 : 4 ≤ (tmB t).length := by
      unfold tmB tmP
      simp only [List.flatten_cons, List.length_append, tx, be_len]
      omega
    omega
  · cases hs : same (L.take n ++ L.drop (n + 1)) L with
    | false => rfl
    | true => have := all2_len _ _ hs; omega
theorem all2_iff {α : Type} {f : α → α → Bool} (hf : ∀ a b, f a b = true ↔ a = b) : ∀ (a b : List α), all2 f a b = true ↔ a = b
  | [], [] => ⟨fun _ => rfl, fun _ => rfl⟩
  | a :: l, b :: m => by
    rw [all2, Bool.and_eq_true, hf, all2_iff hf l m, List.cons.injEq]
  | [], _ :: _ => ⟨fun h => (by cases h), fun h => (by cases h)⟩
  | _ :: _, [] => ⟨fun h => (by cases h), fun h => (by cases h)⟩
theorem name_iff {a b : ByteArray} : (a.toList == b.toList) = true ↔ a = b := by
  rw [beq_iff_eq]
  constructor
  · intro h
    have h2 : a.data.toList = b.data.toList := by
      have e : ∀ x : ByteArray, x.toList = x.data.toList := fun x => ByteArray.toList_eq x
      rw [← e, ← e]; exact h
    cases a; cases b
    exact congrArg ByteArray.mk (Array.toList_inj.1 h2)
  · rintro rfl; rfl
theorem slotS_iff (a b : Sl) : slotS a b = true ↔ a = b := by
  unfold slotS
  rw [Bool.and_eq_true, Bool.and_eq_true, Bool.and_eq_true, name_iff, beq_iff_eq, beq_iff_eq, beq_iff_eq]
  cases a; cases b
  rw [Sl.mk.injEq]
  constructor
  · rintro ⟨h1, h2, h3, h4⟩; exact ⟨h1, h2, h3, V.cmp_eq _ _ h4⟩
  · rintro ⟨h1, h2, h3, rfl⟩; exact ⟨h1, h2, h3, V.cmp_self _⟩
theorem stepS_iff (a b : Stp) : stepS a b = true ↔ a = b := by
  unfold stepS
  rw [Bool.and_eq_true, Bool.and_eq_true, Bool.and_eq_true, slotS_iff, beq_iff_eq, beq_iff_eq, all2_iff (fun a b => beq_iff_eq)]
  cases a; cases b
  rw [Stp.mk.injEq]
theorem tmS_iff (a b : Tm) : tmS a b = true ↔ a = b := by
  unfold tmS
  rw [Bool.and_eq_true, Bool.and_eq_true, name_iff, all2_iff slotS_iff, all2_iff stepS_iff]
  cases a; cases b
  rw [Tm.mk.injEq]
theorem same_iff (a b : List Tm) : same a b = true ↔ a = b := all2_iff tmS_iff a b
theorem put_inj {L M : List Tm} (hr : right L = true) (hm : right M = true) (h : ∀ t ∈ L, TmG t) (k : ∀ t ∈ M, TmG t) : decide (put L = put M) = same L M := by
  cases hs : same L M with
  | true => rw [(same_iff L M).1 hs]; exact decide_eq_true rfl
  | false =>
    refine decide_eq_false fun he => ?_
    have h1 := get_put L hr (right_iff.1 hr).1 h
    rw [he, get_put M hm (right_iff.1 hm).1 k] at h1
    cases h1
    rw [(same_iff L L).2 rfl] at hs
    cases hs
end Reg
end Go.Proofs.YtgcienlfpnpbgaaGreat
end

section
namespace Go.Proofs.YtgcienlfpnpbgaaGreat
set_option linter.unusedSimpArgs false
attribute [local push_cast] encB encI encC V.cells_mk V.cells_len Nat.mul_one Int.sub_zero List.map_nil beq_self_eq_true List.head?_cons
open Go.RowKit
set_option maxRecDepth 10000
set_option maxHeartbeats 4000000
namespace Sch
def greatS (s : Sl) : Bool := s.dv.great || decide (300 < s.name.size)
def greatP (s : Stp) : Bool := s.slot.dv.great || (decide (300 < s.slot.name.size) || decide (30 < s.order.length))
def great (t : Tm) : Bool := decide (30 < t.slots.length) || (decide (30 < t.steps.length) || (decide (300 < t.name.size) || (t.slots.any greatS || t.steps.any greatP)))
end Sch
theorem any_drop {α : Type} {p : α → Bool} {l : List α} {i : Nat} {x : α} (h : l[i]? = some x) : (l.drop i).any p = (p x || (l.drop (i + 1)).any p) := by
  obtain ⟨h1, rfl⟩ := List.getElem?_eq_some_iff.1 h
  rw [List.drop_eq_getElem_cons h1, List.any_cons]
theorem refGreat10F (t : Tm) (hw : t.Wf) (st : St) : TrF Tryz.prog 49 [.agg t.cells] st fun d st' => d = .b (Sch.great t) ∧ st' = st := by
  obtain ⟨-, hws, hsl, hwp, hpl⟩ := hw
  obtain ⟨B, hB⟩ : ∃ B, Sch.great t = B := ⟨_, rfl⟩
  rw [hB]
  unfold Sch.great at hB
  cases t with
  | mk nm slots steps =>
  unfold Tm.cells
  dsimp only at hB hws hwp hsl hpl ⊢
  have hws2 := Lib.hid hws
  have hwp2 := Lib.hid hwp
  clear hws hwp
  have hml : (slots.map Sl.cells).length = slots.length := List.length_map ..
  have hmp : (steps.map Stp.cells).length = steps.length := List.length_map ..
  have hcl : Hid (∀ (i : Nat) (s : Sl), slots[i]? = some s → (slots.map Sl.cells)[i]? = some s.cells) := fun i s h => by rw [List.getElem?_map, h]; rfl
  have hcp : Hid (∀ (i : Nat) (s : Stp), steps[i]? = some s → (steps.map Stp.cells)[i]? = some s.cells) := fun i s h => by rw [List.getElem?_map, h]; rfl
  generalize slots.map Sl.cells = SL at *
  generalize steps.map Stp.cells = TL at *
  have hn1 := hml
  have hn2 := hmp
  unfold maxLen at hsl hpl
  by_cases h1 : 30 < slots.length
  · have hBt : B = true := by rw [← hB]; simp [h1]
    subst hBt
    clear hB
    refine trF_enter (ts := [2]) Tryz.func49 rfl (by rw [Tryz.ntmps49]; exact Nat.le_of_ble_eq_true rfl) (fun tmps w => by simp [results, Tryz.results49, go_sem, resVal]) ?_
    simp only [Tryz.ntmps49]
    repeat' (first | with_reducible refine Go1.go ?_ | ((with_reducible apply ev_go); (focus ((try simp (disch := omega) only [push_cast, simprocAttr, *]); (try exact rfl); done))) | ((with_reducible refine w_last ?_ ?_ ?_); kernel_rfl; rfl) | with_reducible refine Go2.go ?_ | ((with_reducible first | apply w_stepG | refine s_bi ?_ ?_ | refine blk_ne ?_ ?_); rfl) | ((with_reducible refine al_go ?_); intro b) | ((with_reducible first | refine w_region ?_ ?_ | refine w_dra ?_ ?_); kernel_rfl) | ((with_reducible refine Go3.go ?_ ?_); all_goals (intro hb; (try with_reducible intro hb1); (try (exfalso; first | contradiction | omega)))) | fail)
    all_goals (refine ret_eq (by simp) (by first | rfl | assumption) (by (repeat (first | exact List.Sublist.refl _ | apply List.Sublist.cons))) ?_; (try simp (disch := omega) only [push_cast, simprocAttr, *]); try (first | exact LE.refl _ | exact LE.sl _ _ | ((first | refine LE.tup ?_ | refine LE.agg ?_); (repeat' (first | exact LEL.nil | refine LEL.cons ?_ ?_ | exact LE.refl _ | exact LE.sl _ _ | refine LE.agg ?_)); done) | refine LE.of_eq ?_))
  by_cases h2 : 30 < steps.length
  · have hBt : B = true := by rw [← hB]; simp [h2]
    subst hBt
    clear hB
    refine trF_enter (ts := [2]) Tryz.func49 rfl (by rw [Tryz.ntmps49]; exact Nat.le_of_ble_eq_true rfl) (fun tmps w => by simp [results, Tryz.results49, go_sem, resVal]) ?_
    simp only [Tryz.ntmps49]
    repeat' (first | with_reducible refine Go1.go ?_ | ((with_reducible apply ev_go); (focus ((try simp (disch := omega) only [push_cast, simprocAttr, *]); (try exact rfl); done))) | ((with_reducible refine w_last ?_ ?_ ?_); kernel_rfl; rfl) | with_reducible refine Go2.go ?_ | ((with_reducible first | apply w_stepG | refine s_bi ?_ ?_ | refine blk_ne ?_ ?_); rfl) | ((with_reducible refine al_go ?_); intro b) | ((with_reducible first | refine w_region ?_ ?_ | refine w_dra ?_ ?_); kernel_rfl) | ((with_reducible refine Go3.go ?_ ?_); all_goals (intro hb; (try with_reducible intro hb1); (try (exfalso; first | contradiction | omega)))) | fail)
    all_goals (refine ret_eq (by simp) (by first | rfl | assumption) (by (repeat (first | exact List.Sublist.refl _ | apply List.Sublist.cons))) ?_; (try simp (disch := omega) only [push_cast, simprocAttr, *]); try (first | exact LE.refl _ | exact LE.sl _ _ | ((first | refine LE.tup ?_ | refine LE.agg ?_); (repeat' (first | exact LEL.nil | refine LEL.cons ?_ ?_ | exact LE.refl _ | exact LE.sl _ _ | refine LE.agg ?_)); done) | refine LE.of_eq ?_))
  by_cases h3 : 300 < nm.size
  · have hBt : B = true := by rw [← hB]; simp [h3]
    subst hBt
    clear hB
    refine trF_enter (ts := [2]) Tryz.func49 rfl (by rw [Tryz.ntmps49]; exact Nat.le_of_ble_eq_true rfl) (fun tmps w => by simp [results, Tryz.results49, go_sem, resVal]) ?_
    simp only [Tryz.ntmps49]
    repeat' (first | with_reducible refine Go1.go ?_ | ((with_reducible apply ev_go); (focus ((try simp (disch := omega) only [push_cast, simprocAttr, *]); (try exact rfl); done))) | ((with_reducible refine w_last ?_ ?_ ?_); kernel_rfl; rfl) | with_reducible refine Go2.go ?_ | ((with_reducible first | apply w_stepG | refine s_bi ?_ ?_ | refine blk_ne ?_ ?_); rfl) | ((with_reducible refine al_go ?_); intro b) | ((with_reducible first | refine w_region ?_ ?_ | refine w_dra ?_ ?_); kernel_rfl) | ((with_reducible refine Go3.go ?_ ?_); all_goals (intro hb; (try with_reducible intro hb1); (try (exfalso; first | contradiction | omega)))) | fail)
    all_goals (refine ret_eq (by simp) (by first | rfl | assumption) (by (repeat (first | exact List.Sublist.refl _ | apply List.Sublist.cons))) ?_; (try simp (disch := omega) only [push_cast, simprocAttr, *]); try (first | exact LE.refl _ | exact LE.sl _ _ | ((first | refine LE.tup ?_ | refine LE.agg ?_); (repeat' (first | exact LEL.nil | refine LEL.cons ?_ ?_ | exact LE.refl _ | exact LE.sl _ _ | refine LE.agg ?_)); done) | refine LE.of_eq ?_))
  have HB : Hid (((slots.drop 0).any Sch.greatS || steps.any Sch.greatP) = B) := Lib.hid (by rw [← hB]; simp [h1, h2, h3])
  clear hB
  refine trF_enter (ts := [2]) Tryz.func49 rfl (by rw [Tryz.ntmps49]; exact Nat.le_of_ble_eq_true rfl) (fun tmps w => by simp [results, Tryz.results49, go_sem, resVal]) ?_
  simp only [Tryz.ntmps49]
  repeat' (first | with_reducible refine Go1.go ?_ | ((with_reducible apply ev_go); (focus ((try simp (disch := omega) only [push_cast, simprocAttr, *]); (try exact rfl); done))) | ((with_reducible refine w_last ?_ ?_ ?_); kernel_rfl; rfl) | with_reducible refine Go2.go ?_ | ((with_reducible first | apply w_stepG | refine s_bi ?_ ?_ | refine blk_ne ?_ ?_); rfl) | ((with_reducible refine al_go ?_); intro b) | ((with_reducible first | refine w_region ?_ ?_ | refine w_dra ?_ ?_); kernel_rfl) | ((with_reducible refine Go3.go ?_ ?_); all_goals (intro hb; (try with_reducible intro hb1); (try (exfalso; first | contradiction | omega)))) | fail)
  refine tr_loop (ι := Nat) (fun i A st' => i ≤ slots.length ∧ Hid (((slots.drop i).any Sch.greatS || steps.any Sch.greatP) = B) ∧ A.df = [] ∧ A.e 1 = .ip [.str nm, .sl .shared SL, .sl .shared TL] ∧ A.e 3 = .i i ∧ st = st') (fun i => slots.length - i) 0 ⟨Nat.zero_le _, HB, ?_, ?_, ?_, rfl⟩ ?_
  iterate 3 (focus (first | rfl | assumption | omega | (simp (disch := omega) only [push_cast, simprocAttr, *]; try omega; done)))
  rintro i A st' ⟨hi, HT, hdf, e1, e3, rfl⟩
  clear HB
  by_cases hlt : i < slots.length
  · obtain ⟨s, hs⟩ : ∃ s, slots[i]? = some s := ⟨_, List.getElem?_eq_getElem hlt⟩
    have HE := HT.out
    rw [any_drop hs, Bool.or_assoc] at HE
    have hc := hcl.out i s hs
    have hG := refGreatF s.dv (hws2.out s (List.mem_of_getElem? hs)).2.2
    clear HT hs
    unfold Sch.greatS at HE
    cases s with
    | mk snm ty rq dv =>
    dsimp only at HE hG
    generalize V.great dv = g at *
    cases dv with
    | mk k n sv l =>
    rw [Sl.cells_mk] at hc
    rw [V.cells_mk] at hG
    replace hG := Lib.hid hG
    cases g with
    | true =>
      simp only [Bool.true_or] at HE
      subst HE
      repeat' (first | with_reducible refine Go1.go ?_ | ((with_reducible apply ev_go); (focus ((try simp (disch := omega) only [push_cast, simprocAttr, *]); (try exact rfl); done))) | ((with_reducible refine w_last ?_ ?_ ?_); kernel_rfl; rfl) | with_reducible refine Go2.go ?_ | ((with_reducible first | apply w_stepG | refine s_bi ?_ ?_ | refine blk_ne ?_ ?_); rfl) | ((with_reducible refine al_go ?_); intro b) | ((with_reducible apply (ck_le Tryz.call133)); exact LEL.refl _; exact hG.out _) | ((with_reducible first | refine w_region ?_ ?_ | refine w_dra ?_ ?_); kernel_rfl) | ((with_reducible refine Go3.go ?_ ?_); all_goals (intro hb; (try with_reducible intro hb1); (try (exfalso; first | contradiction | omega)))) | fail)
      all_goals (refine ret_eq (by simp) (by first | rfl | assumption) (by (repeat (first | exact List.Sublist.refl _ | apply List.Sublist.cons))) ?_; (try simp (disch := omega) only [push_cast, simprocAttr, *]); try (first | exact LE.refl _ | exact LE.sl _ _ | ((first | refine LE.tup ?_ | refine LE.agg ?_); (repeat' (first | exact LEL.nil | refine LEL.cons ?_ ?_ | exact LE.refl _ | exact LE.sl _ _ | refine LE.agg ?_)); done) | refine LE.of_eq ?_))
    | false =>
      by_cases h4 : 300 < snm.size
      · simp only [h4, decide_true, Bool.or_true, Bool.true_or] at HE
        subst HE
        repeat' (first | with_reducible refine Go1.go ?_ | ((with_reducible apply ev_go); (focus ((try simp (disch := omega) only [push_cast, simprocAttr, *]); (try exact rfl); done))) | ((with_reducible refine w_last ?_ ?_ ?_); kernel_rfl; rfl) | with_reducible refine Go2.go ?_ | ((with_reducible first | apply w_stepG | refine s_bi ?_ ?_ | refine blk_ne ?_ ?_); rfl) | ((with_reducible refine al_go ?_); intro b) | ((with_reducible apply (ck_le Tryz.call133)); exact LEL.refl _; exact hG.out _) | ((with_reducible first | refine w_region ?_ ?_ | refine w_dra ?_ ?_); kernel_rfl) | ((with_reducible refine Go3.go ?_ ?_); all_goals (intro hb; (try with_reducible intro hb1); (try (exfalso; first | contradiction | omega)))) | fail)
        all_goals (refine ret_eq (by simp) (by first | rfl | assumption) (by (repeat (first | exact List.Sublist.refl _ | apply List.Sublist.cons))) ?_; (try simp (disch := omega) only [push_cast, simprocAttr, *]); try (first | exact LE.refl _ | exact LE.sl _ _ | ((first | refine LE.tup ?_ | refine LE.agg ?_); (repeat' (first | exact LEL.nil | refine LEL.cons ?_ ?_ | exact LE.refl _ | exact LE.sl _ _ | refine LE.agg ?_)); done) | refine LE.of_eq ?_))
      · rw [decide_eq_false h4, Bool.or_self, Bool.false_or] at HE
        replace HE := Lib.hid HE
        repeat' (first | with_reducible refine Go1.go ?_ | ((with_reducible apply ev_go); (focus ((try simp (disch := omega) only [push_cast, simprocAttr, *]); (try exact rfl); done))) | ((with_reducible refine w_last ?_ ?_ ?_); kernel_rfl; rfl) | with_reducible refine Go2.go ?_ | ((with_reducible first | apply w_stepG | refine s_bi ?_ ?_ | refine blk_ne ?_ ?_); rfl) | ((with_reducible refine al_go ?_); intro b) | ((with_reducible apply (ck_le Tryz.call133)); exact LEL.refl _; exact hG.out _) | ((with_reducible first | refine w_region ?_ ?_ | refine w_dra ?_ ?_); kernel_rfl) | ((with_reducible refine Go3.go ?_ ?_); all_goals (intro hb; (try with_reducible intro hb1); (try (exfalso; first | contradiction | omega)))) | fail)
        refine ⟨i + 1, ⟨hlt, HE, ?_, ?_, ?_, rfl⟩, ?_⟩
        all_goals (first | rfl | assumption | omega | (simp (disch := omega) only [push_cast, simprocAttr, *]; try omega; done))
  · have HE := HT.out
    rw [List.drop_of_length_le (by omega), List.any_nil, Bool.false_or] at HE
    have HB : Hid ((steps.drop 0).any Sch.greatP = B) := HE
    clear HT HE
    repeat' (first | with_reducible refine Go1.go ?_ | ((with_reducible apply ev_go); (focus ((try simp (disch := omega) only [push_cast, simprocAttr, *]); (try exact rfl); done))) | ((with_reducible refine w_last ?_ ?_ ?_); kernel_rfl; rfl) | with_reducible refine Go2.go ?_ | ((with_reducible first | apply w_stepG | refine s_bi ?_ ?_ | refine blk_ne ?_ ?_); rfl) | ((with_reducible refine al_go ?_); intro b) | ((with_reducible first | refine w_region ?_ ?_ | refine w_dra ?_ ?_); kernel_rfl) | ((with_reducible refine Go3.go ?_ ?_); all_goals (intro hb; (try with_reducible intro hb1); (try (exfalso; first | contradiction | omega)))) | fail)
    refine tr_loop (ι := Nat) (fun i A st' => i ≤ steps.length ∧ Hid ((steps.drop i).any Sch.greatP = B) ∧ A.df = [] ∧ A.e 1 = .ip [.str nm, .sl .shared SL, .sl .shared TL] ∧ A.e 4 = .i i ∧ st = st') (fun i => steps.length - i) 0 ⟨Nat.zero_le _, HB, ?_, ?_, ?_, rfl⟩ ?_
    iterate 3 (focus (first | rfl | assumption | omega | (simp (disch := omega) only [push_cast, simprocAttr, *]; try omega; done)))
    clear hdf e1 e3
    rintro i A st' ⟨hi, HT, hdf, e1, e4, rfl⟩
    clear HB
    by_cases hlt : i < steps.length
    · obtain ⟨s, hs⟩ : ∃ s, steps[i]? = some s := ⟨_, List.getElem?_eq_getElem hlt⟩
      have HE := HT.out
      rw [any_drop hs] at HE
      have hc := hcp.out i s hs
      have hG := refGreatF s.slot.dv (hwp2.out s (List.mem_of_getElem? hs)).2.2.1.2.2
      have hol := (hwp2.out s (List.mem_of_getElem? hs)).2.2.2
      clear HT hs
      unfold Sch.greatP at HE
      unfold maxLen at hol
      unfold Stp.cells at hc
      cases s with
      | mk kd col slot order =>
      cases slot with
      | mk snm ty rq dv =>
      dsimp only at HE hG hol
      generalize V.great dv = g at *
      cases dv with
      | mk k n sv l =>
      rw [Sl.cells_mk] at hc
      rw [V.cells_mk] at hG
      dsimp only [List.cons_append, List.nil_append] at hc
      replace hG := Lib.hid hG
      cases g with
      | true =>
        simp only [Bool.true_or] at HE
        subst HE
        repeat' (first | with_reducible refine Go1.go ?_ | ((with_reducible apply ev_go); (focus ((try simp (disch := omega) only [push_cast, simprocAttr, *]); (try exact rfl); done))) | ((with_reducible refine w_last ?_ ?_ ?_); kernel_rfl; rfl) | with_reducible refine Go2.go ?_ | ((with_reducible first | apply w_stepG | refine s_bi ?_ ?_ | refine blk_ne ?_ ?_); rfl) | ((with_reducible refine al_go ?_); intro b) | ((with_reducible apply (ck_le Tryz.call133)); exact LEL.refl _; exact hG.out _) | ((with_reducible first | refine w_region ?_ ?_ | refine w_dra ?_ ?_); kernel_rfl) | ((with_reducible refine Go3.go ?_ ?_); all_goals (intro hb; (try with_reducible intro hb1); (try (exfalso; first | contradiction | omega)))) | fail)
        all_goals (refine ret_eq (by simp) (by first | rfl | assumption) (by (repeat (first | exact List.Sublist.refl _ | apply List.Sublist.cons))) ?_; (try simp (disch := omega) only [push_cast, simprocAttr, *]); try (first | exact LE.refl _ | exact LE.sl _ _ | ((first | refine LE.tup ?_ | refine LE.agg ?_); (repeat' (first | exact LEL.nil | refine LEL.cons ?_ ?_ | exact LE.refl _ | exact LE.sl _ _ | refine LE.agg ?_)); done) | refine LE.of_eq ?_))
      | false =>
        by_cases h4 : 300 < snm.size
        · simp only [h4, decide_true, Bool.or_true, Bool.true_or] at HE
          subst HE
          repeat' (first | with_reducible refine Go1.go ?_ | ((with_reducible apply ev_go); (focus ((try simp (disch := omega) only [push_cast, simprocAttr, *]); (try exact rfl); done))) | ((with_reducible refine w_last ?_ ?_ ?_); kernel_rfl; rfl) | with_reducible refine Go2.go ?_ | ((with_reducible first | apply w_stepG | refine s_bi ?_ ?_ | refine blk_ne ?_ ?_); rfl) | ((with_reducible refine al_go ?_); intro b) | ((with_reducible apply (ck_le Tryz.call133)); exact LEL.refl _; exact hG.out _) | ((with_reducible first | refine w_region ?_ ?_ | refine w_dra ?_ ?_); kernel_rfl) | ((with_reducible refine Go3.go ?_ ?_); all_goals (intro hb; (try with_reducible intro hb1); (try (exfalso; first | contradiction | omega)))) | fail)
          all_goals (refine ret_eq (by simp) (by first | rfl | assumption) (by (repeat (first | exact List.Sublist.refl _ | apply List.Sublist.cons))) ?_; (try simp (disch := omega) only [push_cast, simprocAttr, *]); try (first | exact LE.refl _ | exact LE.sl _ _ | ((first | refine LE.tup ?_ | refine LE.agg ?_); (repeat' (first | exact LEL.nil | refine LEL.cons ?_ ?_ | exact LE.refl _ | exact LE.sl _ _ | refine LE.agg ?_)); done) | refine LE.of_eq ?_))
        · by_cases h5 : 30 < order.length
          · simp only [h5, decide_true, Bool.or_true, Bool.true_or] at HE
            subst HE
            repeat' (first | with_reducible refine Go1.go ?_ | ((with_reducible apply ev_go); (focus ((try simp (disch := omega) only [push_cast, simprocAttr, *]); (try exact rfl); done))) | ((with_reducible refine w_last ?_ ?_ ?_); kernel_rfl; rfl) | with_reducible refine Go2.go ?_ | ((with_reducible first | apply w_stepG | refine s_bi ?_ ?_ | refine blk_ne ?_ ?_); rfl) | ((with_reducible refine al_go ?_); intro b) | ((with_reducible apply (ck_le Tryz.call133)); exact LEL.refl _; exact hG.out _) | ((with_reducible first | refine w_region ?_ ?_ | refine w_dra ?_ ?_); kernel_rfl) | ((with_reducible refine Go3.go ?_ ?_); all_goals (intro hb; (try with_reducible intro hb1); (try (exfalso; first | contradiction | omega)))) | fail)
            all_goals (refine ret_eq (by simp) (by first | rfl | assumption) (by (repeat (first | exact List.Sublist.refl _ | apply List.Sublist.cons))) ?_; (try simp (disch := omega) only [push_cast, simprocAttr, *]); try (first | exact LE.refl _ | exact LE.sl _ _ | ((first | refine LE.tup ?_ | refine LE.agg ?_); (repeat' (first | exact LEL.nil | refine LEL.cons ?_ ?_ | exact LE.refl _ | exact LE.sl _ _ | refine LE.agg ?_)); done) | refine LE.of_eq ?_))
          · rw [decide_eq_false h4, decide_eq_false h5, Bool.or_self, Bool.or_self, Bool.false_or] at HE
            replace HE := Lib.hid HE
            repeat' (first | with_reducible refine Go1.go ?_ | ((with_reducible apply ev_go); (focus ((try simp (disch := omega) only [push_cast, simprocAttr, *]); (try exact rfl); done))) | ((with_reducible refine w_last ?_ ?_ ?_); kernel_rfl; rfl) | with_reducible refine Go2.go ?_ | ((with_reducible first | apply w_stepG | refine s_bi ?_ ?_ | refine blk_ne ?_ ?_); rfl) | ((with_reducible refine al_go ?_); intro b) | ((with_reducible apply (ck_le Tryz.call133)); exact LEL.refl _; exact hG.out _) | ((with_reducible first | refine w_region ?_ ?_ | refine w_dra ?_ ?_); kernel_rfl) | ((with_reducible refine Go3.go ?_ ?_); all_goals (intro hb; (try with_reducible intro hb1); (try (exfalso; first | contradiction | omega)))) | fail)
            refine ⟨i + 1, ⟨hlt, HE, ?_, ?_, ?_, rfl⟩, ?_⟩
            all_goals (first | rfl | assumption | omega | (simp (disch := omega) only [push_cast, simprocAttr, *]; try omega; done))
    · have HE := HT.out
      rw [List.drop_of_length_le (by omega), List.any_nil] at HE
      subst HE
      clear HT
      repeat' (first | with_reducible refine Go1.go ?_ | ((with_reducible apply ev_go); (focus ((try simp (disch := omega) only [push_cast, simprocAttr, *]); (try exact rfl); done))) | ((with_reducible refine w_last ?_ ?_ ?_); kernel_rfl; rfl) | with_reducible refine Go2.go ?_ | ((with_reducible first | apply w_stepG | refine s_bi ?_ ?_ | refine blk_ne ?_ ?_); rfl) | ((with_reducible refine al_go ?_); intro b) | ((with_reducible first | refine w_region ?_ ?_ | refine w_dra ?_ ?_); kernel_rfl) | ((with_reducible refine Go3.go ?_ ?_); all_goals (intro hb; (try with_reducible intro hb1); (try (exfalso; first | contradiction | omega)))) | fail)
      all_goals (refine ret_eq (by simp) (by first | rfl | assumption) (by (repeat (first | exact List.Sublist.refl _ | apply List.Sublist.cons))) ?_; (try simp (disch := omega) only [push_cast, simprocAttr, *]); try (first | exact LE.refl _ | exact LE.sl _ _ | ((first | refine LE.tup ?_ | refine LE.agg ?_); (repeat' (first | exact LEL.nil | refine LEL.cons ?_ ?_ | exact LE.refl _ | exact LE.sl _ _ | refine LE.agg ?_)); done) | refine LE.of_eq ?_))
end Go.Proofs.YtgcienlfpnpbgaaGreat
end

section
namespace Go.Proofs.YtgcienlfpnpbgaaGreat
set_option linter.unusedSimpArgs false
open Go.RowKit
theorem not_great10 {t : Tm} (hw : t.Wf) (h : Sch.great t = false) : TOk t ∧ (∀ s ∈ t.slots, s.dv.nodes ≤ 1000 ∧ s.dv.deep ≤ 10 ∧ s.name.size ≤ 300 ∧ s.Ok) ∧ (∀ s ∈ t.steps, s.slot.dv.nodes ≤ 1000 ∧ s.slot.dv.deep ≤ 10 ∧ s.slot.name.size ≤ 300 ∧ s.slot.Ok ∧ s.order.length ≤ 30) ∧ t.name.size ≤ 300 ∧ t.slots.length ≤ 30 ∧ t.steps.length ≤ 30 := by
  unfold Sch.great at h
  simp only [Bool.or_eq_false_iff, decide_eq_false_iff_not, List.any_eq_false, Bool.not_eq_true] at h
  obtain ⟨h1, h2, h3, h4, h5⟩ := h
  have hs : ∀ s ∈ t.slots, s.dv.nodes ≤ 1000 ∧ s.dv.deep ≤ 10 ∧ s.name.size ≤ 300 ∧ s.Ok := fun s hs => by
    have := h4 s hs
    unfold Sch.greatS at this
    rw [Bool.or_eq_false_iff, decide_eq_false_iff_not] at this
    obtain ⟨k1, k2⟩ := V.not_great this.1
    exact ⟨k1, k2, by omega, hw.ss s hs⟩
  have hp : ∀ s ∈ t.steps, s.slot.dv.nodes ≤ 1000 ∧ s.slot.dv.deep ≤ 10 ∧ s.slot.name.size ≤ 300 ∧ s.slot.Ok ∧ s.order.length ≤ 30 := fun s hs => by
    have := h5 s hs
    unfold Sch.greatP at this
    simp only [Bool.or_eq_false_iff, decide_eq_false_iff_not] at this
    obtain ⟨k1, k2⟩ := V.not_great this.1
    exact ⟨k1, k2, by omega, (hw.ps s hs).2.2.1, by omega⟩
  refine ⟨⟨by omega, by omega, fun s h => (hs s h).1, fun s h => ?_⟩, hs, hp, by omega, by omega, by omega⟩
  obtain ⟨k1, -, -, k4, k5⟩ := hp s h
  exact ⟨k1, V.Ok.bg k4.2.2, by omega⟩
end Go.Proofs.YtgcienlfpnpbgaaGreat
end

section
namespace Go.Proofs.YtgcienlfpnpbgaaGreat
set_option linter.unusedSimpArgs false
attribute [local push_cast] encB encI encC encBs V.cells_mk V.cells_len Nat.mul_one Int.sub_zero List.map_nil beq_self_eq_true bne_self_eq_false List.head?_cons
open Go.RowKit B
set_option maxRecDepth 10000
set_option maxHeartbeats 8000000
namespace Reg
def great (L : List Tm) : Bool := decide (12 < L.length) || L.any Sch.great
structure Kn (t : Tm) : Prop where
  ok : TOk t
  q : TmQ t
  nm : t.name.size ≤ 300
  os : ∀ s ∈ t.slots, s.dv.Ok
  ot : ∀ s ∈ t.steps, s.slot.name.size ≤ 300 ∧ s.slot.dv.nodes ≤ 1000 ∧ s.slot.dv.Ok
theorem not_great {L : List Tm} (hw : ∀ t ∈ L, t.Wf) (h : great L = false) : L.length ≤ 12 ∧ ∀ t ∈ L, Kn t := by
  unfold great at h
  rw [Bool.or_eq_false_iff, decide_eq_false_iff_not, List.any_eq_false] at h
  refine ⟨by omega, fun t ht => ?_⟩
  have hg : Sch.great t = false := by
    have := h.2 t ht
    cases hq : Sch.great t with
    | false => rfl
    | true => exact absurd hq this
  obtain ⟨k1, k2, k3, k4, k5, k6⟩ := not_great10 (hw t ht) hg
  exact ⟨k1, ⟨by omega, by omega, fun s hs => V.Ok.bg (k2 s hs).2.2.2.2.2, fun s hs => ⟨V.Ok.bg (k3 s hs).2.2.2.1.2.2, by have := (k3 s hs).2.2.2.2; omega⟩⟩, k4, fun s hs => (k2 s hs).2.2.2.2.2, fun s hs => ⟨(k3 s hs).2.2.1, (k3 s hs).1, (k3 s hs).2.2.2.1.2.2⟩⟩
theorem Kn.good {t : Tm} (k : Kn t) (h : 0 < Sch.last t) : TmG t ∧ TmP t := by
  have hg := Sch.last_good h k.os fun s hs => (k.ot s hs).2.2
  exact ⟨hg, hg.put k.ot⟩
theorem good_all {L : List Tm} (hk : ∀ t ∈ L, Kn t) (hr : right L = true) : L.length ≤ 6 ∧ (∀ t ∈ L, TmG t) ∧ ∀ t ∈ L, TmP t := by
  obtain ⟨h1, h2, -⟩ := right_iff.1 hr
  exact ⟨h1, fun t ht => ((hk t ht).good (h2 t ht)).1, fun t ht => ((hk t ht).good (h2 t ht)).2⟩
end Reg
theorem readsTms : Reads Tryz.prog 22 (fun l : List Tm => [D.sl .shared (l.map Tm.cells)]) fun l => (∀ x ∈ l, x.Wf) ∧ l.length ≤ maxLen :=
  reads_slice' (sz := 3) Tryz.underlying22 (by kernel_rfl) (by omega) readsTm (fun _ => rfl) fun t d hd => by
    unfold Tm.cells at hd
    simp only [List.mem_cons, List.not_mem_nil, or_false] at hd
    rcases hd with rfl | rfl | rfl <;> rfl
theorem refGreat13F (L : List Tm) (hw : ∀ t ∈ L, t.Wf) (hl : L.length ≤ maxLen) (st : St) : TrF Tryz.prog 15 [.sl .shared (L.map Tm.cells)] st fun d st' => d = .b (Reg.great L) ∧ st' = st := by
  unfold maxLen at hl
  have hm : (L.map Tm.cells).length = L.length := List.length_map ..
  have hc : Hid (∀ (i : Nat) (t : Tm), L[i]? = some t → (L.map Tm.cells)[i]? = some t.cells) := fun i t h => by rw [List.getElem?_map, h]; rfl
  have hG := Lib.hid fun (t : Tm) (ht : t ∈ L) => refGreat10F t (hw t ht)
  unfold Reg.great
  clear hw
  generalize L.map Tm.cells = LS at *
  by_cases h12 : 12 < L.length
  · rw [decide_eq_true h12, Bool.true_or]
    refine trF_enter (ts := [2]) Tryz.func15 rfl (by rw [Tryz.ntmps15]; exact Nat.le_of_ble_eq_true rfl) (fun tmps w => by simp [results, Tryz.results15, go_sem, resVal]) ?_
    simp only [Tryz.ntmps15]
    repeat' (first | with_reducible refine Go1.go ?_ | ((with_reducible apply ev_go); (focus ((try simp (disch := omega) only [push_cast, simprocAttr, *]); (try exact rfl); done))) | ((with_reducible refine w_last ?_ ?_ ?_); kernel_rfl; rfl) | with_reducible refine Go2.go ?_ | ((with_reducible first | apply w_stepG | refine s_bi ?_ ?_ | refine blk_ne ?_ ?_); rfl) | ((with_reducible refine al_go ?_); intro b) | ((with_reducible first | refine w_region ?_ ?_ | refine w_dra ?_ ?_); kernel_rfl) | ((with_reducible refine Go3.go ?_ ?_); all_goals (intro hb; (try with_reducible intro hb1); (try (exfalso; first | contradiction | omega)))) | fail)
    all_goals (refine ret_eq (by simp) (by first | rfl | assumption) (by (repeat (first | exact List.Sublist.refl _ | apply List.Sublist.cons))) ?_; (try simp (disch := omega) only [push_cast, simprocAttr, *]); try (first | exact LE.refl _ | exact LE.sl _ _ | ((first | refine LE.tup ?_ | refine LE.agg ?_); (repeat' (first | exact LEL.nil | refine LEL.cons ?_ ?_ | exact LE.refl _ | exact LE.sl _ _ | refine LE.agg ?_)); done) | refine LE.of_eq ?_))
  · rw [decide_eq_false h12, Bool.false_or]
    obtain ⟨F, hF⟩ : ∃ F, L.any Sch.great = F := ⟨_, rfl⟩
    rw [hF]
    have HF : Hid ((L.drop 0).any Sch.great = F) := hF
    clear hF
    refine trF_enter (ts := [2]) Tryz.func15 rfl (by rw [Tryz.ntmps15]; exact Nat.le_of_ble_eq_true rfl) (fun tmps w => by simp [results, Tryz.results15, go_sem, resVal]) ?_
    simp only [Tryz.ntmps15]
    repeat' (first | with_reducible refine Go1.go ?_ | ((with_reducible apply ev_go); (focus ((try simp (disch := omega) only [push_cast, simprocAttr, *]); (try exact rfl); done))) | ((with_reducible refine w_last ?_ ?_ ?_); kernel_rfl; rfl) | with_reducible refine Go2.go ?_ | ((with_reducible first | apply w_stepG | refine s_bi ?_ ?_ | refine blk_ne ?_ ?_); rfl) | ((with_reducible refine al_go ?_); intro b) | ((with_reducible first | refine w_region ?_ ?_ | refine w_dra ?_ ?_); kernel_rfl) | ((with_reducible refine Go3.go ?_ ?_); all_goals (intro hb; (try with_reducible intro hb1); (try (exfalso; first | contradiction | omega)))) | fail)
    refine tr_loopd (ι := Nat) (fun i A st' => i ≤ L.length ∧ Hid ((L.drop i).any Sch.great = F) ∧ A.df = [] ∧ A.e 0 = .sl .shared LS ∧ A.e 3 = .i i ∧ st = st') (fun i => L.length - i) 0 ⟨Nat.zero_le _, HF, ?_, ?_, ?_, rfl⟩ ?_
    iterate 3 (focus (first | rfl | assumption | omega | (simp (disch := omega) only [push_cast, simprocAttr, *]; try omega; done)))
    rintro i A st' ⟨hi, HT, hdf, e0, e3, rfl⟩
    clear HF
    by_cases hlt : i < L.length
    · obtain ⟨t, ht⟩ : ∃ t, L[i]? = some t := ⟨_, List.getElem?_eq_getElem hlt⟩
      have h1 := hc.out i t ht
      have HE := HT.out
      rw [any_drop ht] at HE
      have hR := hG.out t (List.mem_of_getElem? ht)
      clear HT ht
      obtain ⟨G, hGG⟩ : ∃ G, (L.drop (i + 1)).any Sch.great = G := ⟨_, rfl⟩
      rw [hGG] at HE
      replace hGG := Lib.hid hGG
      generalize Sch.great t = q at *
      unfold Tm.cells at h1 hR
      generalize t.slots.map Sl.cells = SL at *
      generalize t.steps.map Stp.cells = TL at *
      generalize t.name = nm at *
      replace hR := Lib.hid hR
      cases q with
      | true =>
        rw [Bool.true_or] at HE
        subst HE
        repeat' (first | with_reducible refine Go1.go ?_ | ((with_reducible apply ev_go); (focus ((try simp (disch := omega) only [push_cast, simprocAttr, *]); (try exact rfl); done))) | ((with_reducible refine w_last ?_ ?_ ?_); kernel_rfl; rfl) | with_reducible refine Go2.go ?_ | ((with_reducible first | apply w_stepG | refine s_bi ?_ ?_ | refine blk_ne ?_ ?_); rfl) | ((with_reducible refine al_go ?_); intro b) | ((with_reducible apply (ck_le Tryz.call49)); exact LEL.refl _; exact hR.out _) | ((with_reducible first | refine w_region ?_ ?_ | refine w_dra ?_ ?_); kernel_rfl) | ((with_reducible refine Go3.go ?_ ?_); all_goals (intro hb; (try with_reducible intro hb1); (try (exfalso; first | contradiction | omega)))) | fail)
        all_goals (refine ret_eq (by simp) (by first | rfl | assumption) (by (repeat (first | exact List.Sublist.refl _ | apply List.Sublist.cons))) ?_; (try simp (disch := omega) only [push_cast, simprocAttr, *]); try (first | exact LE.refl _ | exact LE.sl _ _ | ((first | refine LE.tup ?_ | refine LE.agg ?_); (repeat' (first | exact LEL.nil | refine LEL.cons ?_ ?_ | exact LE.refl _ | exact LE.sl _ _ | refine LE.agg ?_)); done) | refine LE.of_eq ?_))
      | false =>
        rw [Bool.false_or] at HE
        replace HE := Lib.hid (hGG.out.trans HE)
        clear hGG
        repeat' (first | with_reducible refine Go1.go ?_ | ((with_reducible apply ev_go); (focus ((try simp (disch := omega) only [push_cast, simprocAttr, *]); (try exact rfl); done))) | ((with_reducible refine w_last ?_ ?_ ?_); kernel_rfl; rfl) | with_reducible refine Go2.go ?_ | ((with_reducible first | apply w_stepG | refine s_bi ?_ ?_ | refine blk_ne ?_ ?_); rfl) | ((with_reducible refine al_go ?_); intro b) | ((with_reducible apply (ck_le Tryz.call49)); exact LEL.refl _; exact hR.out _) | ((with_reducible first | refine w_region ?_ ?_ | refine w_dra ?_ ?_); kernel_rfl) | ((with_reducible refine Go3.go ?_ ?_); all_goals (intro hb; (try with_reducible intro hb1); (try (exfalso; first | contradiction | omega)))) | fail)
        refine ⟨i + 1, st, (by (repeat (first | exact List.Sublist.refl _ | apply List.Sublist.cons))), ⟨hlt, HE, ?_, ?_, ?_, rfl⟩, by omega⟩
        all_goals (first | rfl | assumption | omega | (simp (disch := omega) only [push_cast, simprocAttr, *]; try omega; done))
    · have HE := HT.out
      rw [List.drop_of_length_le (by omega)] at HE
      subst HE
      clear HT
      repeat' (first | with_reducible refine Go1.go ?_ | ((with_reducible apply ev_go); (focus ((try simp (disch := omega) only [push_cast, simprocAttr, *]); (try exact rfl); done))) | ((with_reducible refine w_last ?_ ?_ ?_); kernel_rfl; rfl) | with_reducible refine Go2.go ?_ | ((with_reducible first | apply w_stepG | refine s_bi ?_ ?_ | refine blk_ne ?_ ?_); rfl) | ((with_reducible refine al_go ?_); intro b) | ((with_reducible first | refine w_region ?_ ?_ | refine w_dra ?_ ?_); kernel_rfl) | ((with_reducible refine Go3.go ?_ ?_); all_goals (intro hb; (try with_reducible intro hb1); (try (exfalso; first | contradiction | omega)))) | fail)
      all_goals (refine ret_eq (by simp) (by first | rfl | assumption) (by (repeat (first | exact List.Sublist.refl _ | apply List.Sublist.cons))) ?_; (try simp (disch := omega) only [push_cast, simprocAttr, *]); try (first | exact LE.refl _ | exact LE.sl _ _ | ((first | refine LE.tup ?_ | refine LE.agg ?_); (repeat' (first | exact LEL.nil | refine LEL.cons ?_ ?_ | exact LE.refl _ | exact LE.sl _ _ | refine LE.agg ?_)); done) | refine LE.of_eq ?_))
theorem twoKn : Reg.Kn twoT := by
  have ho : ∀ k n : Int, (0 ≤ k ∧ k ≤ 9) → (0 ≤ n ∧ n ≤ 9) → (V.mk k n ⟨#[]⟩ []).Ok := fun k n h1 h2 => .mk (by omega) (by omega) (Nat.zero_le _) (Nat.zero_le _) fun x h => by cases h
  refine ⟨twoOk, ⟨by decide, by decide, ?_, ?_⟩, by decide, ?_, ?_⟩
  · intro s hs
    simp only [twoT, List.mem_cons, List.not_mem_nil, or_false] at hs
    rcases hs with rfl | rfl <;> exact (ho _ _ (by decide) (by decide)).bg
  · intro s hs
    simp only [twoT, List.mem_cons, List.not_mem_nil, or_false] at hs
    rcases hs with rfl | rfl <;> exact ⟨(ho _ _ (by decide) (by decide)).bg, by decide⟩
  · intro s hs
    simp only [twoT, List.mem_cons, List.not_mem_nil, or_false] at hs
    rcases hs with rfl | rfl <;> exact ho _ _ (by decide) (by decide)
  · intro s hs
    simp only [twoT, List.mem_cons, List.not_mem_nil, or_false] at hs
    rcases hs with rfl | rfl <;> exact ⟨by decide, by decide, ho _ _ (by decide) (by decide)⟩
abbrev L13 : List Tm := [twoT]
theorem l13_kn : ∀ t ∈ L13, Reg.Kn t := fun t h => by rw [List.mem_singleton.1 h]; exact twoKn
theorem l13_right : Reg.right L13 = true := Reg.right_iff.2 ⟨by decide, fun t h => by rw [List.mem_singleton.1 h, twoL]; decide, fun i j t u ht hu _ => by
  have h1 := (List.getElem?_eq_some_iff.1 ht).1
  have h2 := (List.getElem?_eq_some_iff.1 hu).1
  have : L13.length = 1 := rfl
  omega⟩
theorem l13_len : 20 < (Reg.put L13).length ∧ (Reg.put L13).length ≤ 1000000 := by
  have hP := (Reg.good_all l13_kn l13_right).2.2 twoT (List.mem_singleton.2 rfl)
  have h1 := Reg.tmB_len twoT hP
  have h2 : (Reg.put L13).length = 4 + (Reg.tmB twoT).length := by
    unfold Reg.put
    rw [if_pos l13_right]
    unfold Reg.listB
    simp only [List.map_cons, List.map_nil, List.flatten_cons, List.flatten_nil, List.append_nil, List.length_append, be_len]
  have h3 : 17 ≤ (Reg.tmB twoT).length := by
    unfold Reg.tmB Reg.tmP twoT Reg.listB
    simp only [List.map_cons, List.map_nil, List.flatten_cons, List.flatten_nil, List.append_nil, List.length_append, tx, be_len]
    have e1 : (Reg.slotB ⟨⟨#[97]⟩, 4, false, .mk 2 0 ⟨#[]⟩ []⟩).length ≥ 5 := by
      unfold Reg.slotB Reg.slotP
      simp only [List.flatten_cons, List.flatten_nil, List.append_nil, List.length_append, tx, be_len]
      have : ([97] : List UInt8).length = 1 := rfl
      have : (ByteArray.mk #[97]).data.toList.length = 1 := rfl
      omega
    have : (ByteArray.mk #[116]).data.toList.length = 1 := rfl
    omega
  omega
theorem l13_get : Reg.get (Reg.put L13) = some L13 := Reg.get_put L13 l13_right (by decide) (Reg.good_all l13_kn l13_right).2.1
theorem l13_get0 : Reg.get (Reg.put L13 ++ [0]) = none := by
  have := Reg.read_put L13 l13_right (by decide) (Reg.good_all l13_kn l13_right).2.1 .shared [0]
  unfold Reg.get
  rw [this]
  exact if_neg fun h => by cases h.2.2
theorem l13_rl (r : List UInt8) : ∀ t ∈ (Reg.rlist Reg.getTm 7 ⟨.shared, Reg.put L13 ++ r, false⟩).1, TOk t := by
  have := Reg.rlist_tms L13 (by decide) (Reg.good_all l13_kn l13_right).2.1 .shared r
  unfold Reg.put
  rw [if_pos l13_right, this]
  exact fun t ht => (l13_kn t ht).ok
theorem l13_find : Reg.find L13 ⟨#[116]⟩ = 0 ∧ Reg.find L13 ⟨#[117]⟩ = -1 := ⟨Reg.find_at (i := 0) rfl rfl fun k u hk => by omega, Reg.find_none fun t ht => by rw [List.mem_singleton.1 ht]; exact fun h => absurd (Reg.name_iff.1 (beq_iff_eq.2 h)) (by decide)⟩
theorem put_nil : Reg.put [] = [0, 0, 0, 0] := by kernel_rfl
theorem reg13AliveF (st : St) : TrF Tryz.prog 14 [] st fun d st' => d = .b true ∧ st' = st := by
  have hT := twoF
  have hok : ∀ t ∈ L13, TOk t := fun t h => (l13_kn t h).ok
  have hq : ∀ t ∈ L13, Reg.TmQ t := fun t h => (l13_kn t h).q
  have hlen := l13_len
  have hP := regPutOF L13 hok (by decide) l13_right (Reg.good_all l13_kn l13_right).2.2
  have hG1 := regGetF .shared (Reg.put L13) (by omega) (by have := l13_rl []; rwa [List.append_nil] at this)
  have hG2 := regGetF .shared (Reg.put L13 ++ [0]) (by rw [List.length_append]; show _ + 1 ≤ _; omega) (l13_rl [0])
  have hS := regSameF L13 L13 hq hq (by decide) (by decide)
  have hR := regRightF L13 hok (by decide)
  have hF1 := regFindF L13 ⟨#[116]⟩ (by decide)
  have hF2 := regFindF L13 ⟨#[117]⟩ (by decide)
  have hP0 := regPutF [] (fun t h => by cases h) (by decide) (fun _ => ⟨by decide, fun t h => by cases h⟩)
  have hB := bytesF .shared .shared [0, 0, 0, 0] [0, 0, 0, 0]
  rw [l13_get] at hG1
  rw [l13_get0] at hG2
  rw [(Reg.same_iff L13 L13).2 rfl] at hS
  rw [l13_right] at hR
  rw [l13_find.1] at hF1
  rw [l13_find.2] at hF2
  rw [put_nil] at hP0
  rw [decide_eq_true rfl] at hB
  have hm : ((Reg.put L13).map encB).length = (Reg.put L13).length := List.length_map ..
  rw [List.map_append] at hG2
  simp only [List.map_cons, List.map_nil, twoC, encB, Option.getD, Option.isSome] at hT hP hG1 hG2 hS hR hF1 hF2 hP0 hB
  generalize Reg.put L13 = PB at *
  replace hT := Lib.hid hT
  replace hP := Lib.hid hP
  replace hG1 := Lib.hid hG1
  replace hG2 := Lib.hid hG2
  replace hS := Lib.hid hS
  replace hR := Lib.hid hR
  replace hF1 := Lib.hid hF1
  replace hF2 := Lib.hid hF2
  replace hP0 := Lib.hid hP0
  replace hB := Lib.hid hB
  clear hok hq
  refine trF_enter (ts := [0]) Tryz.func14 rfl (by rw [Tryz.ntmps14]; exact Nat.le_of_ble_eq_true rfl) (fun tmps w => by simp [results, Tryz.results14, go_sem, resVal]) ?_
  simp only [Tryz.ntmps14]
  repeat' (first | with_reducible refine Go1.go ?_ | ((with_reducible apply ev_go); (focus ((try simp (disch := omega) only [push_cast, simprocAttr, *]); (try exact rfl); done))) | ((with_reducible refine w_last ?_ ?_ ?_); kernel_rfl; rfl) | with_reducible refine Go2.go ?_ | ((with_reducible first | apply w_stepG | refine s_bi ?_ ?_ | refine blk_ne ?_ ?_); rfl) | ((with_reducible refine al_go ?_); intro b) | ((with_reducible apply (ck_le Tryz.call48)); exact LEL.refl _; exact hT.out _) | ((with_reducible apply (ck_exl Tryz.call19)); exact hP.out _; (focus ((repeat' (first | exact LEL.nil | refine LEL.cons ?_ ?_ | exact LE.refl _ | exact LE.sl _ _ | refine LE.agg ?_)); done)); (focus exact ⟨.tight, by intro h; cases h⟩); intro o1 ho1) | ((with_reducible apply (ck_el Tryz.call25)); exact hG1.out _; (focus ((repeat' (first | exact LEL.nil | refine LEL.cons ?_ ?_ | exact LE.refl _ | exact LE.sl _ _ | refine LE.agg ?_)); done))) | ((with_reducible apply (ck_el Tryz.call25)); exact hG2.out _; (focus ((repeat' (first | exact LEL.nil | refine LEL.cons ?_ ?_ | exact LE.refl _ | exact LE.sl _ _ | refine LE.agg ?_)); done))) | ((with_reducible apply (ck_el Tryz.call23)); exact hS.out _; (focus ((repeat' (first | exact LEL.nil | refine LEL.cons ?_ ?_ | exact LE.refl _ | exact LE.sl _ _ | refine LE.agg ?_)); done))) | ((with_reducible apply (ck_el Tryz.call16)); exact hR.out _; (focus ((repeat' (first | exact LEL.nil | refine LEL.cons ?_ ?_ | exact LE.refl _ | exact LE.sl _ _ | refine LE.agg ?_)); done))) | ((with_reducible apply (ck_el Tryz.call21)); exact hF1.out _; (focus ((repeat' (first | exact LEL.nil | refine LEL.cons ?_ ?_ | exact LE.refl _ | exact LE.sl _ _ | refine LE.agg ?_)); done))) | ((with_reducible apply (ck_el Tryz.call21)); exact hF2.out _; (focus ((repeat' (first | exact LEL.nil | refine LEL.cons ?_ ?_ | exact LE.refl _ | exact LE.sl _ _ | refine LE.agg ?_)); done))) | ((with_reducible apply (ck_el Tryz.call19)); exact hP0.out _; (focus ((repeat' (first | exact LEL.nil | refine LEL.cons ?_ ?_ | exact LE.refl _ | exact LE.sl _ _ | refine LE.agg ?_)); done))) | ((with_reducible apply (ck_el Tryz.call18)); exact hB.out _; (focus ((repeat' (first | exact LEL.nil | refine LEL.cons ?_ ?_ | exact LE.refl _ | exact LE.sl _ _ | refine LE.agg ?_)); done))) | ((with_reducible apply a2_go); (focus (first | assumption | (intro h; cases h))); (focus (intro o'; repeat (first | exact ra_h | apply ra_t))); (iterate 2 (focus (first | assumption | exact len_nil | exact len_one rfl | (intro a ha; obtain ⟨x, -, rfl⟩ := List.mem_map.1 ha; first | rfl | simp) | (intro a ha; simp at ha; simp [ha])))); (iterate 2 (focus (first | omega | (simp only [List.length_map, List.length_cons, List.length_nil, List.length_append]; omega)))); intro o' ho') | ((with_reducible apply p2_go); (focus (first | assumption | (intro h; cases h))); (focus (intro o'; repeat (first | exact ra_h | apply ra_t))); (focus (first | assumption | exact len_nil | exact len_one rfl | (intro a ha; obtain ⟨x, -, rfl⟩ := List.mem_map.1 ha; first | rfl | simp) | (intro a ha; simp at ha; simp [ha]))); (iterate 2 (focus (first | omega | (simp only [List.length_map, List.length_cons, List.length_nil, List.length_append]; omega)))); intro o' ho') | ((with_reducible first | refine w_region ?_ ?_ | refine w_dra ?_ ?_); kernel_rfl) | ((with_reducible refine Go3.go ?_ ?_); all_goals (intro hb; (try with_reducible intro hb1); (try (exfalso; first | contradiction | omega)))) | fail)
  all_goals (refine ret_eq (by simp) (by first | rfl | assumption) (by (repeat (first | exact List.Sublist.refl _ | apply List.Sublist.cons))) ?_; (try simp (disch := omega) only [push_cast, simprocAttr, *]); try (first | exact LE.refl _ | exact LE.sl _ _ | ((first | refine LE.tup ?_ | refine LE.agg ?_); (repeat' (first | exact LEL.nil | refine LEL.cons ?_ ?_ | exact LE.refl _ | exact LE.sl _ _ | refine LE.agg ?_)); done) | refine LE.of_eq ?_))
end Go.Proofs.YtgcienlfpnpbgaaGreat
end
