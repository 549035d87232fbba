/- Texts put together: RefI, CastA, Copy, CastB, SchTw, RecA, AmMak, RecB, RecC, RecD, RecE, RecF, RecG, RecH, RecI, AmDrawT, RecJ, RecK, CastC, CastD, CastE, CastF, CastG, SchP, SchGr, CastH, CastI. No statement is proved here. -/
import Derived.Lib.SlicesS
import Derived.Test.YtooaagmhgakhgaaZ4
set_option linter.all false
section
namespace Go.Proofs.Ytooaagmhgakhgaa
set_option linter.unusedSimpArgs false
attribute [local push_cast] encB encI encC V.cells_mk V.cells_len Nat.mul_one Int.sub_zero List.map_nil beq_self_eq_true List.head?_cons
open Go.RowKit
set_option maxRecDepth 10000
set_option maxHeartbeats 4000000
theorem any_drop' {α : Type} {p : α → Bool} {l : List α} {i : Nat} {x : α} (h : l[i]? = some x) : (l.drop i).any p = (p x || (l.drop (i + 1)).any p) := by
  obtain ⟨h1, rfl⟩ := List.getElem?_eq_some_iff.1 h
  rw [List.drop_eq_getElem_cons h1, List.any_cons]
theorem refGreat11F (o : Own) (l : List V) (hok : ∀ v ∈ l, v.Ok) (hl : l.length ≤ 9223372036854775807) (st : St) : TrF Try.prog 32 [.sl o (l.map V.cells)] st fun d st' => d = .b (decide (40 < l.length) || l.any V.great) ∧ st' = st := by
  have hml : (l.map V.cells).length = l.length := List.length_map ..
  have hcl : Hid (∀ (i : Nat) (v : V), l[i]? = some v → (l.map V.cells)[i]? = some v.cells) := fun i v h => by rw [List.getElem?_map, h]; rfl
  have hok2 := Lib.hid hok
  clear hok
  obtain ⟨B, hB⟩ : ∃ B, (decide (40 < l.length) || l.any V.great) = B := ⟨_, rfl⟩
  rw [hB]
  generalize l.map V.cells = LC at *
  by_cases h1 : 40 < l.length
  · have hBt : B = true := by rw [← hB]; simp [h1]
    subst hBt
    clear hB
    refine trF_enter (ts := [2]) Try.func32 rfl (by rw [Try.ntmps32]; exact Nat.le_of_ble_eq_true rfl) (fun tmps w => by simp [results, Try.results32, go_sem, resVal]) ?_
    simp only [Try.ntmps32]
    repeat' (first | with_reducible refine Go1.go ?_ | ((with_reducible apply ev_go); (focus ((try simp (disch := omega) only [push_cast, simprocAttr, *]); (try exact rfl); done))) | ((with_reducible refine w_last ?_ ?_ ?_); kernel_rfl; rfl) | with_reducible refine Go2.go ?_ | ((with_reducible first | apply w_stepG | refine s_bi ?_ ?_ | refine blk_ne ?_ ?_); rfl) | ((with_reducible refine al_go ?_); intro b) | ((with_reducible apply a2_go); (focus (first | assumption | (intro h; cases h))); (focus (intro o'; repeat (first | exact ra_h | apply ra_t))); (iterate 2 (focus (first | assumption | exact len_nil | exact len_one rfl | (intro a ha; obtain ⟨x, -, rfl⟩ := List.mem_map.1 ha; first | rfl | simp) | (intro a ha; simp at ha; simp [ha])))); (iterate 2 (focus (first | omega | (simp only [List.length_map, List.length_cons, List.length_nil, List.length_append]; omega)))); intro o' ho') | ((with_reducible first | refine w_region ?_ ?_ | refine w_dra ?_ ?_); kernel_rfl) | ((with_reducible refine Go3.go ?_ ?_); all_goals (intro hb; (try with_reducible intro hb1); (try (exfalso; first | contradiction | omega)))) | fail)
    all_goals (refine ret_eq (by simp) (by first | rfl | assumption) (by (repeat (first | exact List.Sublist.refl _ | apply List.Sublist.cons))) ?_; (try simp (disch := omega) only [push_cast, simprocAttr, *]); try (first | exact LE.refl _ | exact LE.sl _ _ | ((first | refine LE.tup ?_ | refine LE.agg ?_); (repeat' (first | exact LEL.nil | refine LEL.cons ?_ ?_ | exact LE.refl _ | exact LE.sl _ _ | refine LE.agg ?_)); done) | refine LE.of_eq ?_))
  have HB : Hid ((l.drop 0).any V.great = B) := Lib.hid (by rw [← hB]; simp [h1])
  clear hB
  refine trF_enter (ts := [2]) Try.func32 rfl (by rw [Try.ntmps32]; exact Nat.le_of_ble_eq_true rfl) (fun tmps w => by simp [results, Try.results32, go_sem, resVal]) ?_
  simp only [Try.ntmps32]
  repeat' (first | with_reducible refine Go1.go ?_ | ((with_reducible apply ev_go); (focus ((try simp (disch := omega) only [push_cast, simprocAttr, *]); (try exact rfl); done))) | ((with_reducible refine w_last ?_ ?_ ?_); kernel_rfl; rfl) | with_reducible refine Go2.go ?_ | ((with_reducible first | apply w_stepG | refine s_bi ?_ ?_ | refine blk_ne ?_ ?_); rfl) | ((with_reducible refine al_go ?_); intro b) | ((with_reducible apply a2_go); (focus (first | assumption | (intro h; cases h))); (focus (intro o'; repeat (first | exact ra_h | apply ra_t))); (iterate 2 (focus (first | assumption | exact len_nil | exact len_one rfl | (intro a ha; obtain ⟨x, -, rfl⟩ := List.mem_map.1 ha; first | rfl | simp) | (intro a ha; simp at ha; simp [ha])))); (iterate 2 (focus (first | omega | (simp only [List.length_map, List.length_cons, List.length_nil, List.length_append]; omega)))); intro o' ho') | ((with_reducible first | refine w_region ?_ ?_ | refine w_dra ?_ ?_); kernel_rfl) | ((with_reducible refine Go3.go ?_ ?_); all_goals (intro hb; (try with_reducible intro hb1); (try (exfalso; first | contradiction | omega)))) | fail)
  refine tr_loop (ι := Nat) (fun i A st' => i ≤ l.length ∧ Hid ((l.drop i).any V.great = B) ∧ A.df = [] ∧ A.e 0 = .sl o LC ∧ A.e 3 = .i i ∧ st = st') (fun i => l.length - i) 0 ⟨Nat.zero_le _, HB, ?_, ?_, ?_, rfl⟩ ?_
  iterate 3 (focus (first | rfl | assumption | omega | (simp (disch := omega) only [push_cast, simprocAttr, *]; try omega; done)))
  rintro i A st' ⟨hi, HT, hdf, e0, e3, rfl⟩
  clear HB
  by_cases hlt : i < l.length
  · obtain ⟨v, hv⟩ : ∃ v, l[i]? = some v := ⟨_, List.getElem?_eq_getElem hlt⟩
    have HE := HT.out
    rw [any_drop' hv] at HE
    have hc := hcl.out i v hv
    have hG := refGreatF v (hok2.out v (List.mem_of_getElem? hv))
    clear HT hv
    generalize V.great v = g at *
    cases v with
    | mk k n sv lv =>
    rw [V.cells_mk] at hc hG
    replace hG := Lib.hid hG
    cases g with
    | true =>
      simp only [Bool.true_or] at HE
      subst HE
      repeat' (first | with_reducible refine Go1.go ?_ | ((with_reducible apply ev_go); (focus ((try simp (disch := omega) only [push_cast, simprocAttr, *]); (try exact rfl); done))) | ((with_reducible refine w_last ?_ ?_ ?_); kernel_rfl; rfl) | with_reducible refine Go2.go ?_ | ((with_reducible first | apply w_stepG | refine s_bi ?_ ?_ | refine blk_ne ?_ ?_); rfl) | ((with_reducible refine al_go ?_); intro b) | ((with_reducible apply (ck_le Try.call12)); exact LEL.refl _; exact hG.out _) | ((with_reducible apply a2_go); (focus (first | assumption | (intro h; cases h))); (focus (intro o'; repeat (first | exact ra_h | apply ra_t))); (iterate 2 (focus (first | assumption | exact len_nil | exact len_one rfl | (intro a ha; obtain ⟨x, -, rfl⟩ := List.mem_map.1 ha; first | rfl | simp) | (intro a ha; simp at ha; simp [ha])))); (iterate 2 (focus (first | omega | (simp only [List.length_map, List.length_cons, List.length_nil, List.length_append]; omega)))); intro o' ho') | ((with_reducible first | refine w_region ?_ ?_ | refine w_dra ?_ ?_); kernel_rfl) | ((with_reducible refine Go3.go ?_ ?_); all_goals (intro hb; (try with_reducible intro hb1); (try (exfalso; first | contradiction | omega)))) | fail)
      all_goals (refine ret_eq (by simp) (by first | rfl | assumption) (by (repeat (first | exact List.Sublist.refl _ | apply List.Sublist.cons))) ?_; (try simp (disch := omega) only [push_cast, simprocAttr, *]); try (first | exact LE.refl _ | exact LE.sl _ _ | ((first | refine LE.tup ?_ | refine LE.agg ?_); (repeat' (first | exact LEL.nil | refine LEL.cons ?_ ?_ | exact LE.refl _ | exact LE.sl _ _ | refine LE.agg ?_)); done) | refine LE.of_eq ?_))
    | false =>
      rw [Bool.false_or] at HE
      replace HE := Lib.hid HE
      repeat' (first | with_reducible refine Go1.go ?_ | ((with_reducible apply ev_go); (focus ((try simp (disch := omega) only [push_cast, simprocAttr, *]); (try exact rfl); done))) | ((with_reducible refine w_last ?_ ?_ ?_); kernel_rfl; rfl) | with_reducible refine Go2.go ?_ | ((with_reducible first | apply w_stepG | refine s_bi ?_ ?_ | refine blk_ne ?_ ?_); rfl) | ((with_reducible refine al_go ?_); intro b) | ((with_reducible apply (ck_le Try.call12)); exact LEL.refl _; exact hG.out _) | ((with_reducible apply a2_go); (focus (first | assumption | (intro h; cases h))); (focus (intro o'; repeat (first | exact ra_h | apply ra_t))); (iterate 2 (focus (first | assumption | exact len_nil | exact len_one rfl | (intro a ha; obtain ⟨x, -, rfl⟩ := List.mem_map.1 ha; first | rfl | simp) | (intro a ha; simp at ha; simp [ha])))); (iterate 2 (focus (first | omega | (simp only [List.length_map, List.length_cons, List.length_nil, List.length_append]; omega)))); intro o' ho') | ((with_reducible first | refine w_region ?_ ?_ | refine w_dra ?_ ?_); kernel_rfl) | ((with_reducible refine Go3.go ?_ ?_); all_goals (intro hb; (try with_reducible intro hb1); (try (exfalso; first | contradiction | omega)))) | fail)
      refine ⟨i + 1, ⟨hlt, HE, ?_, ?_, ?_, rfl⟩, ?_⟩
      all_goals (first | rfl | assumption | omega | (simp (disch := omega) only [push_cast, simprocAttr, *]; try omega; done))
  · have HE := HT.out
    rw [List.drop_of_length_le (by omega), List.any_nil] at HE
    subst HE
    clear HT
    repeat' (first | with_reducible refine Go1.go ?_ | ((with_reducible apply ev_go); (focus ((try simp (disch := omega) only [push_cast, simprocAttr, *]); (try exact rfl); done))) | ((with_reducible refine w_last ?_ ?_ ?_); kernel_rfl; rfl) | with_reducible refine Go2.go ?_ | ((with_reducible first | apply w_stepG | refine s_bi ?_ ?_ | refine blk_ne ?_ ?_); rfl) | ((with_reducible refine al_go ?_); intro b) | ((with_reducible apply a2_go); (focus (first | assumption | (intro h; cases h))); (focus (intro o'; repeat (first | exact ra_h | apply ra_t))); (iterate 2 (focus (first | assumption | exact len_nil | exact len_one rfl | (intro a ha; obtain ⟨x, -, rfl⟩ := List.mem_map.1 ha; first | rfl | simp) | (intro a ha; simp at ha; simp [ha])))); (iterate 2 (focus (first | omega | (simp only [List.length_map, List.length_cons, List.length_nil, List.length_append]; omega)))); intro o' ho') | ((with_reducible first | refine w_region ?_ ?_ | refine w_dra ?_ ?_); kernel_rfl) | ((with_reducible refine Go3.go ?_ ?_); all_goals (intro hb; (try with_reducible intro hb1); (try (exfalso; first | contradiction | omega)))) | fail)
    all_goals (refine ret_eq (by simp) (by first | rfl | assumption) (by (repeat (first | exact List.Sublist.refl _ | apply List.Sublist.cons))) ?_; (try simp (disch := omega) only [push_cast, simprocAttr, *]); try (first | exact LE.refl _ | exact LE.sl _ _ | ((first | refine LE.tup ?_ | refine LE.agg ?_); (repeat' (first | exact LEL.nil | refine LEL.cons ?_ ?_ | exact LE.refl _ | exact LE.sl _ _ | refine LE.agg ?_)); done) | refine LE.of_eq ?_))
theorem refAllF (o o' : Own) (a b : List V) (ha : ∀ v ∈ a, v.Ok) (hl : a.length ≤ 9223372036854775806) (st : St) : TrF Try.prog 35 [.sl o (a.map V.cells), .sl o' (b.map V.cells)] st fun d st' => d = .b (V.cmpL a b == 0) ∧ st' = st := by
  have hma : (a.map V.cells).length = a.length := List.length_map ..
  have hmb : (b.map V.cells).length = b.length := List.length_map ..
  have hca : Hid (∀ (i : Nat) (v : V), a[i]? = some v → (a.map V.cells)[i]? = some v.cells) := fun i v h => by rw [List.getElem?_map, h]; rfl
  have hcb : Hid (∀ (i : Nat) (v : V), b[i]? = some v → (b.map V.cells)[i]? = some v.cells) := fun i v h => by rw [List.getElem?_map, h]; rfl
  have ha2 := Lib.hid ha
  have hne : Hid (a ≠ b → (V.cmpL a b == 0) = false) := fun h => by rw [beq_eq_false_iff_ne]; exact fun h2 => h (V.cmpL_eq a b h2)
  have heq : Hid (a = b → (V.cmpL a b == 0) = true) := fun h => by rw [h, V.cmpL_self]; rfl
  clear ha
  generalize (V.cmpL a b == 0) = B at *
  generalize a.map V.cells = AC at *
  generalize b.map V.cells = BC at *
  by_cases hlen : a.length = b.length
  · have hlen2 : b.length = a.length := hlen.symm
    replace hlen := Lib.hid hlen
    refine trF_enter (ts := [4]) Try.func35 rfl (by rw [Try.ntmps35]; exact Nat.le_of_ble_eq_true rfl) (fun tmps w => by simp [results, Try.results35, go_sem, resVal]) ?_
    simp only [Try.ntmps35]
    repeat' (first | with_reducible refine Go1.go ?_ | ((with_reducible apply ev_go); (focus ((try simp (disch := omega) only [push_cast, simprocAttr, *]); (try exact rfl); done))) | ((with_reducible refine w_last ?_ ?_ ?_); kernel_rfl; rfl) | with_reducible refine Go2.go ?_ | ((with_reducible first | apply w_stepG | refine s_bi ?_ ?_ | refine blk_ne ?_ ?_); rfl) | ((with_reducible refine al_go ?_); intro b) | ((with_reducible apply a2_go); (focus (first | assumption | (intro h; cases h))); (focus (intro o'; repeat (first | exact ra_h | apply ra_t))); (iterate 2 (focus (first | assumption | exact len_nil | exact len_one rfl | (intro a ha; obtain ⟨x, -, rfl⟩ := List.mem_map.1 ha; first | rfl | simp) | (intro a ha; simp at ha; simp [ha])))); (iterate 2 (focus (first | omega | (simp only [List.length_map, List.length_cons, List.length_nil, List.length_append]; omega)))); intro o' ho') | ((with_reducible first | refine w_region ?_ ?_ | refine w_dra ?_ ?_); kernel_rfl) | ((with_reducible refine Go3.go ?_ ?_); all_goals (intro hb; (try with_reducible intro hb1); (try (exfalso; first | contradiction | omega)))) | fail)
    refine tr_loop (ι := Nat) (fun i A st' => i ≤ a.length ∧ Hid (a.take i = b.take i) ∧ A.df = [] ∧ A.e 0 = .sl o AC ∧ A.e 1 = .sl o' BC ∧ A.e 5 = .i i ∧ st = st') (fun i => a.length - i) 0 ⟨Nat.zero_le _, rfl, ?_, ?_, ?_, ?_, rfl⟩ ?_
    iterate 4 (focus (first | rfl | assumption | omega | (simp (disch := omega) only [push_cast, simprocAttr, *]; try omega; done)))
    rintro i A st' ⟨hi, HT, hdf, e0, e1, e5, rfl⟩
    by_cases hlt : i < a.length
    · obtain ⟨x, hx⟩ : ∃ v, a[i]? = some v := ⟨_, List.getElem?_eq_getElem hlt⟩
      obtain ⟨y, hy⟩ : ∃ v, b[i]? = some v := ⟨_, List.getElem?_eq_getElem (by omega)⟩
      have hcx := hca.out i x hx
      have hcy := hcb.out i y hy
      have hS := refSameF x y (ha2.out x (List.mem_of_getElem? hx))
      have hyes : Hid (x = y → a.take (i + 1) = b.take (i + 1)) := fun e => by
        rw [List.take_add_one, List.take_add_one, HT.out, hx, hy, e]
      have hno : Hid (x ≠ y → a ≠ b) := fun e h => e (by
        rw [h, hy] at hx
        exact (Option.some.inj hx).symm)
      cases hq : (x.cmp y == 0) with
      | true =>
        have hxy := hyes.out (V.cmp_eq x y (by simpa using hq))
        rw [hq] at hS
        clear hyes hno hx hy hq HT
        cases x with
        | mk k n sv lv =>
        cases y with
        | mk k' n' sv' lv' =>
        rw [V.cells_mk] at hcx hcy
        rw [V.cells_mk, V.cells_mk] at hS
        replace hS := Lib.hid hS
        replace hxy := Lib.hid hxy
        repeat' (first | with_reducible refine Go1.go ?_ | ((with_reducible apply ev_go); (focus ((try simp (disch := omega) only [push_cast, simprocAttr, *]); (try exact rfl); done))) | ((with_reducible refine w_drawRN ?_ ?_ ?_ ?_); (iterate 3 (focus kernel_rfl)); intro hne; simp only [nes, ne1, and_assoc] at hne; repeat (have hq := hne.1; replace hne := hne.2)) | ((with_reducible refine w_last ?_ ?_ ?_); kernel_rfl; rfl) | with_reducible refine Go2.go ?_ | ((with_reducible first | apply w_stepG | refine s_bi ?_ ?_ | refine blk_ne ?_ ?_); rfl) | ((with_reducible refine al_go ?_); intro b) | ((with_reducible apply (ck_le Try.call28)); exact LEL.refl _; exact hS.out _) | ((with_reducible apply a2_go); (focus (first | assumption | (intro h; cases h))); (focus (intro o'; repeat (first | exact ra_h | apply ra_t))); (iterate 2 (focus (first | assumption | exact len_nil | exact len_one rfl | (intro a ha; obtain ⟨x, -, rfl⟩ := List.mem_map.1 ha; first | rfl | simp) | (intro a ha; simp at ha; simp [ha])))); (iterate 2 (focus (first | omega | (simp only [List.length_map, List.length_cons, List.length_nil, List.length_append]; omega)))); intro o' ho') | ((with_reducible first | refine w_region ?_ ?_ | refine w_dra ?_ ?_); kernel_rfl) | ((with_reducible refine Go3.go ?_ ?_); all_goals (intro hb; (try with_reducible intro hb1); (try (exfalso; first | contradiction | omega)))) | fail)
        refine ⟨i + 1, ⟨hlt, hxy, ?_, ?_, ?_, ?_, rfl⟩, ?_⟩
        all_goals (first | rfl | assumption | omega | (simp (disch := omega) only [push_cast, simprocAttr, *]; try omega; done))
      | false =>
        have hB := hne.out (hno.out fun e => by rw [e, V.cmp_self] at hq; exact absurd hq (by decide))
        rw [hq] at hS
        clear hyes hno hx hy hq HT
        subst hB
        cases x with
        | mk k n sv lv =>
        cases y with
        | mk k' n' sv' lv' =>
        rw [V.cells_mk] at hcx hcy
        rw [V.cells_mk, V.cells_mk] at hS
        replace hS := Lib.hid hS
        repeat' (first | with_reducible refine Go1.go ?_ | ((with_reducible apply ev_go); (focus ((try simp (disch := omega) only [push_cast, simprocAttr, *]); (try exact rfl); done))) | ((with_reducible refine w_drawRN ?_ ?_ ?_ ?_); (iterate 3 (focus kernel_rfl)); intro hne; simp only [nes, ne1, and_assoc] at hne; repeat (have hq := hne.1; replace hne := hne.2)) | ((with_reducible refine w_last ?_ ?_ ?_); kernel_rfl; rfl) | with_reducible refine Go2.go ?_ | ((with_reducible first | apply w_stepG | refine s_bi ?_ ?_ | refine blk_ne ?_ ?_); rfl) | ((with_reducible refine al_go ?_); intro b) | ((with_reducible apply (ck_le Try.call28)); exact LEL.refl _; exact hS.out _) | ((with_reducible apply a2_go); (focus (first | assumption | (intro h; cases h))); (focus (intro o'; repeat (first | exact ra_h | apply ra_t))); (iterate 2 (focus (first | assumption | exact len_nil | exact len_one rfl | (intro a ha; obtain ⟨x, -, rfl⟩ := List.mem_map.1 ha; first | rfl | simp) | (intro a ha; simp at ha; simp [ha])))); (iterate 2 (focus (first | omega | (simp only [List.length_map, List.length_cons, List.length_nil, List.length_append]; omega)))); intro o' ho') | ((with_reducible first | refine w_region ?_ ?_ | refine w_dra ?_ ?_); kernel_rfl) | ((with_reducible refine Go3.go ?_ ?_); all_goals (intro hb; (try with_reducible intro hb1); (try (exfalso; first | contradiction | omega)))) | fail)
        all_goals (refine ret_eq (by simp) (by first | rfl | assumption) (by (repeat (first | exact List.Sublist.refl _ | apply List.Sublist.cons))) ?_; (try simp (disch := omega) only [push_cast, simprocAttr, *]); try (first | exact LE.refl _ | exact LE.sl _ _ | ((first | refine LE.tup ?_ | refine LE.agg ?_); (repeat' (first | exact LEL.nil | refine LEL.cons ?_ ?_ | exact LE.refl _ | exact LE.sl _ _ | refine LE.agg ?_)); done) | refine LE.of_eq ?_))
    · have h1 := HT.out
      rw [List.take_of_length_le (by omega), List.take_of_length_le (by omega)] at h1
      have hB := heq.out h1
      subst hB
      clear heq hne HT hca hcb h1
      repeat' (first | with_reducible refine Go1.go ?_ | ((with_reducible apply ev_go); (focus ((try simp (disch := omega) only [push_cast, simprocAttr, *]); (try exact rfl); done))) | ((with_reducible refine w_last ?_ ?_ ?_); kernel_rfl; rfl) | with_reducible refine Go2.go ?_ | ((with_reducible first | apply w_stepG | refine s_bi ?_ ?_ | refine blk_ne ?_ ?_); rfl) | ((with_reducible refine al_go ?_); intro b) | ((with_reducible apply a2_go); (focus (first | assumption | (intro h; cases h))); (focus (intro o'; repeat (first | exact ra_h | apply ra_t))); (iterate 2 (focus (first | assumption | exact len_nil | exact len_one rfl | (intro a ha; obtain ⟨x, -, rfl⟩ := List.mem_map.1 ha; first | rfl | simp) | (intro a ha; simp at ha; simp [ha])))); (iterate 2 (focus (first | omega | (simp only [List.length_map, List.length_cons, List.length_nil, List.length_append]; omega)))); intro o' ho') | ((with_reducible first | refine w_region ?_ ?_ | refine w_dra ?_ ?_); kernel_rfl) | ((with_reducible refine Go3.go ?_ ?_); all_goals (intro hb; (try with_reducible intro hb1); (try (exfalso; first | contradiction | omega)))) | fail)
      all_goals (refine ret_eq (by simp) (by first | rfl | assumption) (by (repeat (first | exact List.Sublist.refl _ | apply List.Sublist.cons))) ?_; (try simp (disch := omega) only [push_cast, simprocAttr, *]); try (first | exact LE.refl _ | exact LE.sl _ _ | ((first | refine LE.tup ?_ | refine LE.agg ?_); (repeat' (first | exact LEL.nil | refine LEL.cons ?_ ?_ | exact LE.refl _ | exact LE.sl _ _ | refine LE.agg ?_)); done) | refine LE.of_eq ?_))
  · have hB := hne.out fun e => hlen (by rw [e])
    subst hB
    have hl2 : ¬ (a.length : Int) = (b.length : Int) := by omega
    clear hne heq hlen
    refine trF_enter (ts := [4]) Try.func35 rfl (by rw [Try.ntmps35]; exact Nat.le_of_ble_eq_true rfl) (fun tmps w => by simp [results, Try.results35, go_sem, resVal]) ?_
    simp only [Try.ntmps35]
    repeat' (first | with_reducible refine Go1.go ?_ | ((with_reducible apply ev_go); (focus ((try simp (disch := omega) only [push_cast, simprocAttr, *]); (try exact rfl); done))) | ((with_reducible refine w_last ?_ ?_ ?_); kernel_rfl; rfl) | with_reducible refine Go2.go ?_ | ((with_reducible first | apply w_stepG | refine s_bi ?_ ?_ | refine blk_ne ?_ ?_); rfl) | ((with_reducible refine al_go ?_); intro b) | ((with_reducible apply a2_go); (focus (first | assumption | (intro h; cases h))); (focus (intro o'; repeat (first | exact ra_h | apply ra_t))); (iterate 2 (focus (first | assumption | exact len_nil | exact len_one rfl | (intro a ha; obtain ⟨x, -, rfl⟩ := List.mem_map.1 ha; first | rfl | simp) | (intro a ha; simp at ha; simp [ha])))); (iterate 2 (focus (first | omega | (simp only [List.length_map, List.length_cons, List.length_nil, List.length_append]; omega)))); intro o' ho') | ((with_reducible first | refine w_region ?_ ?_ | refine w_dra ?_ ?_); kernel_rfl) | ((with_reducible refine Go3.go ?_ ?_); all_goals (intro hb; (try with_reducible intro hb1); (try (exfalso; first | contradiction | omega)))) | fail)
    all_goals (refine ret_eq (by simp) (by first | rfl | assumption) (by (repeat (first | exact List.Sublist.refl _ | apply List.Sublist.cons))) ?_; (try simp (disch := omega) only [push_cast, simprocAttr, *]); try (first | exact LE.refl _ | exact LE.sl _ _ | ((first | refine LE.tup ?_ | refine LE.agg ?_); (repeat' (first | exact LEL.nil | refine LEL.cons ?_ ?_ | exact LE.refl _ | exact LE.sl _ _ | refine LE.agg ?_)); done) | refine LE.of_eq ?_))
end Go.Proofs.Ytooaagmhgakhgaa
end

section
namespace Go.Proofs.Ytooaagmhgakhgaa
set_option linter.unusedSimpArgs false
attribute [local push_cast] encB encI encC V.cells_mk V.cells_len Nat.mul_one Int.sub_zero List.map_nil beq_self_eq_true List.head?_cons
open Go.RowKit
set_option maxRecDepth 10000
set_option maxHeartbeats 4000000
namespace Sch
def fitsL : List Sl → List V → Bool
  | [], [] => true
  | s :: a, v :: b => fits s v && fitsL a b
  | _, _ => false
theorem fitsL_len : ∀ (a : List Sl) (b : List V), fitsL a b = true → a.length = b.length
  | [], [], _ => rfl
  | s :: a, v :: b, h => by
    rw [fitsL, Bool.and_eq_true] at h
    rw [List.length_cons, List.length_cons, fitsL_len a b h.2]
  | [], _ :: _, h => by cases h
  | _ :: _, [], h => by cases h
theorem fitsL_drop {a : List Sl} {b : List V} {i : Nat} {s : Sl} {v : V} (h1 : a[i]? = some s) (h2 : b[i]? = some v) : fitsL (a.drop i) (b.drop i) = (fits s v && fitsL (a.drop (i + 1)) (b.drop (i + 1))) := by
  rw [V.drop_cons h1, V.drop_cons h2, fitsL]
def valid (t : Tm) (r : Rc) : Bool := verB t r.v && fitsL (verX t r.v).slots r.s
end Sch
theorem vers_types {t : Tm} : ∀ x ∈ Sch.vers t, ∀ z ∈ x.slots, Sch.SOk z := by
  intro x hx
  unfold Sch.vers at hx
  split at hx
  · cases hx
  · rename_i y hy
    have key : ∀ (l : List Stp) (y : Vr) (n : Nat), Sch.VZ n y → ∀ x ∈ Sch.versL y l, ∀ z ∈ x.slots, Sch.SOk z := by
      intro l
      induction l with
      | nil => intro y n _ x hx; cases hx
      | cons s l ih =>
        intro y n hy x hx
        rw [Sch.versL] at hx
        cases hs : Sch.stepV y s with
        | none => rw [hs] at hx; cases hx
        | some w =>
          rw [hs] at hx
          have hw := Sch.step_vz hy hs
          rcases List.mem_cons.1 hx with rfl | hx
          · exact hw.sl
          · exact ih w _ hw x hx
    have hz := Sch.first_vz hy
    rcases List.mem_cons.1 hx with rfl | hx
    · exact hz.sl
    · exact key _ _ _ hz x hx
theorem ver_mem {t : Tm} {v : Int} {x : Vr} (h : Sch.ver t v = some x) : x ∈ Sch.vers t := by
  unfold Sch.ver at h
  split at h
  · exact List.mem_of_getElem? h
  · cases h
theorem verX_len (t : Tm) (v : Int) : (Sch.verX t v).slots.length ≤ 16 := by
  unfold Sch.verX
  cases hv : Sch.ver t v with
  | none => exact Nat.zero_le _
  | some x => exact (Sch.vers_vi (ver_mem hv)).ls
theorem recValidF (t : Tm) (ht : TOk t) (r : Rc) (hr : ∀ v ∈ r.s, v.nodes ≤ 1000) (hl : r.s.length ≤ 9223372036854775806) (st : St) : TrF Try.prog 54 [.agg t.cells, .agg r.cells] st fun d st' => d = .b (Sch.valid t r) ∧ st' = st := by
  have hA := schAtF t ht r.v
  have hxl := verX_len t r.v
  unfold Sch.valid
  generalize Sch.verX t r.v = x at *
  generalize Sch.verB t r.v = ok at *
  obtain ⟨B, hB⟩ : ∃ B, Sch.fitsL x.slots r.s = B := ⟨_, rfl⟩
  rw [hB]
  unfold Tm.cells Rc.cells at *
  unfold Vr.cells at hA
  generalize t.slots.map Sl.cells = SL at *
  generalize t.steps.map Stp.cells = TL at *
  generalize t.name = nm at *
  cases r with
  | mk rv rs =>
  dsimp only at hA hr hl hB ⊢
  have hm1 : (x.slots.map Sl.cells).length = x.slots.length := List.length_map ..
  have hm2 : (rs.map V.cells).length = rs.length := List.length_map ..
  have hc1 : Hid (∀ (i : Nat) (s : Sl), x.slots[i]? = some s → (x.slots.map Sl.cells)[i]? = some s.cells) := fun i s h => by rw [List.getElem?_map, h]; rfl
  have hc2 : Hid (∀ (i : Nat) (v : V), rs[i]? = some v → (rs.map V.cells)[i]? = some v.cells) := fun i v h => by rw [List.getElem?_map, h]; rfl
  have hr2 := Lib.hid hr
  clear hr
  generalize x.slots.map Sl.cells = XS at *
  generalize x.cols.map encC = XC at *
  generalize rs.map V.cells = RS at *
  generalize x.slots = sl at *
  replace hA := Lib.hid hA
  cases ok with
  | false =>
    clear hB
    refine trF_enter (ts := [4]) Try.func54 rfl (by rw [Try.ntmps54]; exact Nat.le_of_ble_eq_true rfl) (fun tmps w => by simp [results, Try.results54, go_sem, resVal]) ?_
    simp only [Try.ntmps54]
    repeat' (first | with_reducible refine Go1.go ?_ | ((with_reducible apply ev_go); (focus ((try simp (disch := omega) only [push_cast, simprocAttr, *]); (try exact rfl); done))) | ((with_reducible refine w_last ?_ ?_ ?_); kernel_rfl; rfl) | with_reducible refine Go2.go ?_ | ((with_reducible first | apply w_stepG | refine s_bi ?_ ?_ | refine blk_ne ?_ ?_); rfl) | ((with_reducible refine al_go ?_); intro b) | ((with_reducible apply (ck_le Try.call18)); exact LEL.refl _; exact hA.out _) | ((with_reducible first | refine w_region ?_ ?_ | refine w_dra ?_ ?_); kernel_rfl) | ((with_reducible refine Go3.go ?_ ?_); all_goals (intro hb; (try with_reducible intro hb1); (try (exfalso; first | contradiction | omega)))) | fail)
    all_goals (refine ret_eq (by simp) (by first | rfl | assumption) (by (repeat (first | exact List.Sublist.refl _ | apply List.Sublist.cons))) ?_; (try simp (disch := omega) only [push_cast, simprocAttr, *]); try (first | exact LE.refl _ | exact LE.sl _ _ | ((first | refine LE.tup ?_ | refine LE.agg ?_); (repeat' (first | exact LEL.nil | refine LEL.cons ?_ ?_ | exact LE.refl _ | exact LE.sl _ _ | refine LE.agg ?_)); done) | refine LE.of_eq ?_))
  | true =>
    by_cases hlen : rs.length = sl.length
    · have HB : Hid (Sch.fitsL (sl.drop 0) (rs.drop 0) = B) := hB
      clear hB
      refine trF_enter (ts := [4]) Try.func54 rfl (by rw [Try.ntmps54]; exact Nat.le_of_ble_eq_true rfl) (fun tmps w => by simp [results, Try.results54, go_sem, resVal]) ?_
      simp only [Try.ntmps54]
      repeat' (first | with_reducible refine Go1.go ?_ | ((with_reducible apply ev_go); (focus ((try simp (disch := omega) only [push_cast, simprocAttr, *]); (try exact rfl); done))) | ((with_reducible refine w_last ?_ ?_ ?_); kernel_rfl; rfl) | with_reducible refine Go2.go ?_ | ((with_reducible first | apply w_stepG | refine s_bi ?_ ?_ | refine blk_ne ?_ ?_); rfl) | ((with_reducible refine al_go ?_); intro b) | ((with_reducible apply (ck_le Try.call18)); exact LEL.refl _; exact hA.out _) | ((with_reducible first | refine w_region ?_ ?_ | refine w_dra ?_ ?_); kernel_rfl) | ((with_reducible refine Go3.go ?_ ?_); all_goals (intro hb; (try with_reducible intro hb1); (try (exfalso; first | contradiction | omega)))) | fail)
      refine tr_drop (st' := st) (List.sublist_cons_self _ _) ?_
      refine tr_loopd (ι := Nat) (fun i A st' => i ≤ sl.length ∧ Hid (Sch.fitsL (sl.drop i) (rs.drop i) = B) ∧ A.df = [] ∧ A.e 3 = .ip [.i rv, .sl .shared RS] ∧ A.e 28 = .sl .shared XS ∧ A.e 29 = .i sl.length ∧ A.e 30 = .i i ∧ st = st') (fun i => sl.length - i) 0 ⟨Nat.zero_le _, HB, ?_, ?_, ?_, ?_, ?_, rfl⟩ ?_
      iterate 5 (focus (first | rfl | assumption | omega | (simp (disch := omega) only [push_cast, simprocAttr, *]; try omega; done)))
      rintro i A st' ⟨hi, HT, hdf, e3, e28, e29, e30, rfl⟩
      clear HB
      by_cases hlt : i < sl.length
      · obtain ⟨s, hs⟩ : ∃ s, sl[i]? = some s := ⟨_, List.getElem?_eq_getElem hlt⟩
        obtain ⟨v, hv⟩ : ∃ v, rs[i]? = some v := ⟨_, List.getElem?_eq_getElem (by omega)⟩
        have HE := HT.out
        rw [Sch.fitsL_drop hs hv] at HE
        have h1 := hc1.out i s hs
        have h2 := hc2.out i v hv
        have hvn := hr2.out v (List.mem_of_getElem? hv)
        clear HT hs hv
        cases s with
        | mk snm ty rq dv =>
        have hF := schFitsF snm ty rq dv v (by omega)
        generalize Sch.fits _ v = q at *
        cases dv with
        | mk k n sv lv =>
        cases v with
        | mk k' n' sv' lv' =>
        rw [Sl.cells_mk] at h1 hF
        rw [V.cells_mk] at h2 hF
        replace hF := Lib.hid hF
        clear hvn
        cases q with
        | true =>
          rw [Bool.true_and] at HE
          replace HE := Lib.hid HE
          repeat' (first | with_reducible refine Go1.go ?_ | ((with_reducible apply ev_go); (focus ((try simp (disch := omega) only [push_cast, simprocAttr, *]); (try exact rfl); done))) | ((with_reducible refine w_drawRN ?_ ?_ ?_ ?_); (iterate 3 (focus kernel_rfl)); intro hne; simp only [nes, ne1, and_assoc] at hne; repeat (have hq := hne.1; replace hne := hne.2)) | ((with_reducible refine w_last ?_ ?_ ?_); kernel_rfl; rfl) | with_reducible refine Go2.go ?_ | ((with_reducible first | apply w_stepG | refine s_bi ?_ ?_ | refine blk_ne ?_ ?_); rfl) | ((with_reducible refine al_go ?_); intro b) | ((with_reducible apply (ck_le Try.call13)); exact LEL.refl _; exact hF.out _) | ((with_reducible first | refine w_region ?_ ?_ | refine w_dra ?_ ?_); kernel_rfl) | ((with_reducible refine Go3.go ?_ ?_); all_goals (intro hb; (try with_reducible intro hb1); (try (exfalso; first | contradiction | omega)))) | fail)
          refine ⟨i + 1, st, (by (repeat (first | exact List.Sublist.refl _ | apply List.Sublist.cons))), ⟨hlt, HE, ?_, ?_, ?_, ?_, ?_, rfl⟩, by omega⟩
          all_goals (first | rfl | assumption | omega | (simp (disch := omega) only [push_cast, simprocAttr, *]; try omega; done))
        | false =>
          rw [Bool.false_and] at HE
          subst HE
          repeat' (first | with_reducible refine Go1.go ?_ | ((with_reducible apply ev_go); (focus ((try simp (disch := omega) only [push_cast, simprocAttr, *]); (try exact rfl); done))) | ((with_reducible refine w_drawRN ?_ ?_ ?_ ?_); (iterate 3 (focus kernel_rfl)); intro hne; simp only [nes, ne1, and_assoc] at hne; repeat (have hq := hne.1; replace hne := hne.2)) | ((with_reducible refine w_last ?_ ?_ ?_); kernel_rfl; rfl) | with_reducible refine Go2.go ?_ | ((with_reducible first | apply w_stepG | refine s_bi ?_ ?_ | refine blk_ne ?_ ?_); rfl) | ((with_reducible refine al_go ?_); intro b) | ((with_reducible apply (ck_le Try.call13)); exact LEL.refl _; exact hF.out _) | ((with_reducible first | refine w_region ?_ ?_ | refine w_dra ?_ ?_); kernel_rfl) | ((with_reducible refine Go3.go ?_ ?_); all_goals (intro hb; (try with_reducible intro hb1); (try (exfalso; first | contradiction | omega)))) | fail)
          all_goals (refine ret_eq (by simp) (by first | rfl | assumption) (by (repeat (first | exact List.Sublist.refl _ | apply List.Sublist.cons))) ?_; (try simp (disch := omega) only [push_cast, simprocAttr, *]); try (first | exact LE.refl _ | exact LE.sl _ _ | ((first | refine LE.tup ?_ | refine LE.agg ?_); (repeat' (first | exact LEL.nil | refine LEL.cons ?_ ?_ | exact LE.refl _ | exact LE.sl _ _ | refine LE.agg ?_)); done) | refine LE.of_eq ?_))
      · have HE := HT.out
        rw [List.drop_of_length_le (by omega), List.drop_of_length_le (by omega), Sch.fitsL] at HE
        subst HE
        clear HT
        repeat' (first | with_reducible refine Go1.go ?_ | ((with_reducible apply ev_go); (focus ((try simp (disch := omega) only [push_cast, simprocAttr, *]); (try exact rfl); done))) | ((with_reducible refine w_last ?_ ?_ ?_); kernel_rfl; rfl) | with_reducible refine Go2.go ?_ | ((with_reducible first | apply w_stepG | refine s_bi ?_ ?_ | refine blk_ne ?_ ?_); rfl) | ((with_reducible refine al_go ?_); intro b) | ((with_reducible first | refine w_region ?_ ?_ | refine w_dra ?_ ?_); kernel_rfl) | ((with_reducible refine Go3.go ?_ ?_); all_goals (intro hb; (try with_reducible intro hb1); (try (exfalso; first | contradiction | omega)))) | fail)
        all_goals (refine ret_eq (by simp) (by first | rfl | assumption) (by (repeat (first | exact List.Sublist.refl _ | apply List.Sublist.cons))) ?_; (try simp (disch := omega) only [push_cast, simprocAttr, *]); try (first | exact LE.refl _ | exact LE.sl _ _ | ((first | refine LE.tup ?_ | refine LE.agg ?_); (repeat' (first | exact LEL.nil | refine LEL.cons ?_ ?_ | exact LE.refl _ | exact LE.sl _ _ | refine LE.agg ?_)); done) | refine LE.of_eq ?_))
    · have hBf : B = false := by
        cases B with
        | false => rfl
        | true => exact absurd (Sch.fitsL_len _ _ hB).symm hlen
      subst hBf
      clear hB
      have hl2 : ¬ (rs.length : Int) = (sl.length : Int) := by omega
      clear hlen
      refine trF_enter (ts := [4]) Try.func54 rfl (by rw [Try.ntmps54]; exact Nat.le_of_ble_eq_true rfl) (fun tmps w => by simp [results, Try.results54, go_sem, resVal]) ?_
      simp only [Try.ntmps54]
      repeat' (first | with_reducible refine Go1.go ?_ | ((with_reducible apply ev_go); (focus ((try simp (disch := omega) only [push_cast, simprocAttr, *]); (try exact rfl); done))) | ((with_reducible refine w_last ?_ ?_ ?_); kernel_rfl; rfl) | with_reducible refine Go2.go ?_ | ((with_reducible first | apply w_stepG | refine s_bi ?_ ?_ | refine blk_ne ?_ ?_); rfl) | ((with_reducible refine al_go ?_); intro b) | ((with_reducible apply (ck_le Try.call18)); exact LEL.refl _; exact hA.out _) | ((with_reducible first | refine w_region ?_ ?_ | refine w_dra ?_ ?_); kernel_rfl) | ((with_reducible refine Go3.go ?_ ?_); all_goals (intro hb; (try with_reducible intro hb1); (try (exfalso; first | contradiction | omega)))) | fail)
      all_goals (refine ret_eq (by simp) (by first | rfl | assumption) (by (repeat (first | exact List.Sublist.refl _ | apply List.Sublist.cons))) ?_; (try simp (disch := omega) only [push_cast, simprocAttr, *]); try (first | exact LE.refl _ | exact LE.sl _ _ | ((first | refine LE.tup ?_ | refine LE.agg ?_); (repeat' (first | exact LEL.nil | refine LEL.cons ?_ ?_ | exact LE.refl _ | exact LE.sl _ _ | refine LE.agg ?_)); done) | refine LE.of_eq ?_))
def Rc.same (a b : Rc) : Bool := (a.v == b.v) && (V.cmpL a.s b.s == 0)
end Go.Proofs.Ytooaagmhgakhgaa
end

section
namespace Go.Proofs.Ytooaagmhgakhgaa
set_option linter.unusedSimpArgs false
attribute [local push_cast] encB encI V.cells_mk V.cells_take V.cells_len Nat.mul_one Int.sub_zero
open Go.RowKit
set_option maxRecDepth 10000
set_option maxHeartbeats 4000000
open V in
theorem valCopyF : ∀ (N : Nat) (v : V), v.nodes ≤ N → v.nodes ≤ 1000000000 → ∀ st, TrF Try.prog 59 [.agg v.cells] st fun x st' => x = .agg v.cells ∧ st' = st
  | 0, v, h, _ => by have := v.nodes_pos; omega
  | N + 1, .mk k n s l, hN, hB => by
    intro st
    have hll := nodesL_len l
    rw [nodes] at hN hB
    have IH := Lib.hid fun x (hx : x ∈ l) => valCopyF N x (by have := nodesL_mem hx; omega) (by have := nodesL_mem hx; omega)
    clear hN
    rw [V.cells_mk]
    refine trF_enterC (G := cellA 2 24 Try.prog) Try.func59 rfl (by rw [Try.ntmps59]; exact Nat.le_of_ble_eq_true rfl) (fun h1 h2 h3 => res_cell rfl h1 h2 h3) ?_
    simp only [Try.ntmps59]
    refine tr_room 24 4 0 ?_
    repeat' (first | with_reducible refine Go1.go ?_ | ((with_reducible apply ev_go); (focus ((try simp (disch := omega) only [push_cast, simprocAttr, *]); (try exact rfl); done))) | with_reducible refine s_boxP ?_ | ((with_reducible refine w_last ?_ ?_ ?_); kernel_rfl; rfl) | with_reducible refine Go2.go ?_ | ((with_reducible first | apply w_stepG | refine s_bi ?_ ?_ | refine blk_ne ?_ ?_); rfl) | ((with_reducible refine al_go ?_); intro b) | ((with_reducible apply a2_go); (focus (first | assumption | (intro h; cases h))); (focus (intro o'; repeat (first | exact ra_h | apply ra_t))); (iterate 2 (focus (first | assumption | exact len_nil | exact len_one rfl | (intro a ha; obtain ⟨x, -, rfl⟩ := List.mem_map.1 ha; first | rfl | simp) | (intro a ha; simp at ha; simp [ha])))); (iterate 2 (focus (first | omega | (simp only [List.length_map, List.length_cons, List.length_nil, List.length_append]; omega)))); intro o' ho') | ((with_reducible first | refine w_region ?_ ?_ | refine w_dra ?_ ?_); kernel_rfl) | ((with_reducible refine Go3.go ?_ ?_); all_goals (intro hb; (try with_reducible intro hb1); (try (exfalso; first | contradiction | omega)))) | fail)
    rename_i b1
    revert b
    intro b2
    refine tr_loopd (ι := Nat) (fun i A st' => i ≤ l.length ∧ A.df = [] ∧ A.e 1 = .ptr b1 0 ∧ A.e 2 = .ptr b2 0 ∧ A.e 7 = .sl .shared (l.map V.cells) ∧ A.e 8 = .i l.length ∧ A.e 9 = .i i ∧ ∃ o', o' ≠ .shared ∧ A.e 3 = .sl o' ((l.take i).map V.cells) ∧ ∃ zs, zs.length = 4 ∧ st' = .box b2 24 zs :: .box b1 24 [.i k, .i n, .str s, .sl .shared (l.map V.cells)] :: .room o' 24 4 ((l.take i).map V.cells).length :: st) (fun i => l.length - i) 0 ⟨Nat.zero_le _, ?_, ?_, ?_, ?_, ?_, ?_, .tight, by simp, ?_, _, rfl, rfl⟩ ?_
    iterate 7 (focus (first | rfl | assumption | omega | (simp (disch := omega) only [push_cast, simprocAttr, *]; try omega; done)))
    rintro i A st' ⟨hi, hdf, e1, e2, e7, e8, e9, o', ho', e3, zs, hzs, rfl⟩
    by_cases hlt : i < l.length
    · obtain ⟨x, hx⟩ : ∃ x, l[i]? = some x := ⟨_, List.getElem?_eq_getElem hlt⟩
      have ih := IH.out x (mem_of hx)
      have htk : l.take (i + 1) = l.take i ++ [x] := by
        rw [List.take_succ, hx]; rfl
      have hTi : (l.take i).length = i := by rw [List.length_take]; omega
      replace htk := Lib.hid htk
      generalize l.take i = Ti at *
      clear IH
      have hT4 : ∀ a ∈ Ti.map V.cells, a.length = 4 := fun a ha => by
        obtain ⟨y, -, rfl⟩ := List.mem_map.1 ha
        exact V.cells_len y
      cases x with
      | mk k1 n1 s1 l1 =>
        rw [V.cells_mk] at ih
        replace ih := Lib.hid ih
        repeat' (first | with_reducible refine Go1.go ?_ | ((with_reducible apply ev_go); (focus ((try simp (disch := omega) only [push_cast, simprocAttr, *]); (try exact rfl); done))) | ((with_reducible apply (a2_go ho')); (focus (intro o'; repeat (first | exact ra_h | apply ra_t))); (focus exact hT4); (focus exact len_one rfl); (focus (simp only [List.length_map, List.length_cons, List.length_nil]; omega)); (focus (simp only [List.length_map, List.length_cons, List.length_nil]; omega)); intro o' ho') | ((with_reducible refine w_last ?_ ?_ ?_); kernel_rfl; rfl) | with_reducible refine Go2.go ?_ | ((with_reducible first | apply w_stepG | refine s_bi ?_ ?_ | refine blk_ne ?_ ?_); rfl) | ((with_reducible refine al_go ?_); intro b) | ((with_reducible apply (ck_le Try.call59)); exact LEL.refl _; exact ih.out _) | ((with_reducible apply a2_go); (focus (first | assumption | (intro h; cases h))); (focus (intro o'; repeat (first | exact ra_h | apply ra_t))); (iterate 2 (focus (first | assumption | exact len_nil | exact len_one rfl | (intro a ha; obtain ⟨x, -, rfl⟩ := List.mem_map.1 ha; first | rfl | simp) | (intro a ha; simp at ha; simp [ha])))); (iterate 2 (focus (first | omega | (simp only [List.length_map, List.length_cons, List.length_nil, List.length_append]; omega)))); intro o' ho') | ((with_reducible first | refine w_region ?_ ?_ | refine w_dra ?_ ?_); kernel_rfl) | ((with_reducible refine Go3.go ?_ ?_); all_goals (intro hb; (try with_reducible intro hb1); (try (exfalso; first | contradiction | omega)))) | fail)
        refine ⟨i + 1, .box b2 24 zs :: .box b1 24 [.i k, .i n, .str s, .sl .shared (l.map V.cells)] :: .room o' 24 4 ((l.take (i + 1)).map V.cells).length :: st, ?_, ⟨hlt, ?_, ?_, ?_, ?_, ?_, ?_, o', ho', ?_, zs, hzs, rfl⟩, ?_⟩
        · rw [htk.out]; simp only [List.map_append, List.map_cons, List.map_nil, V.cells_mk]; (repeat (first | exact List.Sublist.refl _ | apply List.Sublist.cons))
        · (first | rfl | assumption | omega | (simp (disch := omega) only [push_cast, simprocAttr, *]; try omega; done))
        · (first | rfl | assumption | omega | (simp (disch := omega) only [push_cast, simprocAttr, *]; try omega; done))
        · (first | rfl | assumption | omega | (simp (disch := omega) only [push_cast, simprocAttr, *]; try omega; done))
        · (first | rfl | assumption | omega | (simp (disch := omega) only [push_cast, simprocAttr, *]; try omega; done))
        · (first | rfl | assumption | omega | (simp (disch := omega) only [push_cast, simprocAttr, *]; try omega; done))
        · (first | rfl | assumption | omega | (simp (disch := omega) only [push_cast, simprocAttr, *]; try omega; done))
        · rw [htk.out]; simp only [List.map_append, List.map_cons, List.map_nil, V.cells_mk]; (first | rfl | assumption | omega | (simp (disch := omega) only [push_cast, simprocAttr, *]; try omega; done))
        · omega
    · rw [List.take_of_length_le (by omega)] at *
      clear IH
      repeat' (first | with_reducible refine Go1.go ?_ | ((with_reducible apply ev_go); (focus ((try simp (disch := omega) only [push_cast, simprocAttr, *]); (try exact rfl); done))) | ((with_reducible refine w_last ?_ ?_ ?_); kernel_rfl; rfl) | with_reducible refine Go2.go ?_ | ((with_reducible first | apply w_stepG | refine s_bi ?_ ?_ | refine blk_ne ?_ ?_); rfl) | ((with_reducible refine al_go ?_); intro b) | ((with_reducible apply a2_go); (focus (first | assumption | (intro h; cases h))); (focus (intro o'; repeat (first | exact ra_h | apply ra_t))); (iterate 2 (focus (first | assumption | exact len_nil | exact len_one rfl | (intro a ha; obtain ⟨x, -, rfl⟩ := List.mem_map.1 ha; first | rfl | simp) | (intro a ha; simp at ha; simp [ha])))); (iterate 2 (focus (first | omega | (simp only [List.length_map, List.length_cons, List.length_nil, List.length_append]; omega)))); intro o' ho') | ((with_reducible first | refine w_region ?_ ?_ | refine w_dra ?_ ?_); kernel_rfl) | ((with_reducible refine Go3.go ?_ ?_); all_goals (intro hb; (try with_reducible intro hb1); (try (exfalso; first | contradiction | omega)))) | fail)
      all_goals (refine retC_cell (by simp) (by first | rfl | assumption) (by simp (disch := omega) only [push_cast, simprocAttr, *]; exact rfl) (by repeat (first | exact mm_h | apply mm_t)) (by simp (disch := omega) only [push_cast, simprocAttr, *]; exact rfl) (by (try simp (disch := omega) only [push_cast, simprocAttr, *]); (try exact rfl); done) (by (repeat (first | exact List.Sublist.refl _ | apply List.Sublist.cons))) ?_ ⟨rfl, rfl⟩; (try simp (disch := omega) only [push_cast, simprocAttr, *]); try (first | exact LE.refl _ | exact LE.sl _ _ | ((first | refine LE.tup ?_ | refine LE.agg ?_); (repeat' (first | exact LEL.nil | refine LEL.cons ?_ ?_ | exact LE.refl _ | exact LE.sl _ _ | refine LE.agg ?_)); done) | refine LE.of_eq ?_))
end Go.Proofs.Ytooaagmhgakhgaa
end

section
namespace Go.Proofs.Ytooaagmhgakhgaa
set_option linter.unusedSimpArgs false
attribute [local push_cast] encB encI encC V.cells_mk V.cells_len Nat.mul_one Int.sub_zero List.map_nil beq_self_eq_true List.head?_cons
open Go.RowKit
set_option maxRecDepth 10000
set_option maxHeartbeats 4000000
namespace Sch
def castL : List Sl → List V → List V
  | [], _ => []
  | s :: a, [] => s.dv :: castL a []
  | s :: a, v :: b => (if fits s v then v else s.dv) :: castL a b
def one (s : Sl) : Option V → V
  | none => s.dv
  | some v => if fits s v then v else s.dv
def zeroR : Rc := ⟨0, []⟩
def castS (t : Tm) (r : Rc) (v : Int) : Rc × Int :=
  if valid t r = true then (if verB t v = true then (⟨v, castL (verX t v).slots r.s⟩, 0) else (zeroR, 7)) else (zeroR, 1)
end Sch
theorem take_snoc' {α : Type} {L : List α} {i : Nat} {x : α} (h : L[i]? = some x) : L.take (i + 1) = L.take i ++ [x] := by rw [List.take_add_one, h]; rfl
abbrev retC2 (v : Int) (o : Own) (L : List (List D)) (e : Int) : LE (.tup [.agg [.i v, .sl o L], .i e]) (.tup [.agg [.i v, .sl .shared L], .i e]) := LE.tup (l := [.agg [.i v, .sl o L], .i e]) ⟨LE.agg (l := [.i v, .sl o L]) ⟨LE.refl _, LE.sl _ _, trivial⟩, LE.refl _, trivial⟩
end Go.Proofs.Ytooaagmhgakhgaa
end

section
namespace Go.Proofs.Ytooaagmhgakhgaa
set_option linter.unusedSimpArgs false
attribute [local push_cast] encB encI encC V.cells_mk V.cells_len Nat.mul_one Int.sub_zero List.map_nil beq_self_eq_true List.head?_cons
open Go.RowKit
set_option maxRecDepth 10000
set_option maxHeartbeats 4000000
def twoT : Tm := ⟨⟨#[116]⟩, [⟨⟨#[97]⟩, 4, false, .mk 2 0 ⟨#[]⟩ []⟩, ⟨⟨#[98]⟩, 4, true, .mk 2 0 ⟨#[]⟩ []⟩], [⟨2, 0, ⟨⟨#[]⟩, 0, false, .mk 0 0 ⟨#[]⟩ []⟩, []⟩, ⟨1, 0, ⟨⟨#[99]⟩, 5, false, .mk 0 0 ⟨#[]⟩ []⟩, []⟩]⟩
theorem twoC : twoT.cells = [.str ⟨#[116]⟩, .sl .shared [[.str ⟨#[97]⟩, .i 4, .b false, .i 2, .i 0, .str ⟨#[]⟩, .sl .shared []], [.str ⟨#[98]⟩, .i 4, .b true, .i 2, .i 0, .str ⟨#[]⟩, .sl .shared []]],
    .sl .shared [[.i 2, .i 0, .str ⟨#[]⟩, .i 0, .b false, .i 0, .i 0, .str ⟨#[]⟩, .sl .shared [], .sl .shared []], [.i 1, .i 0, .str ⟨#[99]⟩, .i 5, .b false, .i 0, .i 0, .str ⟨#[]⟩, .sl .shared [], .sl .shared []]]] := by
  unfold twoT Tm.cells
  simp only [List.map_cons, List.map_nil, Stp.cells, Sl.cells_mk, List.cons_append, List.nil_append]
theorem refInt10F (n : Int) (st : St) : TrF Try.prog 39 [.i n] st fun x st' => x = .agg (V.mk 2 n ⟨#[]⟩ []).cells ∧ st' = st := by
  refine trF_enterC (G := cellA 2 24 Try.prog) Try.func39 rfl (by rw [Try.ntmps39]; exact Nat.le_of_ble_eq_true rfl) (fun h1 h2 h3 => res_cell rfl h1 h2 h3) ?_
  simp only [Try.ntmps39]
  repeat' (first | with_reducible refine Go1.go ?_ | ((with_reducible apply ev_go); (focus ((try simp (disch := omega) only [push_cast, simprocAttr, *]); (try exact rfl); done))) | ((with_reducible refine w_last ?_ ?_ ?_); kernel_rfl; rfl) | with_reducible refine Go2.go ?_ | ((with_reducible first | apply w_stepG | refine s_bi ?_ ?_ | refine blk_ne ?_ ?_); rfl) | ((with_reducible refine al_go ?_); intro b) | ((with_reducible first | refine w_region ?_ ?_ | refine w_dra ?_ ?_); kernel_rfl) | ((with_reducible refine Go3.go ?_ ?_); all_goals (intro hb; (try with_reducible intro hb1); (try (exfalso; first | contradiction | omega)))) | fail)
  all_goals (refine retC_cell (by simp) (by first | rfl | assumption) (by simp (disch := omega) only [push_cast, simprocAttr, *]; exact rfl) (by repeat (first | exact mm_h | apply mm_t)) (by simp (disch := omega) only [push_cast, simprocAttr, *]; exact rfl) (by (try simp (disch := omega) only [push_cast, simprocAttr, *]); (try exact rfl); done) (by (repeat (first | exact List.Sublist.refl _ | apply List.Sublist.cons))) ?_ ⟨rfl, rfl⟩; (try simp (disch := omega) only [push_cast, simprocAttr, *]); try (first | exact LE.refl _ | exact LE.sl _ _ | ((first | refine LE.tup ?_ | refine LE.agg ?_); (repeat' (first | exact LEL.nil | refine LEL.cons ?_ ?_ | exact LE.refl _ | exact LE.sl _ _ | refine LE.agg ?_)); done) | refine LE.of_eq ?_))
theorem twoOk : TOk twoT := by
  refine ⟨by decide, by decide, ?_, ?_⟩
  · intro s hs
    simp only [twoT, List.mem_cons, List.not_mem_nil, or_false] at hs
    rcases hs with rfl | rfl <;> decide
  · intro s hs
    have hb : ∀ k n : Int, (V.mk k n ⟨#[]⟩ []).Bg := fun _ _ => .mk (Nat.zero_le _) (Nat.zero_le _) fun x h => by cases h
    simp only [twoT, List.mem_cons, List.not_mem_nil, or_false] at hs
    rcases hs with rfl | rfl <;> exact ⟨by decide, hb _ _, by decide⟩
theorem two2 : Sch.verX twoT 2 = ⟨[⟨⟨#[97]⟩, 4, false, .mk 2 0 ⟨#[]⟩ []⟩, ⟨⟨#[98]⟩, 4, true, .mk 2 0 ⟨#[]⟩ []⟩], [1]⟩ ∧ Sch.verB twoT 2 = true := by
  constructor <;> kernel_rfl
abbrev sA : List D := [.str ⟨#[97]⟩, .i 4, .b false, .i 2, .i 0, .str ⟨#[]⟩, .sl .shared []]
abbrev sB : List D := [.str ⟨#[98]⟩, .i 4, .b true, .i 2, .i 0, .str ⟨#[]⟩, .sl .shared []]
abbrev sC : List D := [.str ⟨#[99]⟩, .i 5, .b false, .i 0, .i 0, .str ⟨#[]⟩, .sl .shared []]
theorem twoF (st : St) : TrF Try.prog 37 [] st fun d st' => d = .agg twoT.cells ∧ st' = st := by
  have hI := refInt10F 0
  rw [V.cells_mk] at hI
  rw [twoC]
  replace hI := Lib.hid hI
  refine trF_enterC (G := cellA 0 33 Try.prog) Try.func37 rfl (by rw [Try.ntmps37]; exact Nat.le_of_ble_eq_true rfl) (fun h1 h2 h3 => res_cell rfl h1 h2 h3) ?_
  simp only [Try.ntmps37]
  repeat' (first | with_reducible refine Go1.go ?_ | ((with_reducible apply ev_go); (focus ((try simp (disch := omega) only [push_cast, simprocAttr, *]); (try exact rfl); done))) | ((with_reducible refine w_last ?_ ?_ ?_); kernel_rfl; rfl) | with_reducible refine Go2.go ?_ | ((with_reducible first | apply w_stepG | refine s_bi ?_ ?_ | refine blk_ne ?_ ?_); rfl) | ((with_reducible refine al_go ?_); intro b) | ((with_reducible apply (ck_le Try.call39)); exact LEL.refl _; exact hI.out _) | ((with_reducible first | refine w_region ?_ ?_ | refine w_dra ?_ ?_); kernel_rfl) | ((with_reducible refine Go3.go ?_ ?_); all_goals (intro hb; (try with_reducible intro hb1); (try (exfalso; first | contradiction | omega)))) | fail)
  all_goals (refine retC_cell (by simp) (by first | rfl | assumption) (by simp (disch := omega) only [push_cast, simprocAttr, *]; exact rfl) (by repeat (first | exact mm_h | apply mm_t)) (by simp (disch := omega) only [push_cast, simprocAttr, *]; exact rfl) (by (try simp (disch := omega) only [push_cast, simprocAttr, *]); (try exact rfl); done) (by (repeat (first | exact List.Sublist.refl _ | apply List.Sublist.cons))) ?_ ⟨rfl, rfl⟩; (try simp (disch := omega) only [push_cast, simprocAttr, *]); try (first | exact LE.refl _ | exact LE.sl _ _ | ((first | refine LE.tup ?_ | refine LE.agg ?_); (repeat' (first | exact LEL.nil | refine LEL.cons ?_ ?_ | exact LE.refl _ | exact LE.sl _ _ | refine LE.agg ?_)); done) | refine LE.of_eq ?_))
end Go.Proofs.Ytooaagmhgakhgaa
end

section
namespace Go.Proofs.Ytooaagmhgakhgaa
set_option linter.unusedSimpArgs false
attribute [local push_cast] encB encI encC V.cells_mk V.cells_len Nat.mul_one Int.sub_zero List.map_nil beq_self_eq_true List.head?_cons
open Go.RowKit
set_option maxRecDepth 10000
set_option maxHeartbeats 8000000
namespace Sch
def verE (t : Tm) (v : Int) : Int := if 0 < last t then (if verB t v = true then 0 else 7) else 1
theorem verE_ok {t : Tm} {v : Int} (h : verE t v = 0) : verB t v = true := by
  unfold verE at h
  split at h
  · split at h
    · assumption
    · cases h
  · cases h
end Sch
theorem recVersionF (t : Tm) (ht : TOk t) (v : Int) (st : St) : TrF Try.prog 56 [.agg t.cells, .i v] st fun d st' => d = .tup [.agg (Sch.verX t v).cells, .i (Sch.verE t v)] ∧ st' = st := by
  have hR := schRightF t ht
  have hA := schAtF t ht v
  have h0 : ¬ 0 < Sch.last t → Hid (Sch.verX t v = ⟨[], []⟩) := fun h => Lib.hid (by
    unfold Sch.verX Sch.ver
    rw [if_neg (fun k => h k.1)]; rfl)
  unfold Sch.verE
  unfold Tm.cells at *
  generalize t.slots.map Sl.cells = SL at *
  generalize t.steps.map Stp.cells = TL at *
  generalize t.name = nm at *
  by_cases hl : 0 < Sch.last t
  · rw [if_pos hl]
    rw [decide_eq_true hl] at hR
    clear h0 hl
    generalize Sch.verX t v = x at *
    generalize Sch.verB t v = ok at *
    cases x with
    | mk xs xc =>
    unfold Vr.cells at *
    dsimp only at *
    generalize xs.map Sl.cells = XS at *
    generalize xc.map encC = XC at *
    replace hR := Lib.hid hR
    replace hA := Lib.hid hA
    refine trF_enterG (G := twoA Try.prog (.cell 4 38) (.tmp 5)) Try.func56 rfl (by rw [Try.ntmps56]; exact Nat.le_of_ble_eq_true rfl) (fun h1 h2 h3 => res_two rfl h1 h2 h3) ?_
    simp only [Try.ntmps56]
    cases ok with
    | true =>
      rw [if_pos rfl]
      repeat' (first | with_reducible refine Go1.go ?_ | ((with_reducible apply ev_go); (focus ((try simp (disch := omega) only [push_cast, simprocAttr, *]); (try exact rfl); done))) | ((with_reducible refine w_last ?_ ?_ ?_); kernel_rfl; rfl) | with_reducible refine Go2.go ?_ | ((with_reducible first | apply w_stepG | refine s_bi ?_ ?_ | refine blk_ne ?_ ?_); rfl) | ((with_reducible refine al_go ?_); intro b) | ((with_reducible apply (ck_le Try.call16)); exact LEL.refl _; exact hR.out _) | ((with_reducible apply (ck_le Try.call18)); exact LEL.refl _; exact hA.out _) | ((with_reducible first | refine w_region ?_ ?_ | refine w_dra ?_ ?_); kernel_rfl) | ((with_reducible refine Go3.go ?_ ?_); all_goals (intro hb; (try with_reducible intro hb1); (try (exfalso; first | contradiction | omega)))) | fail)
      all_goals (refine retG_mk (rs := []) (by first | exact .inl rfl | exact .inr rfl) (by first | rfl | assumption) (List.Perm.refl _) ⟨_, _, rfl, cell_mk (by simp (disch := omega) only [push_cast, simprocAttr, *]; exact rfl) (by repeat (first | exact mm_h | apply mm_t)) (by simp (disch := omega) only [push_cast, simprocAttr, *]; exact rfl) (by (try simp (disch := omega) only [push_cast, simprocAttr, *]); (try exact rfl); done), (by show _ = _; (try simp (disch := omega) only [push_cast, simprocAttr, *]); (try exact rfl); done)⟩ (by (repeat (first | exact List.Sublist.refl _ | with_reducible apply List.Sublist.cons_cons | apply List.Sublist.cons))) (LE.refl _) ⟨rfl, rfl⟩)
    | false =>
      rw [if_neg Bool.false_ne_true]
      repeat' (first | with_reducible refine Go1.go ?_ | ((with_reducible apply ev_go); (focus ((try simp (disch := omega) only [push_cast, simprocAttr, *]); (try exact rfl); done))) | ((with_reducible refine w_last ?_ ?_ ?_); kernel_rfl; rfl) | with_reducible refine Go2.go ?_ | ((with_reducible first | apply w_stepG | refine s_bi ?_ ?_ | refine blk_ne ?_ ?_); rfl) | ((with_reducible refine al_go ?_); intro b) | ((with_reducible apply (ck_le Try.call16)); exact LEL.refl _; exact hR.out _) | ((with_reducible apply (ck_le Try.call18)); exact LEL.refl _; exact hA.out _) | ((with_reducible first | refine w_region ?_ ?_ | refine w_dra ?_ ?_); kernel_rfl) | ((with_reducible refine Go3.go ?_ ?_); all_goals (intro hb; (try with_reducible intro hb1); (try (exfalso; first | contradiction | omega)))) | fail)
      all_goals (refine retG_mk (rs := []) (by first | exact .inl rfl | exact .inr rfl) (by first | rfl | assumption) (List.Perm.refl _) ⟨_, _, rfl, cell_mk (by simp (disch := omega) only [push_cast, simprocAttr, *]; exact rfl) (by repeat (first | exact mm_h | apply mm_t)) (by simp (disch := omega) only [push_cast, simprocAttr, *]; exact rfl) (by (try simp (disch := omega) only [push_cast, simprocAttr, *]); (try exact rfl); done), (by show _ = _; (try simp (disch := omega) only [push_cast, simprocAttr, *]); (try exact rfl); done)⟩ (by (repeat (first | exact List.Sublist.refl _ | with_reducible apply List.Sublist.cons_cons | apply List.Sublist.cons))) (LE.refl _) ⟨rfl, rfl⟩)
  · rw [if_neg hl]
    rw [decide_eq_false hl] at hR
    rw [(h0 hl).out]
    clear hA h0 hl
    unfold Vr.cells
    dsimp only [List.map_nil]
    replace hR := Lib.hid hR
    refine trF_enterG (G := twoA Try.prog (.cell 4 38) (.tmp 5)) Try.func56 rfl (by rw [Try.ntmps56]; exact Nat.le_of_ble_eq_true rfl) (fun h1 h2 h3 => res_two rfl h1 h2 h3) ?_
    simp only [Try.ntmps56]
    repeat' (first | with_reducible refine Go1.go ?_ | ((with_reducible apply ev_go); (focus ((try simp (disch := omega) only [push_cast, simprocAttr, *]); (try exact rfl); done))) | ((with_reducible refine w_last ?_ ?_ ?_); kernel_rfl; rfl) | with_reducible refine Go2.go ?_ | ((with_reducible first | apply w_stepG | refine s_bi ?_ ?_ | refine blk_ne ?_ ?_); rfl) | ((with_reducible refine al_go ?_); intro b) | ((with_reducible apply (ck_le Try.call16)); exact LEL.refl _; exact hR.out _) | ((with_reducible first | refine w_region ?_ ?_ | refine w_dra ?_ ?_); kernel_rfl) | ((with_reducible refine Go3.go ?_ ?_); all_goals (intro hb; (try with_reducible intro hb1); (try (exfalso; first | contradiction | omega)))) | fail)
    all_goals (refine retG_mk (rs := []) (by first | exact .inl rfl | exact .inr rfl) (by first | rfl | assumption) (List.Perm.refl _) ⟨_, _, rfl, cell_mk (by simp (disch := omega) only [push_cast, simprocAttr, *]; exact rfl) (by repeat (first | exact mm_h | apply mm_t)) (by simp (disch := omega) only [push_cast, simprocAttr, *]; exact rfl) (by (try simp (disch := omega) only [push_cast, simprocAttr, *]); (try exact rfl); done), (by show _ = _; (try simp (disch := omega) only [push_cast, simprocAttr, *]); (try exact rfl); done)⟩ (by (repeat (first | exact List.Sublist.refl _ | with_reducible apply List.Sublist.cons_cons | apply List.Sublist.cons))) (LE.tup (l' := [.agg [.sl .shared [], .sl .shared []], .i 1]) ⟨LE.agg (l := [.sl .tight [], .sl .tight []]) ⟨LE.sl _ _, LE.sl _ _, trivial⟩, LE.refl _, trivial⟩) ⟨rfl, rfl⟩)
theorem recMake1F (s : Sl) (hn : s.dv.nodes ≤ 1000000) (st : St) : TrF Try.prog 58 [.agg s.cells] st fun d st' => d = .agg s.dv.cells ∧ st' = st := by
  have hC := valCopyF s.dv.nodes s.dv (Nat.le_refl _) (by omega)
  cases s with
  | mk snm ty rq dv =>
  dsimp only at *
  clear hn
  cases dv with
  | mk k n sv lv =>
  rw [Sl.cells_mk]
  rw [V.cells_mk] at *
  replace hC := Lib.hid hC
  refine trF_enterC (G := cellA 2 24 Try.prog) Try.func58 rfl (by rw [Try.ntmps58]; exact Nat.le_of_ble_eq_true rfl) (fun h1 h2 h3 => res_cell rfl h1 h2 h3) ?_
  simp only [Try.ntmps58]
  repeat' (first | with_reducible refine Go1.go ?_ | ((with_reducible apply ev_go); (focus ((try simp (disch := omega) only [push_cast, simprocAttr, *]); (try exact rfl); done))) | with_reducible refine s_boxP ?_ | ((with_reducible refine w_last ?_ ?_ ?_); kernel_rfl; rfl) | with_reducible refine Go2.go ?_ | ((with_reducible first | apply w_stepG | refine s_bi ?_ ?_ | refine blk_ne ?_ ?_); rfl) | ((with_reducible refine al_go ?_); intro b) | ((with_reducible apply (ck_le Try.call59)); exact LEL.refl _; exact hC.out _) | ((with_reducible first | refine w_region ?_ ?_ | refine w_dra ?_ ?_); kernel_rfl) | ((with_reducible refine Go3.go ?_ ?_); all_goals (intro hb; (try with_reducible intro hb1); (try (exfalso; first | contradiction | omega)))) | fail)
  all_goals (refine retC_cell (by simp) (by first | rfl | assumption) (by simp (disch := omega) only [push_cast, simprocAttr, *]; exact rfl) (by repeat (first | exact mm_h | apply mm_t)) (by simp (disch := omega) only [push_cast, simprocAttr, *]; exact rfl) (by (try simp (disch := omega) only [push_cast, simprocAttr, *]); (try exact rfl); done) (by (repeat (first | exact List.Sublist.refl _ | apply List.Sublist.cons))) ?_ ⟨rfl, rfl⟩; (try simp (disch := omega) only [push_cast, simprocAttr, *]); try (first | exact LE.refl _ | exact LE.sl _ _ | ((first | refine LE.tup ?_ | refine LE.agg ?_); (repeat' (first | exact LEL.nil | refine LEL.cons ?_ ?_ | exact LE.refl _ | exact LE.sl _ _ | refine LE.agg ?_)); done) | refine LE.of_eq ?_))
end Go.Proofs.Ytooaagmhgakhgaa
end

section
namespace Go.Proofs.Ytooaagmhgakhgaa
set_option linter.unusedSimpArgs false
open Go.RowKit
section
variable {P : Program} {r : Option Nat} {A : AA} {st : St} {m : Option Ro} {k : D → St → Prop} {dst : Option Tmp} {ty : TypeId} {pos : String} {aft : Array Edge} {gd : Option (Nat × Bool)}
def Mk0 (m : Option Ro) (q : TypeId × Nat × Nat) (p : D × D) (st : St) (k : D → St → Prop) : Prop :=
  ∃ (kl kc : IntKind) (n : Nat), p = (.s (.int kl 0), .s (.int kc n)) ∧ n * q.2.2 ≤ 140737488355328 ∧ n ≤ 140737488355328 ∧ ∀ g zs, zs.length = n * q.2.1 → Keep m (.box g q.1 zs :: st) ∧ k (.ar g 0 0 n) (.box g q.1 zs :: st)
theorem mk0_go {el : TypeId} {sz bytes n : Nat} {kl kc : IntKind} (h1 : n * bytes ≤ 140737488355328) (h2 : n ≤ 140737488355328) (h : ∀ g zs, zs.length = n * sz → Keep m (.box g el zs :: st) ∧ k (.ar g 0 0 n) (.box g el zs :: st)) : Mk0 m (el, sz, bytes) (.s (.int kl 0), .s (.int kc n)) st k := ⟨kl, kc, n, rfl, h1, h2, h⟩
theorem s_make0 {t : TypeId} {x y : Operand} (h : Ev (pairX (ev A.e x) (ev A.e y)) fun p => Ev (rowT P t) fun q => Mk0 m q p st k) : S P r m ⟨dst, .makeSlice t x y, ty, pos, aft, gd⟩ A st k := by
  obtain ⟨p, h1, ⟨el, sz, bytes⟩, h2, kl, kc, n, rfl, h3, h4, h5⟩ := h
  unfold pairX at h1
  split at h1
  · rename_i d d' hx hy
    cases h1
    dsimp only at h3 h4 h5
    refine s_chain (R := fun d st' => ∃ g zs, zs.length = n * sz ∧ d = .ar g 0 0 n ∧ st' = .box g el zs :: st) rfl ?_ ⟨_, _, 0, List.replicate (n * sz) D.un, List.length_replicate .., rfl, rfl⟩ fun d st' ⟨g, zs, hz, e1, e2⟩ => by subst e1 e2; exact h5 g zs hz
    refine opC_val (by intro c hc; cases hc) fun ρ w hr hh => .inl ?_
    have hv1 := rep_s (hr _ (by simp [Op.operands]) _ hx)
    have hv2 := rep_s (hr _ (by simp [Op.operands]) _ hy)
    obtain ⟨q1, i, zv, q2, q3, q4, q5, q6, q7, q8⟩ := rowT_spec h2
    have hby : (i.bytes : Int) * (n : Int) ≤ 281474976710656 := by
      rw [q7, ← Int.natCast_mul, Nat.mul_comm]; omega
    have hrun := run_make (P := P) w t el i zv q1 q2 q3 kl kc 0 n (Int.le_refl _) (by omega) hby (by omega)
    rw [Int.toNat_natCast] at hrun
    have hzs : 0 < zv.cells.size := by omega
    have hcl : (madeCells zv.cells (n * i.size)).toList = (List.replicate n zv.cells.toList).flatten := by
      rw [← q4]; exact range_rep _ hzs n
    have hna : zv.cells.toList.all noAgg = true := List.all_eq_true.2 fun v hv => by
      have := q8 v hv
      unfold zOk at this
      rw [Bool.and_eq_true] at this
      exact this.1
    have hrep : RepL (OwnS st) w (madeCells zv.cells (n * i.size)).toList ((List.replicate n (zv.cells.toList.map leafD)).flatten) := by
      rw [hcl]; exact rep_zero hna n
    obtain ⟨k1, k2⟩ := new_box hh el hrep (fun d hd => by
      obtain ⟨l, hl, hdl⟩ := List.mem_flatten.1 hd
      rw [(List.mem_replicate.1 hl).2] at hdl
      obtain ⟨v, hv, rfl⟩ := List.mem_map.1 hdl
      have := q8 v hv
      unfold zOk at this
      rw [Bool.and_eq_true] at this
      exact this.2)
    refine ⟨_, _, ?_, _, _, .ar w.heap.size 0 0 n (Nat.zero_le _) (by unfold maxLen; omega), k1, k2, ⟨_, _, ?_, rfl, rfl⟩⟩
    · unfold execOp
      simp only [hv1, hv2, Sem.run_bind, hrun, Result.andThen_ok, Sem.run_pure]
      rfl
    · rw [← hrep.1, hcl, List.length_flatten, List.map_replicate, List.sum_replicate_nat, Array.length_toList, q4, q6]
  · cases h1
end
end Go.Proofs.Ytooaagmhgakhgaa
end

section
namespace Go.Proofs.Ytooaagmhgakhgaa
set_option linter.unusedSimpArgs false
attribute [local push_cast] encB encI encC V.cells_mk V.cells_len Nat.mul_one Int.sub_zero List.map_nil beq_self_eq_true List.head?_cons
open Go.RowKit
set_option maxRecDepth 10000
set_option maxHeartbeats 8000000
def valC (l : List V) : List D := (l.map V.cells).flatten
theorem valC_len (l : List V) : (valC l).length = l.length * 4 := by
  unfold valC
  rw [flat_len (sz := 4) fun e he => by
    obtain ⟨x, -, rfl⟩ := List.mem_map.1 he
    exact V.cells_len x, List.length_map]
theorem valC_add (l : List V) (v : V) : valC (l ++ [v]) = valC l ++ [v.cells].flatten := by
  unfold valC
  rw [List.map_append, List.flatten_append]; rfl
def RowR (l : List V) (st : St) (d : D) (st' : St) : Prop := ∃ g cap zs, (valC l ++ zs).length = cap * 4 ∧ d = .ar g 0 l.length cap ∧ st' = .box g 24 (valC l ++ zs) :: st
theorem rowR_ex (l : List V) (st : St) : ∃ d st', RowR l st d st' := ⟨_, _, 0, l.length, [], by rw [List.append_nil, valC_len], rfl, rfl⟩
theorem recGather1F (sl : List Sl) (hn : ∀ s ∈ sl, s.dv.nodes ≤ 1000000) (hl : sl.length ≤ 1000) (st : St) : TrF Try.prog 57 [.sl .shared (sl.map Sl.cells), .fn (.func 58) [] []] st (RowR (sl.map fun s => s.dv) st) := by
  unfold RowR
  have hc1 : Hid (∀ (i : Nat) (s : Sl), sl[i]? = some s → (sl.map Sl.cells)[i]? = some s.cells) := fun i s h => by rw [List.getElem?_map, h]; rfl
  have hts : Hid (∀ (i : Nat) (s : Sl), sl[i]? = some s → valC ((sl.map fun s => s.dv).take (i + 1)) = valC ((sl.map fun s => s.dv).take i) ++ [s.dv.cells].flatten) := fun i s h => by
    rw [take_snoc' (x := s.dv) (by rw [List.getElem?_map, h]; rfl), valC_add]
  have htl : Hid (∀ i : Nat, i ≤ sl.length → (valC ((sl.map fun s => s.dv).take i)).length = i * 4) := fun i hi => by
    rw [valC_len, List.length_take, List.length_map, Nat.min_eq_left hi]
  have hm1 : (sl.map Sl.cells).length = sl.length := List.length_map ..
  have hv0 : Hid (valC ((sl.map fun s => s.dv).take 0) = []) := Lib.hid rfl
  have hvn : Hid (valC ((sl.map fun s => s.dv).take sl.length) = valC (sl.map fun s => s.dv)) := Lib.hid (by rw [List.take_of_length_le (by rw [List.length_map]; exact Nat.le_refl _)])
  have hln : Hid ((sl.map fun s => s.dv).length = sl.length) := Lib.hid (List.length_map ..)
  have hn2 := Lib.hid hn
  clear hn
  generalize sl.map Sl.cells = XS at *
  generalize hVT : (fun i : Nat => valC ((sl.map fun s => s.dv).take i)) = VT at *
  have hts' : Hid (∀ (i : Nat) (s : Sl), sl[i]? = some s → VT (i + 1) = VT i ++ [s.dv.cells].flatten) := Lib.hid (by rw [← hVT]; exact hts.out)
  have htl' : Hid (∀ i : Nat, i ≤ sl.length → (VT i).length = i * 4) := Lib.hid (by rw [← hVT]; exact htl.out)
  have hv0' : Hid (VT 0 = []) := Lib.hid (by rw [← hVT]; rfl)
  have hvn' : Hid (VT sl.length = valC (sl.map fun s => s.dv)) := Lib.hid (by rw [← hVT]; exact hvn.out)
  rw [hln.out, ← hvn'.out]
  clear hts htl hv0 hvn hln hvn' hVT
  refine trF_enter (ts := [4]) Try.func57 rfl (by rw [Try.ntmps57]; exact Nat.le_of_ble_eq_true rfl) (fun tmps w => by simp [results, Try.results57, go_sem, resVal]) ?_
  simp only [Try.ntmps57]
  repeat' (first | with_reducible refine Go1.go ?_ | ((with_reducible apply ev_go); (focus ((try simp (disch := omega) only [push_cast, simprocAttr, *]); (try exact rfl); done))) | with_reducible refine s_make0 ?_ | ((with_reducible apply mk0_go); (focus omega); (focus omega); intro g zs hzs) | ((with_reducible refine w_last ?_ ?_ ?_); kernel_rfl; rfl) | with_reducible refine Go2.go ?_ | ((with_reducible first | apply w_stepG | refine s_bi ?_ ?_ | refine blk_ne ?_ ?_); rfl) | ((with_reducible refine al_go ?_); intro b) | ((with_reducible first | refine w_region ?_ ?_ | refine w_dra ?_ ?_); kernel_rfl) | ((with_reducible refine Go3.go ?_ ?_); all_goals (intro hb; (try with_reducible intro hb1); (try (exfalso; first | contradiction | omega)))) | fail)
  refine tr_loopd (ι := Nat) (fun i A st' => i ≤ sl.length ∧ A.df = [] ∧ A.e 1 = .fn (.func 58) [] [] ∧ A.e 11 = .sl .shared XS ∧ A.e 12 = .i sl.length ∧ A.e 13 = .i i ∧ ∃ g cap zs, (VT i ++ zs).length = cap * 4 ∧ i ≤ cap ∧ A.e 5 = .ar g 0 i cap ∧ st' = .box g 24 (VT i ++ zs) :: st) (fun i => sl.length - i) 0 ⟨Nat.zero_le _, ?_, ?_, ?_, ?_, ?_, g, sl.length, zs, by rw [hv0'.out, List.nil_append, hzs], Nat.zero_le _, ?_, by rw [hv0'.out]; rfl⟩ ?_
  iterate 6 (focus (first | rfl | assumption | omega | (simp (disch := omega) only [push_cast, simprocAttr, *]; try omega; done)))
  rintro i A st' ⟨hi, hdf, e1, e11, e12, e13, g, cap, zs, hz, hic, e5, rfl⟩
  have hds := htl'.out i hi
  by_cases hlt : i < sl.length
  · obtain ⟨s, hs⟩ : ∃ s, sl[i]? = some s := ⟨_, List.getElem?_eq_getElem hlt⟩
    have h1 := hc1.out i s hs
    have hG := recMake1F s (hn2.out s (List.mem_of_getElem? hs))
    have hT := Lib.hid (hts'.out i s hs)
    clear hs
    cases s with
    | mk snm ty rq dv =>
    cases dv with
    | mk k n sv lv =>
    dsimp only at hG hT
    rw [Sl.cells_mk] at h1 hG
    rw [V.cells_mk] at hG hT
    replace hG := Lib.hid hG
    repeat' (first | with_reducible refine Go1.go ?_ | ((with_reducible apply ev_go); (focus ((try simp (disch := omega) only [push_cast, simprocAttr, *]); (try exact rfl); done))) | with_reducible refine s_appR ?_ | with_reducible refine rk_go ?_ | ((with_reducible apply (r2_go hds hz)); (focus (intro g' cs'; repeat (first | exact ra_h | apply ra_t))); (focus exact len_one rfl); (iterate 2 (focus (simp only [List.length_cons, List.length_nil]; omega))); intro g' cap' zs' hc' hz') | ((with_reducible refine w_last ?_ ?_ ?_); kernel_rfl; rfl) | with_reducible refine Go2.go ?_ | ((with_reducible first | apply w_stepG | refine s_bi ?_ ?_ | refine blk_ne ?_ ?_); rfl) | ((with_reducible refine al_go ?_); intro b) | ((with_reducible apply (ck_le Try.call58)); exact LEL.refl _; exact hG.out _) | ((with_reducible first | refine w_region ?_ ?_ | refine w_dra ?_ ?_); kernel_rfl) | ((with_reducible refine Go3.go ?_ ?_); all_goals (intro hb; (try with_reducible intro hb1); (try (exfalso; first | contradiction | omega)))) | fail)
    refine ⟨i + 1, .box g' 24 (VT (i + 1) ++ zs') :: st, ?_, ⟨hlt, ?_, ?_, ?_, ?_, ?_, g', cap', zs', ?_, hc', ?_, rfl⟩, by omega⟩
    · rw [hT.out]
      (repeat (first | exact List.Sublist.refl _ | with_reducible apply List.Sublist.cons_cons | apply List.Sublist.cons))
    · (first | rfl | assumption | omega | (simp (disch := omega) only [push_cast, simprocAttr, *]; try omega; done))
    · (first | rfl | assumption | omega | (simp (disch := omega) only [push_cast, simprocAttr, *]; try omega; done))
    · (first | rfl | assumption | omega | (simp (disch := omega) only [push_cast, simprocAttr, *]; try omega; done))
    · (first | rfl | assumption | omega | (simp (disch := omega) only [push_cast, simprocAttr, *]; try omega; done))
    · (first | rfl | assumption | omega | (simp (disch := omega) only [push_cast, simprocAttr, *]; try omega; done))
    · rw [hT.out]; exact hz'
    · (first | rfl | assumption | omega | (simp (disch := omega) only [push_cast, simprocAttr, *]; try omega; done))
  · have hil : i = sl.length := by omega
    subst hil
    repeat' (first | with_reducible refine Go1.go ?_ | ((with_reducible apply ev_go); (focus ((try simp (disch := omega) only [push_cast, simprocAttr, *]); (try exact rfl); done))) | ((with_reducible refine w_last ?_ ?_ ?_); kernel_rfl; rfl) | with_reducible refine Go2.go ?_ | ((with_reducible first | apply w_stepG | refine s_bi ?_ ?_ | refine blk_ne ?_ ?_); rfl) | ((with_reducible refine al_go ?_); intro b) | ((with_reducible first | refine w_region ?_ ?_ | refine w_dra ?_ ?_); kernel_rfl) | ((with_reducible refine Go3.go ?_ ?_); all_goals (intro hb; (try with_reducible intro hb1); (try (exfalso; first | contradiction | omega)))) | fail)
    all_goals (refine retA_mk (by first | exact .inl rfl | exact .inr rfl) (by first | rfl | assumption) (List.Sublist.refl _) (LE.of_eq ?_) ⟨g, cap, zs, hz, rfl, rfl⟩; simp (disch := omega) only [push_cast, simprocAttr, *])
end Go.Proofs.Ytooaagmhgakhgaa
end

section
namespace Go.Proofs.Ytooaagmhgakhgaa
set_option linter.unusedSimpArgs false
attribute [local push_cast] encB encI encC V.cells_mk V.cells_len Nat.mul_one Int.sub_zero List.map_nil beq_self_eq_true List.head?_cons
open Go.RowKit
set_option maxRecDepth 10000
set_option maxHeartbeats 8000000
namespace Sch
def fillC (sl : List Sl) : List Nat → List V → List V → Option (List V)
  | [], _, out => some out
  | c :: cs, u :: us, out => match sl[c]? with
    | some s => if fits s u = true then fillC sl cs us (out.set c u) else none
    | none => none
  | _ :: _, [], _ => none
theorem fillC_drop {sl : List Sl} {cols : List Nat} {row out : List V} {k c : Nat} {u : V} {s : Sl} (h1 : cols[k]? = some c) (h2 : row[k]? = some u) (h3 : sl[c]? = some s) : fillC sl (cols.drop k) (row.drop k) out = if fits s u = true then fillC sl (cols.drop (k + 1)) (row.drop (k + 1)) (out.set c u) else none := by
  rw [V.drop_cons h1, V.drop_cons h2, fillC, h3]
def makeS (t : Tm) (v : Int) (row : List V) : Rc × Int :=
  if verE t v = 0 then (if row.length = (verX t v).cols.length then (match fillC (verX t v).slots (verX t v).cols row ((verX t v).slots.map fun s => s.dv) with
    | some out => (⟨v, out⟩, 0)
    | none => (zeroR, 8)) else (zeroR, 1)) else (zeroR, verE t v)
theorem verB_some' {t : Tm} {v : Int} (h : verB t v = true) : ∃ x, ver t v = some x := by
  unfold verB at h
  cases hx : ver t v with
  | none => rw [hx] at h; cases h
  | some x => exact ⟨x, rfl⟩
theorem ver_some_X {t : Tm} {v : Int} {x : Vr} (h : ver t v = some x) : verX t v = x := by
  unfold verX
  rw [h]; rfl
end Sch
theorem valC_set {out : List V} {c : Nat} {u : V} (zs : List D) (h : c < out.length) : List.take (c * 4) (valC out ++ zs) ++ u.cells ++ List.drop (c * 4 + 4) (valC out ++ zs) = valC (out.set c u) ++ zs := by
  obtain ⟨z, hz⟩ : ∃ z, out[c]? = some z := ⟨_, List.getElem?_eq_getElem h⟩
  have hL : (out.map V.cells)[c]? = some z.cells := by rw [List.getElem?_map, hz]; rfl
  have hs := row_splice (o := 0) (sz := 4) (ds := u.cells) zs (out.map V.cells) c (fun e he => by
    obtain ⟨x, -, rfl⟩ := List.mem_map.1 he
    exact V.cells_len x) hL (by rw [V.cells_len]; omega)
  have h1 : splice z.cells 0 u.cells = u.cells := by
    unfold splice
    rw [List.take_zero, List.nil_append, Nat.zero_add, List.drop_of_length_le (by rw [V.cells_len, V.cells_len]; omega), List.append_nil]
  rw [h1, ← List.map_set] at hs
  unfold splice at hs
  rw [Nat.add_zero, V.cells_len] at hs
  exact hs
def MakeRaw (v : Int) (R : Option (List V)) (st : St) (d : D) (st' : St) : Prop :=
  (R = none ∧ d = .tup [.agg [.i 0, .sl .shared []], .i 8] ∧ st' = st) ∨ ∃ out g cap zs, R = some out ∧ (valC out ++ zs).length = cap * 4 ∧ d = .tup [.agg [.i v, .ar g 0 out.length cap], .i 0] ∧ st' = .box g 24 (valC out ++ zs) :: st
theorem recMakeRawF (t : Tm) (ht : TOk t) (v : Int) (row : List V) (hr : ∀ u ∈ row, u.nodes ≤ 1000) (x : Vr) (R : Option (List V)) (hx : x = Sch.verX t v) (he : Sch.verE t v = 0) (hl : row.length = x.cols.length) (hcs : ∀ c ∈ x.cols, c < x.slots.length) (hxl : x.slots.length ≤ 16) (hcl : x.cols.length ≤ 8) (hdv : ∀ s ∈ x.slots, s.dv.nodes ≤ 1000) (hR : Sch.fillC x.slots x.cols row (x.slots.map fun s => s.dv) = R) (st : St) : TrF Try.prog 33 [.agg t.cells, .i v, .sl .shared (row.map V.cells)] st (MakeRaw v R st) := by
  have hV := recVersionF t ht v
  rw [← hx, he] at hV
  have hG := recGather1F x.slots (fun s h => by have := hdv s h; omega) (by omega)
  have hE := fun st => rowR_ex (x.slots.map fun s => s.dv) st
  unfold RowR at hG hE
  unfold MakeRaw
  have hol : (x.slots.map fun s => s.dv).length = x.slots.length := List.length_map ..
  have HR0 : Hid (Sch.fillC x.slots (x.cols.drop 0) (row.drop 0) (x.slots.map fun s => s.dv) = R) := hR
  clear hR hx he
  cases x with
  | mk xs xc =>
  unfold Tm.cells at *
  unfold Vr.cells at *
  dsimp only at *
  rw [hol] at hG hE
  generalize t.slots.map Sl.cells = SL at *
  generalize t.steps.map Stp.cells = TL at *
  generalize t.name = nm at *
  have hm1 : (xs.map Sl.cells).length = xs.length := List.length_map ..
  have hm2 : (xc.map encC).length = xc.length := List.length_map ..
  have hm3 : (row.map V.cells).length = xc.length := by rw [List.length_map]; exact hl
  have hc1 : Hid (∀ (i : Nat) (s : Sl), xs[i]? = some s → (xs.map Sl.cells)[i]? = some s.cells) := fun i s h => by rw [List.getElem?_map, h]; rfl
  have hc2 : Hid (∀ (i c : Nat), xc[i]? = some c → (xc.map encC)[i]? = some [.i c]) := fun i s h => by rw [List.getElem?_map, h]; rfl
  have hc3 : Hid (∀ (i : Nat) (v : V), row[i]? = some v → (row.map V.cells)[i]? = some v.cells) := fun i v h => by rw [List.getElem?_map, h]; rfl
  obtain ⟨o0, ho0⟩ : ∃ o0, (xs.map fun s => s.dv) = o0 := ⟨_, rfl⟩
  rw [ho0] at hG hE hol HR0
  generalize xs.map Sl.cells = XS at *
  generalize xc.map encC = XC at *
  generalize row.map V.cells = RS at *
  have hr2 := Lib.hid hr
  have hcs2 := Lib.hid hcs
  have hol2 := Lib.hid hol
  clear hr hcs hdv ho0 hol
  replace hV := Lib.hid hV
  replace hG := Lib.hid hG
  replace hE := Lib.hid hE
  refine trF_enterG (G := twoA Try.prog (.cell 6 45) (.tmp 7)) Try.func33 rfl (by rw [Try.ntmps33]; exact Nat.le_of_ble_eq_true rfl) (fun h1 h2 h3 => res_two rfl h1 h2 h3) ?_
  simp only [Try.ntmps33]
  repeat' (first | with_reducible refine Go1.go ?_ | ((with_reducible apply ev_go); (focus ((try simp (disch := omega) only [push_cast, simprocAttr, *]); (try exact rfl); done))) | ((with_reducible refine w_last ?_ ?_ ?_); kernel_rfl; rfl) | with_reducible refine Go2.go ?_ | ((with_reducible first | apply w_stepG | refine s_bi ?_ ?_ | refine blk_ne ?_ ?_); rfl) | ((with_reducible refine al_go ?_); intro b) | ((with_reducible apply (ck_le Try.call56)); exact LEL.refl _; exact hV.out _) | ((with_reducible apply (ck_gen Try.call57)); (focus exact List.Perm.refl _); (focus exact hG.out _); (focus exact LEL.refl _); (focus exact hE.out _); (rintro d st' ⟨g, cap, zs, hz, rfl, rfl⟩)) | ((with_reducible first | refine w_region ?_ ?_ | refine w_dra ?_ ?_); kernel_rfl) | ((with_reducible refine Go3.go ?_ ?_); all_goals (intro hb; (try with_reducible intro hb1); (try (exfalso; first | contradiction | omega)))) | fail)
  rename_i b6
  obtain ⟨b8, rfl⟩ : ∃ q, q = b := ⟨_, rfl⟩
  refine tr_loopd (ι := Nat) (fun i A st' => i ≤ xc.length ∧ A.df = [] ∧ A.e 1 = .i v ∧ A.e 2 = .sl .shared RS ∧ A.e 6 = .ptr b6 0 ∧ A.e 8 = .ptr b8 0 ∧ A.e 10 = .ar g 0 xs.length cap ∧ A.e 36 = .sl .shared XC ∧ A.e 37 = .i xc.length ∧ A.e 38 = .i i ∧ ∃ out : List V, Hid (Sch.fillC xs (xc.drop i) (row.drop i) out = R) ∧ Hid (out.length = xs.length) ∧ (valC out ++ zs).length = cap * 4 ∧ st' = .box g 24 (valC out ++ zs) :: .box b8 38 [.sl .shared XS, .sl .shared XC] :: .box b6 45 [.i 0, .sl .tight []] :: st) (fun i => xc.length - i) 0 ⟨Nat.zero_le _, ?_, ?_, ?_, ?_, ?_, ?_, ?_, ?_, ?_, o0, HR0, hol2, hz, rfl⟩ ?_
  iterate 9 (focus (first | rfl | assumption | omega | (simp (disch := omega) only [push_cast, simprocAttr, *]; try omega; done)))
  rintro i A st' ⟨hi, hdf, e1, e2, e6, e8, e10, e36, e37, e38, out, HT, hol, hz, rfl⟩
  clear HR0 hol2
  by_cases hlt : i < xc.length
  · obtain ⟨c, hc⟩ : ∃ c, xc[i]? = some c := ⟨_, List.getElem?_eq_getElem hlt⟩
    obtain ⟨u, hu⟩ : ∃ u, row[i]? = some u := ⟨_, List.getElem?_eq_getElem (by omega)⟩
    have hcn := hcs2.out c (List.mem_of_getElem? hc)
    obtain ⟨s, hs⟩ : ∃ s, xs[c]? = some s := ⟨_, List.getElem?_eq_getElem hcn⟩
    have h1 := hc1.out c s hs
    have h2 := hc2.out i c hc
    have h3 := hc3.out i u hu
    have hun := hr2.out u (List.mem_of_getElem? hu)
    have HE := HT.out
    rw [Sch.fillC_drop hc hu hs] at HE
    have hC := valCopyF u.nodes u (Nat.le_refl _) (by omega)
    have hset : ∀ zs, List.take (c * 4) (valC out ++ zs) ++ u.cells ++ List.drop (c * 4 + 4) (valC out ++ zs) = valC (out.set c u) ++ zs := fun zs => valC_set zs (by rw [hol.out]; exact hcn)
    replace hset := hset zs
    have hle : c * 4 + 4 ≤ cap * 4 := by
      have h1 := hz
      rw [List.length_append, valC_len, hol.out] at h1
      omega
    have hz' : (valC (out.set c u) ++ zs).length = cap * 4 := by
      rw [List.length_append, valC_len, List.length_set, ← valC_len, ← List.length_append]; exact hz
    have hol' : Hid ((out.set c u).length = xs.length) := Lib.hid (by rw [List.length_set]; exact hol.out)
    clear HT hol hc hu hs
    cases s with
    | mk snm ty rq dv =>
    have hF := schFitsF snm ty rq dv u (by omega)
    generalize Sch.fits _ u = q at *
    clear hun
    generalize out.set c u = out' at *
    cases dv with
    | mk k n sv lv =>
    cases u with
    | mk k' n' sv' lv' =>
    rw [Sl.cells_mk] at h1 hF
    rw [V.cells_mk] at *
    replace hF := Lib.hid hF
    replace hC := Lib.hid hC
    cases q with
    | true =>
      rw [if_pos rfl] at HE
      replace HE := Lib.hid HE
      repeat' (first | with_reducible refine Go1.go ?_ | ((with_reducible apply ev_go); (focus ((try simp (disch := omega) only [push_cast, simprocAttr, *]); (try exact rfl); done))) | ((with_reducible refine w_drawRN ?_ ?_ ?_ ?_); (iterate 3 (focus kernel_rfl)); intro hne; simp only [nes, ne1, and_assoc] at hne; repeat (have hq := hne.1; replace hne := hne.2)) | ((with_reducible refine w_last ?_ ?_ ?_); kernel_rfl; rfl) | with_reducible refine Go2.go ?_ | ((with_reducible first | apply w_stepG | refine s_bi ?_ ?_ | refine blk_ne ?_ ?_); rfl) | ((with_reducible refine al_go ?_); intro b) | ((with_reducible apply (ck_le Try.call13)); exact LEL.refl _; exact hF.out _) | ((with_reducible apply (ck_le Try.call59)); exact LEL.refl _; exact hC.out _) | ((with_reducible first | refine w_region ?_ ?_ | refine w_dra ?_ ?_); kernel_rfl) | ((with_reducible refine Go3.go ?_ ?_); all_goals (intro hb; (try with_reducible intro hb1); (try (exfalso; first | contradiction | omega)))) | fail)
      refine ⟨i + 1, .box g 24 (valC out' ++ zs) :: .box b8 38 [.sl .shared XS, .sl .shared XC] :: .box b6 45 [.i 0, .sl .tight []] :: st, (by (repeat (first | exact List.Sublist.refl _ | apply List.Sublist.cons))), ⟨hlt, ?_, ?_, ?_, ?_, ?_, ?_, ?_, ?_, ?_, out', HE, hol', hz', rfl⟩, by omega⟩
      all_goals (first | rfl | assumption | omega | (simp (disch := omega) only [push_cast, simprocAttr, *]; try omega; done))
    | false =>
      rw [if_neg Bool.false_ne_true] at HE
      subst HE
      repeat' (first | with_reducible refine Go1.go ?_ | ((with_reducible apply ev_go); (focus ((try simp (disch := omega) only [push_cast, simprocAttr, *]); (try exact rfl); done))) | ((with_reducible refine w_drawRN ?_ ?_ ?_ ?_); (iterate 3 (focus kernel_rfl)); intro hne; simp only [nes, ne1, and_assoc] at hne; repeat (have hq := hne.1; replace hne := hne.2)) | ((with_reducible refine w_last ?_ ?_ ?_); kernel_rfl; rfl) | with_reducible refine Go2.go ?_ | ((with_reducible first | apply w_stepG | refine s_bi ?_ ?_ | refine blk_ne ?_ ?_); rfl) | ((with_reducible refine al_go ?_); intro b) | ((with_reducible apply (ck_le Try.call13)); exact LEL.refl _; exact hF.out _) | ((with_reducible apply (ck_le Try.call59)); exact LEL.refl _; exact hC.out _) | ((with_reducible first | refine w_region ?_ ?_ | refine w_dra ?_ ?_); kernel_rfl) | ((with_reducible refine Go3.go ?_ ?_); all_goals (intro hb; (try with_reducible intro hb1); (try (exfalso; first | contradiction | omega)))) | fail)
      all_goals (refine retG_mk (rs := []) (by first | exact .inl rfl | exact .inr rfl) (by first | rfl | assumption) (List.Perm.refl _) ⟨_, _, rfl, cell_mk (by simp (disch := omega) only [push_cast, simprocAttr, *]; exact rfl) (by repeat (first | exact mm_h | apply mm_t)) (by simp (disch := omega) only [push_cast, simprocAttr, *]; exact rfl) (by (try simp (disch := omega) only [push_cast, simprocAttr, *]); (try exact rfl); done), (by show _ = _; (try simp (disch := omega) only [push_cast, simprocAttr, *]); (try exact rfl); done)⟩ (by (repeat (first | exact List.Sublist.refl _ | with_reducible apply List.Sublist.cons_cons | apply List.Sublist.cons))) (retC2 0 .tight [] 8) (.inl ⟨rfl, rfl, rfl⟩))
  · have HE := HT.out
    rw [List.drop_of_length_le (by omega), Sch.fillC] at HE
    subst HE
    clear HT
    repeat' (first | with_reducible refine Go1.go ?_ | ((with_reducible apply ev_go); (focus ((try simp (disch := omega) only [push_cast, simprocAttr, *]); (try exact rfl); done))) | ((with_reducible refine w_last ?_ ?_ ?_); kernel_rfl; rfl) | with_reducible refine Go2.go ?_ | ((with_reducible first | apply w_stepG | refine s_bi ?_ ?_ | refine blk_ne ?_ ?_); rfl) | ((with_reducible refine al_go ?_); intro b) | ((with_reducible first | refine w_region ?_ ?_ | refine w_dra ?_ ?_); kernel_rfl) | ((with_reducible refine Go3.go ?_ ?_); all_goals (intro hb; (try with_reducible intro hb1); (try (exfalso; first | contradiction | omega)))) | fail)
    all_goals (refine retG_mk (rs := []) (by first | exact .inl rfl | exact .inr rfl) (by first | rfl | assumption) (List.Perm.refl _) ⟨_, _, rfl, cell_mk (by simp (disch := omega) only [push_cast, simprocAttr, *]; exact rfl) (by repeat (first | exact mm_h | apply mm_t)) (by simp (disch := omega) only [push_cast, simprocAttr, *]; exact rfl) (by (try simp (disch := omega) only [push_cast, simprocAttr, *]); (try exact rfl); done), (by show _ = _; (try simp (disch := omega) only [push_cast, simprocAttr, *]); (try exact rfl); done)⟩ (st0 := .box g 24 (valC out ++ zs) :: st) (by (repeat (first | exact List.Sublist.refl _ | with_reducible apply List.Sublist.cons_cons | apply List.Sublist.cons))) (LE.refl _) (.inr ⟨out, g, cap, zs, rfl, hz, by rw [hol.out], rfl⟩))
theorem recMakeF (t : Tm) (ht : TOk t) (hdv : ∀ x ∈ Sch.vers t, ∀ z ∈ x.slots, z.dv.nodes ≤ 1000) (v : Int) (row : List V) (hr : ∀ u ∈ row, u.nodes ≤ 1000) (hrl : row.length ≤ 1000000) (st : St) : TrF Try.prog 33 [.agg t.cells, .i v, .sl .shared (row.map V.cells)] st fun d st' => d = .tup [.agg (Sch.makeS t v row).1.cells, .i (Sch.makeS t v row).2] ∧ st' = st := by
  obtain ⟨M, hM⟩ : ∃ M, Sch.makeS t v row = M := ⟨_, rfl⟩
  rw [hM]
  unfold Sch.makeS at hM
  by_cases he : Sch.verE t v = 0
  · rw [if_pos he] at hM
    obtain ⟨x, hx⟩ := Sch.verB_some' (Sch.verE_ok he)
    have hxv : x = Sch.verX t v := (Sch.ver_some_X hx).symm
    rw [← hxv] at hM
    obtain ⟨-, -, hcs, -, hcl⟩ := Sch.vers_apart x (ver_mem hx)
    have hxl : x.slots.length ≤ 16 := (Sch.vers_vi (ver_mem hx)).ls
    have hxd := hdv x (ver_mem hx)
    by_cases hl : row.length = x.cols.length
    · rw [if_pos hl] at hM
      obtain ⟨R, hR⟩ : ∃ R, Sch.fillC x.slots x.cols row (x.slots.map fun s => s.dv) = R := ⟨_, rfl⟩
      have hraw := recMakeRawF t ht v row hr x R hxv he hl hcs hxl hcl hxd hR st
      rw [hR] at hM
      subst hM
      unfold MakeRaw at hraw
      cases R with
      | none =>
        refine hraw.mono fun d st' h => ?_
        rcases h with ⟨-, h1, h2⟩ | ⟨out, g, cap, zs, h, -⟩
        · exact ⟨h1, h2⟩
        · cases h
      | some F =>
        have h' := TrF.rest (ι := Nat × Nat × List D) (el := 24) (p := fun i : Nat × Nat × List D => (valC F ++ i.2.2).length = i.2.1 * 4) (g := fun i => i.1) (n := fun _ => F.length) (cap := fun i => i.2.1) (es := fun _ => F.map V.cells) (F := fun i => .tup [.agg [.i v, .ar i.1 0 F.length i.2.1], .i 0]) (zs := fun i => i.2.2) (S := fun _ => st) (F' := fun _ => .tup [.agg [.i v, .sl .shared (F.map V.cells)], .i 0]) (sz := 4) (by decide) (fun i _ => ⟨fun e he => by
          obtain ⟨x, -, rfl⟩ := List.mem_map.1 he
          exact V.cells_len x, List.length_map ..⟩) (fun i => .tup _ _ (.cons _ _ _ _ (.agg _ _ (.cons _ _ _ _ (.same _) (.cons _ _ _ _ .ar .nil))) (.cons _ _ _ _ (.same _) .nil))) (hraw.mono fun d st' h => by
          rcases h with ⟨h, -⟩ | ⟨out, g, cap, zs, h, h1, h2, h3⟩
          · cases h
          · cases h
            exact ⟨(g, cap, zs), h1, h2, h3⟩)
        exact h'.mono fun d st' ⟨i, k1, k2, k3⟩ => ⟨k2, k3⟩
    · rw [if_neg hl] at hM
      subst hM
      have hV := recVersionF t ht v
      rw [← hxv, he] at hV
      clear hdv hr hx hxv he hcs hcl hxl hxd
      cases x with
      | mk xs xc =>
      unfold Sch.zeroR Rc.cells Tm.cells at *
      unfold Vr.cells at *
      dsimp only [List.map_nil] at *
      generalize t.slots.map Sl.cells = SL at *
      generalize t.steps.map Stp.cells = TL at *
      generalize t.name = nm at *
      have hm2 : (xc.map encC).length = xc.length := List.length_map ..
      have hm3 : (row.map V.cells).length = row.length := List.length_map ..
      generalize xs.map Sl.cells = XS at *
      generalize xc.map encC = XC at *
      generalize row.map V.cells = RS at *
      generalize row.length = rn at *
      generalize xc.length = cn at *
      have hl2 : ¬ (rn : Int) = (cn : Int) := by omega
      replace hV := Lib.hid hV
      refine trF_enterG (G := twoA Try.prog (.cell 6 45) (.tmp 7)) Try.func33 rfl (by rw [Try.ntmps33]; exact Nat.le_of_ble_eq_true rfl) (fun h1 h2 h3 => res_two rfl h1 h2 h3) ?_
      simp only [Try.ntmps33]
      repeat' (first | with_reducible refine Go1.go ?_ | ((with_reducible apply ev_go); (focus ((try simp (disch := omega) only [push_cast, simprocAttr, *]); (try exact rfl); done))) | ((with_reducible refine w_last ?_ ?_ ?_); kernel_rfl; rfl) | with_reducible refine Go2.go ?_ | ((with_reducible first | apply w_stepG | refine s_bi ?_ ?_ | refine blk_ne ?_ ?_); rfl) | ((with_reducible refine al_go ?_); intro b) | ((with_reducible apply (ck_le Try.call56)); exact LEL.refl _; exact hV.out _) | ((with_reducible first | refine w_region ?_ ?_ | refine w_dra ?_ ?_); kernel_rfl) | ((with_reducible refine Go3.go ?_ ?_); all_goals (intro hb; (try with_reducible intro hb1); (try (exfalso; first | contradiction | omega)))) | fail)
      all_goals (refine retG_mk (rs := []) (by first | exact .inl rfl | exact .inr rfl) (by first | rfl | assumption) (List.Perm.refl _) ⟨_, _, rfl, cell_mk (by simp (disch := omega) only [push_cast, simprocAttr, *]; exact rfl) (by repeat (first | exact mm_h | apply mm_t)) (by simp (disch := omega) only [push_cast, simprocAttr, *]; exact rfl) (by (try simp (disch := omega) only [push_cast, simprocAttr, *]); (try exact rfl); done), (by show _ = _; (try simp (disch := omega) only [push_cast, simprocAttr, *]); (try exact rfl); done)⟩ (by (repeat (first | exact List.Sublist.refl _ | with_reducible apply List.Sublist.cons_cons | apply List.Sublist.cons))) (retC2 0 .tight [] 1) ⟨rfl, rfl⟩)
  · rw [if_neg he] at hM
    subst hM
    have hV := recVersionF t ht v
    generalize Sch.verE t v = e at *
    generalize Sch.verX t v = x at *
    clear hdv hr
    cases x with
    | mk xs xc =>
    unfold Sch.zeroR Rc.cells Tm.cells at *
    unfold Vr.cells at *
    dsimp only [List.map_nil] at *
    generalize t.slots.map Sl.cells = SL at *
    generalize t.steps.map Stp.cells = TL at *
    generalize t.name = nm at *
    generalize xs.map Sl.cells = XS at *
    generalize xc.map encC = XC at *
    generalize row.map V.cells = RS at *
    replace hV := Lib.hid hV
    refine trF_enterG (G := twoA Try.prog (.cell 6 45) (.tmp 7)) Try.func33 rfl (by rw [Try.ntmps33]; exact Nat.le_of_ble_eq_true rfl) (fun h1 h2 h3 => res_two rfl h1 h2 h3) ?_
    simp only [Try.ntmps33]
    repeat' (first | with_reducible refine Go1.go ?_ | ((with_reducible apply ev_go); (focus ((try simp (disch := omega) only [push_cast, simprocAttr, *]); (try exact rfl); done))) | ((with_reducible refine w_last ?_ ?_ ?_); kernel_rfl; rfl) | with_reducible refine Go2.go ?_ | ((with_reducible first | apply w_stepG | refine s_bi ?_ ?_ | refine blk_ne ?_ ?_); rfl) | ((with_reducible refine al_go ?_); intro b) | ((with_reducible apply (ck_le Try.call56)); exact LEL.refl _; exact hV.out _) | ((with_reducible first | refine w_region ?_ ?_ | refine w_dra ?_ ?_); kernel_rfl) | ((with_reducible refine Go3.go ?_ ?_); all_goals (intro hb; (try with_reducible intro hb1); (try (exfalso; first | contradiction | omega)))) | fail)
    all_goals (refine retG_mk (rs := []) (by first | exact .inl rfl | exact .inr rfl) (by first | rfl | assumption) (List.Perm.refl _) ⟨_, _, rfl, cell_mk (by simp (disch := omega) only [push_cast, simprocAttr, *]; exact rfl) (by repeat (first | exact mm_h | apply mm_t)) (by simp (disch := omega) only [push_cast, simprocAttr, *]; exact rfl) (by (try simp (disch := omega) only [push_cast, simprocAttr, *]); (try exact rfl); done), (by show _ = _; (try simp (disch := omega) only [push_cast, simprocAttr, *]); (try exact rfl); done)⟩ (by (repeat (first | exact List.Sublist.refl _ | with_reducible apply List.Sublist.cons_cons | apply List.Sublist.cons))) (retC2 0 .tight [] e) ⟨rfl, rfl⟩)
end Go.Proofs.Ytooaagmhgakhgaa
end

section
namespace Go.Proofs.Ytooaagmhgakhgaa
set_option linter.unusedSimpArgs false
attribute [local push_cast] encB encI encC V.cells_mk V.cells_len Nat.mul_one Int.sub_zero List.map_nil beq_self_eq_true List.head?_cons
open Go.RowKit
set_option maxRecDepth 10000
set_option maxHeartbeats 8000000
def encS (s : ByteArray) : List D := [.str s]
theorem containsSF (o : Own) (l : List ByteArray) (x : ByteArray) (st : St) : TrF Try.prog 60 [.sl o (l.map encS), .str x] st fun d st' => d = .b (Lib.containsS l x) ∧ st' = st :=
  trF_pure fun vs w hv => by
    obtain ⟨v, v', rfl, h1, h2⟩ := args2 hv
    cases rep_s h2
    have hs : Sees (fun s : ByteArray => Value.string s) w v l := sees_of_rep (f := fun s : ByteArray => Value.string s) h1
    refine ⟨_, fun _ _ => .s _ rfl, ?_⟩
    obtain ⟨a, cap, rfl, q1, q2, q3, q4⟩ := hs
    cases l with
    | nil =>
      refine (Try.slices_Contains_string_empty a cap x w).mono ?_
      rintro e w' ⟨he, rfl⟩
      exact ⟨he, Below.refl _ _⟩
    | cons y r =>
      obtain ⟨b, rfl⟩ : ∃ b, a = some b := by
        cases a with
        | none => have := q3 rfl; simp at q1; omega
        | some b => exact ⟨b, rfl⟩
      obtain ⟨e1, e2, e3⟩ := q4 b rfl (by simp)
      obtain ⟨bk, off, sp⟩ := b
      dsimp only at e1 e2 e3
      subst e1
      have hc := Try.slices_Contains_string bk off (y :: r).length cap (y :: r) x w (Nat.le_refl _) (by unfold maxLen at q2; omega) (fun j hj => by
        rw [e3 j hj, List.getD_eq_getElem?_getD, List.getElem?_eq_getElem hj]; rfl)
      refine hc.mono ?_
      rintro e w' ⟨he, rfl⟩
      refine ⟨?_, Below.refl _ _⟩
      rw [he, List.take_length]
theorem indexSF (o : Own) (l : List ByteArray) (x : ByteArray) (st : St) : TrF Try.prog 63 [.sl o (l.map encS), .str x] st fun d st' => d = .i (Lib.idxOfS l x) ∧ st' = st :=
  trF_pure fun vs w hv => by
    obtain ⟨v, v', rfl, h1, h2⟩ := args2 hv
    cases rep_s h2
    have hs : Sees (fun s : ByteArray => Value.string s) w v l := sees_of_rep (f := fun s : ByteArray => Value.string s) h1
    refine ⟨_, fun _ _ => .s _ rfl, ?_⟩
    obtain ⟨a, cap, rfl, q1, q2, q3, q4⟩ := hs
    cases l with
    | nil =>
      refine (Try.slices_Index_string_empty a cap x w).mono ?_
      rintro e w' ⟨he, rfl⟩
      exact ⟨he, Below.refl _ _⟩
    | cons y r =>
      obtain ⟨b, rfl⟩ : ∃ b, a = some b := by
        cases a with
        | none => have := q3 rfl; simp at q1; omega
        | some b => exact ⟨b, rfl⟩
      obtain ⟨e1, e2, e3⟩ := q4 b rfl (by simp)
      obtain ⟨bk, off, sp⟩ := b
      dsimp only at e1 e2 e3
      subst e1
      have hc := Try.slices_Index_string bk off (y :: r).length cap (y :: r) x w (Nat.le_refl _) (by unfold maxLen at q2; omega) (fun j hj => by
        rw [e3 j hj, List.getD_eq_getElem?_getD, List.getElem?_eq_getElem hj]; rfl)
      refine hc.mono ?_
      rintro e w' ⟨he, rfl⟩
      refine ⟨?_, Below.refl _ _⟩
      rw [he, List.take_length]
end Go.Proofs.Ytooaagmhgakhgaa
end

section
namespace Go.Proofs.Ytooaagmhgakhgaa
set_option linter.unusedSimpArgs false
attribute [local push_cast] encB encI encC encS V.cells_mk V.cells_len Nat.mul_one Int.sub_zero List.map_nil beq_self_eq_true List.head?_cons
open Go.RowKit
set_option maxRecDepth 10000
set_option maxHeartbeats 8000000
namespace Sch
def getV (names : List ByteArray) (vals : List V) (y : Sl) : V := if Lib.idxOfS names y.name < 0 then y.dv else vals.getD (Lib.idxOfS names y.name).toNat y.dv
def lackV (names : List ByteArray) (y : Sl) : Bool := decide (Lib.idxOfS names y.name < 0) && y.req
end Sch
theorem idxS_lt {l : List ByteArray} {x : ByteArray} (h : 0 ≤ Lib.idxOfS l x) : (Lib.idxOfS l x).toNat < l.length := by
  obtain ⟨k, hk⟩ := List.getElem?_of_mem ((Lib.idxOfS_nonneg_iff l x).1 h)
  have key : ∀ k : Nat, l[k]? = some x → ∃ m : Nat, l[m]? = some x ∧ ∀ j : Nat, j < m → l[j]? ≠ some x := by
    intro k
    induction k using Nat.strongRecOn with
    | ind k ih =>
      intro hk
      by_cases h : ∃ j, j < k ∧ l[j]? = some x
      · obtain ⟨j, h1, h2⟩ := h
        exact ih j h1 h2
      · exact ⟨k, hk, fun j hj e => h ⟨j, hj, e⟩⟩
  obtain ⟨m, hm, hmin⟩ := key k hk
  have hml := (List.getElem?_eq_some_iff.1 hm).1
  have := Lib.idxOfS_hit l l.length m x hml (Nat.le_refl _) (by rw [List.getD_eq_getElem?_getD, hm]; rfl) (fun j hj e => hmin j hj (by
    have hjl : j < l.length := by omega
    rw [List.getD_eq_getElem?_getD, List.getElem?_eq_getElem hjl] at e
    rw [List.getElem?_eq_getElem hjl]
    exact congrArg some e))
  rw [List.take_length] at this
  rw [this]
  exact hml
theorem recFill1F (b10 b15 : Nat) (names : List ByteArray) (vals : List V) (xs : List Sl) (xc : List Nat) (c : Nat) (y : Sl) (hy : xs[c]? = some y) (hlen : names.length = vals.length) (hv : ∀ u ∈ vals, u.nodes ≤ 1000) (hn : y.dv.nodes ≤ 1000) (lk : Bool) (st : St) :
    TrF Try.prog 62 [.i c, .ip [.sl .shared (names.map encS)], .ptr b10 0, .ptr b15 0, .ip [.sl .shared (vals.map V.cells)]] (.box b15 4 [.b lk] :: .box b10 38 [.sl .shared (xs.map Sl.cells), .sl .shared (xc.map encC)] :: st)
      fun d st' => d = .agg (Sch.getV names vals y).cells ∧ st' = .box b15 4 [.b (lk || Sch.lackV names y)] :: .box b10 38 [.sl .shared (xs.map Sl.cells), .sl .shared (xc.map encC)] :: st := by
  have hI := indexSF .shared names y.name
  unfold Sch.getV Sch.lackV
  have hil : 0 ≤ Lib.idxOfS names y.name → (Lib.idxOfS names y.name).toNat < vals.length := fun h => by rw [← hlen]; exact idxS_lt h
  have hm1 : (xs.map Sl.cells).length = xs.length := List.length_map ..
  have hm3 : (vals.map V.cells).length = vals.length := List.length_map ..
  have h1 : (xs.map Sl.cells)[c]? = some y.cells := by rw [List.getElem?_map, hy]; rfl
  have hc3 : Hid (∀ (i : Nat) (v : V), vals[i]? = some v → (vals.map V.cells)[i]? = some v.cells) := fun i v h => by rw [List.getElem?_map, h]; rfl
  have hcl := (List.getElem?_eq_some_iff.1 hy).1
  generalize xs.map Sl.cells = XS at *
  generalize xc.map encC = XC at *
  generalize vals.map V.cells = WS at *
  generalize names.map encS = NS at *
  by_cases hk : Lib.idxOfS names y.name < 0
  · rw [if_pos hk, decide_eq_true hk, Bool.true_and]
    generalize Lib.idxOfS names y.name = k at *
    have hC := valCopyF y.dv.nodes y.dv (Nat.le_refl _) (by omega)
    clear hy hil hc3 hv hn
    cases y with
    | mk snm ty rq dv =>
    cases dv with
    | mk kk n sv lv =>
    dsimp only at hI hC ⊢
    rw [Sl.cells_mk] at h1
    rw [V.cells_mk] at hC ⊢
    replace hI := Lib.hid hI
    replace hC := Lib.hid hC
    cases lk with
    | true =>
      rw [Bool.true_or]
      refine trF_enterC (G := cellA 6 24 Try.prog) Try.func62 rfl (by rw [Try.ntmps62]; exact Nat.le_of_ble_eq_true rfl) (fun h1 h2 h3 => res_cell rfl h1 h2 h3) ?_
      simp only [Try.ntmps62]
      repeat' (first | with_reducible refine Go1.go ?_ | ((with_reducible apply ev_go); (focus ((try simp (disch := omega) only [push_cast, simprocAttr, *]); (try exact rfl); done))) | ((with_reducible refine w_drawRN ?_ ?_ ?_ ?_); (iterate 3 (focus kernel_rfl)); intro hne; simp only [nes, ne1, and_assoc] at hne; repeat (have hq := hne.1; replace hne := hne.2)) | ((with_reducible refine w_last ?_ ?_ ?_); kernel_rfl; rfl) | with_reducible refine Go2.go ?_ | ((with_reducible first | apply w_stepG | refine s_bi ?_ ?_ | refine blk_ne ?_ ?_); rfl) | ((with_reducible refine al_go ?_); intro b) | ((with_reducible apply (ck_le Try.call63)); exact LEL.refl _; exact hI.out _) | ((with_reducible apply (ck_le Try.call59)); exact LEL.refl _; exact hC.out _) | ((with_reducible first | refine w_region ?_ ?_ | refine w_dra ?_ ?_); kernel_rfl) | ((with_reducible refine Go3.go ?_ ?_); all_goals (intro hb; (try with_reducible intro hb1); (try (exfalso; first | contradiction | omega)))) | fail)
      all_goals (refine retC_cell (by simp) (by first | rfl | assumption) (by simp (disch := omega) only [push_cast, simprocAttr, *]; exact rfl) (by repeat (first | exact mm_h | apply mm_t)) (by simp (disch := omega) only [push_cast, simprocAttr, *]; exact rfl) (by (try simp (disch := omega) only [push_cast, simprocAttr, *]); (try exact rfl); done) (by (repeat (first | exact List.Sublist.refl _ | apply List.Sublist.cons))) ?_ ⟨rfl, rfl⟩; (try simp (disch := omega) only [push_cast, simprocAttr, *]); try (first | exact LE.refl _ | exact LE.sl _ _ | ((first | refine LE.tup ?_ | refine LE.agg ?_); (repeat' (first | exact LEL.nil | refine LEL.cons ?_ ?_ | exact LE.refl _ | exact LE.sl _ _ | refine LE.agg ?_)); done) | refine LE.of_eq ?_))
    | false =>
      rw [Bool.false_or]
      refine trF_enterC (G := cellA 6 24 Try.prog) Try.func62 rfl (by rw [Try.ntmps62]; exact Nat.le_of_ble_eq_true rfl) (fun h1 h2 h3 => res_cell rfl h1 h2 h3) ?_
      simp only [Try.ntmps62]
      repeat' (first | with_reducible refine Go1.go ?_ | ((with_reducible apply ev_go); (focus ((try simp (disch := omega) only [push_cast, simprocAttr, *]); (try exact rfl); done))) | ((with_reducible refine w_drawRN ?_ ?_ ?_ ?_); (iterate 3 (focus kernel_rfl)); intro hne; simp only [nes, ne1, and_assoc] at hne; repeat (have hq := hne.1; replace hne := hne.2)) | ((with_reducible refine w_last ?_ ?_ ?_); kernel_rfl; rfl) | with_reducible refine Go2.go ?_ | ((with_reducible first | apply w_stepG | refine s_bi ?_ ?_ | refine blk_ne ?_ ?_); rfl) | ((with_reducible refine al_go ?_); intro b) | ((with_reducible apply (ck_le Try.call63)); exact LEL.refl _; exact hI.out _) | ((with_reducible apply (ck_le Try.call59)); exact LEL.refl _; exact hC.out _) | ((with_reducible first | refine w_region ?_ ?_ | refine w_dra ?_ ?_); kernel_rfl) | ((with_reducible refine Go3.go ?_ ?_); all_goals (intro hb; (try with_reducible intro hb1); (try (exfalso; first | contradiction | omega)))) | fail)
      all_goals (refine retC_cell (by simp) (by first | rfl | assumption) (by simp (disch := omega) only [push_cast, simprocAttr, *]; exact rfl) (by repeat (first | exact mm_h | apply mm_t)) (by simp (disch := omega) only [push_cast, simprocAttr, *]; exact rfl) (by (try simp (disch := omega) only [push_cast, simprocAttr, *]); (try exact rfl); done) (by (repeat (first | exact List.Sublist.refl _ | apply List.Sublist.cons))) ?_ ⟨rfl, rfl⟩; (try simp (disch := omega) only [push_cast, simprocAttr, *]); try (first | exact LE.refl _ | exact LE.sl _ _ | ((first | refine LE.tup ?_ | refine LE.agg ?_); (repeat' (first | exact LEL.nil | refine LEL.cons ?_ ?_ | exact LE.refl _ | exact LE.sl _ _ | refine LE.agg ?_)); done) | refine LE.of_eq ?_))
  · rw [if_neg hk, decide_eq_false hk, Bool.false_and, Bool.or_false]
    have hkl := hil (by omega)
    generalize Lib.idxOfS names y.name = K at *
    obtain ⟨k, rfl⟩ := Int.eq_ofNat_of_zero_le (show 0 ≤ K by omega)
    rw [Int.toNat_natCast] at *
    obtain ⟨u, hu⟩ : ∃ u, vals[k]? = some u := ⟨_, List.getElem?_eq_getElem hkl⟩
    rw [List.getD_eq_getElem?_getD, hu, Option.getD_some]
    have h2 := hc3.out k u hu
    have hun := hv u (List.mem_of_getElem? hu)
    have hC := valCopyF u.nodes u (Nat.le_refl _) (by omega)
    clear hy hil hc3 hv hn hu hk
    cases y with
    | mk snm ty rq dv =>
    cases dv with
    | mk kk n sv lv =>
    cases u with
    | mk k' n' sv' lv' =>
    dsimp only at hI hC ⊢
    rw [Sl.cells_mk] at h1
    rw [V.cells_mk] at hC h2 ⊢
    replace hI := Lib.hid hI
    replace hC := Lib.hid hC
    refine trF_enterC (G := cellA 6 24 Try.prog) Try.func62 rfl (by rw [Try.ntmps62]; exact Nat.le_of_ble_eq_true rfl) (fun h1 h2 h3 => res_cell rfl h1 h2 h3) ?_
    simp only [Try.ntmps62]
    repeat' (first | with_reducible refine Go1.go ?_ | ((with_reducible apply ev_go); (focus ((try simp (disch := omega) only [push_cast, simprocAttr, *]); (try exact rfl); done))) | ((with_reducible refine w_drawRN ?_ ?_ ?_ ?_); (iterate 3 (focus kernel_rfl)); intro hne; simp only [nes, ne1, and_assoc] at hne; repeat (have hq := hne.1; replace hne := hne.2)) | ((with_reducible refine w_last ?_ ?_ ?_); kernel_rfl; rfl) | with_reducible refine Go2.go ?_ | ((with_reducible first | apply w_stepG | refine s_bi ?_ ?_ | refine blk_ne ?_ ?_); rfl) | ((with_reducible refine al_go ?_); intro b) | ((with_reducible apply (ck_le Try.call63)); exact LEL.refl _; exact hI.out _) | ((with_reducible apply (ck_le Try.call59)); exact LEL.refl _; exact hC.out _) | ((with_reducible first | refine w_region ?_ ?_ | refine w_dra ?_ ?_); kernel_rfl) | ((with_reducible refine Go3.go ?_ ?_); all_goals (intro hb; (try with_reducible intro hb1); (try (exfalso; first | contradiction | omega)))) | fail)
    all_goals (refine retC_cell (by simp) (by first | rfl | assumption) (by simp (disch := omega) only [push_cast, simprocAttr, *]; exact rfl) (by repeat (first | exact mm_h | apply mm_t)) (by simp (disch := omega) only [push_cast, simprocAttr, *]; exact rfl) (by (try simp (disch := omega) only [push_cast, simprocAttr, *]); (try exact rfl); done) (by (repeat (first | exact List.Sublist.refl _ | apply List.Sublist.cons))) ?_ ⟨rfl, rfl⟩; (try simp (disch := omega) only [push_cast, simprocAttr, *]); try (first | exact LE.refl _ | exact LE.sl _ _ | ((first | refine LE.tup ?_ | refine LE.agg ?_); (repeat' (first | exact LEL.nil | refine LEL.cons ?_ ?_ | exact LE.refl _ | exact LE.sl _ _ | refine LE.agg ?_)); done) | refine LE.of_eq ?_))
theorem recGather2F (b10 b15 : Nat) (names : List ByteArray) (vals : List V) (xs : List Sl) (xc : List Nat) (hcs : ∀ c ∈ xc, c < xs.length) (hlen : names.length = vals.length) (hv : ∀ u ∈ vals, u.nodes ≤ 1000) (hn : ∀ y ∈ xs, y.dv.nodes ≤ 1000) (hl : xc.length ≤ 1000) (ys : List Sl) (hys : ys = xc.filterMap fun c => xs[c]?) (st : St) :
    TrF Try.prog 61 [.sl .shared (xc.map encC), .fn (.func 62) [] [.ip [.sl .shared (names.map encS)], .ptr b10 0, .ptr b15 0, .ip [.sl .shared (vals.map V.cells)]]] (.box b15 4 [.b false] :: .box b10 38 [.sl .shared (xs.map Sl.cells), .sl .shared (xc.map encC)] :: st)
      fun d st' => ∃ g cap zs, (valC (ys.map (Sch.getV names vals)) ++ zs).length = cap * 4 ∧ d = .ar g 0 xc.length cap ∧ st' = .box b15 4 [.b (ys.any (Sch.lackV names))] :: .box b10 38 [.sl .shared (xs.map Sl.cells), .sl .shared (xc.map encC)] :: .box g 24 (valC (ys.map (Sch.getV names vals)) ++ zs) :: st := by
  have hyl : ∀ (i c : Nat), xc[i]? = some c → ∃ y, xs[c]? = some y ∧ ys[i]? = some y ∧ y.dv.nodes ≤ 1000 := by
    subst hys
    clear hl hlen hv
    induction xc with
    | nil => intro i c h; cases h
    | cons a l ih =>
      intro i c h
      obtain ⟨z, hz⟩ : ∃ z, xs[a]? = some z := ⟨_, List.getElem?_eq_getElem (hcs a (List.mem_cons_self ..))⟩
      rw [List.filterMap_cons, hz]
      cases i with
      | zero =>
        cases h
        exact ⟨z, hz, rfl, hn z (List.mem_of_getElem? hz)⟩
      | succ i => exact ih (fun c hc => hcs c (List.mem_cons_of_mem _ hc)) i c h
  have hyll : ys.length = xc.length := by
    subst hys
    clear hl hlen hv hyl
    induction xc with
    | nil => rfl
    | cons a l ih =>
      obtain ⟨z, hz⟩ : ∃ z, xs[a]? = some z := ⟨_, List.getElem?_eq_getElem (hcs a (List.mem_cons_self ..))⟩
      rw [List.filterMap_cons, hz, List.length_cons, List.length_cons, ih (fun c hc => hcs c (List.mem_cons_of_mem _ hc))]
  have hcall : Hid (∀ (i c : Nat), xc[i]? = some c → ∃ u : V, valC ((ys.map (Sch.getV names vals)).take (i + 1)) = valC ((ys.map (Sch.getV names vals)).take i) ++ [u.cells].flatten ∧ ∀ st, TrF Try.prog 62 [.i c, .ip [.sl .shared (names.map encS)], .ptr b10 0, .ptr b15 0, .ip [.sl .shared (vals.map V.cells)]] (.box b15 4 [.b ((ys.take i).any (Sch.lackV names))] :: .box b10 38 [.sl .shared (xs.map Sl.cells), .sl .shared (xc.map encC)] :: st)
      fun d st' => d = .agg u.cells ∧ st' = .box b15 4 [.b ((ys.take (i + 1)).any (Sch.lackV names))] :: .box b10 38 [.sl .shared (xs.map Sl.cells), .sl .shared (xc.map encC)] :: st) := fun i c hc => by
    obtain ⟨y, h1, h2, h3⟩ := hyl i c hc
    refine ⟨Sch.getV names vals y, ?_, fun st => ?_⟩
    · rw [take_snoc' (x := Sch.getV names vals y) (by rw [List.getElem?_map, h2]; rfl), valC_add]
    · have := recFill1F b10 b15 names vals xs xc c y h1 hlen hv h3 ((ys.take i).any (Sch.lackV names)) st
      rw [take_snoc' h2, List.any_append, List.any_cons, List.any_nil, Bool.or_false]
      exact this
  have htl : Hid (∀ i : Nat, i ≤ xc.length → (valC ((ys.map (Sch.getV names vals)).take i)).length = i * 4) := fun i hi => by
    rw [valC_len, List.length_take, List.length_map, hyll, Nat.min_eq_left hi]
  have hc2 : Hid (∀ (i c : Nat), xc[i]? = some c → (xc.map encC)[i]? = some [.i c]) := fun i s h => by rw [List.getElem?_map, h]; rfl
  have hm2 : (xc.map encC).length = xc.length := List.length_map ..
  obtain ⟨VT, hVT⟩ : ∃ VT : Nat → List D, (fun i : Nat => valC ((ys.map (Sch.getV names vals)).take i)) = VT := ⟨_, rfl⟩
  obtain ⟨LT, hLT⟩ : ∃ LT : Nat → Bool, (fun i : Nat => (ys.take i).any (Sch.lackV names)) = LT := ⟨_, rfl⟩
  have hVi : ∀ i, valC ((ys.map (Sch.getV names vals)).take i) = VT i := fun i => by rw [← hVT]
  have hLi : ∀ i, (ys.take i).any (Sch.lackV names) = LT i := fun i => by rw [← hLT]
  have hV0 : VT 0 = [] := by rw [← hVT]; rfl
  have hL0 : LT 0 = false := by rw [← hLT]; rfl
  have hVn : valC (ys.map (Sch.getV names vals)) = VT xc.length := by rw [← hVi, List.take_of_length_le (by rw [List.length_map]; omega)]
  have hLn : ys.any (Sch.lackV names) = LT xc.length := by rw [← hLi, List.take_of_length_le (by omega)]
  rw [hVn, hLn]
  have hcall' : Hid (∀ (i c : Nat), xc[i]? = some c → ∃ u : V, VT (i + 1) = VT i ++ [u.cells].flatten ∧ ∀ st, TrF Try.prog 62 [.i c, .ip [.sl .shared (names.map encS)], .ptr b10 0, .ptr b15 0, .ip [.sl .shared (vals.map V.cells)]] (.box b15 4 [.b (LT i)] :: .box b10 38 [.sl .shared (xs.map Sl.cells), .sl .shared (xc.map encC)] :: st)
      fun d st' => d = .agg u.cells ∧ st' = .box b15 4 [.b (LT (i + 1))] :: .box b10 38 [.sl .shared (xs.map Sl.cells), .sl .shared (xc.map encC)] :: st) := fun i c hc => by
    obtain ⟨u, h1, h2⟩ := hcall.out i c hc
    refine ⟨u, ?_, fun st => ?_⟩
    · rw [← hVi, ← hVi]; exact h1
    · rw [← hLi, ← hLi]; exact h2 st
  have htl' : Hid (∀ i : Nat, i ≤ xc.length → (VT i).length = i * 4) := fun i hi => by rw [← hVi]; exact htl.out i hi
  have hV0' := Lib.hid hV0
  have hL0' := Lib.hid hL0
  clear hys hyl hyll hcall htl hVT hLT hVi hLi hV0 hL0 hVn hLn hcs hv hn hlen
  generalize xs.map Sl.cells = XS at *
  generalize xc.map encC = XC at *
  generalize vals.map V.cells = WS at *
  generalize names.map encS = NS at *
  rw [show false = LT 0 from hL0'.out.symm]
  refine trF_enter (ts := [4]) Try.func61 rfl (by rw [Try.ntmps61]; exact Nat.le_of_ble_eq_true rfl) (fun tmps w => by simp [results, Try.results61, go_sem, resVal]) ?_
  simp only [Try.ntmps61]
  repeat' (first | with_reducible refine Go1.go ?_ | ((with_reducible apply ev_go); (focus ((try simp (disch := omega) only [push_cast, simprocAttr, *]); (try exact rfl); done))) | with_reducible refine s_make0 ?_ | ((with_reducible apply mk0_go); (focus omega); (focus omega); intro g zs hzs) | ((with_reducible refine w_last ?_ ?_ ?_); kernel_rfl; rfl) | with_reducible refine Go2.go ?_ | ((with_reducible first | apply w_stepG | refine s_bi ?_ ?_ | refine blk_ne ?_ ?_); rfl) | ((with_reducible refine al_go ?_); intro b) | ((with_reducible first | refine w_region ?_ ?_ | refine w_dra ?_ ?_); kernel_rfl) | ((with_reducible refine Go3.go ?_ ?_); all_goals (intro hb; (try with_reducible intro hb1); (try (exfalso; first | contradiction | omega)))) | fail)
  refine tr_perm (st' := .box b15 4 [.b (LT 0)] :: .box b10 38 [.sl .shared XS, .sl .shared XC] :: .box g 24 zs :: st) (by show List.Perm (.box g 24 zs :: .box b15 4 [.b (LT 0)] :: .box b10 38 [.sl .shared XS, .sl .shared XC] :: st) _; (repeat (first | exact List.Perm.refl _ | refine perm_cons_out (by repeat (first | exact out_here | apply out_there)) ?_))) ?_
  refine tr_loopd (ι := Nat) (fun i A st' => i ≤ xc.length ∧ A.df = [] ∧ A.e 1 = .fn (.func 62) [] [.ip [.sl .shared NS], .ptr b10 0, .ptr b15 0, .ip [.sl .shared WS]] ∧ A.e 11 = .sl .shared XC ∧ A.e 12 = .i xc.length ∧ A.e 13 = .i i ∧ ∃ g cap zs, (VT i ++ zs).length = cap * 4 ∧ i ≤ cap ∧ A.e 5 = .ar g 0 i cap ∧ st' = .box b15 4 [.b (LT i)] :: .box b10 38 [.sl .shared XS, .sl .shared XC] :: .box g 24 (VT i ++ zs) :: st) (fun i => xc.length - i) 0 ⟨Nat.zero_le _, ?_, ?_, ?_, ?_, ?_, g, xc.length, zs, by rw [hV0'.out, List.nil_append, hzs], Nat.zero_le _, ?_, by rw [hV0'.out]; rfl⟩ ?_
  iterate 6 (focus (first | rfl | assumption | omega | (simp (disch := omega) only [push_cast, simprocAttr, *]; try omega; done)))
  rintro i A st' ⟨hi, hdf, e1, e11, e12, e13, g, cap, zs, hz, hic, e5, rfl⟩
  have hds := htl'.out i hi
  by_cases hlt : i < xc.length
  · obtain ⟨c, hc⟩ : ∃ c, xc[i]? = some c := ⟨_, List.getElem?_eq_getElem hlt⟩
    have h2 := hc2.out i c hc
    obtain ⟨u, hT, hG⟩ := hcall'.out i c hc
    replace hT := Lib.hid hT
    clear hc
    cases u with
    | mk k' n' sv' lv' =>
    rw [V.cells_mk] at hG hT
    replace hG := Lib.hid hG
    generalize LT i = l1 at *
    generalize hl2 : LT (i + 1) = l2 at *
    replace hl2 := Lib.hid hl2
    repeat' (first | with_reducible refine Go1.go ?_ | ((with_reducible apply ev_go); (focus ((try simp (disch := omega) only [push_cast, simprocAttr, *]); (try exact rfl); done))) | with_reducible refine s_appR ?_ | with_reducible refine rk_go ?_ | ((with_reducible apply (r2_go hds hz)); (focus (intro g' cs'; repeat (first | exact ra_h | apply ra_t))); (focus exact len_one rfl); (iterate 2 (focus (simp only [List.length_cons, List.length_nil]; omega))); intro g' cap' zs' hc' hz') | ((with_reducible refine w_last ?_ ?_ ?_); kernel_rfl; rfl) | with_reducible refine Go2.go ?_ | ((with_reducible first | apply w_stepG | refine s_bi ?_ ?_ | refine blk_ne ?_ ?_); rfl) | ((with_reducible refine al_go ?_); intro b) | ((with_reducible apply (ck_le Try.call62)); exact LEL.refl _; exact hG.out _) | ((with_reducible first | refine w_region ?_ ?_ | refine w_dra ?_ ?_); kernel_rfl) | ((with_reducible refine Go3.go ?_ ?_); all_goals (intro hb; (try with_reducible intro hb1); (try (exfalso; first | contradiction | omega)))) | fail)
    refine ⟨i + 1, .box b15 4 [.b l2] :: .box b10 38 [.sl .shared XS, .sl .shared XC] :: .box g' 24 (VT (i + 1) ++ zs') :: st, ?_, ⟨hlt, ?_, ?_, ?_, ?_, ?_, g', cap', zs', ?_, hc', ?_, by rw [hl2.out]⟩, by omega⟩
    · rw [hT.out]
      (repeat (first | exact List.Sublist.refl _ | with_reducible apply List.Sublist.cons_cons | apply List.Sublist.cons))
    · (first | rfl | assumption | omega | (simp (disch := omega) only [push_cast, simprocAttr, *]; try omega; done))
    · (first | rfl | assumption | omega | (simp (disch := omega) only [push_cast, simprocAttr, *]; try omega; done))
    · (first | rfl | assumption | omega | (simp (disch := omega) only [push_cast, simprocAttr, *]; try omega; done))
    · (first | rfl | assumption | omega | (simp (disch := omega) only [push_cast, simprocAttr, *]; try omega; done))
    · (first | rfl | assumption | omega | (simp (disch := omega) only [push_cast, simprocAttr, *]; try omega; done))
    · rw [hT.out]; exact hz'
    · (first | rfl | assumption | omega | (simp (disch := omega) only [push_cast, simprocAttr, *]; try omega; done))
  · have hil : i = xc.length := by omega
    subst hil
    repeat' (first | with_reducible refine Go1.go ?_ | ((with_reducible apply ev_go); (focus ((try simp (disch := omega) only [push_cast, simprocAttr, *]); (try exact rfl); done))) | ((with_reducible refine w_last ?_ ?_ ?_); kernel_rfl; rfl) | with_reducible refine Go2.go ?_ | ((with_reducible first | apply w_stepG | refine s_bi ?_ ?_ | refine blk_ne ?_ ?_); rfl) | ((with_reducible refine al_go ?_); intro b) | ((with_reducible first | refine w_region ?_ ?_ | refine w_dra ?_ ?_); kernel_rfl) | ((with_reducible refine Go3.go ?_ ?_); all_goals (intro hb; (try with_reducible intro hb1); (try (exfalso; first | contradiction | omega)))) | fail)
    all_goals (refine retA_mk (by first | exact .inl rfl | exact .inr rfl) (by first | rfl | assumption) (List.Sublist.refl _) (LE.of_eq ?_) ⟨g, cap, zs, hz, rfl, rfl⟩; simp (disch := omega) only [push_cast, simprocAttr, *])
end Go.Proofs.Ytooaagmhgakhgaa
end

section
namespace Go.Proofs.Ytooaagmhgakhgaa
set_option linter.unusedSimpArgs false
attribute [local push_cast] encB encI encC encS V.cells_mk V.cells_len Nat.mul_one Int.sub_zero List.map_nil beq_self_eq_true List.head?_cons List.drop_zero Nat.sub_zero Int.toNat_natCast
open Go.RowKit
set_option maxRecDepth 10000
set_option maxHeartbeats 8000000
def FillRaw (L : Bool) (out : List V) (n : Nat) (st : St) (d : D) (st' : St) : Prop :=
  (L = true ∧ d = .tup [.sl .shared [], .i 9] ∧ st' = st) ∨ (L = false ∧ ∃ g cap zs, (valC out ++ zs).length = cap * 4 ∧ d = .tup [.ar g 0 n cap, .i 0] ∧ st' = .box g 24 (valC out ++ zs) :: st)
theorem recFillRawF (t : Tm) (ht : TOk t) (v : Int) (names : List ByteArray) (vals : List V) (x : Vr) (hx : x = Sch.verX t v) (he : Sch.verE t v = 0) (hcs : ∀ c ∈ x.cols, c < x.slots.length) (hxl : x.slots.length ≤ 16) (hcl : x.cols.length ≤ 8) (hdv : ∀ s ∈ x.slots, s.dv.nodes ≤ 1000) (hlen : names.length = vals.length) (hv : ∀ u ∈ vals, u.nodes ≤ 1000) (hl9 : names.length ≤ 1000000)
    (hk : ∀ (k : Nat) (s : ByteArray) (u : V), names[k]? = some s → vals[k]? = some u → ∃ (c : Nat) (y : Sl), Sch.colL x.slots s x.cols = c ∧ x.slots[c]? = some y ∧ Sch.fits y u = true ∧ Lib.containsS (names.take k) s = false)
    (ys : List Sl) (hys : ys = x.cols.filterMap fun c => x.slots[c]?) (L : Bool) (hL : L = ys.any (Sch.lackV names)) (st : St) :
    TrF Try.prog 34 [.agg t.cells, .i v, .sl .shared (names.map encS), .sl .shared (vals.map V.cells)] st (FillRaw L (ys.map (Sch.getV names vals)) x.cols.length st) := by
  have hV := recVersionF t ht v
  rw [← hx, he] at hV
  have hG := fun b10 b15 st => recGather2F b10 b15 names vals x.slots x.cols hcs hlen hv hdv (by omega) ys hys st
  have hE : ∀ b10 b15 st, ∃ (d : D) (st' : St), ∃ (g cap : Nat) (zs : List D), (valC (ys.map (Sch.getV names vals)) ++ zs).length = cap * 4 ∧ d = .ar g 0 x.cols.length cap ∧ st' = .box b15 4 [.b (ys.any (Sch.lackV names))] :: .box b10 38 [.sl .shared (x.slots.map Sl.cells), .sl .shared (x.cols.map encC)] :: .box g 24 (valC (ys.map (Sch.getV names vals)) ++ zs) :: st := fun b10 b15 st => ⟨_, _, 0, (ys.map (Sch.getV names vals)).length, [], by rw [List.append_nil, valC_len], rfl, rfl⟩
  have hCol := fun (s : ByteArray) => schColF x.slots x.cols s (by omega) (by omega)
  have hFit := fun (nm : ByteArray) (ty : Int) (rq : Bool) (dv u : V) (h : u.nodes ≤ 4611686018427387904) => schFitsF nm ty rq dv u h
  have hCon := fun (k : Nat) (s : ByteArray) (o : Own) => containsSF o (names.take k) s
  rw [← hL] at hG hE
  unfold FillRaw
  generalize valC (ys.map (Sch.getV names vals)) = VC at *
  clear hys hL hcs hdv hx he
  cases x with
  | mk xs xc =>
  unfold Tm.cells at *
  unfold Vr.cells at *
  dsimp only at *
  generalize t.slots.map Sl.cells = SL at *
  generalize t.steps.map Stp.cells = TL at *
  generalize t.name = nm at *
  have hm1 : (xs.map Sl.cells).length = xs.length := List.length_map ..
  have hm2 : (xc.map encC).length = xc.length := List.length_map ..
  have hm3 : (vals.map V.cells).length = names.length := by rw [List.length_map]; exact hlen.symm
  have hm4 : (names.map encS).length = names.length := List.length_map ..
  have hm5 : ((names.map encS).all fun e => e.length == 1) = true := by simp [encS]
  have hc1 : Hid (∀ (i : Nat) (s : Sl), xs[i]? = some s → (xs.map Sl.cells)[i]? = some s.cells) := fun i s h => by rw [List.getElem?_map, h]; rfl
  have hc3 : Hid (∀ (i : Nat) (v : V), vals[i]? = some v → (vals.map V.cells)[i]? = some v.cells) := fun i v h => by rw [List.getElem?_map, h]; rfl
  have hc4 : Hid (∀ (i : Nat) (s : ByteArray), names[i]? = some s → (names.map encS)[i]? = some [.str s]) := fun i s h => by rw [List.getElem?_map, h]; rfl
  have hCon2 : Hid (∀ (k : Nat) (s : ByteArray) (o : Own) (st : St), TrF Try.prog 60 [.sl o ((names.map encS).take k), .str s] st fun d st' => d = .b (Lib.containsS (names.take k) s) ∧ st' = st) := fun k s o st => by rw [← List.map_take]; exact hCon k s o st
  clear hCon
  generalize xs.map Sl.cells = XS at *
  generalize xc.map encC = XC at *
  generalize vals.map V.cells = WS at *
  generalize names.map encS = NS at *
  have hv2 := Lib.hid hv
  have hk2 := Lib.hid hk
  have hlen2 := Lib.hid hlen
  clear hv hk hlen
  replace hV := Lib.hid hV
  replace hG := Lib.hid hG
  replace hE := Lib.hid hE
  replace hCol := Lib.hid hCol
  replace hFit := Lib.hid hFit
  refine trF_enterG (G := twoA Try.prog (.tmp 8) (.tmp 9)) Try.func34 rfl (by rw [Try.ntmps34]; exact Nat.le_of_ble_eq_true rfl) (fun h1 h2 h3 => res_two rfl h1 h2 h3) ?_
  simp only [Try.ntmps34]
  repeat' (first | with_reducible refine Go1.go ?_ | ((with_reducible apply ev_go); (focus ((try simp (disch := omega) only [push_cast, simprocAttr, *]); (try exact rfl); done))) | ((with_reducible refine w_last ?_ ?_ ?_); kernel_rfl; rfl) | with_reducible refine Go2.go ?_ | ((with_reducible first | apply w_stepG | refine s_bi ?_ ?_ | refine blk_ne ?_ ?_); rfl) | ((with_reducible refine al_go ?_); intro b) | ((with_reducible apply (ck_le Try.call56)); exact LEL.refl _; exact hV.out _) | ((with_reducible apply a2_go); (focus (first | assumption | (intro h; cases h))); (focus (intro o'; repeat (first | exact ra_h | apply ra_t))); (iterate 2 (focus (first | assumption | exact len_nil | exact len_one rfl | (intro a ha; obtain ⟨x, -, rfl⟩ := List.mem_map.1 ha; first | rfl | simp) | (intro a ha; simp at ha; simp [ha])))); (iterate 2 (focus (first | omega | (simp only [List.length_map, List.length_cons, List.length_nil, List.length_append]; omega)))); intro o' ho') | ((with_reducible first | refine w_region ?_ ?_ | refine w_dra ?_ ?_); kernel_rfl) | ((with_reducible refine Go3.go ?_ ?_); all_goals (intro hb; (try with_reducible intro hb1); (try (exfalso; first | contradiction | omega)))) | fail)
  obtain ⟨b10, rfl⟩ : ∃ q, q = b := ⟨_, rfl⟩
  refine tr_loopd (ι := Nat) (fun i A st' => i ≤ names.length ∧ A.df = [] ∧ A.e 6 = .ip [.sl .shared NS] ∧ A.e 7 = .ip [.sl .shared WS] ∧ A.e 10 = .ptr b10 0 ∧ A.e 37 = .sl .shared NS ∧ A.e 38 = .i names.length ∧ A.e 39 = .i i ∧ st' = .box b10 38 [.sl .shared XS, .sl .shared XC] :: st) (fun i => names.length - i) 0 ⟨Nat.zero_le _, ?_, ?_, ?_, ?_, ?_, ?_, ?_, rfl⟩ ?_
  iterate 7 (focus (first | rfl | assumption | omega | (simp (disch := omega) only [push_cast, simprocAttr, *]; try omega; done)))
  rintro i A st' ⟨hi, hdf, e6, e7, e10, e37, e38, e39, rfl⟩
  by_cases hlt : i < names.length
  · obtain ⟨s, hs⟩ : ∃ s, names[i]? = some s := ⟨_, List.getElem?_eq_getElem hlt⟩
    obtain ⟨u, hu⟩ : ∃ u, vals[i]? = some u := ⟨_, List.getElem?_eq_getElem (by have := hlen2.out; omega)⟩
    obtain ⟨c, y, q1, q2, q3, q4⟩ := hk2.out i s u hs hu
    have h1 := hc1.out c y q2
    have h2 := hc3.out i u hu
    have h3 := hc4.out i s hs
    have hcn := (List.getElem?_eq_some_iff.1 q2).1
    have hun := hv2.out u (List.mem_of_getElem? hu)
    have hCo := hCol.out s
    have hCn := hCon2.out i s
    rw [q1] at hCo
    rw [q4] at hCn
    clear hs hu q1 q2 q4
    cases y with
    | mk snm ty rq dv =>
    have hF := hFit.out snm ty rq dv u (by omega)
    rw [q3] at hF
    clear q3 hun
    cases dv with
    | mk kk n sv lv =>
    cases u with
    | mk k' n' sv' lv' =>
    rw [Sl.cells_mk] at h1 hF
    rw [V.cells_mk] at h2 hF
    replace hF := Lib.hid hF
    replace hCo := Lib.hid hCo
    replace hCn := Lib.hid hCn
    repeat' (first | with_reducible refine Go1.go ?_ | ((with_reducible apply ev_go); (focus ((try simp (disch := omega) only [push_cast, simprocAttr, *]); (try exact rfl); done))) | ((with_reducible refine w_drawRN ?_ ?_ ?_ ?_); (iterate 3 (focus kernel_rfl)); intro hne; simp only [nes, ne1, and_assoc] at hne; repeat (have hq := hne.1; replace hne := hne.2)) | ((with_reducible refine w_last ?_ ?_ ?_); kernel_rfl; rfl) | with_reducible refine Go2.go ?_ | ((with_reducible first | apply w_stepG | refine s_bi ?_ ?_ | refine blk_ne ?_ ?_); rfl) | ((with_reducible refine al_go ?_); intro b) | ((with_reducible apply (ck_le Try.call38)); exact LEL.refl _; exact hCo.out _) | ((with_reducible apply (ck_le Try.call60)); exact LEL.refl _; exact hCn.out _ _) | ((with_reducible apply (ck_le Try.call13)); exact LEL.refl _; exact hF.out _) | ((with_reducible apply a2_go); (focus (first | assumption | (intro h; cases h))); (focus (intro o'; repeat (first | exact ra_h | apply ra_t))); (iterate 2 (focus (first | assumption | exact len_nil | exact len_one rfl | (intro a ha; obtain ⟨x, -, rfl⟩ := List.mem_map.1 ha; first | rfl | simp) | (intro a ha; simp at ha; simp [ha])))); (iterate 2 (focus (first | omega | (simp only [List.length_map, List.length_cons, List.length_nil, List.length_append]; omega)))); intro o' ho') | ((with_reducible first | refine w_region ?_ ?_ | refine w_dra ?_ ?_); kernel_rfl) | ((with_reducible refine Go3.go ?_ ?_); all_goals (intro hb; (try with_reducible intro hb1); (try (exfalso; first | contradiction | omega)))) | fail)
    refine ⟨i + 1, .box b10 38 [.sl .shared XS, .sl .shared XC] :: st, (by (repeat (first | exact List.Sublist.refl _ | apply List.Sublist.cons))), ⟨hlt, ?_, ?_, ?_, ?_, ?_, ?_, ?_, rfl⟩, by omega⟩
    all_goals (first | rfl | assumption | omega | (simp (disch := omega) only [push_cast, simprocAttr, *]; try omega; done))
  · cases L with
    | true =>
      repeat' (first | with_reducible refine Go1.go ?_ | ((with_reducible apply ev_go); (focus ((try simp (disch := omega) only [push_cast, simprocAttr, *]); (try exact rfl); done))) | ((with_reducible refine w_last ?_ ?_ ?_); kernel_rfl; rfl) | with_reducible refine Go2.go ?_ | ((with_reducible first | apply w_stepG | refine s_bi ?_ ?_ | refine blk_ne ?_ ?_); rfl) | ((with_reducible refine al_go ?_); intro b) | ((with_reducible apply (ck_gen Try.call61)); (focus exact List.Perm.refl _); (focus exact hG.out _ _ _); (focus exact LEL.refl _); (focus exact hE.out _ _ _); (rintro d st' ⟨g, cap, zs, hz, rfl, rfl⟩)) | ((with_reducible apply a2_go); (focus (first | assumption | (intro h; cases h))); (focus (intro o'; repeat (first | exact ra_h | apply ra_t))); (iterate 2 (focus (first | assumption | exact len_nil | exact len_one rfl | (intro a ha; obtain ⟨x, -, rfl⟩ := List.mem_map.1 ha; first | rfl | simp) | (intro a ha; simp at ha; simp [ha])))); (iterate 2 (focus (first | omega | (simp only [List.length_map, List.length_cons, List.length_nil, List.length_append]; omega)))); intro o' ho') | ((with_reducible first | refine w_region ?_ ?_ | refine w_dra ?_ ?_); kernel_rfl) | ((with_reducible refine Go3.go ?_ ?_); all_goals (intro hb; (try with_reducible intro hb1); (try (exfalso; first | contradiction | omega)))) | fail)
      all_goals (refine retG_mk (rs := []) (by first | exact .inl rfl | exact .inr rfl) (by first | rfl | assumption) (List.Perm.refl _) ⟨_, _, rfl, (by show _ = _; (try simp (disch := omega) only [push_cast, simprocAttr, *]); (try exact rfl); done), (by show _ = _; (try simp (disch := omega) only [push_cast, simprocAttr, *]); (try exact rfl); done)⟩ (by (repeat (first | exact List.Sublist.refl _ | with_reducible apply List.Sublist.cons_cons | apply List.Sublist.cons))) (LE.tup (l := [.sl .tight [], .i 9]) (l' := [.sl .shared [], .i 9]) ⟨LE.sl _ _, LE.refl _, trivial⟩) (.inl ⟨rfl, rfl, rfl⟩))
    | false =>
      repeat' (first | with_reducible refine Go1.go ?_ | ((with_reducible apply ev_go); (focus ((try simp (disch := omega) only [push_cast, simprocAttr, *]); (try exact rfl); done))) | ((with_reducible refine w_last ?_ ?_ ?_); kernel_rfl; rfl) | with_reducible refine Go2.go ?_ | ((with_reducible first | apply w_stepG | refine s_bi ?_ ?_ | refine blk_ne ?_ ?_); rfl) | ((with_reducible refine al_go ?_); intro b) | ((with_reducible apply (ck_gen Try.call61)); (focus exact List.Perm.refl _); (focus exact hG.out _ _ _); (focus exact LEL.refl _); (focus exact hE.out _ _ _); (rintro d st' ⟨g, cap, zs, hz, rfl, rfl⟩)) | ((with_reducible apply a2_go); (focus (first | assumption | (intro h; cases h))); (focus (intro o'; repeat (first | exact ra_h | apply ra_t))); (iterate 2 (focus (first | assumption | exact len_nil | exact len_one rfl | (intro a ha; obtain ⟨x, -, rfl⟩ := List.mem_map.1 ha; first | rfl | simp) | (intro a ha; simp at ha; simp [ha])))); (iterate 2 (focus (first | omega | (simp only [List.length_map, List.length_cons, List.length_nil, List.length_append]; omega)))); intro o' ho') | ((with_reducible first | refine w_region ?_ ?_ | refine w_dra ?_ ?_); kernel_rfl) | ((with_reducible refine Go3.go ?_ ?_); all_goals (intro hb; (try with_reducible intro hb1); (try (exfalso; first | contradiction | omega)))) | fail)
      all_goals (refine retG_mk (rs := []) (by first | exact .inl rfl | exact .inr rfl) (by first | rfl | assumption) (List.Perm.refl _) ⟨_, _, rfl, (by show _ = _; (try simp (disch := omega) only [push_cast, simprocAttr, *]); (try exact rfl); done), (by show _ = _; (try simp (disch := omega) only [push_cast, simprocAttr, *]); (try exact rfl); done)⟩ (st0 := .box g 24 (VC ++ zs) :: st) (by (repeat (first | exact List.Sublist.refl _ | with_reducible apply List.Sublist.cons_cons | apply List.Sublist.cons))) (LE.refl _) (.inr ⟨rfl, g, cap, zs, hz, rfl, rfl⟩))
end Go.Proofs.Ytooaagmhgakhgaa
end

section
namespace Go.Proofs.Ytooaagmhgakhgaa
set_option linter.unusedSimpArgs false
attribute [local push_cast] encB encI encC V.cells_mk V.cells_len Nat.mul_one Int.sub_zero List.map_nil beq_self_eq_true List.head?_cons
open Go.RowKit
set_option maxRecDepth 10000
set_option maxHeartbeats 8000000
theorem recRow1F (rv : Int) (rs : List V) (c : Nat) (u : V) (hu : rs[c]? = some u) (hn : u.nodes ≤ 1000000) (st : St) : TrF Try.prog 64 [.i c, .ip [.i rv, .sl .shared (rs.map V.cells)]] st fun d st' => d = .agg u.cells ∧ st' = st := by
  have h1 : (rs.map V.cells)[c]? = some u.cells := by rw [List.getElem?_map, hu]; rfl
  have hm : (rs.map V.cells).length = rs.length := List.length_map ..
  have hc := (List.getElem?_eq_some_iff.1 hu).1
  have hC := valCopyF u.nodes u (Nat.le_refl _) (by omega)
  clear hu hn
  generalize rs.map V.cells = RS at *
  cases u with
  | mk k n sv lv =>
  rw [V.cells_mk] at h1 hC
  rw [V.cells_mk]
  replace hC := Lib.hid hC
  refine trF_enterC (G := cellA 3 24 Try.prog) Try.func64 rfl (by rw [Try.ntmps64]; exact Nat.le_of_ble_eq_true rfl) (fun h1 h2 h3 => res_cell rfl h1 h2 h3) ?_
  simp only [Try.ntmps64]
  repeat' (first | with_reducible refine Go1.go ?_ | ((with_reducible apply ev_go); (focus ((try simp (disch := omega) only [push_cast, simprocAttr, *]); (try exact rfl); done))) | ((with_reducible refine w_last ?_ ?_ ?_); kernel_rfl; rfl) | with_reducible refine Go2.go ?_ | ((with_reducible first | apply w_stepG | refine s_bi ?_ ?_ | refine blk_ne ?_ ?_); rfl) | ((with_reducible refine al_go ?_); intro b) | ((with_reducible apply (ck_le Try.call59)); exact LEL.refl _; exact hC.out _) | ((with_reducible first | refine w_region ?_ ?_ | refine w_dra ?_ ?_); kernel_rfl) | ((with_reducible refine Go3.go ?_ ?_); all_goals (intro hb; (try with_reducible intro hb1); (try (exfalso; first | contradiction | omega)))) | fail)
  all_goals (refine retC_cell (by simp) (by first | rfl | assumption) (by simp (disch := omega) only [push_cast, simprocAttr, *]; exact rfl) (by repeat (first | exact mm_h | apply mm_t)) (by simp (disch := omega) only [push_cast, simprocAttr, *]; exact rfl) (by (try simp (disch := omega) only [push_cast, simprocAttr, *]); (try exact rfl); done) (by (repeat (first | exact List.Sublist.refl _ | apply List.Sublist.cons))) ?_ ⟨rfl, rfl⟩; (try simp (disch := omega) only [push_cast, simprocAttr, *]); try (first | exact LE.refl _ | exact LE.sl _ _ | ((first | refine LE.tup ?_ | refine LE.agg ?_); (repeat' (first | exact LEL.nil | refine LEL.cons ?_ ?_ | exact LE.refl _ | exact LE.sl _ _ | refine LE.agg ?_)); done) | refine LE.of_eq ?_))
theorem recGather3F (rv : Int) (rs : List V) (hn : ∀ v ∈ rs, v.nodes ≤ 1000000) (sl : List Nat) (hcs : ∀ c ∈ sl, c < rs.length) (hl : sl.length ≤ 1000) (st : St) : TrF Try.prog 61 [.sl .shared (sl.map encC), .fn (.func 64) [] [.ip [.i rv, .sl .shared (rs.map V.cells)]]] st (RowR (sl.map fun c : Nat => rs.getD c Sch.zeroV) st) := by
  unfold RowR
  have hc1 : Hid (∀ (i s : Nat), sl[i]? = some s → (sl.map encC)[i]? = some [.i s]) := fun i s h => by rw [List.getElem?_map, h]; rfl
  have hts : Hid (∀ (i s : Nat), sl[i]? = some s → valC ((sl.map fun c : Nat => rs.getD c Sch.zeroV).take (i + 1)) = valC ((sl.map fun c : Nat => rs.getD c Sch.zeroV).take i) ++ [(rs.getD s Sch.zeroV).cells].flatten) := fun i s h => by
    rw [take_snoc' (x := rs.getD s Sch.zeroV) (by rw [List.getElem?_map, h]; rfl), valC_add]
  have htl : Hid (∀ i : Nat, i ≤ sl.length → (valC ((sl.map fun c : Nat => rs.getD c Sch.zeroV).take i)).length = i * 4) := fun i hi => by
    rw [valC_len, List.length_take, List.length_map, Nat.min_eq_left hi]
  have hm1 : (sl.map encC).length = sl.length := List.length_map ..
  have hv0 : Hid (valC ((sl.map fun c : Nat => rs.getD c Sch.zeroV).take 0) = []) := Lib.hid rfl
  have hvn : Hid (valC ((sl.map fun c : Nat => rs.getD c Sch.zeroV).take sl.length) = valC (sl.map fun c : Nat => rs.getD c Sch.zeroV)) := Lib.hid (by rw [List.take_of_length_le (by rw [List.length_map]; exact Nat.le_refl _)])
  have hln : Hid ((sl.map fun c : Nat => rs.getD c Sch.zeroV).length = sl.length) := Lib.hid (List.length_map ..)
  have hn2 := Lib.hid hn
  clear hn
  have hcs2 := Lib.hid hcs
  clear hcs
  generalize sl.map encC = XS at *
  obtain ⟨RS, hRS⟩ : ∃ RS, rs.map V.cells = RS := ⟨_, rfl⟩
  have h1F := fun (c : Nat) (u : V) (h : rs[c]? = some u) => recRow1F rv rs c u h (hn2.out u (List.mem_of_getElem? h))
  rw [hRS] at h1F ⊢
  replace h1F := Lib.hid h1F
  replace hRS := Lib.hid hRS
  generalize hVT : (fun i : Nat => valC ((sl.map fun c : Nat => rs.getD c Sch.zeroV).take i)) = VT at *
  have hts' : Hid (∀ (i s : Nat), sl[i]? = some s → VT (i + 1) = VT i ++ [(rs.getD s Sch.zeroV).cells].flatten) := Lib.hid (by rw [← hVT]; exact hts.out)
  have htl' : Hid (∀ i : Nat, i ≤ sl.length → (VT i).length = i * 4) := Lib.hid (by rw [← hVT]; exact htl.out)
  have hv0' : Hid (VT 0 = []) := Lib.hid (by rw [← hVT]; rfl)
  have hvn' : Hid (VT sl.length = valC (sl.map fun c : Nat => rs.getD c Sch.zeroV)) := Lib.hid (by rw [← hVT]; exact hvn.out)
  rw [hln.out, ← hvn'.out]
  clear hts htl hv0 hvn hln hvn' hVT
  refine trF_enter (ts := [4]) Try.func61 rfl (by rw [Try.ntmps61]; exact Nat.le_of_ble_eq_true rfl) (fun tmps w => by simp [results, Try.results61, go_sem, resVal]) ?_
  simp only [Try.ntmps61]
  repeat' (first | with_reducible refine Go1.go ?_ | ((with_reducible apply ev_go); (focus ((try simp (disch := omega) only [push_cast, simprocAttr, *]); (try exact rfl); done))) | with_reducible refine s_make0 ?_ | ((with_reducible apply mk0_go); (focus omega); (focus omega); intro g zs hzs) | ((with_reducible refine w_last ?_ ?_ ?_); kernel_rfl; rfl) | with_reducible refine Go2.go ?_ | ((with_reducible first | apply w_stepG | refine s_bi ?_ ?_ | refine blk_ne ?_ ?_); rfl) | ((with_reducible refine al_go ?_); intro b) | ((with_reducible first | refine w_region ?_ ?_ | refine w_dra ?_ ?_); kernel_rfl) | ((with_reducible refine Go3.go ?_ ?_); all_goals (intro hb; (try with_reducible intro hb1); (try (exfalso; first | contradiction | omega)))) | fail)
  refine tr_loopd (ι := Nat) (fun i A st' => i ≤ sl.length ∧ A.df = [] ∧ A.e 1 = .fn (.func 64) [] [.ip [.i rv, .sl .shared RS]] ∧ A.e 11 = .sl .shared XS ∧ A.e 12 = .i sl.length ∧ A.e 13 = .i i ∧ ∃ g cap zs, (VT i ++ zs).length = cap * 4 ∧ i ≤ cap ∧ A.e 5 = .ar g 0 i cap ∧ st' = .box g 24 (VT i ++ zs) :: st) (fun i => sl.length - i) 0 ⟨Nat.zero_le _, ?_, ?_, ?_, ?_, ?_, g, sl.length, zs, by rw [hv0'.out, List.nil_append, hzs], Nat.zero_le _, ?_, by rw [hv0'.out]; rfl⟩ ?_
  iterate 6 (focus (first | rfl | assumption | omega | (simp (disch := omega) only [push_cast, simprocAttr, *]; try omega; done)))
  rintro i A st' ⟨hi, hdf, e1, e11, e12, e13, g, cap, zs, hz, hic, e5, rfl⟩
  have hds := htl'.out i hi
  by_cases hlt : i < sl.length
  · obtain ⟨s, hs⟩ : ∃ s, sl[i]? = some s := ⟨_, List.getElem?_eq_getElem hlt⟩
    have h1 := hc1.out i s hs
    obtain ⟨u, hu⟩ : ∃ u, rs[s]? = some u := ⟨_, List.getElem?_eq_getElem (hcs2.out s (List.mem_of_getElem? hs))⟩
    have hG := h1F.out s u hu
    have hT := Lib.hid (hts'.out i s hs)
    rw [List.getD_eq_getElem?_getD, hu, Option.getD_some] at hT
    clear hs hu
    cases u with
    | mk k n sv lv =>
    rw [V.cells_mk] at hG hT
    replace hG := Lib.hid hG
    repeat' (first | with_reducible refine Go1.go ?_ | ((with_reducible apply ev_go); (focus ((try simp (disch := omega) only [push_cast, simprocAttr, *]); (try exact rfl); done))) | with_reducible refine s_appR ?_ | with_reducible refine rk_go ?_ | ((with_reducible apply (r2_go hds hz)); (focus (intro g' cs'; repeat (first | exact ra_h | apply ra_t))); (focus exact len_one rfl); (iterate 2 (focus (simp only [List.length_cons, List.length_nil]; omega))); intro g' cap' zs' hc' hz') | ((with_reducible refine w_last ?_ ?_ ?_); kernel_rfl; rfl) | with_reducible refine Go2.go ?_ | ((with_reducible first | apply w_stepG | refine s_bi ?_ ?_ | refine blk_ne ?_ ?_); rfl) | ((with_reducible refine al_go ?_); intro b) | ((with_reducible apply (ck_le Try.call64)); exact LEL.refl _; exact hG.out _) | ((with_reducible first | refine w_region ?_ ?_ | refine w_dra ?_ ?_); kernel_rfl) | ((with_reducible refine Go3.go ?_ ?_); all_goals (intro hb; (try with_reducible intro hb1); (try (exfalso; first | contradiction | omega)))) | fail)
    refine ⟨i + 1, .box g' 24 (VT (i + 1) ++ zs') :: st, ?_, ⟨hlt, ?_, ?_, ?_, ?_, ?_, g', cap', zs', ?_, hc', ?_, rfl⟩, by omega⟩
    · rw [hT.out]
      (repeat (first | exact List.Sublist.refl _ | with_reducible apply List.Sublist.cons_cons | apply List.Sublist.cons))
    · (first | rfl | assumption | omega | (simp (disch := omega) only [push_cast, simprocAttr, *]; try omega; done))
    · (first | rfl | assumption | omega | (simp (disch := omega) only [push_cast, simprocAttr, *]; try omega; done))
    · (first | rfl | assumption | omega | (simp (disch := omega) only [push_cast, simprocAttr, *]; try omega; done))
    · (first | rfl | assumption | omega | (simp (disch := omega) only [push_cast, simprocAttr, *]; try omega; done))
    · (first | rfl | assumption | omega | (simp (disch := omega) only [push_cast, simprocAttr, *]; try omega; done))
    · rw [hT.out]; exact hz'
    · (first | rfl | assumption | omega | (simp (disch := omega) only [push_cast, simprocAttr, *]; try omega; done))
  · have hil : i = sl.length := by omega
    subst hil
    repeat' (first | with_reducible refine Go1.go ?_ | ((with_reducible apply ev_go); (focus ((try simp (disch := omega) only [push_cast, simprocAttr, *]); (try exact rfl); done))) | ((with_reducible refine w_last ?_ ?_ ?_); kernel_rfl; rfl) | with_reducible refine Go2.go ?_ | ((with_reducible first | apply w_stepG | refine s_bi ?_ ?_ | refine blk_ne ?_ ?_); rfl) | ((with_reducible refine al_go ?_); intro b) | ((with_reducible first | refine w_region ?_ ?_ | refine w_dra ?_ ?_); kernel_rfl) | ((with_reducible refine Go3.go ?_ ?_); all_goals (intro hb; (try with_reducible intro hb1); (try (exfalso; first | contradiction | omega)))) | fail)
    all_goals (refine retA_mk (by first | exact .inl rfl | exact .inr rfl) (by first | rfl | assumption) (List.Sublist.refl _) (LE.of_eq ?_) ⟨g, cap, zs, hz, rfl, rfl⟩; simp (disch := omega) only [push_cast, simprocAttr, *])
theorem recGather4F (sl : List V) (hn : ∀ v ∈ sl, v.nodes ≤ 1000000) (hl : sl.length ≤ 1000) (st : St) : TrF Try.prog 81 [.sl .shared (sl.map V.cells), .fn (.func 59) [] []] st (RowR (sl.map fun s : V => s) st) := by
  unfold RowR
  have hc1 : Hid (∀ (i : Nat) (s : V), sl[i]? = some s → (sl.map V.cells)[i]? = some s.cells) := fun i s h => by rw [List.getElem?_map, h]; rfl
  have hts : Hid (∀ (i : Nat) (s : V), sl[i]? = some s → valC ((sl.map fun s : V => s).take (i + 1)) = valC ((sl.map fun s : V => s).take i) ++ [s.cells].flatten) := fun i s h => by
    rw [take_snoc' (x := s) (by rw [List.getElem?_map, h]; rfl), valC_add]
  have htl : Hid (∀ i : Nat, i ≤ sl.length → (valC ((sl.map fun s : V => s).take i)).length = i * 4) := fun i hi => by
    rw [valC_len, List.length_take, List.length_map, Nat.min_eq_left hi]
  have hm1 : (sl.map V.cells).length = sl.length := List.length_map ..
  have hv0 : Hid (valC ((sl.map fun s : V => s).take 0) = []) := Lib.hid rfl
  have hvn : Hid (valC ((sl.map fun s : V => s).take sl.length) = valC (sl.map fun s : V => s)) := Lib.hid (by rw [List.take_of_length_le (by rw [List.length_map]; exact Nat.le_refl _)])
  have hln : Hid ((sl.map fun s : V => s).length = sl.length) := Lib.hid (List.length_map ..)
  have hn2 := Lib.hid hn
  clear hn
  generalize sl.map V.cells = XS at *
  generalize hVT : (fun i : Nat => valC ((sl.map fun s : V => s).take i)) = VT at *
  have hts' : Hid (∀ (i : Nat) (s : V), sl[i]? = some s → VT (i + 1) = VT i ++ [s.cells].flatten) := Lib.hid (by rw [← hVT]; exact hts.out)
  have htl' : Hid (∀ i : Nat, i ≤ sl.length → (VT i).length = i * 4) := Lib.hid (by rw [← hVT]; exact htl.out)
  have hv0' : Hid (VT 0 = []) := Lib.hid (by rw [← hVT]; rfl)
  have hvn' : Hid (VT sl.length = valC (sl.map fun s : V => s)) := Lib.hid (by rw [← hVT]; exact hvn.out)
  rw [hln.out, ← hvn'.out]
  clear hts htl hv0 hvn hln hvn' hVT
  refine trF_enter (ts := [4]) Try.func81 rfl (by rw [Try.ntmps81]; exact Nat.le_of_ble_eq_true rfl) (fun tmps w => by simp [results, Try.results81, go_sem, resVal]) ?_
  simp only [Try.ntmps81]
  repeat' (first | with_reducible refine Go1.go ?_ | ((with_reducible apply ev_go); (focus ((try simp (disch := omega) only [push_cast, simprocAttr, *]); (try exact rfl); done))) | with_reducible refine s_make0 ?_ | ((with_reducible apply mk0_go); (focus omega); (focus omega); intro g zs hzs) | ((with_reducible refine w_last ?_ ?_ ?_); kernel_rfl; rfl) | with_reducible refine Go2.go ?_ | ((with_reducible first | apply w_stepG | refine s_bi ?_ ?_ | refine blk_ne ?_ ?_); rfl) | ((with_reducible refine al_go ?_); intro b) | ((with_reducible first | refine w_region ?_ ?_ | refine w_dra ?_ ?_); kernel_rfl) | ((with_reducible refine Go3.go ?_ ?_); all_goals (intro hb; (try with_reducible intro hb1); (try (exfalso; first | contradiction | omega)))) | fail)
  refine tr_loopd (ι := Nat) (fun i A st' => i ≤ sl.length ∧ A.df = [] ∧ A.e 1 = .fn (.func 59) [] [] ∧ A.e 11 = .sl .shared XS ∧ A.e 12 = .i sl.length ∧ A.e 13 = .i i ∧ ∃ g cap zs, (VT i ++ zs).length = cap * 4 ∧ i ≤ cap ∧ A.e 5 = .ar g 0 i cap ∧ st' = .box g 24 (VT i ++ zs) :: st) (fun i => sl.length - i) 0 ⟨Nat.zero_le _, ?_, ?_, ?_, ?_, ?_, g, sl.length, zs, by rw [hv0'.out, List.nil_append, hzs], Nat.zero_le _, ?_, by rw [hv0'.out]; rfl⟩ ?_
  iterate 6 (focus (first | rfl | assumption | omega | (simp (disch := omega) only [push_cast, simprocAttr, *]; try omega; done)))
  rintro i A st' ⟨hi, hdf, e1, e11, e12, e13, g, cap, zs, hz, hic, e5, rfl⟩
  have hds := htl'.out i hi
  by_cases hlt : i < sl.length
  · obtain ⟨s, hs⟩ : ∃ s, sl[i]? = some s := ⟨_, List.getElem?_eq_getElem hlt⟩
    have h1 := hc1.out i s hs
    have hsn := hn2.out s (List.mem_of_getElem? hs)
    have hG := valCopyF s.nodes s (Nat.le_refl _) (by omega)
    clear hsn
    have hT := Lib.hid (hts'.out i s hs)
    clear hs
    cases s with
    | mk k n sv lv =>
    rw [V.cells_mk] at h1 hG hT
    replace hG := Lib.hid hG
    repeat' (first | with_reducible refine Go1.go ?_ | ((with_reducible apply ev_go); (focus ((try simp (disch := omega) only [push_cast, simprocAttr, *]); (try exact rfl); done))) | with_reducible refine s_appR ?_ | with_reducible refine rk_go ?_ | ((with_reducible apply (r2_go hds hz)); (focus (intro g' cs'; repeat (first | exact ra_h | apply ra_t))); (focus exact len_one rfl); (iterate 2 (focus (simp only [List.length_cons, List.length_nil]; omega))); intro g' cap' zs' hc' hz') | ((with_reducible refine w_last ?_ ?_ ?_); kernel_rfl; rfl) | with_reducible refine Go2.go ?_ | ((with_reducible first | apply w_stepG | refine s_bi ?_ ?_ | refine blk_ne ?_ ?_); rfl) | ((with_reducible refine al_go ?_); intro b) | ((with_reducible apply (ck_le Try.call59)); exact LEL.refl _; exact hG.out _) | ((with_reducible first | refine w_region ?_ ?_ | refine w_dra ?_ ?_); kernel_rfl) | ((with_reducible refine Go3.go ?_ ?_); all_goals (intro hb; (try with_reducible intro hb1); (try (exfalso; first | contradiction | omega)))) | fail)
    refine ⟨i + 1, .box g' 24 (VT (i + 1) ++ zs') :: st, ?_, ⟨hlt, ?_, ?_, ?_, ?_, ?_, g', cap', zs', ?_, hc', ?_, rfl⟩, by omega⟩
    · rw [hT.out]
      (repeat (first | exact List.Sublist.refl _ | with_reducible apply List.Sublist.cons_cons | apply List.Sublist.cons))
    · (first | rfl | assumption | omega | (simp (disch := omega) only [push_cast, simprocAttr, *]; try omega; done))
    · (first | rfl | assumption | omega | (simp (disch := omega) only [push_cast, simprocAttr, *]; try omega; done))
    · (first | rfl | assumption | omega | (simp (disch := omega) only [push_cast, simprocAttr, *]; try omega; done))
    · (first | rfl | assumption | omega | (simp (disch := omega) only [push_cast, simprocAttr, *]; try omega; done))
    · (first | rfl | assumption | omega | (simp (disch := omega) only [push_cast, simprocAttr, *]; try omega; done))
    · rw [hT.out]; exact hz'
    · (first | rfl | assumption | omega | (simp (disch := omega) only [push_cast, simprocAttr, *]; try omega; done))
  · have hil : i = sl.length := by omega
    subst hil
    repeat' (first | with_reducible refine Go1.go ?_ | ((with_reducible apply ev_go); (focus ((try simp (disch := omega) only [push_cast, simprocAttr, *]); (try exact rfl); done))) | ((with_reducible refine w_last ?_ ?_ ?_); kernel_rfl; rfl) | with_reducible refine Go2.go ?_ | ((with_reducible first | apply w_stepG | refine s_bi ?_ ?_ | refine blk_ne ?_ ?_); rfl) | ((with_reducible refine al_go ?_); intro b) | ((with_reducible first | refine w_region ?_ ?_ | refine w_dra ?_ ?_); kernel_rfl) | ((with_reducible refine Go3.go ?_ ?_); all_goals (intro hb; (try with_reducible intro hb1); (try (exfalso; first | contradiction | omega)))) | fail)
    all_goals (refine retA_mk (by first | exact .inl rfl | exact .inr rfl) (by first | rfl | assumption) (List.Sublist.refl _) (LE.of_eq ?_) ⟨g, cap, zs, hz, rfl, rfl⟩; simp (disch := omega) only [push_cast, simprocAttr, *])
end Go.Proofs.Ytooaagmhgakhgaa
end

section
namespace Go.Proofs.Ytooaagmhgakhgaa
set_option linter.unusedSimpArgs false
attribute [local push_cast] encB encI encC V.cells_mk V.cells_len Nat.mul_one Int.sub_zero List.map_nil beq_self_eq_true bne_self_eq_false List.head?_cons
open Go.RowKit
set_option maxRecDepth 10000
set_option maxHeartbeats 8000000
namespace Sch
def eqL : List V → List V → Bool
  | [], [] => true
  | a :: l, b :: m => (a.cmp b == 0) && eqL l m
  | _, _ => false
theorem eqL_len : ∀ (a b : List V), eqL a b = true → a.length = b.length
  | [], [], _ => rfl
  | s :: a, v :: b, h => by
    rw [eqL, Bool.and_eq_true] at h
    rw [List.length_cons, List.length_cons, eqL_len a b h.2]
  | [], _ :: _, h => by cases h
  | _ :: _, [], h => by cases h
theorem eqL_drop {a b : List V} {i : Nat} {s v : V} (h1 : a[i]? = some s) (h2 : b[i]? = some v) : eqL (a.drop i) (b.drop i) = ((s.cmp v == 0) && eqL (a.drop (i + 1)) (b.drop (i + 1))) := by
  rw [V.drop_cons h1, V.drop_cons h2, eqL]
end Sch
theorem equalFuncF (a b : List V) (ha : ∀ v ∈ a, v.Sm) (hb : ∀ v ∈ b, v.Sm) (hl : a.length ≤ 1000000) (hlb : b.length ≤ 1000000) (st : St) : TrF Try.prog 82 [.sl .shared (a.map V.cells), .sl .shared (b.map V.cells), .fn (.func 83) [] []] st fun d st' => d = .b (Sch.eqL a b) ∧ st' = st := by
  obtain ⟨B, hB⟩ : ∃ B, Sch.eqL a b = B := ⟨_, rfl⟩
  rw [hB]
  have hm1 : (a.map V.cells).length = a.length := List.length_map ..
  have hm2 : (b.map V.cells).length = b.length := List.length_map ..
  have hc1 : Hid (∀ (i : Nat) (v : V), a[i]? = some v → (a.map V.cells)[i]? = some v.cells) := fun i v h => by rw [List.getElem?_map, h]; rfl
  have hc2 : Hid (∀ (i : Nat) (v : V), b[i]? = some v → (b.map V.cells)[i]? = some v.cells) := fun i v h => by rw [List.getElem?_map, h]; rfl
  have ha2 := Lib.hid ha
  have hb2 := Lib.hid hb
  clear ha hb
  generalize a.map V.cells = AS at *
  generalize b.map V.cells = BS at *
  by_cases hlen : a.length = b.length
  · have HB : Hid (Sch.eqL (a.drop 0) (b.drop 0) = B) := hB
    clear hB
    refine trF_enter (ts := [6]) Try.func82 rfl (by rw [Try.ntmps82]; exact Nat.le_of_ble_eq_true rfl) (fun tmps w => by simp [results, Try.results82, go_sem, resVal]) ?_
    simp only [Try.ntmps82]
    repeat' (first | with_reducible refine Go1.go ?_ | ((with_reducible apply ev_go); (focus ((try simp (disch := omega) only [push_cast, simprocAttr, *]); (try exact rfl); done))) | ((with_reducible refine w_last ?_ ?_ ?_); kernel_rfl; rfl) | with_reducible refine Go2.go ?_ | ((with_reducible first | apply w_stepG | refine s_bi ?_ ?_ | refine blk_ne ?_ ?_); rfl) | ((with_reducible refine al_go ?_); intro b) | ((with_reducible first | refine w_region ?_ ?_ | refine w_dra ?_ ?_); kernel_rfl) | ((with_reducible refine Go3.go ?_ ?_); all_goals (intro hb; (try with_reducible intro hb1); (try (exfalso; first | contradiction | omega)))) | fail)
    refine tr_loopd (ι := Nat) (fun i A st' => i ≤ a.length ∧ Hid (Sch.eqL (a.drop i) (b.drop i) = B) ∧ A.df = [] ∧ A.e 1 = .sl .shared BS ∧ A.e 2 = .fn (.func 83) [] [] ∧ A.e 15 = .sl .shared AS ∧ A.e 16 = .i a.length ∧ A.e 17 = .i i ∧ st = st') (fun i => a.length - i) 0 ⟨Nat.zero_le _, HB, ?_, ?_, ?_, ?_, ?_, ?_, rfl⟩ ?_
    iterate 6 (focus (first | rfl | assumption | omega | (simp (disch := omega) only [push_cast, simprocAttr, *]; try omega; done)))
    rintro i A st' ⟨hi, HT, hdf, e1, e2, e15, e16, e17, rfl⟩
    clear HB
    by_cases hlt : i < a.length
    · obtain ⟨s, hs⟩ : ∃ s, a[i]? = some s := ⟨_, List.getElem?_eq_getElem hlt⟩
      obtain ⟨v, hv⟩ : ∃ v, b[i]? = some v := ⟨_, List.getElem?_eq_getElem (by omega)⟩
      have HE := HT.out
      rw [Sch.eqL_drop hs hv] at HE
      have h1 := hc1.out i s hs
      have h2 := hc2.out i v hv
      have hF := valSameF s v (ha2.out s (List.mem_of_getElem? hs)) (hb2.out v (List.mem_of_getElem? hv))
      clear HT hs hv
      generalize (s.cmp v == 0) = q at *
      cases s with
      | mk k n sv lv =>
      cases v with
      | mk k' n' sv' lv' =>
      rw [V.cells_mk] at h1 hF
      rw [V.cells_mk] at h2 hF
      replace hF := Lib.hid hF
      cases q with
      | true =>
        rw [Bool.true_and] at HE
        replace HE := Lib.hid HE
        repeat' (first | with_reducible refine Go1.go ?_ | ((with_reducible apply ev_go); (focus ((try simp (disch := omega) only [push_cast, simprocAttr, *]); (try exact rfl); done))) | ((with_reducible refine w_last ?_ ?_ ?_); kernel_rfl; rfl) | with_reducible refine Go2.go ?_ | ((with_reducible first | apply w_stepG | refine s_bi ?_ ?_ | refine blk_ne ?_ ?_); rfl) | ((with_reducible refine al_go ?_); intro b) | ((with_reducible apply (ck_le Try.call83)); exact LEL.refl _; exact hF.out _) | ((with_reducible first | refine w_region ?_ ?_ | refine w_dra ?_ ?_); kernel_rfl) | ((with_reducible refine Go3.go ?_ ?_); all_goals (intro hb; (try with_reducible intro hb1); (try (exfalso; first | contradiction | omega)))) | fail)
        refine ⟨i + 1, st, (by (repeat (first | exact List.Sublist.refl _ | apply List.Sublist.cons))), ⟨hlt, HE, ?_, ?_, ?_, ?_, ?_, ?_, rfl⟩, by omega⟩
        all_goals (first | rfl | assumption | omega | (simp (disch := omega) only [push_cast, simprocAttr, *]; try omega; done))
      | false =>
        rw [Bool.false_and] at HE
        subst HE
        repeat' (first | with_reducible refine Go1.go ?_ | ((with_reducible apply ev_go); (focus ((try simp (disch := omega) only [push_cast, simprocAttr, *]); (try exact rfl); done))) | ((with_reducible refine w_last ?_ ?_ ?_); kernel_rfl; rfl) | with_reducible refine Go2.go ?_ | ((with_reducible first | apply w_stepG | refine s_bi ?_ ?_ | refine blk_ne ?_ ?_); rfl) | ((with_reducible refine al_go ?_); intro b) | ((with_reducible apply (ck_le Try.call83)); exact LEL.refl _; exact hF.out _) | ((with_reducible first | refine w_region ?_ ?_ | refine w_dra ?_ ?_); kernel_rfl) | ((with_reducible refine Go3.go ?_ ?_); all_goals (intro hb; (try with_reducible intro hb1); (try (exfalso; first | contradiction | omega)))) | fail)
        all_goals (refine ret_eq (by simp) (by first | rfl | assumption) (by (repeat (first | exact List.Sublist.refl _ | apply List.Sublist.cons))) ?_; (try simp (disch := omega) only [push_cast, simprocAttr, *]); try (first | exact LE.refl _ | exact LE.sl _ _ | ((first | refine LE.tup ?_ | refine LE.agg ?_); (repeat' (first | exact LEL.nil | refine LEL.cons ?_ ?_ | exact LE.refl _ | exact LE.sl _ _ | refine LE.agg ?_)); done) | refine LE.of_eq ?_))
    · have HE := HT.out
      rw [List.drop_of_length_le (by omega), List.drop_of_length_le (by omega), Sch.eqL] at HE
      subst HE
      clear HT
      repeat' (first | with_reducible refine Go1.go ?_ | ((with_reducible apply ev_go); (focus ((try simp (disch := omega) only [push_cast, simprocAttr, *]); (try exact rfl); done))) | ((with_reducible refine w_last ?_ ?_ ?_); kernel_rfl; rfl) | with_reducible refine Go2.go ?_ | ((with_reducible first | apply w_stepG | refine s_bi ?_ ?_ | refine blk_ne ?_ ?_); rfl) | ((with_reducible refine al_go ?_); intro b) | ((with_reducible first | refine w_region ?_ ?_ | refine w_dra ?_ ?_); kernel_rfl) | ((with_reducible refine Go3.go ?_ ?_); all_goals (intro hb; (try with_reducible intro hb1); (try (exfalso; first | contradiction | omega)))) | fail)
      all_goals (refine ret_eq (by simp) (by first | rfl | assumption) (by (repeat (first | exact List.Sublist.refl _ | apply List.Sublist.cons))) ?_; (try simp (disch := omega) only [push_cast, simprocAttr, *]); try (first | exact LE.refl _ | exact LE.sl _ _ | ((first | refine LE.tup ?_ | refine LE.agg ?_); (repeat' (first | exact LEL.nil | refine LEL.cons ?_ ?_ | exact LE.refl _ | exact LE.sl _ _ | refine LE.agg ?_)); done) | refine LE.of_eq ?_))
  · have hBf : B = false := by
      cases B with
      | false => rfl
      | true => exact absurd (Sch.eqL_len _ _ hB) hlen
    subst hBf
    clear hB
    have hl2 : ¬ (a.length : Int) = (b.length : Int) := by omega
    clear hlen
    refine trF_enter (ts := [6]) Try.func82 rfl (by rw [Try.ntmps82]; exact Nat.le_of_ble_eq_true rfl) (fun tmps w => by simp [results, Try.results82, go_sem, resVal]) ?_
    simp only [Try.ntmps82]
    repeat' (first | with_reducible refine Go1.go ?_ | ((with_reducible apply ev_go); (focus ((try simp (disch := omega) only [push_cast, simprocAttr, *]); (try exact rfl); done))) | ((with_reducible refine w_last ?_ ?_ ?_); kernel_rfl; rfl) | with_reducible refine Go2.go ?_ | ((with_reducible first | apply w_stepG | refine s_bi ?_ ?_ | refine blk_ne ?_ ?_); rfl) | ((with_reducible refine al_go ?_); intro b) | ((with_reducible first | refine w_region ?_ ?_ | refine w_dra ?_ ?_); kernel_rfl) | ((with_reducible refine Go3.go ?_ ?_); all_goals (intro hb; (try with_reducible intro hb1); (try (exfalso; first | contradiction | omega)))) | fail)
    all_goals (refine ret_eq (by simp) (by first | rfl | assumption) (by (repeat (first | exact List.Sublist.refl _ | apply List.Sublist.cons))) ?_; (try simp (disch := omega) only [push_cast, simprocAttr, *]); try (first | exact LE.refl _ | exact LE.sl _ _ | ((first | refine LE.tup ?_ | refine LE.agg ?_); (repeat' (first | exact LEL.nil | refine LEL.cons ?_ ?_ | exact LE.refl _ | exact LE.sl _ _ | refine LE.agg ?_)); done) | refine LE.of_eq ?_))
theorem recSameF (a b : Rc) (ha : ∀ v ∈ a.s, v.Sm) (hb : ∀ v ∈ b.s, v.Sm) (hl : a.s.length ≤ 1000000) (hlb : b.s.length ≤ 1000000) (st : St) : TrF Try.prog 55 [.agg a.cells, .agg b.cells] st fun d st' => d = .b ((a.v == b.v) && Sch.eqL a.s b.s) ∧ st' = st := by
  have hE := equalFuncF a.s b.s ha hb hl hlb
  unfold Rc.cells
  generalize Sch.eqL a.s b.s = q at *
  generalize a.s.map V.cells = AS at *
  generalize b.s.map V.cells = BS at *
  generalize a.v = av at *
  generalize b.v = bv at *
  replace hE := Lib.hid hE
  by_cases h : av = bv
  · subst h
    rw [beq_self_eq_true, Bool.true_and]
    refine trF_enter (ts := [4]) Try.func55 rfl (by rw [Try.ntmps55]; exact Nat.le_of_ble_eq_true rfl) (fun tmps w => by simp [results, Try.results55, go_sem, resVal]) ?_
    simp only [Try.ntmps55]
    repeat' (first | with_reducible refine Go1.go ?_ | ((with_reducible apply ev_go); (focus ((try simp (disch := omega) only [push_cast, simprocAttr, *]); (try exact rfl); done))) | ((with_reducible refine w_last ?_ ?_ ?_); kernel_rfl; rfl) | with_reducible refine Go2.go ?_ | ((with_reducible first | apply w_stepG | refine s_bi ?_ ?_ | refine blk_ne ?_ ?_); rfl) | ((with_reducible refine al_go ?_); intro b) | ((with_reducible apply (ck_le Try.call82)); exact LEL.refl _; exact hE.out _) | ((with_reducible first | refine w_region ?_ ?_ | refine w_dra ?_ ?_); kernel_rfl) | ((with_reducible refine Go3.go ?_ ?_); all_goals (intro hb; (try with_reducible intro hb1); (try (exfalso; first | contradiction | omega)))) | fail)
    all_goals (refine ret_eq (by simp) (by first | rfl | assumption) (by (repeat (first | exact List.Sublist.refl _ | apply List.Sublist.cons))) ?_; (try simp (disch := omega) only [push_cast, simprocAttr, *]); try (first | exact LE.refl _ | exact LE.sl _ _ | ((first | refine LE.tup ?_ | refine LE.agg ?_); (repeat' (first | exact LEL.nil | refine LEL.cons ?_ ?_ | exact LE.refl _ | exact LE.sl _ _ | refine LE.agg ?_)); done) | refine LE.of_eq ?_))
  · have h2 : (av == bv) = false := beq_eq_false_iff_ne.2 h
    rw [h2, Bool.false_and]
    refine trF_enter (ts := [4]) Try.func55 rfl (by rw [Try.ntmps55]; exact Nat.le_of_ble_eq_true rfl) (fun tmps w => by simp [results, Try.results55, go_sem, resVal]) ?_
    simp only [Try.ntmps55]
    repeat' (first | with_reducible refine Go1.go ?_ | ((with_reducible apply ev_go); (focus ((try simp (disch := omega) only [push_cast, simprocAttr, *]); (try exact rfl); done))) | ((with_reducible refine w_last ?_ ?_ ?_); kernel_rfl; rfl) | with_reducible refine Go2.go ?_ | ((with_reducible first | apply w_stepG | refine s_bi ?_ ?_ | refine blk_ne ?_ ?_); rfl) | ((with_reducible refine al_go ?_); intro b) | ((with_reducible apply (ck_le Try.call82)); exact LEL.refl _; exact hE.out _) | ((with_reducible first | refine w_region ?_ ?_ | refine w_dra ?_ ?_); kernel_rfl) | ((with_reducible refine Go3.go ?_ ?_); all_goals (intro hb; (try with_reducible intro hb1); (try (exfalso; first | contradiction | omega)))) | fail)
    all_goals (refine ret_eq (by simp) (by first | rfl | assumption) (by (repeat (first | exact List.Sublist.refl _ | apply List.Sublist.cons))) ?_; (try simp (disch := omega) only [push_cast, simprocAttr, *]); try (first | exact LE.refl _ | exact LE.sl _ _ | ((first | refine LE.tup ?_ | refine LE.agg ?_); (repeat' (first | exact LEL.nil | refine LEL.cons ?_ ?_ | exact LE.refl _ | exact LE.sl _ _ | refine LE.agg ?_)); done) | refine LE.of_eq ?_))
theorem recRowRawF (t : Tm) (ht : TOk t) (r : Rc) (hr : ∀ v ∈ r.s, v.nodes ≤ 1000) (hl : r.s.length ≤ 1000) (hv : Sch.valid t r = true) (x : Vr) (hx : x = Sch.verX t r.v) (hcs : ∀ c ∈ x.cols, c < r.s.length) (hcl : x.cols.length ≤ 8) (st : St) : TrF Try.prog 36 [.agg t.cells, .agg r.cells] st (RowR (x.cols.map fun c => r.s.getD c Sch.zeroV) st) := by
  have hV := recValidF t ht r hr (by omega)
  have hA := schAtF t ht r.v
  rw [← hx] at hA
  rw [hv] at hV
  have hG := recGather3F r.v r.s (fun v h => by have := hr v h; omega) x.cols hcs (by omega)
  have hE := fun st => rowR_ex (x.cols.map fun c => r.s.getD c Sch.zeroV) st
  unfold RowR at hG hE ⊢
  generalize Sch.verB t r.v = ok at *
  generalize (x.cols.map fun c => r.s.getD c Sch.zeroV).length = n at *
  generalize valC (x.cols.map fun c => r.s.getD c Sch.zeroV) = VC at *
  clear hx hcs hr hv
  cases x with
  | mk xs xc =>
  unfold Tm.cells Rc.cells at *
  unfold Vr.cells at *
  dsimp only at *
  generalize t.slots.map Sl.cells = SL at *
  generalize t.steps.map Stp.cells = TL at *
  generalize t.name = nm at *
  generalize r.s.map V.cells = RS at *
  generalize r.v = rv at *
  generalize xs.map Sl.cells = XS at *
  generalize xc.map encC = XC at *
  replace hV := Lib.hid hV
  replace hA := Lib.hid hA
  replace hG := Lib.hid hG
  replace hE := Lib.hid hE
  refine trF_enter (ts := [4]) Try.func36 rfl (by rw [Try.ntmps36]; exact Nat.le_of_ble_eq_true rfl) (fun tmps w => by simp [results, Try.results36, go_sem, resVal]) ?_
  simp only [Try.ntmps36]
  repeat' (first | with_reducible refine Go1.go ?_ | ((with_reducible apply ev_go); (focus ((try simp (disch := omega) only [push_cast, simprocAttr, *]); (try exact rfl); done))) | ((with_reducible refine w_last ?_ ?_ ?_); kernel_rfl; rfl) | with_reducible refine Go2.go ?_ | ((with_reducible first | apply w_stepG | refine s_bi ?_ ?_ | refine blk_ne ?_ ?_); rfl) | ((with_reducible refine al_go ?_); intro b) | ((with_reducible apply (ck_le Try.call54)); exact LEL.refl _; exact hV.out _) | ((with_reducible apply (ck_le Try.call18)); exact LEL.refl _; exact hA.out _) | ((with_reducible apply (ck_gen Try.call61)); (focus exact List.Perm.refl _); (focus exact hG.out _); (focus exact LEL.refl _); (focus exact hE.out _); (rintro d st' ⟨g, cap, zs, hz, rfl, rfl⟩)) | ((with_reducible first | refine w_region ?_ ?_ | refine w_dra ?_ ?_); kernel_rfl) | ((with_reducible refine Go3.go ?_ ?_); all_goals (intro hb; (try with_reducible intro hb1); (try (exfalso; first | contradiction | omega)))) | fail)
  all_goals (refine retA_mk (by first | exact .inl rfl | exact .inr rfl) (by first | rfl | assumption) (by (repeat (first | exact List.Sublist.refl _ | with_reducible apply List.Sublist.cons_cons | apply List.Sublist.cons))) (LE.of_eq ?_) ⟨g, cap, zs, hz, rfl, rfl⟩; simp (disch := omega) only [push_cast, simprocAttr, *])
end Go.Proofs.Ytooaagmhgakhgaa
end

section
namespace Go.Proofs.Ytooaagmhgakhgaa
set_option linter.unusedSimpArgs false
attribute [local push_cast] encB encI encC V.cells_mk V.cells_len Nat.mul_one Int.sub_zero List.map_nil beq_self_eq_true bne_self_eq_false List.head?_cons
open Go.RowKit
set_option maxRecDepth 10000
set_option maxHeartbeats 8000000
theorem cols_ys {xs : List Sl} : ∀ {xc : List Nat}, (∀ c ∈ xc, c < xs.length) → (xc.filterMap fun c => xs[c]?).length = xc.length
  | [], _ => rfl
  | a :: l, hcs => by
    obtain ⟨z, hz⟩ : ∃ z, xs[a]? = some z := ⟨_, List.getElem?_eq_getElem (hcs a (List.mem_cons_self ..))⟩
    rw [List.filterMap_cons, hz, List.length_cons, List.length_cons, cols_ys (fun c hc => hcs c (List.mem_cons_of_mem _ hc))]
theorem val_each (l : List V) : ∀ e ∈ l.map V.cells, e.length = 4 := fun e he => by
  obtain ⟨x, -, rfl⟩ := List.mem_map.1 he
  exact V.cells_len x
theorem RowR.rest {f : FuncId} {args : List D} {l : List V} {st : St} (h : TrF Try.prog f args st (RowR l st)) : TrF Try.prog f args st fun d st' => d = .sl .shared (l.map V.cells) ∧ st' = st := by
  have h' := TrF.rest (ι := Nat × Nat × List D) (el := 24) (p := fun i : Nat × Nat × List D => (valC l ++ i.2.2).length = i.2.1 * 4) (g := fun i => i.1) (n := fun _ => l.length) (cap := fun i => i.2.1) (es := fun _ => l.map V.cells) (F := fun i => .ar i.1 0 l.length i.2.1) (zs := fun i => i.2.2) (S := fun _ => st) (F' := fun _ => .sl .shared (l.map V.cells)) (sz := 4) (by decide) (fun i _ => ⟨val_each l, List.length_map ..⟩) (fun i => .ar) (h.mono fun d st' ⟨g, cap, zs, h1, h2, h3⟩ => ⟨(g, cap, zs), h1, h2, h3⟩)
  exact h'.mono fun d st' ⟨i, k1, k2, k3⟩ => ⟨k2, k3⟩
theorem recFillF (t : Tm) (ht : TOk t) (v : Int) (names : List ByteArray) (vals : List V) (x : Vr) (hx : x = Sch.verX t v) (he : Sch.verE t v = 0) (hcs : ∀ c ∈ x.cols, c < x.slots.length) (hxl : x.slots.length ≤ 16) (hcl : x.cols.length ≤ 8) (hdv : ∀ s ∈ x.slots, s.dv.nodes ≤ 1000) (hlen : names.length = vals.length) (hv : ∀ u ∈ vals, u.nodes ≤ 1000) (hl9 : names.length ≤ 1000000)
    (hk : ∀ (k : Nat) (s : ByteArray) (u : V), names[k]? = some s → vals[k]? = some u → ∃ (c : Nat) (y : Sl), Sch.colL x.slots s x.cols = c ∧ x.slots[c]? = some y ∧ Sch.fits y u = true ∧ Lib.containsS (names.take k) s = false)
    (ys : List Sl) (hys : ys = x.cols.filterMap fun c => x.slots[c]?) (st : St) :
    TrF Try.prog 34 [.agg t.cells, .i v, .sl .shared (names.map encS), .sl .shared (vals.map V.cells)] st fun d st' => d = (if ys.any (Sch.lackV names) = true then .tup [.sl .shared [], .i 9] else .tup [.sl .shared ((ys.map (Sch.getV names vals)).map V.cells), .i 0]) ∧ st' = st := by
  have h := recFillRawF t ht v names vals x hx he hcs hxl hcl hdv hlen hv hl9 hk ys hys _ rfl st
  have hn : (ys.map (Sch.getV names vals)).length = x.cols.length := by rw [List.length_map, hys, cols_ys hcs]
  unfold FillRaw at h
  cases hL : ys.any (Sch.lackV names) with
  | true =>
    rw [if_pos rfl]
    refine h.mono fun d st' k => ?_
    rcases k with ⟨-, h1, h2⟩ | ⟨h1, -⟩
    · exact ⟨h1, h2⟩
    · rw [hL] at h1; cases h1
  | false =>
    rw [if_neg Bool.false_ne_true]
    generalize ys.map (Sch.getV names vals) = F at *
    have h' := TrF.rest (ι := Nat × Nat × List D) (el := 24) (p := fun i : Nat × Nat × List D => (valC F ++ i.2.2).length = i.2.1 * 4) (g := fun i => i.1) (n := fun _ => x.cols.length) (cap := fun i => i.2.1) (es := fun _ => F.map V.cells) (F := fun i => .tup [.ar i.1 0 x.cols.length i.2.1, .i 0]) (zs := fun i => i.2.2) (S := fun _ => st) (F' := fun _ => .tup [.sl .shared (F.map V.cells), .i 0]) (sz := 4) (by decide) (fun i _ => ⟨val_each F, by rw [List.length_map]; exact hn⟩) (fun i => .tup _ _ (.cons _ _ _ _ .ar (.cons _ _ _ _ (.same _) .nil))) (h.mono fun d st' k => by
      rcases k with ⟨h1, -⟩ | ⟨-, g, cap, zs, h1, h2, h3⟩
      · rw [hL] at h1; cases h1
      · exact ⟨(g, cap, zs), h1, h2, h3⟩)
    exact h'.mono fun d st' ⟨i, k1, k2, k3⟩ => ⟨k2, k3⟩
theorem recSetRawF (t : Tm) (ht : TOk t) (r : Rc) (hr : ∀ v ∈ r.s, v.nodes ≤ 1000) (hl : r.s.length ≤ 1000) (hv : Sch.valid t r = true) (x : Vr) (hx : x = Sch.verX t r.v) (i : Nat) (hi : i < r.s.length) (s : Sl) (hs : x.slots[i]? = some s) (y : V) (hy : y.nodes ≤ 1000) (hf : Sch.fits s y = true) (st : St) : TrF Try.prog 53 [.agg t.cells, .agg r.cells, .i i, .agg y.cells] st fun d st' => ∃ g cap zs, (valC (r.s.set i y) ++ zs).length = cap * 4 ∧ d = .tup [.agg [.i r.v, .ar g 0 r.s.length cap], .i 0] ∧ st' = .box g 24 (valC (r.s.set i y) ++ zs) :: st := by
  have hV := recValidF t ht r hr (by omega)
  have hA := schAtF t ht r.v
  rw [← hx] at hA
  rw [hv] at hV
  have hG := recGather4F r.s (fun v h => by have := hr v h; omega) hl
  have hE := fun st => rowR_ex (r.s.map fun s : V => s) st
  have hF := schFitsF s.name s.types s.req s.dv y (by omega)
  rw [show Sch.fits (Sl.mk s.name s.types s.req s.dv) y = true from hf, show Sl.mk s.name s.types s.req s.dv = s from rfl] at hF
  have hC := valCopyF y.nodes y (Nat.le_refl _) (by omega)
  rw [show (r.s.map fun s : V => s) = r.s from List.map_id' _] at hG hE
  unfold RowR at hG hE
  have hset : Hid (∀ zs cap, (valC r.s ++ zs).length = cap * 4 → i * 4 + 4 ≤ cap * 4 ∧ (valC (r.s.set i y) ++ zs).length = cap * 4 ∧ List.take (i * 4) (valC r.s ++ zs) ++ y.cells ++ List.drop (i * 4 + 4) (valC r.s ++ zs) = valC (r.s.set i y) ++ zs) := fun zs cap hz => by
    refine ⟨?_, ?_, valC_set zs hi⟩
    · have h1 := hz
      rw [List.length_append, valC_len] at h1
      omega
    · rw [List.length_append, valC_len, List.length_set, ← valC_len, ← List.length_append]; exact hz
  have h1 : (x.slots.map Sl.cells)[i]? = some s.cells := by rw [List.getElem?_map, hs]; rfl
  have hm1 : (x.slots.map Sl.cells).length = x.slots.length := List.length_map ..
  have hm2 : (r.s.map V.cells).length = r.s.length := List.length_map ..
  have hil := (List.getElem?_eq_some_iff.1 hs).1
  generalize Sch.verB t r.v = ok at *
  generalize valC (r.s.set i y) = VC' at *
  generalize valC r.s = VC at *
  clear hx hv hs hf hr
  cases x with
  | mk xs xc =>
  unfold Tm.cells Rc.cells at *
  unfold Vr.cells at *
  dsimp only at *
  generalize t.slots.map Sl.cells = SL at *
  generalize t.steps.map Stp.cells = TL at *
  generalize t.name = nm at *
  generalize r.s.map V.cells = RS at *
  generalize r.s.length = rn at *
  generalize r.v = rv at *
  generalize xs.map Sl.cells = XS at *
  generalize xs.length = xn at *
  generalize xc.map encC = XC at *
  cases s with
  | mk snm ty rq dv =>
  cases dv with
  | mk k n sv lv =>
  cases y with
  | mk k' n' sv' lv' =>
  rw [Sl.cells_mk] at h1 hF
  rw [V.cells_mk] at *
  replace hV := Lib.hid hV
  replace hA := Lib.hid hA
  replace hG := Lib.hid hG
  replace hE := Lib.hid hE
  replace hF := Lib.hid hF
  replace hC := Lib.hid hC
  refine trF_enterG (G := twoA Try.prog (.cell 8 45) (.tmp 9)) Try.func53 rfl (by rw [Try.ntmps53]; exact Nat.le_of_ble_eq_true rfl) (fun h1 h2 h3 => res_two rfl h1 h2 h3) ?_
  simp only [Try.ntmps53]
  repeat' (first | with_reducible refine Go1.go ?_ | ((with_reducible apply ev_go); (focus ((try simp (disch := omega) only [push_cast, simprocAttr, *]); (try exact rfl); done))) | ((with_reducible refine w_drawRN ?_ ?_ ?_ ?_); (iterate 3 (focus kernel_rfl)); intro hne; simp only [nes, ne1, and_assoc] at hne; repeat (have hq := hne.1; replace hne := hne.2)) | ((with_reducible refine w_last ?_ ?_ ?_); kernel_rfl; rfl) | with_reducible refine Go2.go ?_ | ((with_reducible first | apply w_stepG | refine s_bi ?_ ?_ | refine blk_ne ?_ ?_); rfl) | ((with_reducible refine al_go ?_); intro b) | ((with_reducible apply (ck_le Try.call54)); exact LEL.refl _; exact hV.out _) | ((with_reducible apply (ck_le Try.call18)); exact LEL.refl _; exact hA.out _) | ((with_reducible apply (ck_le Try.call13)); exact LEL.refl _; exact hF.out _) | ((with_reducible apply (ck_le Try.call59)); exact LEL.refl _; exact hC.out _) | ((with_reducible apply (ck_gen Try.call81)); (focus exact List.Perm.refl _); (focus exact hG.out _); (focus exact LEL.refl _); (focus exact hE.out _); (rintro d st' ⟨g, cap, zs, hz, rfl, rfl⟩); (obtain ⟨hle, hz', hse⟩ := hset.out zs cap hz)) | ((with_reducible first | refine w_region ?_ ?_ | refine w_dra ?_ ?_); kernel_rfl) | ((with_reducible refine Go3.go ?_ ?_); all_goals (intro hb; (try with_reducible intro hb1); (try (exfalso; first | contradiction | omega)))) | fail)
  all_goals (refine retG_mk (rs := []) (by first | exact .inl rfl | exact .inr rfl) (by first | rfl | assumption) (List.Perm.refl _) ⟨_, _, rfl, cell_mk (by simp (disch := omega) only [push_cast, simprocAttr, *]; exact rfl) (by repeat (first | exact mm_h | apply mm_t)) (by simp (disch := omega) only [push_cast, simprocAttr, *]; exact rfl) (by (try simp (disch := omega) only [push_cast, simprocAttr, *]); (try exact rfl); done), (by show _ = _; (try simp (disch := omega) only [push_cast, simprocAttr, *]); (try exact rfl); done)⟩ (st0 := .box g 24 (VC' ++ zs) :: st) (by (repeat (first | exact List.Sublist.refl _ | with_reducible apply List.Sublist.cons_cons | apply List.Sublist.cons))) (LE.refl _) ⟨g, cap, zs, hz', rfl, rfl⟩)
theorem recSetF (t : Tm) (ht : TOk t) (r : Rc) (hr : ∀ v ∈ r.s, v.nodes ≤ 1000) (hl : r.s.length ≤ 1000) (hv : Sch.valid t r = true) (x : Vr) (hx : x = Sch.verX t r.v) (i : Nat) (hi : i < r.s.length) (s : Sl) (hs : x.slots[i]? = some s) (y : V) (hy : y.nodes ≤ 1000) (hf : Sch.fits s y = true) (st : St) : TrF Try.prog 53 [.agg t.cells, .agg r.cells, .i i, .agg y.cells] st fun d st' => d = .tup [.agg (Rc.mk r.v (r.s.set i y)).cells, .i 0] ∧ st' = st := by
  have h' := TrF.rest (ι := Nat × Nat × List D) (el := 24) (p := fun i' : Nat × Nat × List D => (valC (r.s.set i y) ++ i'.2.2).length = i'.2.1 * 4) (g := fun i => i.1) (n := fun _ => r.s.length) (cap := fun i => i.2.1) (es := fun _ => (r.s.set i y).map V.cells) (F := fun i => .tup [.agg [.i r.v, .ar i.1 0 r.s.length i.2.1], .i 0]) (zs := fun i => i.2.2) (S := fun _ => st) (F' := fun _ => .tup [.agg (Rc.mk r.v (r.s.set i y)).cells, .i 0]) (sz := 4) (by decide) (fun _ _ => ⟨val_each _, by rw [List.length_map, List.length_set]⟩) (fun i => .tup _ _ (.cons _ _ _ _ (.agg _ _ (.cons _ _ _ _ (.same _) (.cons _ _ _ _ .ar .nil))) (.cons _ _ _ _ (.same _) .nil))) ((recSetRawF t ht r hr hl hv x hx i hi s hs y hy hf st).mono fun d st' ⟨g, cap, zs, h1, h2, h3⟩ => ⟨(g, cap, zs), h1, h2, h3⟩)
  exact h'.mono fun d st' ⟨i, k1, k2, k3⟩ => ⟨k2, k3⟩
end Go.Proofs.Ytooaagmhgakhgaa
end

section
namespace Go.Proofs.Ytooaagmhgakhgaa
set_option linter.unusedSimpArgs false
open Go.RowKit
section
variable {P : Program} {r : Option Nat} {ro : Ro}
def freeL (ms : List Nat) (l : List Oper) (a c : Nat) (listed : Array Bool) : Bool := (List.range l.length).all fun i => i == a || i == c || listed.getD i false || match l[i]? with
  | some o => freeA o || waitsT ms i a || waitsT ms i c
  | none => true
theorem freeL_spec {ms : List Nat} {l : List Oper} {a c : Nat} {listed : Array Bool} (h : freeL ms l a c listed = true) {i : Nat} {o : Oper} (ho : l[i]? = some o) (ha : i ≠ a) (hc : i ≠ c) (hl : listed.getD i false = false) : freeA o = true ∨ waitsT ms i a = true ∨ waitsT ms i c = true := by
  have := List.all_eq_true.1 h i (List.mem_range.2 (List.getElem?_eq_some_iff.1 ho).1)
  rw [ho] at this
  simpa [ha, hc, hl, or_assoc] using this
theorem any_twoL {ms : List Nat} {l : List Oper} (hms : MOk .any l.toArray.toList ms) {a c : Nat} {Q : AA → St → Prop} (hac : a ≠ c) (hl1 : lastAll (addE l a c).toArray = true → lastAll l.toArray = true) (hl2 : lastAll (addE l c a).toArray = true → lastAll l.toArray = true) : ∀ (fuel : Nat) (listed : Array Bool) (A : AA) (st : St), listed.getD a false = false → listed.getD c false = false → DC .any l.toArray listed →
    (∀ (i : Nat) (o : Oper), l[i]? = some o → i ≠ a → i ≠ c → listed.getD i false = false → freeA o = true ∨ waitsT ms i a = true ∨ waitsT ms i c = true) →
    wpAnyA P r ro .any (addE l a c).toArray Q fuel listed A st → wpAnyA P r ro .any (addE l c a).toArray Q fuel listed A st → wpAnyA P r ro .any l.toArray Q fuel listed A st
  | 0, listed, A, st, ha, hc, hdc, hfr, h1, h2 => by
    refine ⟨List.eq_nil_iff_forall_not_mem.2 fun i hi => ?_, h1.2⟩
    by_cases hia : i = a
    · have := (ready_addE (l := l) (x := c) (y := a)).2 ⟨hi, fun e => absurd (hia.symm.trans e) hac⟩
      rw [h2.1] at this; cases this
    · have := (ready_addE (l := l) (x := a) (y := c)).2 ⟨hi, fun e => absurd e hia⟩
      rw [h1.1] at this; cases this
  | fuel + 1, listed, A, st, ha, hc, hdc, hfr, h1, h2 => by
    refine ⟨fun h0 => h1.1 (List.eq_nil_iff_forall_not_mem.2 fun i hi => ?_), fun i hi o ho => ?_⟩
    · have := (ready_addE.1 hi).1
      rw [h0] at this; cases this
    · have ho' : l[i]? = some o := by simpa using ho
      obtain ⟨o1, ho1, hs1⟩ := addE_same (x := a) (y := c) ho'
      obtain ⟨o2, ho2, hs2⟩ := addE_same (x := c) (y := a) ho'
      by_cases hia : i = a
      · subst hia
        exact mOpA_same hs2 (addE_dst l c i) (flag_addE hl2) (fun A st => any_listed hl2 fuel _ A st (listed_set hi)) (h2.2 i (ready_addE.2 ⟨hi, fun e => absurd e hac⟩) o2 (by simpa using ho2))
      · by_cases hic : i = c
        · subst hic
          exact mOpA_same hs1 (addE_dst l a i) (flag_addE hl1) (fun A st => any_listed hl1 fuel _ A st (listed_set hi)) (h1.2 i (ready_addE.2 ⟨hi, fun e => absurd e hia⟩) o1 (by simpa using ho1))
        · have hil : listed.getD i false = false := by
            have := (mem_ready.1 hi).1
            rw [Array.getD_eq_getD_getElem?] at this ⊢
            cases hg : listed[i]? with
            | none => rw [hg] at this; cases this
            | some b => rw [hg] at this; exact this
          have hfo : freeA o = true := by
            rcases hfr i o ho' hia hic hil with h | h | h
            · exact h
            · rw [hdc.ready hms ha hi] at h; cases h
            · rw [hdc.ready hms hc hi] at h; cases h
          have k1 := mOpA_same (f' := (decide (i + 1 = l.toArray.size) && lastAll l.toArray)) hs1 (addE_dst l a c) (flag_addE hl1) (fun _ _ h => h) (h1.2 i (ready_addE.2 ⟨hi, fun e => absurd e hia⟩) o1 (by simpa using ho1))
          have k2 := mOpA_same (f' := (decide (i + 1 = l.toArray.size) && lastAll l.toArray)) hs2 (addE_dst l c a) (flag_addE hl2) (fun _ _ h => h) (h2.2 i (ready_addE.2 ⟨hi, fun e => absurd e hic⟩) o2 (by simpa using ho2))
          refine mOpA_same (.refl o) (fun _ => rfl) id (fun A st h => ?_) (mOpA_and hfo k1 k2)
          refine any_twoL hms hac hl1 hl2 fuel _ A st (by rw [getD_set_ne false hia]; exact ha) (by rw [getD_set_ne false hic]; exact hc) (hdc.step hi) (fun j o hj h1 h2 h3 => hfr j o hj h1 h2 ?_) h.1 h.2
          cases hj2 : listed.getD j false with
          | false => rfl
          | true => rw [getD_set_true hj2] at h3; cases h3
theorem dc_addE {l : List Oper} {a c : Nat} {listed : Array Bool} (h : DC .any l.toArray listed) (ha : listed.getD a false = false) : DC .any (addE l a c).toArray listed := by
  intro k o ho hk e he hb
  by_cases hka : k = a
  · subst hka
    rw [hk] at ha; cases ha
  · rw [List.getElem?_toArray, addE_get, if_neg hka] at ho
    exact h k o (by rw [List.getElem?_toArray]; exact ho) hk e he hb
def endL (ks : List Nat) (listed : Array Bool) : Array Bool := ks.foldl (fun li k => li.setIfInBounds k true) listed
def preB (ms : List Nat) (ops : Array Oper) : List Nat → Array Bool → Bool
  | [], _ => true
  | k :: ks, listed => (Region.ready .any ops listed).contains k && mixFreeA ms ops listed k && preB ms ops ks (listed.setIfInBounds k true)
def W0 (P : Program) (r : Option Nat) (ro : Ro) (ops : Array Oper) (K : AA → St → Prop) : List Oper → AA → St → Prop
  | [], A, st => K A st
  | o :: l, A, st => mOpA P r ro false ops o (W0 P r ro ops K l) A st
def wpOrd0 (P : Program) (r : Option Nat) (ro : Ro) (ops : Array Oper) (K : AA → St → Prop) : List Nat → AA → St → Prop
  | [], A, st => K A st
  | k :: ks, A, st => ∀ o, ops[k]? = some o → mOpA P r ro false ops o (wpOrd0 P r ro ops K ks) A st
theorem any_pre {ops : Array Oper} {ms : List Nat} (hms : MOk .any ops.toList ms) (hL : LastW ms ops) {Q K : AA → St → Prop} {n : Nat} : ∀ (ks : List Nat) (listed : Array Bool) (A : AA) (st : St), Keeps ro st → DC .any ops listed →
    preB ms ops ks listed = true → (∀ A st, Keeps ro st → DC .any ops (endL ks listed) → K A st → wpAnyA P r ro .any ops Q n (endL ks listed) A st) → wpOrd0 P r ro ops K ks A st → wpAnyA P r ro .any ops Q (ks.length + n) listed A st
  | [], listed, A, st, hw, hdc, _, hk, h => by
    rw [List.length_nil, Nat.zero_add]
    exact hk A st hw hdc h
  | k :: ks, listed, A, st, hw, hdc, hB, hk, h => by
    simp only [preB, Bool.and_eq_true] at hB
    obtain ⟨⟨hr, hf⟩, hB'⟩ := hB
    have hr' : k ∈ Region.ready .any ops listed := by simpa using hr
    obtain ⟨-, o, h0, -⟩ := mem_ready.1 hr'
    rw [List.length_cons, Nat.succ_add]
    refine wpAnyA_first hms hL h0 (ks.length + n) listed A st hw hdc (mixFreeA_spec h0 hf) hr' ?_
    refine mOpA_same (.refl o) (fun _ => rfl) (f := false) (fun q => by cases q) (fun _ _ h => h) (mOpA_put hw (fun v w' hc hq => ?_) (h o h0))
    exact any_pre hms hL ks _ _ _ (hc.resolve_left (by simp)) (hdc.step hr') hB' hk hq
theorem ord0_of {l : List Oper} {ops : Array Oper} (hs : ∀ (i : Nat) (o : Oper), ops[i]? = some o → ∃ o', l[i]? = some o' ∧ SameOp o' o) (hd : ∀ j : Nat, (l.toArray[j]?).bind (fun o : Oper => o.dst) = (ops[j]?).bind (fun o : Oper => o.dst)) {K : AA → St → Prop} : ∀ (ks : List Nat) (A : AA) (st : St),
    W0 P r ro l.toArray K (ks.filterMap fun k => l[k]?) A st → wpOrd0 P r ro ops K ks A st
  | [], A, st, h => h
  | k :: ks, A, st, h => fun o ho => by
    obtain ⟨o', ho', hso⟩ := hs k o ho
    rw [List.filterMap_cons, ho'] at h
    exact mOpA_same hso hd id (fun A st => ord0_of hs hd ks A st) h
theorem w0_yes {ops : Array Oper} {o : Oper} {l : List Oper} {K : AA → St → Prop} {A : AA} {st : St} (hw : wantedA ops o A.e = true) (h : S P r (some ro) o A st fun d st' => W0 P r ro ops K l (A.put o.dst d) st') : W0 P r ro ops K (o :: l) A st := by
  show mOpA P r ro false ops o _ A st
  unfold mOpA
  rw [if_pos hw]
  replace h : if freeA o then ∃ d, frC P ro o A.e = some d ∧ _ else _ := h
  split
  · rename_i hf; rw [if_pos hf] at h; exact h
  · rename_i hf
    rw [if_neg hf] at h
    obtain ⟨h1, d, st', h2, h3⟩ := h
    exact ⟨h1.mono fun d st' hk => ⟨.inr hk.1, hk.2⟩, d, st', .inr h2, h3⟩
instance i_w0_step {ops : Array Oper} {K : AA → St → Prop} {A : AA} {st : St} {dst : Option Tmp} {op : Op} {ty : TypeId} {pos : String} {aft : Array Edge} {l : List Oper} : Go1 (W0 P r ro ops K (⟨dst, op, ty, pos, aft, none⟩ :: l) A st) (S P r (some ro) ⟨dst, op, ty, pos, aft, none⟩ A st fun d st' => W0 P r ro ops K l (A.put dst d) st') := ⟨w0_yes (wanted_none rfl)⟩
instance i_w0_nil {ops : Array Oper} {K : AA → St → Prop} {A : AA} {st : St} : Go1 (W0 P r ro ops K [] A st) (K A st) := ⟨id⟩
inductive Plan where
  | leaf (ks : List Nat)
  | node (ks : List Nat) (a c : Nat) (p q : Plan)
inductive PlanL where
  | leaf (t : List Oper)
  | node (t : List Oper) (p q : PlanL)
def Plan.n : Plan → Nat
  | .leaf ks => ks.length
  | .node ks _ _ p _ => ks.length + p.n
def pickL (l : List Oper) : List Nat → List Oper
  | [] => []
  | k :: ks => match l[k]? with
    | some o => o :: pickL l ks
    | none => pickL l ks
theorem pickL_eq (l : List Oper) : ∀ ks : List Nat, (ks.filterMap fun k => l[k]?) = pickL l ks
  | [] => rfl
  | k :: ks => by
    rw [List.filterMap_cons, pickL, pickL_eq l ks]
    cases l[k]? <;> rfl
def Plan.lists (l : List Oper) : Plan → PlanL
  | .leaf ks => .leaf (pickL l ks)
  | .node ks _ _ p q => .node (pickL l ks) (p.lists l) (q.lists l)
def Both (p q : Prop) : Prop := p ∧ q
theorem both_go {p q : Prop} (h : p) (k : q) : Both p q := ⟨h, k⟩
def wPL (P : Program) (r : Option Nat) (ro : Ro) (ops : Array Oper) (Q : AA → St → Prop) : PlanL → AA → St → Prop
  | .leaf t, A, st => W P r (some ro) ops Q t A st
  | .node t p q, A, st => W0 P r ro ops (fun A st => Both (wPL P r ro ops Q p A st) (wPL P r ro ops Q q A st)) t A st
def planB : Plan → List Oper → Array Bool → Bool
  | .leaf ks, l, listed => ks.all (fun k => decide (k < l.length)) && mixOrdA (masks .any l []) l.toArray ks listed
  | .node ks a c p q, l, listed => ks.all (fun k => decide (k < l.length)) && preB (masks .any l []) l.toArray ks listed && (a != c && !(endL ks listed).getD a false && !(endL ks listed).getD c false && freeL (masks .any l []) l a c (endL ks listed) && (lastAll (addE l a c).toArray == lastAll l.toArray) && (lastAll (addE l c a).toArray == lastAll l.toArray) && decide (p.n = q.n) && planB p (addE l a c) (endL ks listed) && planB q (addE l c a) (endL ks listed))
theorem SameOp.trans {a b c : Oper} (h : SameOp a b) (k : SameOp b c) : SameOp a c := ⟨h.dst.trans k.dst, h.op.trans k.op, h.type.trans k.type, h.pos.trans k.pos, h.guard.trans k.guard⟩
theorem lastw (l : List Oper) : LastW (masks .any l []) l.toArray := fun h j i hj hi hne => by
  unfold lastAll at h
  have := List.all_eq_true.1 h i (List.mem_range.2 (by omega))
  rw [show l.toArray.size - 1 = j by omega] at this
  exact this
theorem plan_any (l0 : List Oper) {Q : AA → St → Prop} : ∀ (T : Plan) (l : List Oper) (listed : Array Bool) (A : AA) (st : St), l.length = l0.length → (∀ (i : Nat) (o : Oper), l[i]? = some o → ∃ o', l0[i]? = some o' ∧ SameOp o' o) → (∀ j : Nat, (l0.toArray[j]?).bind (fun o : Oper => o.dst) = (l.toArray[j]?).bind (fun o : Oper => o.dst)) → (lastAll l0.toArray = lastAll l.toArray) → Keeps ro st → DC .any l.toArray listed → planB T l listed = true →
    wPL P r ro l0.toArray Q (T.lists l0) A st → wpAnyA P r ro .any l.toArray Q T.n listed A st
  | .leaf ks, l, listed, A, st, hlen, hs, hd, hl, hC, hdc, hB, h => by
    simp only [planB, Bool.and_eq_true] at hB
    have hk : ∀ k ∈ ks, k < l0.length := fun k hk => by
      have := List.all_eq_true.1 hB.1 k hk
      rw [← hlen]; exact of_decide_eq_true this
    refine wpAnyA_ord (masks_ok (md := .any) l l [] (by simp) (fun k i h => by simp at h)) (lastw l) ks listed A st hC hdc hB.2 ?_
    refine ord_of_mix (l := l0) (fun i o ho => hs i o (by simpa using ho)) hd (fun h => by rw [← hl]; exact h) ks A st hk ?_
    rw [pickL_eq]
    exact h
  | .node ks a c p q, l, listed, A, st, hlen, hs, hd, hl, hC, hdc, hB, h => by
    simp only [planB, Bool.and_eq_true, Bool.not_eq_true', bne_iff_ne, ne_eq, decide_eq_true_eq, beq_iff_eq] at hB
    obtain ⟨⟨hB0, hB1⟩, ⟨⟨⟨⟨⟨⟨⟨⟨hac, hna⟩, hnc⟩, hfr⟩, hl1⟩, hl2⟩, hn⟩, hBp⟩, hBq⟩⟩ := hB
    have hk : ∀ k ∈ ks, k < l0.length := fun k hk => by
      have := List.all_eq_true.1 hB0 k hk
      rw [← hlen]; exact of_decide_eq_true this
    have hms : MOk .any l.toArray.toList (masks .any l []) := masks_ok (md := .any) l l [] (by simp) (fun k i h => by simp at h)
    have same : ∀ x y, (∀ (i : Nat) (o : Oper), (addE l x y)[i]? = some o → ∃ o', l0[i]? = some o' ∧ SameOp o' o) := fun x y i o ho => by
      have hi : i < l.length := by
        have := (List.getElem?_eq_some_iff.1 ho).1
        simpa [addE_len] using this
      obtain ⟨o1, ho1, hso⟩ := addE_same (x := x) (y := y) (List.getElem?_eq_getElem hi)
      rw [ho1] at ho
      cases ho
      obtain ⟨o', h1, h2⟩ := hs i _ (List.getElem?_eq_getElem hi)
      exact ⟨o', h1, h2.trans hso.symm⟩
    refine any_pre hms (lastw l) (n := p.n) ks listed A st hC hdc hB1 (fun A st hC hdc hK => ?_) (ord0_of (l := l0) (fun i o ho => hs i o (by simpa using ho)) hd ks A st (by rw [pickL_eq]; exact h))
    obtain ⟨hp, hq⟩ := hK
    refine any_twoL hms hac (fun h => by rw [← hl1]; exact h) (fun h => by rw [← hl2]; exact h) p.n _ A st hna hnc hdc (fun i o ho h1 h2 h3 => freeL_spec hfr ho h1 h2 h3) ?_ ?_
    · exact plan_any l0 p (addE l a c) _ A st (by rw [addE_len]; exact hlen) (same a c) (fun j => (hd j).trans (addE_dst l a c j).symm) (by rw [hl, hl1]) hC (dc_addE hdc hna) hBp hp
    · rw [hn]
      exact plan_any l0 q (addE l c a) _ A st (by rw [addE_len]; exact hlen) (same c a) (fun j => (hd j).trans (addE_dst l c a j).symm) (by rw [hl, hl2]) hC (dc_addE hdc hnc) hBq hq
def drawB (T : Plan) (l : List Oper) : Bool := decide (T.n = l.length) && planB T l (Array.replicate l.length false)
theorem w_drawT {N : Nat} {id : Nat} {l : List Oper} {X : PlanL} {A : AA} {st : St} {Q : Exit → AA → St → Prop} (T : Plan) (k : Tmp) (hk : l.head?.bind (fun o => o.dst) = some k) (hm : P.follows .mixedOrders = true) (hB : drawB T l = true) (hok : opsOk N l = true) (hX : T.lists l = X)
    (h : nes st → wPL P r (roOf st) l.toArray (Q .normal) X A st) : Tr P N r (.region id l.toArray true) A st Q := by
  clear hk
  refine tr_nes fun hne => ?_
  intro ac w hr hh
  replace h := h hne
  subst hX
  simp only [drawB, Bool.and_eq_true, decide_eq_true_eq] at hB
  obtain ⟨hn, hB⟩ := hB
  have hok' : ∀ (i : Nat) (o : Oper), l.toArray[i]? = some o → dstOk N o.dst = true ∧ guardOk N l.toArray o = true := fun i o ho => by
    have := List.all_eq_true.1 hok o (by simp at ho; exact List.mem_of_getElem? ho)
    simpa using this
  have he := Ext.drew (OwnS st) w
  have dc : DC .any l.toArray (Array.replicate l.length false) := fun k o _ hl => absurd hl (by rw [getD_rep]; exact Bool.false_ne_true)
  have hany := plan_any (P := P) (r := r) (ro := roOf st) l T l (Array.replicate l.length false) A st rfl (fun i o ho => ⟨o, ho, .refl o⟩) (fun _ => rfl) rfl (keeps_roOf st) dc hB h
  rw [hn] at hany
  refine wpIn_region_any hm ?_
  have hsz : l.toArray.size = l.length := by simp
  rw [hsz]
  exact wpAnyIn_of_A (masks_ok (md := .any) l l [] (by simp) (fun k i h => by simp at h)) (lastw l) hok' _ _ A st ac w.drew _ (.inl (keeps_roOf st)) dc (hr.ext he) (hh.drewN 1) hany fun A' st' a' w' q1 q2 q3 q5 => ⟨A', st', q1, q2, he.trans q3, q5⟩
class AppN (a b : List Oper) (c : outParam (List Oper)) : Prop where
  go : List.append a b = c
instance appN_nil {b : List Oper} : AppN [] b b := ⟨rfl⟩
instance appN_cons {o : Oper} {a b c : List Oper} [h : AppN a b c] : AppN (o :: a) b (o :: c) := ⟨congrArg (List.cons o) h.go⟩
instance i_w_app {m : Option Ro} {ops : Array Oper} {K : AA → St → Prop} {a b c : List Oper} {A : AA} {st : St} [h : AppN a b c] : Go2 (W P r m ops K (List.append a b) A st) (W P r m ops K c A st) := ⟨fun k => by rw [h.go]; exact k⟩
end
end Go.Proofs.Ytooaagmhgakhgaa
end

section
namespace Go.Proofs.Ytooaagmhgakhgaa
set_option linter.unusedSimpArgs false
attribute [local push_cast] encB encI encC encS V.cells_mk V.cells_len Nat.mul_one Int.sub_zero List.map_nil beq_self_eq_true bne_self_eq_false List.head?_cons
open Go.RowKit
set_option maxRecDepth 10000
set_option maxHeartbeats 8000000
abbrev r11 : Rc := ⟨2, [.mk 2 0 ⟨#[]⟩ [], .mk 2 5 ⟨#[]⟩ []]⟩
abbrev s11 : Rc := ⟨2, [.mk 2 7 ⟨#[]⟩ [], .mk 2 5 ⟨#[]⟩ []]⟩
theorem r11_make : Sch.makeS twoT 2 [.mk 2 5 ⟨#[]⟩ []] = (r11, 0) := by kernel_rfl
theorem r11_none : Sch.makeS twoT 9 [] = (Sch.zeroR, 7) := by kernel_rfl
theorem r11_valid : Sch.valid twoT r11 = true := by kernel_rfl
def x11 : Vr := ⟨[⟨⟨#[97]⟩, 4, false, .mk 2 0 ⟨#[]⟩ []⟩, ⟨⟨#[98]⟩, 4, true, .mk 2 0 ⟨#[]⟩ []⟩], [0, 1]⟩
theorem two1 : Sch.verX twoT 1 = x11 ∧ Sch.verE twoT 1 = 0 := ⟨by kernel_rfl, by kernel_rfl⟩
theorem twoDv : ∀ x ∈ Sch.vers twoT, ∀ z ∈ x.slots, z.dv.nodes ≤ 1000 := fun x hx => Sch.vers_dv (Q := fun v => v.nodes ≤ 1000) (fun s h => twoOk.os s h) (fun s h => (twoOk.ot s h).1) x hx
theorem rec11AliveF (st : St) : TrF Try.prog 31 [] st fun d st' => d = .b true ∧ st' = st := by
  have hT := twoF
  have hI5 := refInt10F 5
  have hI7 := refInt10F 7
  have hI3 := refInt10F 3
  have hM1 := recMakeF twoT twoOk twoDv 2 [.mk 2 5 ⟨#[]⟩ []] (by decide) (by decide)
  have hM2 := recMakeF twoT twoOk twoDv 9 [] (by decide) (by decide)
  have hS := recSetF twoT twoOk r11 (by decide) (by decide) r11_valid _ rfl 0 (by decide) ⟨⟨#[97]⟩, 4, false, .mk 2 0 ⟨#[]⟩ []⟩ (by kernel_rfl) (.mk 2 7 ⟨#[]⟩ []) (by decide) (by kernel_rfl)
  have hF1 := recFillF twoT twoOk 1 [⟨#[98]⟩] [.mk 2 3 ⟨#[]⟩ []] x11 two1.1.symm two1.2 (by decide) (by decide) (by decide) (by decide) rfl (by decide) (by decide) (fun k s u h1 h2 => by
    cases k with
    | zero => cases h1; cases h2; exact ⟨1, ⟨⟨#[98]⟩, 4, true, .mk 2 0 ⟨#[]⟩ []⟩, by kernel_rfl, rfl, by kernel_rfl, by kernel_rfl⟩
    | succ k => cases h1) _ rfl
  have hF2 := recFillF twoT twoOk 1 [] [] x11 two1.1.symm two1.2 (by decide) (by decide) (by decide) (by decide) rfl (by decide) (by decide) (fun k s u h1 h2 => by cases h1) _ rfl
  have hV := recValidF twoT twoOk r11 (by decide) (by decide)
  have hR := fun st => RowR.rest (recRowRawF twoT twoOk r11 (by decide) (by decide) r11_valid _ rfl (by rw [show (r11.v : Int) = 2 from rfl, two2.1]; decide) (by rw [show (r11.v : Int) = 2 from rfl, two2.1]; decide) st)
  have hsm : ∀ v ∈ r11.s, v.Sm := fun v h => by simp only [r11, List.mem_cons, List.not_mem_nil, or_false] at h; rcases h with h | h <;> rw [h] <;> exact .mk (Nat.zero_le _) (by decide) (fun x h => by cases h)
  have hsm2 : ∀ v ∈ s11.s, v.Sm := fun v h => by simp only [s11, List.mem_cons, List.not_mem_nil, or_false] at h; rcases h with h | h <;> rw [h] <;> exact .mk (Nat.zero_le _) (by decide) (fun x h => by cases h)
  have hE1 := recSameF r11 r11 hsm hsm (by decide) (by decide)
  have hE2 := recSameF r11 s11 hsm hsm2 (by decide) (by decide)
  rw [r11_make] at hM1
  rw [r11_none] at hM2
  rw [r11_valid] at hV
  rw [show ((r11.v == r11.v) && Sch.eqL r11.s r11.s) = true from by kernel_rfl] at hE1
  rw [show ((r11.v == s11.v) && Sch.eqL r11.s s11.s) = false from by kernel_rfl] at hE2
  rw [show ((x11.cols.filterMap fun c => x11.slots[c]?).any (Sch.lackV [⟨#[98]⟩])) = false from by kernel_rfl, if_neg Bool.false_ne_true, show ((x11.cols.filterMap fun c => x11.slots[c]?).map (Sch.getV [⟨#[98]⟩] [.mk 2 3 ⟨#[]⟩ []])) = [.mk 2 0 ⟨#[]⟩ [], .mk 2 3 ⟨#[]⟩ []] from by kernel_rfl] at hF1
  rw [show ((x11.cols.filterMap fun c => x11.slots[c]?).any (Sch.lackV [])) = true from by kernel_rfl, if_pos rfl] at hF2
  rw [show ((Sch.verX twoT r11.v).cols.map fun c => r11.s.getD c Sch.zeroV) = [.mk 2 5 ⟨#[]⟩ []] from by kernel_rfl] at hR
  rw [show (Rc.mk r11.v (r11.s.set 0 (.mk 2 7 ⟨#[]⟩ []))) = s11 from rfl] at hS
  unfold Sch.zeroR at hM2
  simp only [Rc.cells, List.map_cons, List.map_nil, V.cells_mk, encS] at hM1 hM2 hS hF1 hF2 hV hR hE1 hE2 hI5 hI7 hI3
  rw [twoC] at hT hM1 hM2 hS hF1 hF2 hV hR
  replace hT := Lib.hid hT
  replace hI5 := Lib.hid hI5
  replace hI7 := Lib.hid hI7
  replace hI3 := Lib.hid hI3
  replace hM1 := Lib.hid hM1
  replace hM2 := Lib.hid hM2
  replace hS := Lib.hid hS
  replace hF1 := Lib.hid hF1
  replace hF2 := Lib.hid hF2
  replace hV := Lib.hid hV
  replace hR := Lib.hid hR
  replace hE1 := Lib.hid hE1
  replace hE2 := Lib.hid hE2
  refine trF_enter (ts := [0]) Try.func31 rfl (by rw [Try.ntmps31]; exact Nat.le_of_ble_eq_true rfl) (fun tmps w => by simp [results, Try.results31, go_sem, resVal]) ?_
  simp only [Try.ntmps31]
  repeat' (first | with_reducible refine Go1.go ?_ | ((with_reducible apply ev_go); (focus ((try simp (disch := omega) only [push_cast, simprocAttr, *]); (try exact rfl); done))) | ((with_reducible apply (w_drawT (.node [] 7 1 (.node [0, 1, 2] 7 3 (.leaf [3, 4, 5, 6, 7, 8, 9]) (.leaf [7, 3, 4, 5, 6, 8, 9])) (.leaf [7, 0, 1, 2, 3, 4, 5, 6, 8, 9])) 14)); rfl; (iterate 3 kernel_rfl); (focus (simp only [Plan.lists, pickL, List.getElem?_cons_zero, List.getElem?_cons_succ]; exact rfl)); intro hne; simp only [nes, ne1, and_assoc] at hne; (repeat (have hq := hne.1; replace hne := hne.2)); simp only [wPL]) | ((with_reducible apply (w_drawT (.node [] 7 2 (.node [0, 1, 2] 7 3 (.leaf [3, 4, 5, 6, 7, 8, 9]) (.leaf [7, 3, 4, 5, 6, 8, 9])) (.leaf [7, 0, 1, 2, 3, 4, 5, 6, 8, 9])) 26)); rfl; (iterate 3 kernel_rfl); (focus (simp only [Plan.lists, pickL, List.getElem?_cons_zero, List.getElem?_cons_succ]; exact rfl)); intro hne; simp only [nes, ne1, and_assoc] at hne; (repeat (have hq := hne.1; replace hne := hne.2)); simp only [wPL]) | with_reducible refine both_go ?_ ?_ | ((with_reducible refine w_drawRN ?_ ?_ ?_ ?_); (iterate 3 (focus kernel_rfl)); intro hne; simp only [nes, ne1, and_assoc] at hne; repeat (have hq := hne.1; replace hne := hne.2)) | ((with_reducible refine w_last ?_ ?_ ?_); kernel_rfl; rfl) | with_reducible refine Go2.go ?_ | ((with_reducible first | apply w_stepG | refine s_bi ?_ ?_ | refine blk_ne ?_ ?_); rfl) | ((with_reducible refine al_go ?_); intro b) | ((with_reducible apply (ck_le Try.call37)); exact LEL.refl _; exact hT.out _) | ((with_reducible apply (ck_le Try.call39)); exact LEL.refl _; exact hI5.out _) | ((with_reducible apply (ck_le Try.call39)); exact LEL.refl _; exact hI7.out _) | ((with_reducible apply (ck_le Try.call39)); exact LEL.refl _; exact hI3.out _) | ((with_reducible apply (ck_el Try.call33)); exact hM1.out _; (focus ((repeat' (first | exact LEL.nil | refine LEL.cons ?_ ?_ | exact LE.refl _ | exact LE.sl _ _ | refine LE.agg ?_)); done))) | ((with_reducible apply (ck_el Try.call33)); exact hM2.out _; (focus ((repeat' (first | exact LEL.nil | refine LEL.cons ?_ ?_ | exact LE.refl _ | exact LE.sl _ _ | refine LE.agg ?_)); done))) | ((with_reducible apply (ck_le Try.call53)); exact LEL.refl _; exact hS.out _) | ((with_reducible apply (ck_el Try.call34)); exact hF1.out _; (focus ((repeat' (first | exact LEL.nil | refine LEL.cons ?_ ?_ | exact LE.refl _ | exact LE.sl _ _ | refine LE.agg ?_)); done))) | ((with_reducible apply (ck_el Try.call34)); exact hF2.out _; (focus ((repeat' (first | exact LEL.nil | refine LEL.cons ?_ ?_ | exact LE.refl _ | exact LE.sl _ _ | refine LE.agg ?_)); done))) | ((with_reducible apply (ck_le Try.call54)); exact LEL.refl _; exact hV.out _) | ((with_reducible apply (ck_le Try.call36)); exact LEL.refl _; exact hR.out _) | ((with_reducible apply (ck_le Try.call55)); exact LEL.refl _; exact hE1.out _) | ((with_reducible apply (ck_le Try.call55)); exact LEL.refl _; exact hE2.out _) | ((with_reducible first | refine w_region ?_ ?_ | refine w_dra ?_ ?_); kernel_rfl) | ((with_reducible refine Go3.go ?_ ?_); all_goals (intro hb; (try with_reducible intro hb1); (try (exfalso; first | contradiction | omega)))) | fail)
  all_goals (refine ret_eq (by simp) (by first | rfl | assumption) (by (repeat (first | exact List.Sublist.refl _ | apply List.Sublist.cons))) ?_; (try simp (disch := omega) only [push_cast, simprocAttr, *]); try (first | exact LE.refl _ | exact LE.sl _ _ | ((first | refine LE.tup ?_ | refine LE.agg ?_); (repeat' (first | exact LEL.nil | refine LEL.cons ?_ ?_ | exact LE.refl _ | exact LE.sl _ _ | refine LE.agg ?_)); done) | refine LE.of_eq ?_))
end Go.Proofs.Ytooaagmhgakhgaa
end

section
namespace Go.Proofs.Ytooaagmhgakhgaa
set_option linter.unusedSimpArgs false
open Go.RowKit
namespace Sch
theorem fillC_fits {sl : List Sl} : ∀ (cols : List Nat) (row out o : List V), fillC sl cols row out = some o → ∀ (k c : Nat) (u : V) (y : Sl), cols[k]? = some c → row[k]? = some u → sl[c]? = some y → fits y u = true
  | [], _, _, _, _, k, c, u, y, h, _, _ => by cases k <;> cases h
  | a :: cs, [], _, _, h, _, _, _, _, _, _, _ => by cases h
  | a :: cs, b :: us, out, o, h, k, c, u, y, h1, h2, h3 => by
    rw [fillC] at h
    cases ha : sl[a]? with
    | none => rw [ha] at h; cases h
    | some s =>
      rw [ha] at h
      dsimp only at h
      split at h
      · rename_i hf
        cases k with
        | zero =>
          cases h1; cases h2
          rw [ha] at h3; cases h3
          exact hf
        | succ k => exact fillC_fits cs us _ o h k c u y h1 h2 h3
      · cases h
def turnK (n tn j : Nat) : Nat := (j + tn) % n
def zSl : Sl := ⟨⟨#[]⟩, 0, false, zeroV⟩
def namesT (x : Vr) (n tn : Nat) : List ByteArray := (List.range n).map fun j => (x.slots.getD (x.cols.getD (turnK n tn j) 0) zSl).name
def valsT (row : List V) (n tn : Nat) : List V := (List.range n).map fun j => row.getD (turnK n tn j) zeroV
end Sch
end Go.Proofs.Ytooaagmhgakhgaa
end

section
namespace Go.Proofs.Ytooaagmhgakhgaa
set_option linter.unusedSimpArgs false
attribute [local push_cast] encB encI encC V.cells_mk V.cells_len Nat.mul_one Int.sub_zero List.map_nil beq_self_eq_true List.head?_cons
open Go.RowKit
set_option maxRecDepth 10000
set_option maxHeartbeats 4000000
namespace Sch
def nums (a b : Int) : List Int := if b < a then (List.range (a - b).toNat).map (fun i : Nat => a - ((i : Int) + 1)) else (List.range (b - a).toNat).map fun i : Nat => a + ((i : Int) + 1)
end Sch
end Go.Proofs.Ytooaagmhgakhgaa
end

section
namespace Go.Proofs.Ytooaagmhgakhgaa
set_option linter.unusedSimpArgs false
attribute [local push_cast] encB encI encC V.cells_mk V.cells_len Nat.mul_one Int.sub_zero List.map_nil beq_self_eq_true List.head?_cons
open Go.RowKit
set_option maxRecDepth 10000
set_option maxHeartbeats 4000000
structure ROk (r : Rc) : Prop where
  n : ∀ v ∈ r.s, v.nodes ≤ 1000
  l : r.s.length ≤ 1000
structure TC (t : Tm) : Prop where
  ok : TOk t
  dv : ∀ x ∈ Sch.vers t, ∀ z ∈ x.slots, z.dv.nodes ≤ 1000
namespace Sch
def foldS (t : Tm) : Rc → List Int → Rc × Int
  | x, [] => (x, 0)
  | x, n :: l => if (castS t x n).2 = 0 then foldS t (castS t x n).1 l else (zeroR, (castS t x n).2)
end Sch
end Go.Proofs.Ytooaagmhgakhgaa
end

section
namespace Go.Proofs.Ytooaagmhgakhgaa
set_option linter.unusedSimpArgs false
attribute [local push_cast] encB encI encC V.cells_mk V.cells_len Nat.mul_one Int.sub_zero List.map_nil beq_self_eq_true List.head?_cons
open Go.RowKit
set_option maxRecDepth 10000
set_option maxHeartbeats 4000000
namespace Sch
def toS (t : Tm) (r : Rc) (v : Int) (may : Bool) : Rc × Int :=
  if valid t r = true then (if 1 ≤ v ∧ v ≤ last t ∧ may = true then foldS t (castS t r r.v).1 (nums r.v v) else (zeroR, 7)) else (zeroR, 1)
end Sch
end Go.Proofs.Ytooaagmhgakhgaa
end

section
namespace Go.Proofs.Ytooaagmhgakhgaa
set_option linter.unusedSimpArgs false
attribute [local push_cast] encB encI encC V.cells_mk V.cells_len Nat.mul_one Int.sub_zero List.map_nil beq_self_eq_true List.head?_cons
open Go.RowKit
set_option maxRecDepth 10000
set_option maxHeartbeats 4000000
namespace Sch
def upS (t : Tm) (r : Rc) (v : Int) : Rc × Int := toS t r v (decide (v ≥ r.v))
def downS (t : Tm) (r : Rc) (v : Int) : Rc × Int := toS t r v (decide (v ≤ r.v))
def newestS (t : Tm) (r : Rc) : Rc × Int := upS t r (if 1 < (last t : Int) then (last t : Int) else 1)
end Sch
end Go.Proofs.Ytooaagmhgakhgaa
end

section
namespace Go.Proofs.Ytooaagmhgakhgaa
set_option linter.unusedSimpArgs false
namespace Sch
theorem ver_verB {t : Tm} {v : Int} {x : Vr} (h : ver t v = some x) : verB t v = true ∧ verX t v = x := by
  unfold verB verX
  rw [h]; exact ⟨rfl, rfl⟩
theorem valid_iff {t : Tm} {r : Rc} : valid t r = true ↔ ∃ x, ver t r.v = some x ∧ fitsL x.slots r.s = true := by
  unfold valid
  rw [Bool.and_eq_true]
  constructor
  · rintro ⟨h1, h2⟩
    unfold verB at h1
    obtain ⟨x, hx⟩ := Option.isSome_iff_exists.1 h1
    rw [(ver_verB hx).2] at h2
    exact ⟨x, hx, h2⟩
  · rintro ⟨x, hx, h2⟩
    rw [(ver_verB hx).2]
    exact ⟨(ver_verB hx).1, h2⟩
theorem ver_sok {t : Tm} {v : Int} {x : Vr} (h : ver t v = some x) : ∀ s ∈ x.slots, SOk s := vers_types x (ver_mem h)
end Sch
end Go.Proofs.Ytooaagmhgakhgaa
end

section
namespace Go.Proofs.Ytooaagmhgakhgaa
set_option linter.unusedSimpArgs false
attribute [local push_cast] encB encI encC V.cells_mk V.cells_len Nat.mul_one Int.sub_zero List.map_nil beq_self_eq_true List.head?_cons
open Go.RowKit
set_option maxRecDepth 10000
set_option maxHeartbeats 4000000
namespace Sch
def greatS (s : Sl) : Bool := s.dv.great || decide (300 < s.name.size)
def greatP (s : Stp) : Bool := s.slot.dv.great || (decide (300 < s.slot.name.size) || decide (30 < s.order.length))
def great (t : Tm) : Bool := decide (30 < t.slots.length) || (decide (30 < t.steps.length) || (decide (300 < t.name.size) || (t.slots.any greatS || t.steps.any greatP)))
end Sch
theorem any_drop {α : Type} {p : α → Bool} {l : List α} {i : Nat} {x : α} (h : l[i]? = some x) : (l.drop i).any p = (p x || (l.drop (i + 1)).any p) := by
  obtain ⟨h1, rfl⟩ := List.getElem?_eq_some_iff.1 h
  rw [List.drop_eq_getElem_cons h1, List.any_cons]
theorem refGreat10F (t : Tm) (hw : t.Wf) (st : St) : TrF Try.prog 15 [.agg t.cells] st fun d st' => d = .b (Sch.great t) ∧ st' = st := by
  obtain ⟨-, hws, hsl, hwp, hpl⟩ := hw
  obtain ⟨B, hB⟩ : ∃ B, Sch.great t = B := ⟨_, rfl⟩
  rw [hB]
  unfold Sch.great at hB
  cases t with
  | mk nm slots steps =>
  unfold Tm.cells
  dsimp only at hB hws hwp hsl hpl ⊢
  have hws2 := Lib.hid hws
  have hwp2 := Lib.hid hwp
  clear hws hwp
  have hml : (slots.map Sl.cells).length = slots.length := List.length_map ..
  have hmp : (steps.map Stp.cells).length = steps.length := List.length_map ..
  have hcl : Hid (∀ (i : Nat) (s : Sl), slots[i]? = some s → (slots.map Sl.cells)[i]? = some s.cells) := fun i s h => by rw [List.getElem?_map, h]; rfl
  have hcp : Hid (∀ (i : Nat) (s : Stp), steps[i]? = some s → (steps.map Stp.cells)[i]? = some s.cells) := fun i s h => by rw [List.getElem?_map, h]; rfl
  generalize slots.map Sl.cells = SL at *
  generalize steps.map Stp.cells = TL at *
  have hn1 := hml
  have hn2 := hmp
  unfold maxLen at hsl hpl
  by_cases h1 : 30 < slots.length
  · have hBt : B = true := by rw [← hB]; simp [h1]
    subst hBt
    clear hB
    refine trF_enter (ts := [2]) Try.func15 rfl (by rw [Try.ntmps15]; exact Nat.le_of_ble_eq_true rfl) (fun tmps w => by simp [results, Try.results15, go_sem, resVal]) ?_
    simp only [Try.ntmps15]
    repeat' (first | with_reducible refine Go1.go ?_ | ((with_reducible apply ev_go); (focus ((try simp (disch := omega) only [push_cast, simprocAttr, *]); (try exact rfl); done))) | ((with_reducible refine w_last ?_ ?_ ?_); kernel_rfl; rfl) | with_reducible refine Go2.go ?_ | ((with_reducible first | apply w_stepG | refine s_bi ?_ ?_ | refine blk_ne ?_ ?_); rfl) | ((with_reducible refine al_go ?_); intro b) | ((with_reducible first | refine w_region ?_ ?_ | refine w_dra ?_ ?_); kernel_rfl) | ((with_reducible refine Go3.go ?_ ?_); all_goals (intro hb; (try with_reducible intro hb1); (try (exfalso; first | contradiction | omega)))) | fail)
    all_goals (refine ret_eq (by simp) (by first | rfl | assumption) (by (repeat (first | exact List.Sublist.refl _ | apply List.Sublist.cons))) ?_; (try simp (disch := omega) only [push_cast, simprocAttr, *]); try (first | exact LE.refl _ | exact LE.sl _ _ | ((first | refine LE.tup ?_ | refine LE.agg ?_); (repeat' (first | exact LEL.nil | refine LEL.cons ?_ ?_ | exact LE.refl _ | exact LE.sl _ _ | refine LE.agg ?_)); done) | refine LE.of_eq ?_))
  by_cases h2 : 30 < steps.length
  · have hBt : B = true := by rw [← hB]; simp [h2]
    subst hBt
    clear hB
    refine trF_enter (ts := [2]) Try.func15 rfl (by rw [Try.ntmps15]; exact Nat.le_of_ble_eq_true rfl) (fun tmps w => by simp [results, Try.results15, go_sem, resVal]) ?_
    simp only [Try.ntmps15]
    repeat' (first | with_reducible refine Go1.go ?_ | ((with_reducible apply ev_go); (focus ((try simp (disch := omega) only [push_cast, simprocAttr, *]); (try exact rfl); done))) | ((with_reducible refine w_last ?_ ?_ ?_); kernel_rfl; rfl) | with_reducible refine Go2.go ?_ | ((with_reducible first | apply w_stepG | refine s_bi ?_ ?_ | refine blk_ne ?_ ?_); rfl) | ((with_reducible refine al_go ?_); intro b) | ((with_reducible first | refine w_region ?_ ?_ | refine w_dra ?_ ?_); kernel_rfl) | ((with_reducible refine Go3.go ?_ ?_); all_goals (intro hb; (try with_reducible intro hb1); (try (exfalso; first | contradiction | omega)))) | fail)
    all_goals (refine ret_eq (by simp) (by first | rfl | assumption) (by (repeat (first | exact List.Sublist.refl _ | apply List.Sublist.cons))) ?_; (try simp (disch := omega) only [push_cast, simprocAttr, *]); try (first | exact LE.refl _ | exact LE.sl _ _ | ((first | refine LE.tup ?_ | refine LE.agg ?_); (repeat' (first | exact LEL.nil | refine LEL.cons ?_ ?_ | exact LE.refl _ | exact LE.sl _ _ | refine LE.agg ?_)); done) | refine LE.of_eq ?_))
  by_cases h3 : 300 < nm.size
  · have hBt : B = true := by rw [← hB]; simp [h3]
    subst hBt
    clear hB
    refine trF_enter (ts := [2]) Try.func15 rfl (by rw [Try.ntmps15]; exact Nat.le_of_ble_eq_true rfl) (fun tmps w => by simp [results, Try.results15, go_sem, resVal]) ?_
    simp only [Try.ntmps15]
    repeat' (first | with_reducible refine Go1.go ?_ | ((with_reducible apply ev_go); (focus ((try simp (disch := omega) only [push_cast, simprocAttr, *]); (try exact rfl); done))) | ((with_reducible refine w_last ?_ ?_ ?_); kernel_rfl; rfl) | with_reducible refine Go2.go ?_ | ((with_reducible first | apply w_stepG | refine s_bi ?_ ?_ | refine blk_ne ?_ ?_); rfl) | ((with_reducible refine al_go ?_); intro b) | ((with_reducible first | refine w_region ?_ ?_ | refine w_dra ?_ ?_); kernel_rfl) | ((with_reducible refine Go3.go ?_ ?_); all_goals (intro hb; (try with_reducible intro hb1); (try (exfalso; first | contradiction | omega)))) | fail)
    all_goals (refine ret_eq (by simp) (by first | rfl | assumption) (by (repeat (first | exact List.Sublist.refl _ | apply List.Sublist.cons))) ?_; (try simp (disch := omega) only [push_cast, simprocAttr, *]); try (first | exact LE.refl _ | exact LE.sl _ _ | ((first | refine LE.tup ?_ | refine LE.agg ?_); (repeat' (first | exact LEL.nil | refine LEL.cons ?_ ?_ | exact LE.refl _ | exact LE.sl _ _ | refine LE.agg ?_)); done) | refine LE.of_eq ?_))
  have HB : Hid (((slots.drop 0).any Sch.greatS || steps.any Sch.greatP) = B) := Lib.hid (by rw [← hB]; simp [h1, h2, h3])
  clear hB
  refine trF_enter (ts := [2]) Try.func15 rfl (by rw [Try.ntmps15]; exact Nat.le_of_ble_eq_true rfl) (fun tmps w => by simp [results, Try.results15, go_sem, resVal]) ?_
  simp only [Try.ntmps15]
  repeat' (first | with_reducible refine Go1.go ?_ | ((with_reducible apply ev_go); (focus ((try simp (disch := omega) only [push_cast, simprocAttr, *]); (try exact rfl); done))) | ((with_reducible refine w_last ?_ ?_ ?_); kernel_rfl; rfl) | with_reducible refine Go2.go ?_ | ((with_reducible first | apply w_stepG | refine s_bi ?_ ?_ | refine blk_ne ?_ ?_); rfl) | ((with_reducible refine al_go ?_); intro b) | ((with_reducible first | refine w_region ?_ ?_ | refine w_dra ?_ ?_); kernel_rfl) | ((with_reducible refine Go3.go ?_ ?_); all_goals (intro hb; (try with_reducible intro hb1); (try (exfalso; first | contradiction | omega)))) | fail)
  refine tr_loop (ι := Nat) (fun i A st' => i ≤ slots.length ∧ Hid (((slots.drop i).any Sch.greatS || steps.any Sch.greatP) = B) ∧ A.df = [] ∧ A.e 1 = .ip [.str nm, .sl .shared SL, .sl .shared TL] ∧ A.e 3 = .i i ∧ st = st') (fun i => slots.length - i) 0 ⟨Nat.zero_le _, HB, ?_, ?_, ?_, rfl⟩ ?_
  iterate 3 (focus (first | rfl | assumption | omega | (simp (disch := omega) only [push_cast, simprocAttr, *]; try omega; done)))
  rintro i A st' ⟨hi, HT, hdf, e1, e3, rfl⟩
  clear HB
  by_cases hlt : i < slots.length
  · obtain ⟨s, hs⟩ : ∃ s, slots[i]? = some s := ⟨_, List.getElem?_eq_getElem hlt⟩
    have HE := HT.out
    rw [any_drop hs, Bool.or_assoc] at HE
    have hc := hcl.out i s hs
    have hG := refGreatF s.dv (hws2.out s (List.mem_of_getElem? hs)).2.2
    clear HT hs
    unfold Sch.greatS at HE
    cases s with
    | mk snm ty rq dv =>
    dsimp only at HE hG
    generalize V.great dv = g at *
    cases dv with
    | mk k n sv l =>
    rw [Sl.cells_mk] at hc
    rw [V.cells_mk] at hG
    replace hG := Lib.hid hG
    cases g with
    | true =>
      simp only [Bool.true_or] at HE
      subst HE
      repeat' (first | with_reducible refine Go1.go ?_ | ((with_reducible apply ev_go); (focus ((try simp (disch := omega) only [push_cast, simprocAttr, *]); (try exact rfl); done))) | ((with_reducible refine w_last ?_ ?_ ?_); kernel_rfl; rfl) | with_reducible refine Go2.go ?_ | ((with_reducible first | apply w_stepG | refine s_bi ?_ ?_ | refine blk_ne ?_ ?_); rfl) | ((with_reducible refine al_go ?_); intro b) | ((with_reducible apply (ck_le Try.call12)); exact LEL.refl _; exact hG.out _) | ((with_reducible first | refine w_region ?_ ?_ | refine w_dra ?_ ?_); kernel_rfl) | ((with_reducible refine Go3.go ?_ ?_); all_goals (intro hb; (try with_reducible intro hb1); (try (exfalso; first | contradiction | omega)))) | fail)
      all_goals (refine ret_eq (by simp) (by first | rfl | assumption) (by (repeat (first | exact List.Sublist.refl _ | apply List.Sublist.cons))) ?_; (try simp (disch := omega) only [push_cast, simprocAttr, *]); try (first | exact LE.refl _ | exact LE.sl _ _ | ((first | refine LE.tup ?_ | refine LE.agg ?_); (repeat' (first | exact LEL.nil | refine LEL.cons ?_ ?_ | exact LE.refl _ | exact LE.sl _ _ | refine LE.agg ?_)); done) | refine LE.of_eq ?_))
    | false =>
      by_cases h4 : 300 < snm.size
      · simp only [h4, decide_true, Bool.or_true, Bool.true_or] at HE
        subst HE
        repeat' (first | with_reducible refine Go1.go ?_ | ((with_reducible apply ev_go); (focus ((try simp (disch := omega) only [push_cast, simprocAttr, *]); (try exact rfl); done))) | ((with_reducible refine w_last ?_ ?_ ?_); kernel_rfl; rfl) | with_reducible refine Go2.go ?_ | ((with_reducible first | apply w_stepG | refine s_bi ?_ ?_ | refine blk_ne ?_ ?_); rfl) | ((with_reducible refine al_go ?_); intro b) | ((with_reducible apply (ck_le Try.call12)); exact LEL.refl _; exact hG.out _) | ((with_reducible first | refine w_region ?_ ?_ | refine w_dra ?_ ?_); kernel_rfl) | ((with_reducible refine Go3.go ?_ ?_); all_goals (intro hb; (try with_reducible intro hb1); (try (exfalso; first | contradiction | omega)))) | fail)
        all_goals (refine ret_eq (by simp) (by first | rfl | assumption) (by (repeat (first | exact List.Sublist.refl _ | apply List.Sublist.cons))) ?_; (try simp (disch := omega) only [push_cast, simprocAttr, *]); try (first | exact LE.refl _ | exact LE.sl _ _ | ((first | refine LE.tup ?_ | refine LE.agg ?_); (repeat' (first | exact LEL.nil | refine LEL.cons ?_ ?_ | exact LE.refl _ | exact LE.sl _ _ | refine LE.agg ?_)); done) | refine LE.of_eq ?_))
      · rw [decide_eq_false h4, Bool.or_self, Bool.false_or] at HE
        replace HE := Lib.hid HE
        repeat' (first | with_reducible refine Go1.go ?_ | ((with_reducible apply ev_go); (focus ((try simp (disch := omega) only [push_cast, simprocAttr, *]); (try exact rfl); done))) | ((with_reducible refine w_last ?_ ?_ ?_); kernel_rfl; rfl) | with_reducible refine Go2.go ?_ | ((with_reducible first | apply w_stepG | refine s_bi ?_ ?_ | refine blk_ne ?_ ?_); rfl) | ((with_reducible refine al_go ?_); intro b) | ((with_reducible apply (ck_le Try.call12)); exact LEL.refl _; exact hG.out _) | ((with_reducible first | refine w_region ?_ ?_ | refine w_dra ?_ ?_); kernel_rfl) | ((with_reducible refine Go3.go ?_ ?_); all_goals (intro hb; (try with_reducible intro hb1); (try (exfalso; first | contradiction | omega)))) | fail)
        refine ⟨i + 1, ⟨hlt, HE, ?_, ?_, ?_, rfl⟩, ?_⟩
        all_goals (first | rfl | assumption | omega | (simp (disch := omega) only [push_cast, simprocAttr, *]; try omega; done))
  · have HE := HT.out
    rw [List.drop_of_length_le (by omega), List.any_nil, Bool.false_or] at HE
    have HB : Hid ((steps.drop 0).any Sch.greatP = B) := HE
    clear HT HE
    repeat' (first | with_reducible refine Go1.go ?_ | ((with_reducible apply ev_go); (focus ((try simp (disch := omega) only [push_cast, simprocAttr, *]); (try exact rfl); done))) | ((with_reducible refine w_last ?_ ?_ ?_); kernel_rfl; rfl) | with_reducible refine Go2.go ?_ | ((with_reducible first | apply w_stepG | refine s_bi ?_ ?_ | refine blk_ne ?_ ?_); rfl) | ((with_reducible refine al_go ?_); intro b) | ((with_reducible first | refine w_region ?_ ?_ | refine w_dra ?_ ?_); kernel_rfl) | ((with_reducible refine Go3.go ?_ ?_); all_goals (intro hb; (try with_reducible intro hb1); (try (exfalso; first | contradiction | omega)))) | fail)
    refine tr_loop (ι := Nat) (fun i A st' => i ≤ steps.length ∧ Hid ((steps.drop i).any Sch.greatP = B) ∧ A.df = [] ∧ A.e 1 = .ip [.str nm, .sl .shared SL, .sl .shared TL] ∧ A.e 4 = .i i ∧ st = st') (fun i => steps.length - i) 0 ⟨Nat.zero_le _, HB, ?_, ?_, ?_, rfl⟩ ?_
    iterate 3 (focus (first | rfl | assumption | omega | (simp (disch := omega) only [push_cast, simprocAttr, *]; try omega; done)))
    clear hdf e1 e3
    rintro i A st' ⟨hi, HT, hdf, e1, e4, rfl⟩
    clear HB
    by_cases hlt : i < steps.length
    · obtain ⟨s, hs⟩ : ∃ s, steps[i]? = some s := ⟨_, List.getElem?_eq_getElem hlt⟩
      have HE := HT.out
      rw [any_drop hs] at HE
      have hc := hcp.out i s hs
      have hG := refGreatF s.slot.dv (hwp2.out s (List.mem_of_getElem? hs)).2.2.1.2.2
      have hol := (hwp2.out s (List.mem_of_getElem? hs)).2.2.2
      clear HT hs
      unfold Sch.greatP at HE
      unfold maxLen at hol
      unfold Stp.cells at hc
      cases s with
      | mk kd col slot order =>
      cases slot with
      | mk snm ty rq dv =>
      dsimp only at HE hG hol
      generalize V.great dv = g at *
      cases dv with
      | mk k n sv l =>
      rw [Sl.cells_mk] at hc
      rw [V.cells_mk] at hG
      dsimp only [List.cons_append, List.nil_append] at hc
      replace hG := Lib.hid hG
      cases g with
      | true =>
        simp only [Bool.true_or] at HE
        subst HE
        repeat' (first | with_reducible refine Go1.go ?_ | ((with_reducible apply ev_go); (focus ((try simp (disch := omega) only [push_cast, simprocAttr, *]); (try exact rfl); done))) | ((with_reducible refine w_last ?_ ?_ ?_); kernel_rfl; rfl) | with_reducible refine Go2.go ?_ | ((with_reducible first | apply w_stepG | refine s_bi ?_ ?_ | refine blk_ne ?_ ?_); rfl) | ((with_reducible refine al_go ?_); intro b) | ((with_reducible apply (ck_le Try.call12)); exact LEL.refl _; exact hG.out _) | ((with_reducible first | refine w_region ?_ ?_ | refine w_dra ?_ ?_); kernel_rfl) | ((with_reducible refine Go3.go ?_ ?_); all_goals (intro hb; (try with_reducible intro hb1); (try (exfalso; first | contradiction | omega)))) | fail)
        all_goals (refine ret_eq (by simp) (by first | rfl | assumption) (by (repeat (first | exact List.Sublist.refl _ | apply List.Sublist.cons))) ?_; (try simp (disch := omega) only [push_cast, simprocAttr, *]); try (first | exact LE.refl _ | exact LE.sl _ _ | ((first | refine LE.tup ?_ | refine LE.agg ?_); (repeat' (first | exact LEL.nil | refine LEL.cons ?_ ?_ | exact LE.refl _ | exact LE.sl _ _ | refine LE.agg ?_)); done) | refine LE.of_eq ?_))
      | false =>
        by_cases h4 : 300 < snm.size
        · simp only [h4, decide_true, Bool.or_true, Bool.true_or] at HE
          subst HE
          repeat' (first | with_reducible refine Go1.go ?_ | ((with_reducible apply ev_go); (focus ((try simp (disch := omega) only [push_cast, simprocAttr, *]); (try exact rfl); done))) | ((with_reducible refine w_last ?_ ?_ ?_); kernel_rfl; rfl) | with_reducible refine Go2.go ?_ | ((with_reducible first | apply w_stepG | refine s_bi ?_ ?_ | refine blk_ne ?_ ?_); rfl) | ((with_reducible refine al_go ?_); intro b) | ((with_reducible apply (ck_le Try.call12)); exact LEL.refl _; exact hG.out _) | ((with_reducible first | refine w_region ?_ ?_ | refine w_dra ?_ ?_); kernel_rfl) | ((with_reducible refine Go3.go ?_ ?_); all_goals (intro hb; (try with_reducible intro hb1); (try (exfalso; first | contradiction | omega)))) | fail)
          all_goals (refine ret_eq (by simp) (by first | rfl | assumption) (by (repeat (first | exact List.Sublist.refl _ | apply List.Sublist.cons))) ?_; (try simp (disch := omega) only [push_cast, simprocAttr, *]); try (first | exact LE.refl _ | exact LE.sl _ _ | ((first | refine LE.tup ?_ | refine LE.agg ?_); (repeat' (first | exact LEL.nil | refine LEL.cons ?_ ?_ | exact LE.refl _ | exact LE.sl _ _ | refine LE.agg ?_)); done) | refine LE.of_eq ?_))
        · by_cases h5 : 30 < order.length
          · simp only [h5, decide_true, Bool.or_true, Bool.true_or] at HE
            subst HE
            repeat' (first | with_reducible refine Go1.go ?_ | ((with_reducible apply ev_go); (focus ((try simp (disch := omega) only [push_cast, simprocAttr, *]); (try exact rfl); done))) | ((with_reducible refine w_last ?_ ?_ ?_); kernel_rfl; rfl) | with_reducible refine Go2.go ?_ | ((with_reducible first | apply w_stepG | refine s_bi ?_ ?_ | refine blk_ne ?_ ?_); rfl) | ((with_reducible refine al_go ?_); intro b) | ((with_reducible apply (ck_le Try.call12)); exact LEL.refl _; exact hG.out _) | ((with_reducible first | refine w_region ?_ ?_ | refine w_dra ?_ ?_); kernel_rfl) | ((with_reducible refine Go3.go ?_ ?_); all_goals (intro hb; (try with_reducible intro hb1); (try (exfalso; first | contradiction | omega)))) | fail)
            all_goals (refine ret_eq (by simp) (by first | rfl | assumption) (by (repeat (first | exact List.Sublist.refl _ | apply List.Sublist.cons))) ?_; (try simp (disch := omega) only [push_cast, simprocAttr, *]); try (first | exact LE.refl _ | exact LE.sl _ _ | ((first | refine LE.tup ?_ | refine LE.agg ?_); (repeat' (first | exact LEL.nil | refine LEL.cons ?_ ?_ | exact LE.refl _ | exact LE.sl _ _ | refine LE.agg ?_)); done) | refine LE.of_eq ?_))
          · rw [decide_eq_false h4, decide_eq_false h5, Bool.or_self, Bool.or_self, Bool.false_or] at HE
            replace HE := Lib.hid HE
            repeat' (first | with_reducible refine Go1.go ?_ | ((with_reducible apply ev_go); (focus ((try simp (disch := omega) only [push_cast, simprocAttr, *]); (try exact rfl); done))) | ((with_reducible refine w_last ?_ ?_ ?_); kernel_rfl; rfl) | with_reducible refine Go2.go ?_ | ((with_reducible first | apply w_stepG | refine s_bi ?_ ?_ | refine blk_ne ?_ ?_); rfl) | ((with_reducible refine al_go ?_); intro b) | ((with_reducible apply (ck_le Try.call12)); exact LEL.refl _; exact hG.out _) | ((with_reducible first | refine w_region ?_ ?_ | refine w_dra ?_ ?_); kernel_rfl) | ((with_reducible refine Go3.go ?_ ?_); all_goals (intro hb; (try with_reducible intro hb1); (try (exfalso; first | contradiction | omega)))) | fail)
            refine ⟨i + 1, ⟨hlt, HE, ?_, ?_, ?_, rfl⟩, ?_⟩
            all_goals (first | rfl | assumption | omega | (simp (disch := omega) only [push_cast, simprocAttr, *]; try omega; done))
    · have HE := HT.out
      rw [List.drop_of_length_le (by omega), List.any_nil] at HE
      subst HE
      clear HT
      repeat' (first | with_reducible refine Go1.go ?_ | ((with_reducible apply ev_go); (focus ((try simp (disch := omega) only [push_cast, simprocAttr, *]); (try exact rfl); done))) | ((with_reducible refine w_last ?_ ?_ ?_); kernel_rfl; rfl) | with_reducible refine Go2.go ?_ | ((with_reducible first | apply w_stepG | refine s_bi ?_ ?_ | refine blk_ne ?_ ?_); rfl) | ((with_reducible refine al_go ?_); intro b) | ((with_reducible first | refine w_region ?_ ?_ | refine w_dra ?_ ?_); kernel_rfl) | ((with_reducible refine Go3.go ?_ ?_); all_goals (intro hb; (try with_reducible intro hb1); (try (exfalso; first | contradiction | omega)))) | fail)
      all_goals (refine ret_eq (by simp) (by first | rfl | assumption) (by (repeat (first | exact List.Sublist.refl _ | apply List.Sublist.cons))) ?_; (try simp (disch := omega) only [push_cast, simprocAttr, *]); try (first | exact LE.refl _ | exact LE.sl _ _ | ((first | refine LE.tup ?_ | refine LE.agg ?_); (repeat' (first | exact LEL.nil | refine LEL.cons ?_ ?_ | exact LE.refl _ | exact LE.sl _ _ | refine LE.agg ?_)); done) | refine LE.of_eq ?_))
end Go.Proofs.Ytooaagmhgakhgaa
end

section
namespace Go.Proofs.Ytooaagmhgakhgaa
set_option linter.unusedSimpArgs false
open Go.RowKit
theorem not_great10 {t : Tm} (hw : t.Wf) (h : Sch.great t = false) : TOk t ∧ (∀ s ∈ t.slots, s.dv.nodes ≤ 1000 ∧ s.dv.deep ≤ 10 ∧ s.name.size ≤ 300 ∧ s.Ok) ∧ (∀ s ∈ t.steps, s.slot.dv.nodes ≤ 1000 ∧ s.slot.dv.deep ≤ 10 ∧ s.slot.name.size ≤ 300 ∧ s.slot.Ok ∧ s.order.length ≤ 30) ∧ t.name.size ≤ 300 ∧ t.slots.length ≤ 30 ∧ t.steps.length ≤ 30 := by
  unfold Sch.great at h
  simp only [Bool.or_eq_false_iff, decide_eq_false_iff_not, List.any_eq_false, Bool.not_eq_true] at h
  obtain ⟨h1, h2, h3, h4, h5⟩ := h
  have hs : ∀ s ∈ t.slots, s.dv.nodes ≤ 1000 ∧ s.dv.deep ≤ 10 ∧ s.name.size ≤ 300 ∧ s.Ok := fun s hs => by
    have := h4 s hs
    unfold Sch.greatS at this
    rw [Bool.or_eq_false_iff, decide_eq_false_iff_not] at this
    obtain ⟨k1, k2⟩ := V.not_great this.1
    exact ⟨k1, k2, by omega, hw.ss s hs⟩
  have hp : ∀ s ∈ t.steps, s.slot.dv.nodes ≤ 1000 ∧ s.slot.dv.deep ≤ 10 ∧ s.slot.name.size ≤ 300 ∧ s.slot.Ok ∧ s.order.length ≤ 30 := fun s hs => by
    have := h5 s hs
    unfold Sch.greatP at this
    simp only [Bool.or_eq_false_iff, decide_eq_false_iff_not] at this
    obtain ⟨k1, k2⟩ := V.not_great this.1
    exact ⟨k1, k2, by omega, (hw.ps s hs).2.2.1, by omega⟩
  refine ⟨⟨by omega, by omega, fun s h => (hs s h).1, fun s h => ?_⟩, hs, hp, by omega, by omega, by omega⟩
  obtain ⟨k1, -, -, k4, k5⟩ := hp s h
  exact ⟨k1, V.Ok.bg k4.2.2, by omega⟩
end Go.Proofs.Ytooaagmhgakhgaa
end

section
namespace Go.Proofs.Ytooaagmhgakhgaa
set_option linter.unusedSimpArgs false
attribute [local push_cast] encB encI encC V.cells_mk V.cells_len Nat.mul_one Int.sub_zero List.map_nil beq_self_eq_true List.head?_cons
open Go.RowKit
set_option maxRecDepth 10000
set_option maxHeartbeats 4000000
structure Rc.Wf (r : Rc) : Prop where
  v : -9223372036854775808 ≤ r.v ∧ r.v ≤ 9223372036854775807
  s : ∀ x ∈ r.s, x.Ok
  l : r.s.length ≤ maxLen
def Sch.great12 (t : Tm) (r : Rc) : Bool := Sch.great t || (decide (40 < r.s.length) || r.s.any V.great)
structure Look (t : Tm) (r : Rc) : Prop where
  tc : TC t
  tq : TQ t
  rk : ROk r
  rq : ∀ v ∈ r.s, VQ v
  xq : ∀ x ∈ Sch.vers t, ∀ z ∈ x.slots, VQ z.dv
theorem not_great12 {t : Tm} {r : Rc} (hw : t.Wf) (hr : r.Wf) (h : Sch.great12 t r = false) : Look t r := by
  unfold Sch.great12 at h
  rw [Bool.or_eq_false_iff, Bool.or_eq_false_iff] at h
  obtain ⟨h1, h2, h3⟩ := h
  obtain ⟨hT, hs, hp, -, hl1, hl2⟩ := not_great10 hw h1
  have hv : ∀ v ∈ r.s, VQ v := fun v hv => by
    rw [List.any_eq_false] at h3
    have h4 := h3 v hv
    rw [Bool.not_eq_true] at h4
    obtain ⟨k1, k2⟩ := V.not_great h4
    exact ⟨hr.s v hv, k1, by omega⟩
  have hx : ∀ x ∈ Sch.vers t, ∀ z ∈ x.slots, VQ z.dv := fun x hx => Sch.vers_dv (Q := VQ) (fun s h => ⟨(hs s h).2.2.2.2.2, (hs s h).1, by have := (hs s h).2.1; omega⟩) (fun s h => ⟨(hp s h).2.2.2.1.2.2, (hp s h).1, by have := (hp s h).2.1; omega⟩) x hx
  refine ⟨⟨hT, fun x h z hz => (hx x h z hz).nodes⟩, ⟨by omega, by omega, fun s h => ⟨⟨(hs s h).2.2.2.2.2, (hs s h).1, by have := (hs s h).2.1; omega⟩, (hs s h).2.2.2.2.1⟩, fun s h => ⟨⟨(hp s h).2.2.2.1.2.2, (hp s h).1, by have := (hp s h).2.1; omega⟩, (hp s h).2.2.2.1.2.1, by have := (hp s h).2.2.2.2; omega⟩⟩, ⟨fun v h => (hv v h).nodes, ?_⟩, hv, hx⟩
  have : ¬ 40 < r.s.length := of_decide_eq_false h2
  omega
end Go.Proofs.Ytooaagmhgakhgaa
end

section
namespace Go.Proofs.Ytooaagmhgakhgaa
set_option linter.unusedSimpArgs false
attribute [local push_cast] encB encI encC V.cells_mk V.cells_len Nat.mul_one Int.sub_zero List.map_nil beq_self_eq_true List.head?_cons
open Go.RowKit
set_option maxRecDepth 10000
set_option maxHeartbeats 4000000
namespace Sch
end Sch
end Go.Proofs.Ytooaagmhgakhgaa
end
