/- The walk of the statement RecordApart. -/
import Derived.Test.YtooaagmhgakhgaaZ5
set_option linter.all false
section
namespace Go.Proofs.Ytooaagmhgakhgaa
set_option linter.unusedSimpArgs false
attribute [local push_cast] encB encI V.cells_mk V.cells_take V.cells_len Nat.mul_one Int.sub_zero
open Go.RowKit
set_option maxRecDepth 10000
set_option maxHeartbeats 4000000
def rowC (l : List V) : List D := (l.map V.cells).flatten
theorem rowC_len (l : List V) : (rowC l).length = l.length * 4 := by
  unfold rowC
  rw [flat_len (sz := 4) fun e he => by
    obtain ⟨x, -, rfl⟩ := List.mem_map.1 he
    exact V.cells_len x, List.length_map]
theorem rowC_succ {l : List V} {i : Nat} {x : V} (h : l[i]? = some x) : rowC (l.take (i + 1)) = rowC (l.take i) ++ [x.cells].flatten := by
  unfold rowC
  rw [List.take_succ, h]
  simp
theorem valCopyRowF (k n : Int) (s : ByteArray) (l : List V) (hl : l ≠ []) (hB : (V.mk k n s l).nodes ≤ 1000000000) (st : St) : TrF Try.prog 59 [.agg (V.mk k n s l).cells] st fun x st' => ∃ g cap zs, (rowC l ++ zs).length = cap * 4 ∧ x = .agg [.i k, .i n, .str s, .ar g 0 l.length cap] ∧ st' = .box g 24 (rowC l ++ zs) :: st := by
  have hll := V.nodesL_len l
  rw [V.nodes] at hB
  have IH := Lib.hid fun x (hx : x ∈ l) => valCopyF x.nodes x (Nat.le_refl _) (by have := V.nodesL_mem hx; omega)
  have hpos : 0 < l.length := List.length_pos_iff.2 hl
  rw [V.cells_mk]
  refine trF_enterC (G := cellA 2 24 Try.prog) Try.func59 rfl (by rw [Try.ntmps59]; exact Nat.le_of_ble_eq_true rfl) (fun h1 h2 h3 => res_cell rfl h1 h2 h3) ?_
  simp only [Try.ntmps59]
  repeat' (first | with_reducible refine Go1.go ?_ | ((with_reducible apply ev_go); (focus ((try simp (disch := omega) only [push_cast, simprocAttr, *]); (try exact rfl); done))) | with_reducible refine s_boxP ?_ | ((with_reducible refine w_last ?_ ?_ ?_); kernel_rfl; rfl) | with_reducible refine Go2.go ?_ | ((with_reducible first | apply w_stepG | refine s_bi ?_ ?_ | refine blk_ne ?_ ?_); rfl) | ((with_reducible refine al_go ?_); intro b) | ((with_reducible first | refine w_region ?_ ?_ | refine w_dra ?_ ?_); kernel_rfl) | ((with_reducible refine Go3.go ?_ ?_); all_goals (intro hb; (try with_reducible intro hb1); (try (exfalso; first | contradiction | omega)))) | fail)
  rename_i b1
  revert b
  intro b2
  refine tr_loopd (ι := Nat) (fun i A st' => i ≤ l.length ∧ A.df = [] ∧ A.e 1 = .ptr b1 0 ∧ A.e 2 = .ptr b2 0 ∧ A.e 7 = .sl .shared (l.map V.cells) ∧ A.e 8 = .i l.length ∧ A.e 9 = .i i ∧ ∃ zb, zb.length = 4 ∧ ((i = 0 ∧ A.e 3 = .sl .tight [] ∧ st' = .box b2 24 zb :: .box b1 24 [.i k, .i n, .str s, .sl .shared (l.map V.cells)] :: st) ∨
    (0 < i ∧ ∃ g cap zs, A.e 3 = .ar g 0 i cap ∧ (rowC (l.take i) ++ zs).length = cap * 4 ∧ st' = .box g 24 (rowC (l.take i) ++ zs) :: .box b2 24 zb :: .box b1 24 [.i k, .i n, .str s, .sl .shared (l.map V.cells)] :: st))) (fun i => l.length - i) 0 ⟨Nat.zero_le _, by (first | rfl | assumption | omega | (simp (disch := omega) only [push_cast, simprocAttr, *]; try omega; done)), by (first | rfl | assumption | omega | (simp (disch := omega) only [push_cast, simprocAttr, *]; try omega; done)), by (first | rfl | assumption | omega | (simp (disch := omega) only [push_cast, simprocAttr, *]; try omega; done)), by (first | rfl | assumption | omega | (simp (disch := omega) only [push_cast, simprocAttr, *]; try omega; done)), by (first | rfl | assumption | omega | (simp (disch := omega) only [push_cast, simprocAttr, *]; try omega; done)), by (first | rfl | assumption | omega | (simp (disch := omega) only [push_cast, simprocAttr, *]; try omega; done)), _, by rfl, .inl ⟨rfl, by (first | rfl | assumption | omega | (simp (disch := omega) only [push_cast, simprocAttr, *]; try omega; done)), rfl⟩⟩ ?_
  rintro i A st' ⟨hi, hdf, e1, e2, e7, e8, e9, zb, hzb, ⟨rfl, e3, rfl⟩ | ⟨hi0, g, cap, zs, e3, hlen, rfl⟩⟩
  · obtain ⟨x, hx⟩ : ∃ x, l[0]? = some x := ⟨_, List.getElem?_eq_getElem hpos⟩
    have ih := IH.out x (V.mem_of hx)
    have htk := Lib.hid (rowC_succ hx)
    clear IH
    cases x with
    | mk k1 n1 s1 l1 =>
      rw [V.cells_mk] at ih
      replace ih := Lib.hid ih
      repeat' (first | with_reducible refine Go1.go ?_ | ((with_reducible apply ev_go); (focus ((try simp (disch := omega) only [push_cast, simprocAttr, *]); (try exact rfl); done))) | with_reducible refine s_appN ?_ | with_reducible refine rn_go ?_ | ((with_reducible apply rn2_go); (focus (simp only [List.length_cons, List.length_nil]; omega)); (focus exact len_one rfl); (focus (simp only [List.length_cons, List.length_nil]; omega)); (focus (simp only [List.length_cons, List.length_nil]; omega)); intro g' cap' zs' hc hl') | ((with_reducible refine w_last ?_ ?_ ?_); kernel_rfl; rfl) | with_reducible refine Go2.go ?_ | ((with_reducible first | apply w_stepG | refine s_bi ?_ ?_ | refine blk_ne ?_ ?_); rfl) | ((with_reducible refine al_go ?_); intro b) | ((with_reducible apply (ck_le Try.call59)); exact LEL.refl _; exact ih.out _) | ((with_reducible first | refine w_region ?_ ?_ | refine w_dra ?_ ?_); kernel_rfl) | ((with_reducible refine Go3.go ?_ ?_); all_goals (intro hb; (try with_reducible intro hb1); (try (exfalso; first | contradiction | omega)))) | fail)
      refine ⟨1, .box g' 24 ([[.i k1, .i n1, .str s1, .sl .shared (l1.map V.cells)]].flatten ++ zs') :: .box b2 24 zb :: .box b1 24 [.i k, .i n, .str s, .sl .shared (l.map V.cells)] :: st, (List.sublist_cons_self _ _).cons₂ _, ⟨hpos, ?_, ?_, ?_, ?_, ?_, ?_, zb, hzb, .inr ⟨Nat.zero_lt_one, g', cap', zs', ?_, ?_, ?_⟩⟩, ?_⟩
      · (first | rfl | assumption | omega | (simp (disch := omega) only [push_cast, simprocAttr, *]; try omega; done))
      · (first | rfl | assumption | omega | (simp (disch := omega) only [push_cast, simprocAttr, *]; try omega; done))
      · (first | rfl | assumption | omega | (simp (disch := omega) only [push_cast, simprocAttr, *]; try omega; done))
      · (first | rfl | assumption | omega | (simp (disch := omega) only [push_cast, simprocAttr, *]; try omega; done))
      · (first | rfl | assumption | omega | (simp (disch := omega) only [push_cast, simprocAttr, *]; try omega; done))
      · (first | rfl | assumption | omega | (simp (disch := omega) only [push_cast, simprocAttr, *]; try omega; done))
      · (first | rfl | assumption | omega | (simp (disch := omega) only [push_cast, simprocAttr, *]; try omega; done))
      · rw [htk.out, V.cells_mk]; simpa [rowC] using hl'
      · rw [htk.out, V.cells_mk]; simp [rowC]
      · omega
  by_cases hlt : i < l.length
  · obtain ⟨x, hx⟩ : ∃ x, l[i]? = some x := ⟨_, List.getElem?_eq_getElem hlt⟩
    have ih := IH.out x (V.mem_of hx)
    have htk := Lib.hid (rowC_succ hx)
    have hrl : (rowC (l.take i)).length = i * 4 := by rw [rowC_len, List.length_take, Nat.min_eq_left hi]
    generalize rowC (l.take i) = R at *
    clear IH
    cases x with
    | mk k1 n1 s1 l1 =>
      rw [V.cells_mk] at ih
      replace ih := Lib.hid ih
      repeat' (first | with_reducible refine Go1.go ?_ | ((with_reducible apply ev_go); (focus ((try simp (disch := omega) only [push_cast, simprocAttr, *]); (try exact rfl); done))) | with_reducible refine s_appR ?_ | with_reducible refine rk_go ?_ | ((with_reducible apply (r2_go hrl hlen)); (focus (intro g' cs'; repeat (first | exact ra_h | apply ra_t))); (focus exact len_one rfl); (focus (simp only [List.length_cons, List.length_nil]; omega)); (focus (simp only [List.length_cons, List.length_nil]; omega)); intro g' cap' zs' hc hl') | ((with_reducible refine w_last ?_ ?_ ?_); kernel_rfl; rfl) | with_reducible refine Go2.go ?_ | ((with_reducible first | apply w_stepG | refine s_bi ?_ ?_ | refine blk_ne ?_ ?_); rfl) | ((with_reducible refine al_go ?_); intro b) | ((with_reducible apply (ck_le Try.call59)); exact LEL.refl _; exact ih.out _) | ((with_reducible first | refine w_region ?_ ?_ | refine w_dra ?_ ?_); kernel_rfl) | ((with_reducible refine Go3.go ?_ ?_); all_goals (intro hb; (try with_reducible intro hb1); (try (exfalso; first | contradiction | omega)))) | fail)
      refine ⟨i + 1, .box g' 24 (R ++ [[.i k1, .i n1, .str s1, .sl .shared (l1.map V.cells)]].flatten ++ zs') :: .box b2 24 zb :: .box b1 24 [.i k, .i n, .str s, .sl .shared (l.map V.cells)] :: st, (by (repeat (first | exact List.Sublist.refl _ | apply List.Sublist.cons))), ⟨hlt, ?_, ?_, ?_, ?_, ?_, ?_, zb, hzb, .inr ⟨Nat.succ_pos _, g', cap', zs', ?_, ?_, ?_⟩⟩, ?_⟩
      · (first | rfl | assumption | omega | (simp (disch := omega) only [push_cast, simprocAttr, *]; try omega; done))
      · (first | rfl | assumption | omega | (simp (disch := omega) only [push_cast, simprocAttr, *]; try omega; done))
      · (first | rfl | assumption | omega | (simp (disch := omega) only [push_cast, simprocAttr, *]; try omega; done))
      · (first | rfl | assumption | omega | (simp (disch := omega) only [push_cast, simprocAttr, *]; try omega; done))
      · (first | rfl | assumption | omega | (simp (disch := omega) only [push_cast, simprocAttr, *]; try omega; done))
      · (first | rfl | assumption | omega | (simp (disch := omega) only [push_cast, simprocAttr, *]; try omega; done))
      · (first | rfl | assumption | omega | (simp (disch := omega) only [push_cast, simprocAttr, *]; try omega; done))
      · rw [htk.out, V.cells_mk]; exact hl'
      · rw [htk.out, V.cells_mk]
      · omega
  · have hil : i = l.length := by omega
    subst hil
    rw [List.take_length] at *
    clear IH
    repeat' (first | with_reducible refine Go1.go ?_ | ((with_reducible apply ev_go); (focus ((try simp (disch := omega) only [push_cast, simprocAttr, *]); (try exact rfl); done))) | ((with_reducible refine w_last ?_ ?_ ?_); kernel_rfl; rfl) | with_reducible refine Go2.go ?_ | ((with_reducible first | apply w_stepG | refine s_bi ?_ ?_ | refine blk_ne ?_ ?_); rfl) | ((with_reducible refine al_go ?_); intro b) | ((with_reducible first | refine w_region ?_ ?_ | refine w_dra ?_ ?_); kernel_rfl) | ((with_reducible refine Go3.go ?_ ?_); all_goals (intro hb; (try with_reducible intro hb1); (try (exfalso; first | contradiction | omega)))) | fail)
    all_goals (refine retC_cell (by first | exact .inl rfl | exact .inr rfl) (by first | rfl | assumption) (by simp (disch := omega) only [push_cast, simprocAttr, *]; exact rfl) (by repeat (first | exact mm_h | apply mm_t)) (by simp (disch := omega) only [push_cast, simprocAttr, *]; exact rfl) (by (try simp (disch := omega) only [push_cast, simprocAttr, *]); (try exact rfl); done) (by exact (List.Sublist.cons _ (List.Sublist.cons _ (List.Sublist.refl _))).cons₂ _) ?_ ⟨g, cap, zs, hlen, rfl, rfl⟩; (try simp (disch := omega) only [push_cast, simprocAttr, *]); exact LE.refl _)
end Go.Proofs.Ytooaagmhgakhgaa
end

section
namespace Go.Proofs.Ytooaagmhgakhgaa
set_option linter.unusedSimpArgs false
attribute [local push_cast] encB encI V.cells_mk V.cells_take V.cells_len Nat.mul_one Int.sub_zero Nat.zero_add
open Go.RowKit
set_option maxRecDepth 10000
set_option maxHeartbeats 8000000
theorem lk_sub {P : Program} {t : TypeId} {b off : Nat} {bt : TypeId} {cs : List D} {st0 st : St} {k : D → St → Prop} (hm : Res.box b bt cs ∈ st0) (hs : st0.Sublist st) (h : Ev (readT P t (cs.drop off)) fun d => k d st) : LoadK P none t (.ptr b off) st k := lk_mem (hs.subset hm) h
theorem rowC_at {l : List V} {i : Nat} {x : V} (zs : List D) (h : l[i]? = some x) : List.take 4 (List.drop (i * 4) (rowC l ++ zs)) = x.cells := by
  have h1 : rowC l = rowC (l.take i) ++ (x.cells ++ rowC (l.drop (i + 1))) := by
    unfold rowC
    rw [← List.flatten_cons, ← List.map_cons, ← List.flatten_append, ← List.map_append]
    congr 2
    have := V.drop_cons h
    rw [← this, List.take_append_drop]
  have h2 : (rowC (l.take i)).length = i * 4 := by
    rw [rowC_len, List.length_take, Nat.min_eq_left (Nat.le_of_lt (List.getElem?_eq_some_iff.1 h).1)]
  rw [h1, List.append_assoc, List.drop_append_of_le_length (by omega), ← h2, List.drop_length, List.nil_append, List.append_assoc, List.take_append_of_le_length (by rw [V.cells_len]; exact Nat.le_refl _), List.take_of_length_le (by rw [V.cells_len]; exact Nat.le_refl _)]
theorem valCopyAF (k n : Int) (s : ByteArray) (l : List V) (g cap : Nat) (zg : List D) (hl0 : l ≠ []) (hzg : (rowC l ++ zg).length = cap * 4) (hB : (V.mk k n s l).nodes ≤ 1000000000) (st : St) (hm : Res.box g 24 (rowC l ++ zg) ∈ st) : TrF Try.prog 59 [.agg [.i k, .i n, .str s, .ar g 0 l.length cap]] st fun x st' => x = .agg (V.mk k n s l).cells ∧ st' = st := by
  have hll := V.nodesL_len l
  rw [V.nodes] at hB
  have IH := Lib.hid fun x (hx : x ∈ l) => valCopyF x.nodes x (Nat.le_refl _) (by have := V.nodesL_mem hx; omega)
  have hzl : l.length ≤ cap := by
    rw [List.length_append, rowC_len] at hzg
    omega
  rw [V.cells_mk]
  refine trF_enterC (G := cellA 2 24 Try.prog) Try.func59 rfl (by rw [Try.ntmps59]; exact Nat.le_of_ble_eq_true rfl) (fun h1 h2 h3 => res_cell rfl h1 h2 h3) ?_
  simp only [Try.ntmps59]
  refine tr_room 24 4 0 ?_
  repeat' (first | with_reducible refine Go1.go ?_ | ((with_reducible apply ev_go); (focus ((try simp (disch := omega) only [push_cast, simprocAttr, *]); (try exact rfl); done))) | with_reducible refine s_boxP ?_ | ((with_reducible refine w_last ?_ ?_ ?_); kernel_rfl; rfl) | with_reducible refine Go2.go ?_ | ((with_reducible first | apply w_stepG | refine s_bi ?_ ?_ | refine blk_ne ?_ ?_); rfl) | ((with_reducible refine al_go ?_); intro b) | ((with_reducible apply a2_go); (focus (first | assumption | (intro h; cases h))); (focus (intro o'; repeat (first | exact ra_h | apply ra_t))); (iterate 2 (focus (first | assumption | exact len_nil | exact len_one rfl | (intro a ha; obtain ⟨x, -, rfl⟩ := List.mem_map.1 ha; first | rfl | simp) | (intro a ha; simp at ha; simp [ha])))); (iterate 2 (focus (first | omega | (simp only [List.length_map, List.length_cons, List.length_nil, List.length_append]; omega)))); intro o' ho') | ((with_reducible first | refine w_region ?_ ?_ | refine w_dra ?_ ?_); kernel_rfl) | ((with_reducible refine Go3.go ?_ ?_); all_goals (intro hb; (try with_reducible intro hb1); (try (exfalso; first | contradiction | omega)))) | fail)
  rename_i b1
  revert b
  intro b2
  refine tr_loopd (ι := Nat) (fun i A st' => i ≤ l.length ∧ A.df = [] ∧ A.e 1 = .ptr b1 0 ∧ A.e 2 = .ptr b2 0 ∧ A.e 7 = .ar g 0 l.length cap ∧ A.e 8 = .i l.length ∧ A.e 9 = .i i ∧ ∃ o', o' ≠ .shared ∧ A.e 3 = .sl o' ((l.take i).map V.cells) ∧ ∃ zs, zs.length = 4 ∧ st' = .box b2 24 zs :: .box b1 24 [.i k, .i n, .str s, .ar g 0 l.length cap] :: .room o' 24 4 ((l.take i).map V.cells).length :: st) (fun i => l.length - i) 0 ⟨Nat.zero_le _, ?_, ?_, ?_, ?_, ?_, ?_, .tight, (by intro h; cases h), ?_, _, by rfl, rfl⟩ ?_
  iterate 7 (focus (first | rfl | assumption | omega | (simp (disch := omega) only [push_cast, simprocAttr, *]; try omega; done)))
  rintro i A st' ⟨hi, hdf, e1, e2, e7, e8, e9, o', ho', e3, zs, hzs, rfl⟩
  by_cases hlt : i < l.length
  · obtain ⟨x, hx⟩ : ∃ x, l[i]? = some x := ⟨_, List.getElem?_eq_getElem hlt⟩
    have ih := IH.out x (V.mem_of hx)
    have hrd := rowC_at zg hx
    have hdl : 4 ≤ (List.drop (i * 4) (rowC l ++ zg)).length := by rw [List.length_drop, hzg]; omega
    have htk : l.take (i + 1) = l.take i ++ [x] := by
      rw [List.take_succ, hx]; rfl
    have hTi : (l.take i).length = i := by rw [List.length_take]; omega
    replace htk := Lib.hid htk
    generalize l.take i = Ti at *
    clear IH
    have hT4 : ∀ a ∈ Ti.map V.cells, a.length = 4 := fun a ha => by
      obtain ⟨y, -, rfl⟩ := List.mem_map.1 ha
      exact V.cells_len y
    cases x with
    | mk k1 n1 s1 l1 =>
      rw [V.cells_mk] at ih hrd
      replace ih := Lib.hid ih
      repeat' (first | with_reducible refine Go1.go ?_ | ((with_reducible apply ev_go); (focus ((try simp (disch := omega) only [push_cast, simprocAttr, *]); (try exact rfl); done))) | ((with_reducible apply (lk_sub hm)); (focus (repeat (first | exact List.Sublist.refl _ | apply List.Sublist.cons)))) | ((with_reducible apply (a2_go ho')); (focus (intro o'; repeat (first | exact ra_h | apply ra_t))); (focus exact hT4); (focus exact len_one rfl); (focus (simp only [List.length_map, List.length_cons, List.length_nil]; omega)); (focus (simp only [List.length_map, List.length_cons, List.length_nil]; omega)); intro o' ho') | ((with_reducible refine w_last ?_ ?_ ?_); kernel_rfl; rfl) | with_reducible refine Go2.go ?_ | ((with_reducible first | apply w_stepG | refine s_bi ?_ ?_ | refine blk_ne ?_ ?_); rfl) | ((with_reducible refine al_go ?_); intro b) | ((with_reducible apply (ck_le Try.call59)); exact LEL.refl _; exact ih.out _) | ((with_reducible apply a2_go); (focus (first | assumption | (intro h; cases h))); (focus (intro o'; repeat (first | exact ra_h | apply ra_t))); (iterate 2 (focus (first | assumption | exact len_nil | exact len_one rfl | (intro a ha; obtain ⟨x, -, rfl⟩ := List.mem_map.1 ha; first | rfl | simp) | (intro a ha; simp at ha; simp [ha])))); (iterate 2 (focus (first | omega | (simp only [List.length_map, List.length_cons, List.length_nil, List.length_append]; omega)))); intro o' ho') | ((with_reducible first | refine w_region ?_ ?_ | refine w_dra ?_ ?_); kernel_rfl) | ((with_reducible refine Go3.go ?_ ?_); all_goals (intro hb; (try with_reducible intro hb1); (try (exfalso; first | contradiction | omega)))) | fail)
      refine ⟨i + 1, .box b2 24 zs :: .box b1 24 [.i k, .i n, .str s, .ar g 0 l.length cap] :: .room o' 24 4 ((l.take (i + 1)).map V.cells).length :: st, ?_, ⟨hlt, ?_, ?_, ?_, ?_, ?_, ?_, o', ho', ?_, zs, hzs, rfl⟩, ?_⟩
      · rw [htk.out]; simp only [List.map_append, List.map_cons, List.map_nil, V.cells_mk]; (repeat (first | exact List.Sublist.refl _ | apply List.Sublist.cons))
      · (first | rfl | assumption | omega | (simp (disch := omega) only [push_cast, simprocAttr, *]; try omega; done))
      · (first | rfl | assumption | omega | (simp (disch := omega) only [push_cast, simprocAttr, *]; try omega; done))
      · (first | rfl | assumption | omega | (simp (disch := omega) only [push_cast, simprocAttr, *]; try omega; done))
      · (first | rfl | assumption | omega | (simp (disch := omega) only [push_cast, simprocAttr, *]; try omega; done))
      · (first | rfl | assumption | omega | (simp (disch := omega) only [push_cast, simprocAttr, *]; try omega; done))
      · (first | rfl | assumption | omega | (simp (disch := omega) only [push_cast, simprocAttr, *]; try omega; done))
      · rw [htk.out]; simp only [List.map_append, List.map_cons, List.map_nil, V.cells_mk]; (first | rfl | assumption | omega | (simp (disch := omega) only [push_cast, simprocAttr, *]; try omega; done))
      · omega
  · rw [List.take_of_length_le (by omega)] at *
    clear IH
    repeat' (first | with_reducible refine Go1.go ?_ | ((with_reducible apply ev_go); (focus ((try simp (disch := omega) only [push_cast, simprocAttr, *]); (try exact rfl); done))) | ((with_reducible refine w_last ?_ ?_ ?_); kernel_rfl; rfl) | with_reducible refine Go2.go ?_ | ((with_reducible first | apply w_stepG | refine s_bi ?_ ?_ | refine blk_ne ?_ ?_); rfl) | ((with_reducible refine al_go ?_); intro b) | ((with_reducible apply a2_go); (focus (first | assumption | (intro h; cases h))); (focus (intro o'; repeat (first | exact ra_h | apply ra_t))); (iterate 2 (focus (first | assumption | exact len_nil | exact len_one rfl | (intro a ha; obtain ⟨x, -, rfl⟩ := List.mem_map.1 ha; first | rfl | simp) | (intro a ha; simp at ha; simp [ha])))); (iterate 2 (focus (first | omega | (simp only [List.length_map, List.length_cons, List.length_nil, List.length_append]; omega)))); intro o' ho') | ((with_reducible first | refine w_region ?_ ?_ | refine w_dra ?_ ?_); kernel_rfl) | ((with_reducible refine Go3.go ?_ ?_); all_goals (intro hb; (try with_reducible intro hb1); (try (exfalso; first | contradiction | omega)))) | fail)
    all_goals (refine retC_cell (by simp) (by first | rfl | assumption) (by simp (disch := omega) only [push_cast, simprocAttr, *]; exact rfl) (by repeat (first | exact mm_h | apply mm_t)) (by simp (disch := omega) only [push_cast, simprocAttr, *]; exact rfl) (by (try simp (disch := omega) only [push_cast, simprocAttr, *]); (try exact rfl); done) (by (repeat (first | exact List.Sublist.refl _ | apply List.Sublist.cons))) ?_ ⟨rfl, rfl⟩; (try simp (disch := omega) only [push_cast, simprocAttr, *]); try (first | exact LE.refl _ | exact LE.sl _ _ | ((first | refine LE.tup ?_ | refine LE.agg ?_); (repeat' (first | exact LEL.nil | refine LEL.cons ?_ ?_ | exact LE.refl _ | exact LE.sl _ _ | refine LE.agg ?_)); done) | refine LE.of_eq ?_))
end Go.Proofs.Ytooaagmhgakhgaa
end

section
namespace Go.Proofs.Ytooaagmhgakhgaa
set_option linter.unusedSimpArgs false
attribute [local push_cast] encB encI encC V.cells_mk V.cells_len Nat.mul_one Int.sub_zero List.map_nil beq_self_eq_true List.head?_cons Nat.zero_add
open Go.RowKit
set_option maxRecDepth 10000
set_option maxHeartbeats 8000000
def V.l : V → List V
  | .mk _ _ _ l => l
def cellP (u : V) (p : Nat × Nat × List D) : List D := match u with
  | .mk k n s [] => [.i k, .i n, .str s, .sl .shared []]
  | .mk k n s (x :: l) => [.i k, .i n, .str s, .ar p.1 0 (x :: l).length p.2.1]
theorem cellP_ne {k n : Int} {s : ByteArray} {l : List V} {g c : Nat} {z : List D} (h : l ≠ []) : cellP (.mk k n s l) (g, c, z) = [.i k, .i n, .str s, .ar g 0 l.length c] := by
  cases l with
  | nil => exact absurd rfl h
  | cons x l => rfl
theorem cellP_len (u : V) (p : Nat × Nat × List D) : (cellP u p).length = 4 := by
  cases u with
  | mk k n s l => cases l <;> rfl
def rowP (row : List V) (ps : List (Nat × Nat × List D)) : List D := (List.zipWith cellP row ps).flatten
theorem rowP_each (row : List V) (ps : List (Nat × Nat × List D)) : ∀ e ∈ List.zipWith cellP row ps, e.length = 4 := fun e he => by
  obtain ⟨i, hi⟩ := List.getElem?_of_mem he
  rw [List.getElem?_zipWith] at hi
  split at hi
  · cases hi; exact cellP_len _ _
  · cases hi
theorem rowP_len {row : List V} {ps : List (Nat × Nat × List D)} (h : ps.length = row.length) : (rowP row ps).length = row.length * 4 := by
  unfold rowP
  rw [flat_len (sz := 4) (rowP_each row ps), List.length_zipWith, h, Nat.min_self]
theorem flat_at {es : List (List D)} {sz i : Nat} {e zs : List D} (hes : ∀ e ∈ es, e.length = sz) (h : es[i]? = some e) : List.take sz (List.drop (i * sz) (es.flatten ++ zs)) = e := by
  have hi := (List.getElem?_eq_some_iff.1 h).1
  have he := hes e (List.mem_of_getElem? h)
  have h0 : es = es.take i ++ e :: es.drop (i + 1) := by
    obtain ⟨h1, h2⟩ := List.getElem?_eq_some_iff.1 h
    conv => lhs; rw [← List.take_append_drop i es, List.drop_eq_getElem_cons h1, h2]
  have h1 : es.flatten = (es.take i).flatten ++ (e ++ (es.drop (i + 1)).flatten) := by
    conv => lhs; rw [h0]
    rw [List.flatten_append, List.flatten_cons]
  have h2 : (es.take i).flatten.length = i * sz := by
    rw [flat_len (sz := sz) (fun e he => hes e (List.mem_of_mem_take he)), List.length_take, Nat.min_eq_left (Nat.le_of_lt hi)]
  rw [h1, List.append_assoc, List.drop_append_of_le_length (by omega), ← h2, List.drop_length, List.nil_append, List.append_assoc, List.take_append_of_le_length (by omega), List.take_of_length_le (by omega)]
theorem rowP_at {row : List V} {ps : List (Nat × Nat × List D)} {i : Nat} {u : V} {p : Nat × Nat × List D} (zs : List D) (h : ps.length = row.length) (h1 : row[i]? = some u) (h2 : ps[i]? = some p) : List.take 4 (List.drop (i * 4) (rowP row ps ++ zs)) = cellP u p := by
  unfold rowP
  refine flat_at (rowP_each row ps) ?_
  rw [List.getElem?_zipWith, h1, h2]
theorem recMakeARawF (t : Tm) (ht : TOk t) (v : Int) (row : List V) (hr : ∀ u ∈ row, u.nodes ≤ 1000) (x : Vr) (R : Option (List V)) (hx : x = Sch.verX t v) (he : Sch.verE t v = 0) (hl : row.length = x.cols.length) (hcs : ∀ c ∈ x.cols, c < x.slots.length) (hxl : x.slots.length ≤ 16) (hcl : x.cols.length ≤ 8) (hdv : ∀ s ∈ x.slots, s.dv.nodes ≤ 1000) (hR : Sch.fillC x.slots x.cols row (x.slots.map fun s => s.dv) = R) (g0 cap0 : Nat) (z0 : List D) (ps : List (Nat × Nat × List D)) (hps : ps.length = row.length) (hz0 : (rowP row ps ++ z0).length = cap0 * 4) (S : St) (hin : ∀ (j : Nat) (u : V) (p : Nat × Nat × List D), row[j]? = some u → ps[j]? = some p → u.l ≠ [] → Res.box p.1 24 (rowC u.l ++ p.2.2) ∈ S ∧ (rowC u.l ++ p.2.2).length = p.2.1 * 4) : TrF Try.prog 33 [.agg t.cells, .i v, .ar g0 0 row.length cap0] (.box g0 24 (rowP row ps ++ z0) :: S) (MakeRaw v R (.box g0 24 (rowP row ps ++ z0) :: S)) := by
  have hV := recVersionF t ht v
  rw [← hx, he] at hV
  have hG := recGather1F x.slots (fun s h => by have := hdv s h; omega) (by omega)
  have hE := fun st => rowR_ex (x.slots.map fun s => s.dv) st
  unfold RowR at hG hE
  unfold MakeRaw
  have hol : (x.slots.map fun s => s.dv).length = x.slots.length := List.length_map ..
  have HR0 : Hid (Sch.fillC x.slots (x.cols.drop 0) (row.drop 0) (x.slots.map fun s => s.dv) = R) := hR
  clear hR hx he
  cases x with
  | mk xs xc =>
  unfold Tm.cells at *
  unfold Vr.cells at *
  dsimp only at *
  rw [hol] at hG hE
  generalize t.slots.map Sl.cells = SL at *
  generalize t.steps.map Stp.cells = TL at *
  generalize t.name = nm at *
  have hm1 : (xs.map Sl.cells).length = xs.length := List.length_map ..
  have hm2 : (xc.map encC).length = xc.length := List.length_map ..
  have hzc : row.length ≤ cap0 := by
    rw [List.length_append, rowP_len hps] at hz0
    omega
  have hc1 : Hid (∀ (i : Nat) (s : Sl), xs[i]? = some s → (xs.map Sl.cells)[i]? = some s.cells) := fun i s h => by rw [List.getElem?_map, h]; rfl
  have hc2 : Hid (∀ (i c : Nat), xc[i]? = some c → (xc.map encC)[i]? = some [.i c]) := fun i s h => by rw [List.getElem?_map, h]; rfl
  have hc3 : Hid (∀ (i : Nat) (u : V), row[i]? = some u → ∃ p : Nat × Nat × List D, List.take 4 (List.drop (i * 4) (rowP row ps ++ z0)) = cellP u p ∧ 4 ≤ (List.drop (i * 4) (rowP row ps ++ z0)).length ∧ (u.l ≠ [] → Res.box p.1 24 (rowC u.l ++ p.2.2) ∈ S ∧ (rowC u.l ++ p.2.2).length = p.2.1 * 4)) := fun i u h => by
    obtain ⟨hil, -⟩ := List.getElem?_eq_some_iff.1 h
    obtain ⟨p, hp⟩ : ∃ p, ps[i]? = some p := ⟨_, List.getElem?_eq_getElem (by omega)⟩
    exact ⟨p, rowP_at z0 hps h hp, by rw [List.length_drop, hz0]; omega, hin i u p h hp⟩
  obtain ⟨o0, ho0⟩ : ∃ o0, (xs.map fun s => s.dv) = o0 := ⟨_, rfl⟩
  rw [ho0] at hG hE hol HR0
  generalize xs.map Sl.cells = XS at *
  generalize xc.map encC = XC at *
  rw [hl] at hzc ⊢
  generalize rowP row ps = RC at *
  have hr2 := Lib.hid hr
  have hcs2 := Lib.hid hcs
  have hol2 := Lib.hid hol
  clear hr hcs hdv ho0 hol hin hps
  replace hV := Lib.hid hV
  replace hG := Lib.hid hG
  replace hE := Lib.hid hE
  refine trF_enterG (G := twoA Try.prog (.cell 6 45) (.tmp 7)) Try.func33 rfl (by rw [Try.ntmps33]; exact Nat.le_of_ble_eq_true rfl) (fun h1 h2 h3 => res_two rfl h1 h2 h3) ?_
  simp only [Try.ntmps33]
  repeat' (first | with_reducible refine Go1.go ?_ | ((with_reducible apply ev_go); (focus ((try simp (disch := omega) only [push_cast, simprocAttr, *]); (try exact rfl); done))) | ((with_reducible refine w_last ?_ ?_ ?_); kernel_rfl; rfl) | with_reducible refine Go2.go ?_ | ((with_reducible first | apply w_stepG | refine s_bi ?_ ?_ | refine blk_ne ?_ ?_); rfl) | ((with_reducible refine al_go ?_); intro b) | ((with_reducible apply (ck_le Try.call56)); exact LEL.refl _; exact hV.out _) | ((with_reducible apply (ck_gen Try.call57)); (focus exact List.Perm.refl _); (focus exact hG.out _); (focus exact LEL.refl _); (focus exact hE.out _); (rintro d st' ⟨g, cap, zs, hz, rfl, rfl⟩)) | ((with_reducible first | refine w_region ?_ ?_ | refine w_dra ?_ ?_); kernel_rfl) | ((with_reducible refine Go3.go ?_ ?_); all_goals (intro hb; (try with_reducible intro hb1); (try (exfalso; first | contradiction | omega)))) | fail)
  rename_i b6
  obtain ⟨b8, rfl⟩ : ∃ q, q = b := ⟨_, rfl⟩
  refine tr_loopd (ι := Nat) (fun i A st' => i ≤ xc.length ∧ A.df = [] ∧ A.e 1 = .i v ∧ A.e 2 = .ar g0 0 xc.length cap0 ∧ A.e 6 = .ptr b6 0 ∧ A.e 8 = .ptr b8 0 ∧ A.e 10 = .ar g 0 xs.length cap ∧ A.e 36 = .sl .shared XC ∧ A.e 37 = .i xc.length ∧ A.e 38 = .i i ∧ ∃ out : List V, Hid (Sch.fillC xs (xc.drop i) (row.drop i) out = R) ∧ Hid (out.length = xs.length) ∧ (valC out ++ zs).length = cap * 4 ∧ st' = .box g 24 (valC out ++ zs) :: .box b8 38 [.sl .shared XS, .sl .shared XC] :: .box b6 45 [.i 0, .sl .tight []] :: .box g0 24 (RC ++ z0) :: S) (fun i => xc.length - i) 0 ⟨Nat.zero_le _, ?_, ?_, ?_, ?_, ?_, ?_, ?_, ?_, ?_, o0, HR0, hol2, hz, rfl⟩ ?_
  iterate 9 (focus (first | rfl | assumption | omega | (simp (disch := omega) only [push_cast, simprocAttr, *]; try omega; done)))
  rintro i A st' ⟨hi, hdf, e1, e2, e6, e8, e10, e36, e37, e38, out, HT, hol, hz, rfl⟩
  clear HR0 hol2
  by_cases hlt : i < xc.length
  · obtain ⟨c, hc⟩ : ∃ c, xc[i]? = some c := ⟨_, List.getElem?_eq_getElem hlt⟩
    obtain ⟨u, hu⟩ : ∃ u, row[i]? = some u := ⟨_, List.getElem?_eq_getElem (by omega)⟩
    have hcn := hcs2.out c (List.mem_of_getElem? hc)
    obtain ⟨s, hs⟩ : ∃ s, xs[c]? = some s := ⟨_, List.getElem?_eq_getElem hcn⟩
    have h1 := hc1.out c s hs
    have h2 := hc2.out i c hc
    obtain ⟨p, h3, h3l, h3m⟩ := hc3.out i u hu
    have hun := hr2.out u (List.mem_of_getElem? hu)
    have HE := HT.out
    rw [Sch.fillC_drop hc hu hs] at HE
    have hC := valCopyF u.nodes u (Nat.le_refl _) (by omega)
    have hun2 := hun
    have hset : ∀ zs, List.take (c * 4) (valC out ++ zs) ++ u.cells ++ List.drop (c * 4 + 4) (valC out ++ zs) = valC (out.set c u) ++ zs := fun zs => valC_set zs (by rw [hol.out]; exact hcn)
    replace hset := hset zs
    have hle : c * 4 + 4 ≤ cap * 4 := by
      have h1 := hz
      rw [List.length_append, valC_len, hol.out] at h1
      omega
    have hz' : (valC (out.set c u) ++ zs).length = cap * 4 := by
      rw [List.length_append, valC_len, List.length_set, ← valC_len, ← List.length_append]; exact hz
    have hol' : Hid ((out.set c u).length = xs.length) := Lib.hid (by rw [List.length_set]; exact hol.out)
    clear HT hol hc hu hs
    cases s with
    | mk snm ty rq dv =>
    have hF := schFitsF snm ty rq dv u (by omega)
    generalize Sch.fits _ u = q at *
    clear hun
    generalize out.set c u = out' at *
    cases dv with
    | mk k n sv lv =>
    cases u with
    | mk k' n' sv' lv' =>
    rw [Sl.cells_mk] at h1 hF
    obtain ⟨gi, ci, zi⟩ := p
    dsimp only [V.l] at h3m
    by_cases hlv : lv' = []
    · subst hlv
      rw [show cellP (.mk k' n' sv' []) (gi, ci, zi) = [.i k', .i n', .str sv', .sl .shared []] from rfl] at h3
      clear h3m
      rw [V.cells_mk] at *
      simp only [List.map_nil] at hset hC hF
      replace hF := Lib.hid hF
      replace hC := Lib.hid hC
      cases q with
      | true =>
        rw [if_pos rfl] at HE
        replace HE := Lib.hid HE
        repeat' (first | with_reducible refine Go1.go ?_ | ((with_reducible apply ev_go); (focus ((try simp (disch := omega) only [push_cast, simprocAttr, *]); (try exact rfl); done))) | ((with_reducible refine w_drawRN ?_ ?_ ?_ ?_); (iterate 3 (focus kernel_rfl)); intro hne; simp only [nes, ne1, and_assoc] at hne; repeat (have hq := hne.1; replace hne := hne.2)) | ((with_reducible refine w_last ?_ ?_ ?_); kernel_rfl; rfl) | with_reducible refine Go2.go ?_ | ((with_reducible first | apply w_stepG | refine s_bi ?_ ?_ | refine blk_ne ?_ ?_); rfl) | ((with_reducible refine al_go ?_); intro b) | ((with_reducible apply (ck_el Try.call13)); exact hF.out _; (focus ((repeat' (first | exact LEL.nil | refine LEL.cons ?_ ?_ | exact LE.refl _ | exact LE.sl _ _ | refine LE.agg ?_)); done))) | ((with_reducible apply (ck_el Try.call59)); exact hC.out _; (focus ((repeat' (first | exact LEL.nil | refine LEL.cons ?_ ?_ | exact LE.refl _ | exact LE.sl _ _ | refine LE.agg ?_)); done))) | ((with_reducible first | refine w_region ?_ ?_ | refine w_dra ?_ ?_); kernel_rfl) | ((with_reducible refine Go3.go ?_ ?_); all_goals (intro hb; (try with_reducible intro hb1); (try (exfalso; first | contradiction | omega)))) | fail)
        refine ⟨i + 1, .box g 24 (valC out' ++ zs) :: .box b8 38 [.sl .shared XS, .sl .shared XC] :: .box b6 45 [.i 0, .sl .tight []] :: .box g0 24 (RC ++ z0) :: S, (by (repeat (first | exact List.Sublist.refl _ | apply List.Sublist.cons))), ⟨hlt, ?_, ?_, ?_, ?_, ?_, ?_, ?_, ?_, ?_, out', HE, hol', hz', rfl⟩, by omega⟩
        all_goals (first | rfl | assumption | omega | (simp (disch := omega) only [push_cast, simprocAttr, *]; try omega; done))
      | false =>
        rw [if_neg Bool.false_ne_true] at HE
        subst HE
        repeat' (first | with_reducible refine Go1.go ?_ | ((with_reducible apply ev_go); (focus ((try simp (disch := omega) only [push_cast, simprocAttr, *]); (try exact rfl); done))) | ((with_reducible refine w_drawRN ?_ ?_ ?_ ?_); (iterate 3 (focus kernel_rfl)); intro hne; simp only [nes, ne1, and_assoc] at hne; repeat (have hq := hne.1; replace hne := hne.2)) | ((with_reducible refine w_last ?_ ?_ ?_); kernel_rfl; rfl) | with_reducible refine Go2.go ?_ | ((with_reducible first | apply w_stepG | refine s_bi ?_ ?_ | refine blk_ne ?_ ?_); rfl) | ((with_reducible refine al_go ?_); intro b) | ((with_reducible apply (ck_el Try.call13)); exact hF.out _; (focus ((repeat' (first | exact LEL.nil | refine LEL.cons ?_ ?_ | exact LE.refl _ | exact LE.sl _ _ | refine LE.agg ?_)); done))) | ((with_reducible apply (ck_el Try.call59)); exact hC.out _; (focus ((repeat' (first | exact LEL.nil | refine LEL.cons ?_ ?_ | exact LE.refl _ | exact LE.sl _ _ | refine LE.agg ?_)); done))) | ((with_reducible first | refine w_region ?_ ?_ | refine w_dra ?_ ?_); kernel_rfl) | ((with_reducible refine Go3.go ?_ ?_); all_goals (intro hb; (try with_reducible intro hb1); (try (exfalso; first | contradiction | omega)))) | fail)
        all_goals (refine retG_mk (rs := []) (by first | exact .inl rfl | exact .inr rfl) (by first | rfl | assumption) (List.Perm.refl _) ⟨_, _, rfl, cell_mk (by simp (disch := omega) only [push_cast, simprocAttr, *]; exact rfl) (by repeat (first | exact mm_h | apply mm_t)) (by simp (disch := omega) only [push_cast, simprocAttr, *]; exact rfl) (by (try simp (disch := omega) only [push_cast, simprocAttr, *]); (try exact rfl); done), (by show _ = _; (try simp (disch := omega) only [push_cast, simprocAttr, *]); (try exact rfl); done)⟩ (by (repeat (first | exact List.Sublist.refl _ | with_reducible apply List.Sublist.cons_cons | apply List.Sublist.cons))) (retC2 0 .tight [] 8) (.inl ⟨rfl, rfl, rfl⟩))
    · rw [cellP_ne hlv] at h3
      obtain ⟨hbi, hbz⟩ := h3m hlv
      have hLd : ∀ st : St, S.Sublist st → Lend st (.ar gi 0 lv'.length ci) (.sl .shared (lv'.map V.cells)) := fun st hs => Lend.rowE (hs.subset hbi) rfl (by decide) (val_each lv') (List.length_map ..)
      have hCA := fun st (hs : S.Sublist st) => valCopyAF k' n' sv' lv' gi ci zi hlv hbz (by omega) st (hs.subset hbi)
      rw [V.cells_mk] at *
      replace hF := Lib.hid hF
      replace hCA := Lib.hid hCA
      replace hLd := Lib.hid hLd
      clear hC
      cases q with
      | true =>
        rw [if_pos rfl] at HE
        replace HE := Lib.hid HE
        repeat' (first | with_reducible refine Go1.go ?_ | ((with_reducible apply ev_go); (focus ((try simp (disch := omega) only [push_cast, simprocAttr, *]); (try exact rfl); done))) | ((with_reducible refine w_drawRN ?_ ?_ ?_ ?_); (iterate 3 (focus kernel_rfl)); intro hne; simp only [nes, ne1, and_assoc] at hne; repeat (have hq := hne.1; replace hne := hne.2)) | ((with_reducible refine w_last ?_ ?_ ?_); kernel_rfl; rfl) | with_reducible refine Go2.go ?_ | ((with_reducible first | apply w_stepG | refine s_bi ?_ ?_ | refine blk_ne ?_ ?_); rfl) | ((with_reducible refine al_go ?_); intro b) | ((with_reducible apply (ck_lend Try.call13)); (focus exact hF.out []); (focus exact ⟨Lend.refl _, Lend.agg ⟨Lend.refl _, Lend.refl _, Lend.refl _, hLd.out _ (by repeat (first | exact List.Sublist.refl _ | apply List.Sublist.cons)), trivial⟩, trivial⟩)) | ((with_reducible apply (ck_le Try.call59)); exact LEL.refl _; exact (hCA.out _ (by repeat (first | exact List.Sublist.refl _ | apply List.Sublist.cons)))) | ((with_reducible first | refine w_region ?_ ?_ | refine w_dra ?_ ?_); kernel_rfl) | ((with_reducible refine Go3.go ?_ ?_); all_goals (intro hb; (try with_reducible intro hb1); (try (exfalso; first | contradiction | omega)))) | fail)
        refine ⟨i + 1, .box g 24 (valC out' ++ zs) :: .box b8 38 [.sl .shared XS, .sl .shared XC] :: .box b6 45 [.i 0, .sl .tight []] :: .box g0 24 (RC ++ z0) :: S, (by (repeat (first | exact List.Sublist.refl _ | apply List.Sublist.cons))), ⟨hlt, ?_, ?_, ?_, ?_, ?_, ?_, ?_, ?_, ?_, out', HE, hol', hz', rfl⟩, by omega⟩
        all_goals (first | rfl | assumption | omega | (simp (disch := omega) only [push_cast, simprocAttr, *]; try omega; done))
      | false =>
        rw [if_neg Bool.false_ne_true] at HE
        subst HE
        repeat' (first | with_reducible refine Go1.go ?_ | ((with_reducible apply ev_go); (focus ((try simp (disch := omega) only [push_cast, simprocAttr, *]); (try exact rfl); done))) | ((with_reducible refine w_drawRN ?_ ?_ ?_ ?_); (iterate 3 (focus kernel_rfl)); intro hne; simp only [nes, ne1, and_assoc] at hne; repeat (have hq := hne.1; replace hne := hne.2)) | ((with_reducible refine w_last ?_ ?_ ?_); kernel_rfl; rfl) | with_reducible refine Go2.go ?_ | ((with_reducible first | apply w_stepG | refine s_bi ?_ ?_ | refine blk_ne ?_ ?_); rfl) | ((with_reducible refine al_go ?_); intro b) | ((with_reducible apply (ck_lend Try.call13)); (focus exact hF.out []); (focus exact ⟨Lend.refl _, Lend.agg ⟨Lend.refl _, Lend.refl _, Lend.refl _, hLd.out _ (by repeat (first | exact List.Sublist.refl _ | apply List.Sublist.cons)), trivial⟩, trivial⟩)) | ((with_reducible apply (ck_le Try.call59)); exact LEL.refl _; exact (hCA.out _ (by repeat (first | exact List.Sublist.refl _ | apply List.Sublist.cons)))) | ((with_reducible first | refine w_region ?_ ?_ | refine w_dra ?_ ?_); kernel_rfl) | ((with_reducible refine Go3.go ?_ ?_); all_goals (intro hb; (try with_reducible intro hb1); (try (exfalso; first | contradiction | omega)))) | fail)
        all_goals (refine retG_mk (rs := []) (by first | exact .inl rfl | exact .inr rfl) (by first | rfl | assumption) (List.Perm.refl _) ⟨_, _, rfl, cell_mk (by simp (disch := omega) only [push_cast, simprocAttr, *]; exact rfl) (by repeat (first | exact mm_h | apply mm_t)) (by simp (disch := omega) only [push_cast, simprocAttr, *]; exact rfl) (by (try simp (disch := omega) only [push_cast, simprocAttr, *]); (try exact rfl); done), (by show _ = _; (try simp (disch := omega) only [push_cast, simprocAttr, *]); (try exact rfl); done)⟩ (by (repeat (first | exact List.Sublist.refl _ | with_reducible apply List.Sublist.cons_cons | apply List.Sublist.cons))) (retC2 0 .tight [] 8) (.inl ⟨rfl, rfl, rfl⟩))
  · have HE := HT.out
    rw [List.drop_of_length_le (by omega), Sch.fillC] at HE
    subst HE
    clear HT
    repeat' (first | with_reducible refine Go1.go ?_ | ((with_reducible apply ev_go); (focus ((try simp (disch := omega) only [push_cast, simprocAttr, *]); (try exact rfl); done))) | ((with_reducible refine w_last ?_ ?_ ?_); kernel_rfl; rfl) | with_reducible refine Go2.go ?_ | ((with_reducible first | apply w_stepG | refine s_bi ?_ ?_ | refine blk_ne ?_ ?_); rfl) | ((with_reducible refine al_go ?_); intro b) | ((with_reducible first | refine w_region ?_ ?_ | refine w_dra ?_ ?_); kernel_rfl) | ((with_reducible refine Go3.go ?_ ?_); all_goals (intro hb; (try with_reducible intro hb1); (try (exfalso; first | contradiction | omega)))) | fail)
    all_goals (refine retG_mk (rs := []) (by first | exact .inl rfl | exact .inr rfl) (by first | rfl | assumption) (List.Perm.refl _) ⟨_, _, rfl, cell_mk (by simp (disch := omega) only [push_cast, simprocAttr, *]; exact rfl) (by repeat (first | exact mm_h | apply mm_t)) (by simp (disch := omega) only [push_cast, simprocAttr, *]; exact rfl) (by (try simp (disch := omega) only [push_cast, simprocAttr, *]); (try exact rfl); done), (by show _ = _; (try simp (disch := omega) only [push_cast, simprocAttr, *]); (try exact rfl); done)⟩ (st0 := .box g 24 (valC out ++ zs) :: .box g0 24 (RC ++ z0) :: S) (by (repeat (first | exact List.Sublist.refl _ | with_reducible apply List.Sublist.cons_cons | apply List.Sublist.cons))) (LE.refl _) (.inr ⟨out, g, cap, zs, rfl, hz, by rw [hol.out], rfl⟩))
end Go.Proofs.Ytooaagmhgakhgaa
end

section
namespace Go.Proofs.Ytooaagmhgakhgaa
set_option linter.unusedSimpArgs false
attribute [local push_cast] encB encI encC V.cells_mk V.cells_len Nat.mul_one Int.sub_zero List.map_nil beq_self_eq_true List.head?_cons
open Go.RowKit
set_option maxRecDepth 10000
set_option maxHeartbeats 8000000
theorem recMakeAF (t : Tm) (ht : TOk t) (hdv : ∀ x ∈ Sch.vers t, ∀ z ∈ x.slots, z.dv.nodes ≤ 1000) (v : Int) (row : List V) (hr : ∀ u ∈ row, u.nodes ≤ 1000) (hrl : row.length ≤ 1000000) (g0 cap0 : Nat) (z0 : List D) (ps : List (Nat × Nat × List D)) (hps : ps.length = row.length) (hz0 : (rowP row ps ++ z0).length = cap0 * 4) (S : St) (hin : ∀ (j : Nat) (u : V) (p : Nat × Nat × List D), row[j]? = some u → ps[j]? = some p → u.l ≠ [] → Res.box p.1 24 (rowC u.l ++ p.2.2) ∈ S ∧ (rowC u.l ++ p.2.2).length = p.2.1 * 4) : TrF Try.prog 33 [.agg t.cells, .i v, .ar g0 0 row.length cap0] (.box g0 24 (rowP row ps ++ z0) :: S) fun d st' => d = .tup [.agg (Sch.makeS t v row).1.cells, .i (Sch.makeS t v row).2] ∧ st' = (.box g0 24 (rowP row ps ++ z0) :: S) := by
  obtain ⟨st, hst⟩ : ∃ st, (.box g0 24 (rowP row ps ++ z0) :: S) = st := ⟨_, rfl⟩
  obtain ⟨M, hM⟩ : ∃ M, Sch.makeS t v row = M := ⟨_, rfl⟩
  rw [hM]
  unfold Sch.makeS at hM
  by_cases he : Sch.verE t v = 0
  · rw [if_pos he] at hM
    obtain ⟨x, hx⟩ := Sch.verB_some' (Sch.verE_ok he)
    have hxv : x = Sch.verX t v := (Sch.ver_some_X hx).symm
    rw [← hxv] at hM
    obtain ⟨-, -, hcs, -, hcl⟩ := Sch.vers_apart x (ver_mem hx)
    have hxl : x.slots.length ≤ 16 := (Sch.vers_vi (ver_mem hx)).ls
    have hxd := hdv x (ver_mem hx)
    by_cases hl : row.length = x.cols.length
    · rw [if_pos hl] at hM
      obtain ⟨R, hR⟩ : ∃ R, Sch.fillC x.slots x.cols row (x.slots.map fun s => s.dv) = R := ⟨_, rfl⟩
      have hraw := recMakeARawF t ht v row hr x R hxv he hl hcs hxl hcl hxd hR g0 cap0 z0 ps hps hz0 S hin
      rw [hst] at hraw ⊢
      rw [hR] at hM
      subst hM
      unfold MakeRaw at hraw
      cases R with
      | none =>
        refine hraw.mono fun d st' h => ?_
        rcases h with ⟨-, h1, h2⟩ | ⟨out, g, cap, zs, h, -⟩
        · exact ⟨h1, h2⟩
        · cases h
      | some F =>
        have h' := TrF.rest (ι := Nat × Nat × List D) (el := 24) (p := fun i : Nat × Nat × List D => (valC F ++ i.2.2).length = i.2.1 * 4) (g := fun i => i.1) (n := fun _ => F.length) (cap := fun i => i.2.1) (es := fun _ => F.map V.cells) (F := fun i => .tup [.agg [.i v, .ar i.1 0 F.length i.2.1], .i 0]) (zs := fun i => i.2.2) (S := fun _ => st) (F' := fun _ => .tup [.agg [.i v, .sl .shared (F.map V.cells)], .i 0]) (sz := 4) (by decide) (fun i _ => ⟨fun e he => by
          obtain ⟨x, -, rfl⟩ := List.mem_map.1 he
          exact V.cells_len x, List.length_map ..⟩) (fun i => .tup _ _ (.cons _ _ _ _ (.agg _ _ (.cons _ _ _ _ (.same _) (.cons _ _ _ _ .ar .nil))) (.cons _ _ _ _ (.same _) .nil))) (hraw.mono fun d st' h => by
          rcases h with ⟨h, -⟩ | ⟨out, g, cap, zs, h, h1, h2, h3⟩
          · cases h
          · cases h
            exact ⟨(g, cap, zs), h1, h2, h3⟩)
        exact h'.mono fun d st' ⟨i, k1, k2, k3⟩ => ⟨k2, k3⟩
    · rw [if_neg hl] at hM
      subst hM
      have hV := recVersionF t ht v
      rw [← hxv, he] at hV
      rw [hst]
      have hzc : row.length ≤ cap0 := by
        rw [List.length_append, rowP_len hps] at hz0
        omega
      clear hdv hr hx hxv he hcs hcl hxl hxd hin hps hz0 hst
      cases x with
      | mk xs xc =>
      unfold Sch.zeroR Rc.cells Tm.cells at *
      unfold Vr.cells at *
      dsimp only [List.map_nil] at *
      generalize t.slots.map Sl.cells = SL at *
      generalize t.steps.map Stp.cells = TL at *
      generalize t.name = nm at *
      have hm2 : (xc.map encC).length = xc.length := List.length_map ..
      generalize xs.map Sl.cells = XS at *
      generalize xc.map encC = XC at *
      generalize row.length = rn at *
      generalize xc.length = cn at *
      have hl2 : ¬ (rn : Int) = (cn : Int) := by omega
      replace hV := Lib.hid hV
      refine trF_enterG (G := twoA Try.prog (.cell 6 45) (.tmp 7)) Try.func33 rfl (by rw [Try.ntmps33]; exact Nat.le_of_ble_eq_true rfl) (fun h1 h2 h3 => res_two rfl h1 h2 h3) ?_
      simp only [Try.ntmps33]
      repeat' (first | with_reducible refine Go1.go ?_ | ((with_reducible apply ev_go); (focus ((try simp (disch := omega) only [push_cast, simprocAttr, *]); (try exact rfl); done))) | ((with_reducible refine w_last ?_ ?_ ?_); kernel_rfl; rfl) | with_reducible refine Go2.go ?_ | ((with_reducible first | apply w_stepG | refine s_bi ?_ ?_ | refine blk_ne ?_ ?_); rfl) | ((with_reducible refine al_go ?_); intro b) | ((with_reducible apply (ck_le Try.call56)); exact LEL.refl _; exact hV.out _) | ((with_reducible first | refine w_region ?_ ?_ | refine w_dra ?_ ?_); kernel_rfl) | ((with_reducible refine Go3.go ?_ ?_); all_goals (intro hb; (try with_reducible intro hb1); (try (exfalso; first | contradiction | omega)))) | fail)
      all_goals (refine retG_mk (rs := []) (by first | exact .inl rfl | exact .inr rfl) (by first | rfl | assumption) (List.Perm.refl _) ⟨_, _, rfl, cell_mk (by simp (disch := omega) only [push_cast, simprocAttr, *]; exact rfl) (by repeat (first | exact mm_h | apply mm_t)) (by simp (disch := omega) only [push_cast, simprocAttr, *]; exact rfl) (by (try simp (disch := omega) only [push_cast, simprocAttr, *]); (try exact rfl); done), (by show _ = _; (try simp (disch := omega) only [push_cast, simprocAttr, *]); (try exact rfl); done)⟩ (by (repeat (first | exact List.Sublist.refl _ | with_reducible apply List.Sublist.cons_cons | apply List.Sublist.cons))) (retC2 0 .tight [] 1) ⟨rfl, rfl⟩)
  · rw [if_neg he] at hM
    subst hM
    have hV := recVersionF t ht v
    generalize Sch.verE t v = e at *
    generalize Sch.verX t v = x at *
    rw [hst]
    clear hdv hr hin hps hz0 hst
    cases x with
    | mk xs xc =>
    unfold Sch.zeroR Rc.cells Tm.cells at *
    unfold Vr.cells at *
    dsimp only [List.map_nil] at *
    generalize t.slots.map Sl.cells = SL at *
    generalize t.steps.map Stp.cells = TL at *
    generalize t.name = nm at *
    generalize xs.map Sl.cells = XS at *
    generalize xc.map encC = XC at *
    replace hV := Lib.hid hV
    refine trF_enterG (G := twoA Try.prog (.cell 6 45) (.tmp 7)) Try.func33 rfl (by rw [Try.ntmps33]; exact Nat.le_of_ble_eq_true rfl) (fun h1 h2 h3 => res_two rfl h1 h2 h3) ?_
    simp only [Try.ntmps33]
    repeat' (first | with_reducible refine Go1.go ?_ | ((with_reducible apply ev_go); (focus ((try simp (disch := omega) only [push_cast, simprocAttr, *]); (try exact rfl); done))) | ((with_reducible refine w_last ?_ ?_ ?_); kernel_rfl; rfl) | with_reducible refine Go2.go ?_ | ((with_reducible first | apply w_stepG | refine s_bi ?_ ?_ | refine blk_ne ?_ ?_); rfl) | ((with_reducible refine al_go ?_); intro b) | ((with_reducible apply (ck_le Try.call56)); exact LEL.refl _; exact hV.out _) | ((with_reducible first | refine w_region ?_ ?_ | refine w_dra ?_ ?_); kernel_rfl) | ((with_reducible refine Go3.go ?_ ?_); all_goals (intro hb; (try with_reducible intro hb1); (try (exfalso; first | contradiction | omega)))) | fail)
    all_goals (refine retG_mk (rs := []) (by first | exact .inl rfl | exact .inr rfl) (by first | rfl | assumption) (List.Perm.refl _) ⟨_, _, rfl, cell_mk (by simp (disch := omega) only [push_cast, simprocAttr, *]; exact rfl) (by repeat (first | exact mm_h | apply mm_t)) (by simp (disch := omega) only [push_cast, simprocAttr, *]; exact rfl) (by (try simp (disch := omega) only [push_cast, simprocAttr, *]); (try exact rfl); done), (by show _ = _; (try simp (disch := omega) only [push_cast, simprocAttr, *]); (try exact rfl); done)⟩ (by (repeat (first | exact List.Sublist.refl _ | with_reducible apply List.Sublist.cons_cons | apply List.Sublist.cons))) (retC2 0 .tight [] e) ⟨rfl, rfl⟩)
end Go.Proofs.Ytooaagmhgakhgaa
end

section
namespace Go.Proofs.Ytooaagmhgakhgaa
set_option linter.unusedSimpArgs false
attribute [local push_cast] encB encI encC V.cells_mk V.cells_len Nat.mul_one Int.sub_zero List.map_nil beq_self_eq_true bne_self_eq_false List.head?_cons
open Go.RowKit
set_option maxRecDepth 10000
set_option maxHeartbeats 8000000
abbrev Pl := Nat × Nat × List D
theorem resAt_app {r r' : Res} {l st st' : St} (h : ResAt r r' st st') : ResAt r r' (l ++ st) (l ++ st') := by
  induction l with
  | nil => exact h
  | cons x l ih => exact .there ih
def cellQ (u : V) (p : Pl) : List D := match u with
  | .mk k n s [] => [.i k, .i n, .str s, .sl .shared []]
  | .mk k n s (x :: l) => [.i k, .i n, .str s, .ar p.1 0 (x :: l).length p.2.1]
def boxQ (u : V) (p : Pl) : St := match u with
  | .mk _ _ _ [] => []
  | .mk _ _ _ (x :: l) => [.box p.1 24 (rowC (x :: l) ++ p.2.2)]
def okQ (u : V) (p : Pl) : Prop := u.l ≠ [] → (rowC u.l ++ p.2.2).length = p.2.1 * 4
theorem cellQ_len (u : V) (p : Pl) : (cellQ u p).length = 4 := by
  cases u with
  | mk k n s l => cases l <;> rfl
def rowQ (us : List V) (ps : List Pl) : List D := (List.zipWith cellQ us ps).flatten
def bsQ (us : List V) (ps : List Pl) : St := (List.zipWith boxQ us ps).reverse.flatten
theorem rowQ_each (us : List V) (ps : List Pl) : ∀ e ∈ List.zipWith cellQ us ps, e.length = 4 := fun e he => by
  obtain ⟨i, hi⟩ := List.getElem?_of_mem he
  rw [List.getElem?_zipWith] at hi
  split at hi
  · cases hi; exact cellQ_len _ _
  · cases hi
theorem rowQ_len {us : List V} {ps : List Pl} (h : ps.length = us.length) : (rowQ us ps).length = us.length * 4 := by
  unfold rowQ
  rw [flat_len (sz := 4) (rowQ_each us ps), List.length_zipWith, h, Nat.min_self]
theorem rowQ_add {us : List V} {ps : List Pl} (h : ps.length = us.length) (u : V) (p : Pl) : rowQ (us ++ [u]) (ps ++ [p]) = rowQ us ps ++ [cellQ u p].flatten := by
  unfold rowQ
  rw [List.zipWith_append h.symm, List.flatten_append]; rfl
theorem bsQ_add {us : List V} {ps : List Pl} (h : ps.length = us.length) (u : V) (p : Pl) : bsQ (us ++ [u]) (ps ++ [p]) = boxQ u p ++ bsQ us ps := by
  unfold bsQ
  rw [List.zipWith_append h.symm, List.reverse_append, List.flatten_append]
  show [boxQ u p].flatten ++ _ = _
  rw [List.flatten_cons, List.flatten_nil, List.append_nil]
def RowA (us : List V) (st : St) (d : D) (st' : St) : Prop :=
  ∃ (g cap : Nat) (zs : List D) (ps : List Pl), ps.length = us.length ∧ (∀ (j : Nat) (u : V) (p : Pl), us[j]? = some u → ps[j]? = some p → okQ u p) ∧ (rowQ us ps ++ zs).length = cap * 4 ∧ d = .ar g 0 us.length cap ∧ st' = bsQ us ps ++ .box g 24 (rowQ us ps ++ zs) :: st
theorem recRow1AF (rv : Int) (rs : List V) (c : Nat) (k n : Int) (s : ByteArray) (l : List V) (hu : rs[c]? = some (.mk k n s l)) (hl : l ≠ []) (hn : (V.mk k n s l).nodes ≤ 1000000) (st : St) : TrF Try.prog 64 [.i c, .ip [.i rv, .sl .shared (rs.map V.cells)]] st fun d st' => ∃ h cap zs, (rowC l ++ zs).length = cap * 4 ∧ d = .agg [.i k, .i n, .str s, .ar h 0 l.length cap] ∧ st' = .box h 24 (rowC l ++ zs) :: st := by
  have h1 : (rs.map V.cells)[c]? = some (V.mk k n s l).cells := by rw [List.getElem?_map, hu]; rfl
  have hm : (rs.map V.cells).length = rs.length := List.length_map ..
  have hc := (List.getElem?_eq_some_iff.1 hu).1
  have hC := valCopyRowF k n s l hl (by omega)
  have hE : ∀ st : St, ∃ (d : D) (st' : St), ∃ (h cap : Nat) (zs : List D), (rowC l ++ zs).length = cap * 4 ∧ d = .agg [.i k, .i n, .str s, .ar h 0 l.length cap] ∧ st' = .box h 24 (rowC l ++ zs) :: st := fun st => ⟨_, _, 0, l.length, [], by rw [List.append_nil, rowC_len], rfl, rfl⟩
  clear hu hn
  rw [V.cells_mk] at h1 hC
  generalize rowC l = RL at *
  generalize l.length = ll at *
  generalize l.map V.cells = LC at *
  generalize rs.map V.cells = RS at *
  replace hC := Lib.hid hC
  replace hE := Lib.hid hE
  clear hl
  refine trF_enterC (G := cellA 3 24 Try.prog) Try.func64 rfl (by rw [Try.ntmps64]; exact Nat.le_of_ble_eq_true rfl) (fun h1 h2 h3 => res_cell rfl h1 h2 h3) ?_
  simp only [Try.ntmps64]
  repeat' (first | with_reducible refine Go1.go ?_ | ((with_reducible apply ev_go); (focus ((try simp (disch := omega) only [push_cast, simprocAttr, *]); (try exact rfl); done))) | ((with_reducible refine w_last ?_ ?_ ?_); kernel_rfl; rfl) | with_reducible refine Go2.go ?_ | ((with_reducible first | apply w_stepG | refine s_bi ?_ ?_ | refine blk_ne ?_ ?_); rfl) | ((with_reducible refine al_go ?_); intro b) | ((with_reducible apply (ck_gen Try.call59)); (focus exact List.Perm.refl _); (focus exact hC.out _); (focus exact LEL.refl _); (focus exact hE.out _); (rintro d st' ⟨h, cap, zs, hz, rfl, rfl⟩)) | ((with_reducible first | refine w_region ?_ ?_ | refine w_dra ?_ ?_); kernel_rfl) | ((with_reducible refine Go3.go ?_ ?_); all_goals (intro hb; (try with_reducible intro hb1); (try (exfalso; first | contradiction | omega)))) | fail)
  all_goals (refine retC_cell (by first | exact .inl rfl | exact .inr rfl) (by first | rfl | assumption) (by simp (disch := omega) only [push_cast, simprocAttr, *]; exact rfl) (by repeat (first | exact mm_h | apply mm_t)) (by simp (disch := omega) only [push_cast, simprocAttr, *]; exact rfl) (by (try simp (disch := omega) only [push_cast, simprocAttr, *]); (try exact rfl); done) (by exact (List.Sublist.cons _ (List.Sublist.refl _)).cons_cons _) ?_ ⟨h, cap, zs, hz, rfl, rfl⟩; (try simp (disch := omega) only [push_cast, simprocAttr, *]); exact LE.refl _)
end Go.Proofs.Ytooaagmhgakhgaa
end

section
namespace Go.Proofs.Ytooaagmhgakhgaa
set_option linter.unusedSimpArgs false
attribute [local push_cast] encB encI encC V.cells_mk V.cells_len Nat.mul_one Int.sub_zero List.map_nil beq_self_eq_true bne_self_eq_false List.head?_cons
open Go.RowKit
set_option maxRecDepth 10000
set_option maxHeartbeats 8000000
theorem cellQ_ne {k n : Int} {s : ByteArray} {l : List V} {g c : Nat} {z : List D} (h : l ≠ []) : cellQ (.mk k n s l) (g, c, z) = [.i k, .i n, .str s, .ar g 0 l.length c] := by
  cases l with
  | nil => exact absurd rfl h
  | cons x l => rfl
theorem boxQ_ne {k n : Int} {s : ByteArray} {l : List V} {g c : Nat} {z : List D} (h : l ≠ []) : boxQ (.mk k n s l) (g, c, z) = [.box g 24 (rowC l ++ z)] := by
  cases l with
  | nil => exact absurd rfl h
  | cons x l => rfl
theorem recGather5F (rv : Int) (rs : List V) (hn : ∀ v ∈ rs, v.nodes ≤ 1000000) (xc : List Nat) (hcs : ∀ c ∈ xc, c < rs.length) (hl : xc.length ≤ 1000) (us : List V) (hus : us = xc.map fun c => rs.getD c Sch.zeroV) (st : St) : TrF Try.prog 61 [.sl .shared (xc.map encC), .fn (.func 64) [] [.ip [.i rv, .sl .shared (rs.map V.cells)]]] st (RowA us st) := by
  unfold RowA
  have hul : us.length = xc.length := by rw [hus, List.length_map]
  have hue : ∀ (i c : Nat), xc[i]? = some c → ∃ u, rs[c]? = some u ∧ us[i]? = some u := fun i c h => by
    obtain ⟨u, hu⟩ : ∃ u, rs[c]? = some u := ⟨_, List.getElem?_eq_getElem (hcs c (List.mem_of_getElem? h))⟩
    refine ⟨u, hu, ?_⟩
    rw [hus, List.getElem?_map, h, Option.map_some, List.getD_eq_getElem?_getD, hu, Option.getD_some]
  have hc2 : Hid (∀ (i c : Nat), xc[i]? = some c → (xc.map encC)[i]? = some [.i c]) := fun i s h => by rw [List.getElem?_map, h]; rfl
  have hm2 : (xc.map encC).length = xc.length := List.length_map ..
  have h1F := fun (c : Nat) (u : V) (h : rs[c]? = some u) => recRow1F rv rs c u h (hn u (List.mem_of_getElem? h))
  have h1A := fun (c : Nat) (k n : Int) (s : ByteArray) (l : List V) (h : rs[c]? = some (.mk k n s l)) (hl : l ≠ []) => recRow1AF rv rs c k n s l h hl (hn _ (List.mem_of_getElem? h))
  have hue2 := Lib.hid hue
  clear hus hn hcs hue
  generalize xc.map encC = XS at *
  generalize rs.map V.cells = RS at *
  replace h1F := Lib.hid h1F
  replace h1A := Lib.hid h1A
  rw [hul]
  refine trF_enter (ts := [4]) Try.func61 rfl (by rw [Try.ntmps61]; exact Nat.le_of_ble_eq_true rfl) (fun tmps w => by simp [results, Try.results61, go_sem, resVal]) ?_
  simp only [Try.ntmps61]
  repeat' (first | with_reducible refine Go1.go ?_ | ((with_reducible apply ev_go); (focus ((try simp (disch := omega) only [push_cast, simprocAttr, *]); (try exact rfl); done))) | with_reducible refine s_make0 ?_ | ((with_reducible apply mk0_go); (focus omega); (focus omega); intro g zs hzs) | ((with_reducible refine w_last ?_ ?_ ?_); kernel_rfl; rfl) | with_reducible refine Go2.go ?_ | ((with_reducible first | apply w_stepG | refine s_bi ?_ ?_ | refine blk_ne ?_ ?_); rfl) | ((with_reducible refine al_go ?_); intro b) | ((with_reducible first | refine w_region ?_ ?_ | refine w_dra ?_ ?_); kernel_rfl) | ((with_reducible refine Go3.go ?_ ?_); all_goals (intro hb; (try with_reducible intro hb1); (try (exfalso; first | contradiction | omega)))) | fail)
  refine tr_loopd (ι := Nat) (fun i A st' => i ≤ xc.length ∧ A.df = [] ∧ A.e 1 = .fn (.func 64) [] [.ip [.i rv, .sl .shared RS]] ∧ A.e 11 = .sl .shared XS ∧ A.e 12 = .i xc.length ∧ A.e 13 = .i i ∧ ∃ (g cap : Nat) (zs : List D) (ps : List Pl), ps.length = i ∧ Hid (∀ (j : Nat) (u : V) (p : Pl), us[j]? = some u → ps[j]? = some p → okQ u p) ∧ (rowQ (us.take i) ps ++ zs).length = cap * 4 ∧ i ≤ cap ∧ A.e 5 = .ar g 0 i cap ∧ st' = bsQ (us.take i) ps ++ .box g 24 (rowQ (us.take i) ps ++ zs) :: st) (fun i => xc.length - i) 0 ⟨Nat.zero_le _, ?_, ?_, ?_, ?_, ?_, g, xc.length, zs, [], rfl, (fun j u p _ h => by cases h), hzs, Nat.zero_le _, ?_, rfl⟩ ?_
  iterate 6 (focus (first | rfl | assumption | omega | (simp (disch := omega) only [push_cast, simprocAttr, *]; try omega; done)))
  rintro i A st' ⟨hi, hdf, e1, e11, e12, e13, g, cap, zs, ps, hps, hok, hz, hic, e5, rfl⟩
  by_cases hlt : i < xc.length
  · obtain ⟨c, hc⟩ : ∃ c, xc[i]? = some c := ⟨_, List.getElem?_eq_getElem hlt⟩
    have h2 := hc2.out i c hc
    obtain ⟨u, hu, hui⟩ := hue2.out i c hc
    have htl : ps.length = (us.take i).length := by rw [List.length_take, hps]; omega
    have hds : (rowQ (us.take i) ps).length = i * 4 := by rw [rowQ_len htl, ← htl, hps]
    have hT : Hid (∀ p, rowQ (us.take (i + 1)) (ps ++ [p]) = rowQ (us.take i) ps ++ [cellQ u p].flatten ∧ bsQ (us.take (i + 1)) (ps ++ [p]) = boxQ u p ++ bsQ (us.take i) ps) := fun p => by
      rw [take_snoc' hui]
      exact ⟨rowQ_add htl u p, bsQ_add htl u p⟩
    have hok' : Hid (∀ p, okQ u p → ∀ (j : Nat) (u : V) (q : Pl), us[j]? = some u → (ps ++ [p])[j]? = some q → okQ u q) := fun p hp j w q h1 h2 => by
      rcases Nat.lt_trichotomy j ps.length with h | h | h
      · rw [List.getElem?_append_left h] at h2
        exact hok.out j w q h1 h2
      · rw [h, List.getElem?_append_right (Nat.le_refl _), Nat.sub_self] at h2
        cases h2
        rw [h, hps, hui] at h1
        cases h1
        exact hp
      · rw [List.getElem?_eq_none (by rw [List.length_append, List.length_singleton]; omega)] at h2
        cases h2
    have hpl : Hid (∀ p, (ps ++ [p]).length = i + 1) := fun p => by rw [List.length_append, List.length_singleton, hps]
    clear htl hok
    generalize rowQ (us.take i) ps = RQ at *
    generalize bsQ (us.take i) ps = BQ at *
    cases u with
    | mk k n s l =>
    by_cases hl0 : l = []
    · subst hl0
      have hG := h1F.out c _ hu
      have h3 := hT.out (0, 0, [])
      have h4 := hok'.out (0, 0, []) (fun h => absurd rfl h)
      rw [show cellQ (.mk k n s []) (0, 0, []) = [.i k, .i n, .str s, .sl .shared []] from rfl, show boxQ (.mk k n s []) (0, 0, []) = [] from rfl, List.nil_append] at h3
      rw [V.cells_mk, List.map_nil] at hG
      replace hG := Lib.hid hG
      replace h3 := Lib.hid h3
      replace h4 := Lib.hid h4
      clear hc hu hui h1F h1A hT
      repeat' (first | with_reducible refine Go1.go ?_ | ((with_reducible apply ev_go); (focus ((try simp (disch := omega) only [push_cast, simprocAttr, *]); (try exact rfl); done))) | with_reducible refine s_appR ?_ | with_reducible refine rk_go ?_ | ((with_reducible apply (r2_go hds hz)); (focus (intro g' cs'; repeat (first | exact ResAt.here | apply resAt_app | apply ResAt.there))); (focus exact len_one rfl); (iterate 2 (focus (simp only [List.length_cons, List.length_nil]; omega))); intro g' cap' zs' hc' hz') | ((with_reducible refine w_last ?_ ?_ ?_); kernel_rfl; rfl) | with_reducible refine Go2.go ?_ | ((with_reducible first | apply w_stepG | refine s_bi ?_ ?_ | refine blk_ne ?_ ?_); rfl) | ((with_reducible refine al_go ?_); intro b) | ((with_reducible apply (ck_le Try.call64)); exact LEL.refl _; exact hG.out _) | ((with_reducible first | refine w_region ?_ ?_ | refine w_dra ?_ ?_); kernel_rfl) | ((with_reducible refine Go3.go ?_ ?_); all_goals (intro hb; (try with_reducible intro hb1); (try (exfalso; first | contradiction | omega)))) | fail)
      refine ⟨i + 1, bsQ (us.take (i + 1)) (ps ++ [(0, 0, [])]) ++ .box g' 24 (rowQ (us.take (i + 1)) (ps ++ [(0, 0, [])]) ++ zs') :: st, (by rw [h3.out.1, h3.out.2]; exact List.Sublist.refl _), ⟨hlt, ?_, ?_, ?_, ?_, ?_, g', cap', zs', ps ++ [(0, 0, [])], hpl.out _, h4, (by rw [h3.out.1]; exact hz'), hc', ?_, rfl⟩, by omega⟩
      all_goals (first | rfl | assumption | omega | (simp (disch := omega) only [push_cast, simprocAttr, *]; try omega; done))
    · have hG := h1A.out c k n s l hu hl0
      have hE : ∀ st : St, ∃ (d : D) (st' : St), ∃ (h cap : Nat) (zs : List D), (rowC l ++ zs).length = cap * 4 ∧ d = .agg [.i k, .i n, .str s, .ar h 0 l.length cap] ∧ st' = .box h 24 (rowC l ++ zs) :: st := fun st => ⟨_, _, 0, l.length, [], by rw [List.append_nil, rowC_len], rfl, rfl⟩
      replace hG := Lib.hid hG
      replace hE := Lib.hid hE
      clear hc hu hui h1F h1A
      repeat' (first | with_reducible refine Go1.go ?_ | ((with_reducible apply ev_go); (focus ((try simp (disch := omega) only [push_cast, simprocAttr, *]); (try exact rfl); done))) | with_reducible refine s_appR ?_ | with_reducible refine rk_go ?_ | ((with_reducible apply (r2_go hds hz)); (focus (intro g' cs'; repeat (first | exact ResAt.here | apply resAt_app | apply ResAt.there))); (focus exact len_one rfl); (iterate 2 (focus (simp only [List.length_cons, List.length_nil]; omega))); intro g' cap' zs' hc' hz') | ((with_reducible refine w_last ?_ ?_ ?_); kernel_rfl; rfl) | with_reducible refine Go2.go ?_ | ((with_reducible first | apply w_stepG | refine s_bi ?_ ?_ | refine blk_ne ?_ ?_); rfl) | ((with_reducible refine al_go ?_); intro b) | ((with_reducible apply (ck_gen Try.call64)); (focus exact List.Perm.refl _); (focus exact hG.out _); (focus exact LEL.refl _); (focus exact hE.out _); (rintro d st' ⟨h, ch, zh, hzh, rfl, rfl⟩)) | ((with_reducible first | refine w_region ?_ ?_ | refine w_dra ?_ ?_); kernel_rfl) | ((with_reducible refine Go3.go ?_ ?_); all_goals (intro hb; (try with_reducible intro hb1); (try (exfalso; first | contradiction | omega)))) | fail)
      have h3 := hT.out (h, ch, zh)
      have h4 := Lib.hid (hok'.out (h, ch, zh) (fun _ => hzh))
      rw [cellQ_ne hl0, boxQ_ne hl0] at h3
      replace h3 := Lib.hid h3
      clear hT hok'
      refine ⟨i + 1, bsQ (us.take (i + 1)) (ps ++ [(h, ch, zh)]) ++ .box g' 24 (rowQ (us.take (i + 1)) (ps ++ [(h, ch, zh)]) ++ zs') :: st, (by rw [h3.out.1, h3.out.2]; exact List.Sublist.refl _), ⟨hlt, ?_, ?_, ?_, ?_, ?_, g', cap', zs', ps ++ [(h, ch, zh)], hpl.out _, h4, (by rw [h3.out.1]; exact hz'), hc', ?_, rfl⟩, by omega⟩
      all_goals (first | rfl | assumption | omega | (simp (disch := omega) only [push_cast, simprocAttr, *]; try omega; done))
  · have hil : i = xc.length := by omega
    rw [List.take_of_length_le (by omega)] at hz ⊢
    rw [hil] at hps hic e13 e5
    repeat' (first | with_reducible refine Go1.go ?_ | ((with_reducible apply ev_go); (focus ((try simp (disch := omega) only [push_cast, simprocAttr, *]); (try exact rfl); done))) | ((with_reducible refine w_last ?_ ?_ ?_); kernel_rfl; rfl) | with_reducible refine Go2.go ?_ | ((with_reducible first | apply w_stepG | refine s_bi ?_ ?_ | refine blk_ne ?_ ?_); rfl) | ((with_reducible refine al_go ?_); intro b) | ((with_reducible first | refine w_region ?_ ?_ | refine w_dra ?_ ?_); kernel_rfl) | ((with_reducible refine Go3.go ?_ ?_); all_goals (intro hb; (try with_reducible intro hb1); (try (exfalso; first | contradiction | omega)))) | fail)
    all_goals (refine retA_mk (by first | exact .inl rfl | exact .inr rfl) (by first | rfl | assumption) (List.Sublist.refl _) (LE.of_eq ?_) ⟨g, cap, zs, ps, hps, hok.out, hz, rfl, rfl⟩; simp (disch := omega) only [push_cast, simprocAttr, *])
theorem recRowAF (t : Tm) (ht : TOk t) (r : Rc) (hr : ∀ v ∈ r.s, v.nodes ≤ 1000) (hl : r.s.length ≤ 1000) (hv : Sch.valid t r = true) (x : Vr) (hx : x = Sch.verX t r.v) (hcs : ∀ c ∈ x.cols, c < r.s.length) (hcl : x.cols.length ≤ 8) (us : List V) (hus : us = x.cols.map fun c => r.s.getD c Sch.zeroV) (st : St) : TrF Try.prog 36 [.agg t.cells, .agg r.cells] st (RowA us st) := by
  have hV := recValidF t ht r hr (by omega)
  have hA := schAtF t ht r.v
  rw [← hx] at hA
  rw [hv] at hV
  have hG := recGather5F r.v r.s (fun v h => by have := hr v h; omega) x.cols hcs (by omega) us hus
  have hE : ∀ st : St, ∃ (d : D) (st' : St), RowA us st d st' := fun st => by
    obtain ⟨ps, h1, h2, h3⟩ : ∃ ps : List Pl, ps.length = us.length ∧ (∀ (j : Nat) (u : V) (p : Pl), us[j]? = some u → ps[j]? = some p → okQ u p) ∧ True := by
      refine ⟨us.map fun u => (0, u.l.length, []), List.length_map .., fun j u p h1 h2 _ => ?_, trivial⟩
      rw [List.getElem?_map, h1] at h2
      cases h2
      show (rowC u.l ++ []).length = u.l.length * 4
      rw [List.append_nil, rowC_len]
    exact ⟨_, _, 0, us.length, [], ps, h1, h2, by rw [List.append_nil, rowQ_len h1], rfl, rfl⟩
  unfold RowA at hG hE ⊢
  generalize Sch.verB t r.v = ok at *
  clear hx hcs hr hv hus
  cases x with
  | mk xs xc =>
  unfold Tm.cells Rc.cells at *
  unfold Vr.cells at *
  dsimp only at *
  generalize t.slots.map Sl.cells = SL at *
  generalize t.steps.map Stp.cells = TL at *
  generalize t.name = nm at *
  generalize r.s.map V.cells = RS at *
  generalize r.v = rv at *
  generalize xs.map Sl.cells = XS at *
  generalize xc.map encC = XC at *
  replace hV := Lib.hid hV
  replace hA := Lib.hid hA
  replace hG := Lib.hid hG
  replace hE := Lib.hid hE
  refine trF_enter (ts := [4]) Try.func36 rfl (by rw [Try.ntmps36]; exact Nat.le_of_ble_eq_true rfl) (fun tmps w => by simp [results, Try.results36, go_sem, resVal]) ?_
  simp only [Try.ntmps36]
  repeat' (first | with_reducible refine Go1.go ?_ | ((with_reducible apply ev_go); (focus ((try simp (disch := omega) only [push_cast, simprocAttr, *]); (try exact rfl); done))) | ((with_reducible refine w_last ?_ ?_ ?_); kernel_rfl; rfl) | with_reducible refine Go2.go ?_ | ((with_reducible first | apply w_stepG | refine s_bi ?_ ?_ | refine blk_ne ?_ ?_); rfl) | ((with_reducible refine al_go ?_); intro b) | ((with_reducible apply (ck_le Try.call54)); exact LEL.refl _; exact hV.out _) | ((with_reducible apply (ck_le Try.call18)); exact LEL.refl _; exact hA.out _) | ((with_reducible apply (ck_gen Try.call61)); (focus exact List.Perm.refl _); (focus exact hG.out _); (focus exact LEL.refl _); (focus exact hE.out _); (rintro d st' ⟨g, cap, zs, ps, hps, hok, hz, rfl, rfl⟩)) | ((with_reducible first | refine w_region ?_ ?_ | refine w_dra ?_ ?_); kernel_rfl) | ((with_reducible refine Go3.go ?_ ?_); all_goals (intro hb; (try with_reducible intro hb1); (try (exfalso; first | contradiction | omega)))) | fail)
  all_goals (refine retA_mk (by first | exact .inl rfl | exact .inr rfl) (by first | rfl | assumption) (List.Sublist.append (List.Sublist.refl _) (((List.Sublist.refl _).cons _).cons_cons _)) (LE.of_eq ?_) ⟨g, cap, zs, ps, hps, hok, hz, rfl, rfl⟩; simp (disch := omega) only [push_cast, simprocAttr, *])
end Go.Proofs.Ytooaagmhgakhgaa
end

section
namespace Go.Proofs.Ytooaagmhgakhgaa
set_option linter.unusedSimpArgs false
open Go.RowKit
namespace Sch
theorem fillC_len {sl : List Sl} : ∀ (cols : List Nat) (row out o : List V), fillC sl cols row out = some o → o.length = out.length
  | [], _, out, o, h => by cases h; rfl
  | a :: cs, [], _, _, h => by cases h
  | a :: cs, b :: us, out, o, h => by
    rw [fillC] at h
    cases ha : sl[a]? with
    | none => rw [ha] at h; cases h
    | some s =>
      rw [ha] at h
      dsimp only at h
      split at h
      · rw [fillC_len cs us _ o h, List.length_set]
      · cases h
theorem fillC_old {sl : List Sl} : ∀ (cols : List Nat) (row out o : List V), fillC sl cols row out = some o → ∀ j, j ∉ cols → o[j]? = out[j]?
  | [], _, out, o, h, j, _ => by cases h; rfl
  | a :: cs, [], _, _, h, _, _ => by cases h
  | a :: cs, b :: us, out, o, h, j, hj => by
    rw [fillC] at h
    cases ha : sl[a]? with
    | none => rw [ha] at h; cases h
    | some s =>
      rw [ha] at h
      dsimp only at h
      split at h
      · rw [fillC_old cs us _ o h j (fun k => hj (List.mem_cons_of_mem _ k)), List.getElem?_set_ne (fun e => hj (by rw [← e]; exact List.mem_cons_self ..))]
      · cases h
theorem fillC_new {sl : List Sl} : ∀ (cols : List Nat) (row out o : List V), fillC sl cols row out = some o → cols.Nodup → (∀ c ∈ cols, c < out.length) → ∀ (k c : Nat) (u : V), cols[k]? = some c → row[k]? = some u → o[c]? = some u
  | [], _, _, _, _, _, _, k, c, u, h, _ => by cases k <;> cases h
  | a :: cs, [], _, _, h, _, _, _, _, _, _, _ => by cases h
  | a :: cs, b :: us, out, o, h, hn, hl, k, c, u, h1, h2 => by
    rw [fillC] at h
    cases ha : sl[a]? with
    | none => rw [ha] at h; cases h
    | some s =>
      rw [ha] at h
      dsimp only at h
      split at h
      · cases k with
        | zero =>
          cases h1; cases h2
          rw [fillC_old cs us _ o h a (List.nodup_cons.1 hn).1, List.getElem?_set_self (hl a (List.mem_cons_self ..))]
        | succ k => exact fillC_new cs us _ o h (List.nodup_cons.1 hn).2 (fun c hc => by rw [List.length_set]; exact hl c (List.mem_cons_of_mem _ hc)) k c u h1 h2
      · cases h
theorem fitsL_of : ∀ (a : List Sl) (b : List V), b.length = a.length → (∀ (i : Nat) (s : Sl) (v : V), a[i]? = some s → b[i]? = some v → fits s v = true) → fitsL a b = true
  | [], [], _, _ => rfl
  | [], _ :: _, h, _ => by cases h
  | _ :: _, [], h, _ => by cases h
  | s :: a, v :: b, h, hf => by
    rw [fitsL, hf 0 s v rfl rfl, Bool.true_and]
    exact fitsL_of a b (by simpa using h) (fun i s v h1 h2 => hf (i + 1) s v h1 h2)
theorem make_back {t : Tm} {v : Int} {row : List V} (he : (makeS t v row).2 = 0) : ∃ (x : Vr) (out : List V), ver t v = some x ∧ row.length = x.cols.length ∧ makeS t v row = (⟨v, out⟩, 0) ∧ out.length = x.slots.length ∧ valid t ⟨v, out⟩ = true ∧ (x.cols.map fun c => out.getD c zeroV) = row ∧ ∀ {p : V → Prop}, (∀ s ∈ x.slots, p s.dv) → (∀ u ∈ row, p u) → ∀ u ∈ out, p u := by
  unfold makeS at he ⊢
  by_cases hv : verE t v = 0
  · rw [if_pos hv] at he ⊢
    obtain ⟨x, hx⟩ := verB_some' (verE_ok hv)
    rw [ver_some_X hx] at he ⊢
    obtain ⟨-, hnd, hcs, -, -⟩ := vers_apart x (ver_mem hx)
    by_cases hl : row.length = x.cols.length
    · rw [if_pos hl] at he ⊢
      cases hF : fillC x.slots x.cols row (x.slots.map fun s => s.dv) with
      | none => rw [hF] at he; cases he
      | some out =>
        have hol : out.length = x.slots.length := by rw [fillC_len _ _ _ _ hF, List.length_map]
        have hnew := fillC_new _ _ _ _ hF hnd (fun c hc => by rw [List.length_map]; exact hcs c hc)
        have hold := fillC_old _ _ _ _ hF
        have hfit := fillC_fits _ _ _ _ hF
        have hval : ∀ (i : Nat) (s : Sl) (w : V), x.slots[i]? = some s → out[i]? = some w → (w = s.dv) ∨ ∃ k : Nat, x.cols[k]? = some i ∧ row[k]? = some w := fun i s w h1 h2 => by
          by_cases hi : i ∈ x.cols
          · obtain ⟨k, hk⟩ := List.getElem?_of_mem hi
            obtain ⟨u, hu⟩ : ∃ u, row[k]? = some u := ⟨_, List.getElem?_eq_getElem (by rw [hl]; exact (List.getElem?_eq_some_iff.1 hk).1)⟩
            have := hnew k i u hk hu
            rw [h2] at this; cases this
            exact .inr ⟨k, hk, hu⟩
          · have := hold i hi
            rw [h2, List.getElem?_map, h1] at this
            cases this
            exact .inl rfl
        refine ⟨x, out, hx, hl, rfl, hol, valid_iff.2 ⟨x, hx, fitsL_of _ _ hol fun i s w h1 h2 => ?_⟩, ?_, fun {p} hp hq u hu => ?_⟩
        · rcases hval i s w h1 h2 with rfl | ⟨k, k1, k2⟩
          · exact (ver_sok hx s (List.mem_of_getElem? h1)).def_
          · exact hfit k i w s k1 k2 h1
        · refine List.ext_getElem? fun m => ?_
          rw [List.getElem?_map]
          cases hc : x.cols[m]? with
          | none =>
            have := List.getElem?_eq_none_iff.1 hc
            rw [List.getElem?_eq_none (by omega)]
            rfl
          | some c =>
            obtain ⟨u, hu⟩ : ∃ u, row[m]? = some u := ⟨_, List.getElem?_eq_getElem (by rw [hl]; exact (List.getElem?_eq_some_iff.1 hc).1)⟩
            rw [Option.map_some, List.getD_eq_getElem?_getD, hnew m c u hc hu, Option.getD_some, hu]
        · obtain ⟨i, hi⟩ := List.getElem?_of_mem hu
          have hil := (List.getElem?_eq_some_iff.1 hi).1
          obtain ⟨s, hs⟩ : ∃ s, x.slots[i]? = some s := ⟨_, List.getElem?_eq_getElem (by omega)⟩
          rcases hval i s u hs hi with rfl | ⟨k, k1, k2⟩
          · exact hp s (List.mem_of_getElem? hs)
          · exact hq u (List.mem_of_getElem? k2)
    · rw [if_neg hl] at he; cases he
  · rw [if_neg hv] at he
    exact absurd he hv
end Sch
theorem rowP_eq : rowP = rowQ := by
  funext us ps
  unfold rowP rowQ
  congr 2
def asc (us : List V) (ps : List Pl) : St := (List.zipWith boxQ us ps).flatten
theorem bsQ_perm (us : List V) (ps : List Pl) : (bsQ us ps).Perm (asc us ps) := (List.reverse_perm _).flatten
theorem rowQ_cons (u : V) (us : List V) (p : Pl) (ps : List Pl) : rowQ (u :: us) (p :: ps) = cellQ u p ++ rowQ us ps := by
  unfold rowQ
  rw [List.zipWith_cons_cons, List.flatten_cons]
theorem asc_cons (u : V) (us : List V) (p : Pl) (ps : List Pl) : asc (u :: us) (p :: ps) = boxQ u p ++ asc us ps := by
  unfold asc
  rw [List.zipWith_cons_cons, List.flatten_cons]
theorem box_mem {us : List V} {ps : List Pl} {j : Nat} {u : V} {p : Pl} (h1 : us[j]? = some u) (h2 : ps[j]? = some p) (hl : u.l ≠ []) : Res.box p.1 24 (rowC u.l ++ p.2.2) ∈ bsQ us ps := by
  refine (bsQ_perm us ps).mem_iff.2 (List.mem_flatten.2 ⟨boxQ u p, List.mem_of_getElem? (i := j) (by rw [List.getElem?_zipWith, h1, h2]), ?_⟩)
  cases u with
  | mk k n s l =>
    cases l with
    | nil => exact absurd rfl hl
    | cons x l => exact List.mem_singleton.2 rfl
theorem row_step {i : Nat} {J e R zz z : List D} (hJ : J.length = i * 4) (he : e.length = 4) (hz : z.length = 4) : List.take (i * 4) (J ++ (e ++ R) ++ zz) ++ z ++ List.drop (i * 4 + 4) (J ++ (e ++ R) ++ zz) = J ++ z ++ R ++ zz ∧ (J ++ z).length = (i + 1) * 4 := by
  constructor
  · rw [List.append_assoc J, List.take_append_of_le_length (by omega), List.take_of_length_le (by omega), ← hJ, List.drop_append, List.append_assoc e]
    rw [show J.length + 4 - J.length = 4 by omega, List.drop_of_length_le (by omega : J.length ≤ J.length + 4), List.nil_append, ← he, List.drop_append, List.drop_of_length_le (Nat.le_refl _), List.nil_append, Nat.sub_self, List.drop_zero]
    simp only [List.append_assoc]
  · rw [List.length_append, hJ, hz]; omega
theorem row_read {i : Nat} {J R zz : List D} {a b c d : D} (hJ : J.length = i * 4) : List.head? (List.drop (i * 4 + 3) (J ++ ([a, b, c, d] ++ R) ++ zz)) = some d := by
  rw [List.append_assoc, ← hJ, List.drop_append, List.drop_of_length_le (by omega), List.nil_append, show J.length + 3 - J.length = 3 by omega]
  rfl
end Go.Proofs.Ytooaagmhgakhgaa
end

section
namespace Go.Proofs.Ytooaagmhgakhgaa
set_option linter.unusedSimpArgs false
attribute [local push_cast] encB encI encC V.cells_mk V.cells_len Nat.mul_one Int.sub_zero List.map_nil beq_self_eq_true bne_self_eq_false List.head?_cons List.nil_append
open Go.RowKit
set_option maxRecDepth 10000
set_option maxHeartbeats 16000000
theorem tr_once1 {P : Program} {N : Nat} {r : Option Nat} {A : AA} {st : St} {Q : Exit → AA → St → Prop} {c : Code} (h : Tr P N r c A st (thenA (fun _ _ => False) Q)) : Tr P N r (.loop c) A st Q :=
  tr_loop (fun (_ : Unit) A' st' => A' = A ∧ st' = st) (fun _ => 0) () ⟨rfl, rfl⟩ fun _ A' st' ⟨e1, e2⟩ => by
    subst e1 e2
    exact tr_mono h fun ex A s hq => by cases ex <;> first | exact hq.elim | exact hq
theorem perm_rot {A B C : Res} {X Y X' Y' st : St} (hX : X.Perm X') (hY : Y.Perm Y') : (X ++ A :: B :: C :: (Y ++ st)).Perm (C :: A :: B :: (Y' ++ (X' ++ st))) := by
  refine List.Perm.trans List.perm_append_comm ?_
  refine List.Perm.trans (l₂ := C :: A :: B :: (Y ++ st ++ X)) ((List.Perm.cons A (.swap C B _)).trans (.swap C A _)) ?_
  refine .cons _ (.cons _ (.cons _ ?_))
  rw [List.append_assoc]
  exact hY.append (List.perm_append_comm.trans (hX.append_right st))
theorem perm_front {x y a b c : Res} {X Y st : St} : (a :: b :: c :: (([x] ++ X) ++ (([y] ++ Y) ++ st))).Perm (x :: y :: a :: b :: c :: (X ++ (Y ++ st))) := by
  have h1 : (([x] ++ X) ++ (([y] ++ Y) ++ st)).Perm (x :: y :: (X ++ (Y ++ st))) := .cons x List.perm_middle
  refine ((((h1.cons c).cons b).cons a)).trans ?_
  have h2 : ([a, b, c] ++ (x :: y :: (X ++ (Y ++ st)))).Perm (x :: ([a, b, c] ++ (y :: (X ++ (Y ++ st))))) := List.perm_middle
  have h3 : ([a, b, c] ++ (y :: (X ++ (Y ++ st)))).Perm (y :: ([a, b, c] ++ (X ++ (Y ++ st)))) := List.perm_middle
  exact h2.trans (h3.cons x)
theorem sub_two {X Y st : St} : st.Sublist (X ++ (Y ++ st)) := (List.sublist_append_right _ _).trans (List.sublist_append_right _ _)
theorem recordApartLaw (t : Tm) (v : Int) (row : List V) (hw : t.Wf) (hrow : (∀ x ∈ row, x.Ok) ∧ row.length ≤ maxLen) (st : St) : TrF Try.prog 10 [.agg t.cells, .i v, .sl .shared (row.map V.cells)] st fun d st' => d = .b true ∧ st' = st := by
  have hA := Lib.hid rec11AliveF
  have hG := refGreat10F t hw
  have hH := refGreat11F .shared row hrow.1 (by have := hrow.2; unfold maxLen at this; omega)
  cases hg1 : Sch.great t with
  | true =>
    rw [hg1] at hG
    clear hH hrow hg1
    unfold Tm.cells at *
    generalize t.slots.map Sl.cells = SL at *
    generalize t.steps.map Stp.cells = TL at *
    generalize t.name = nm at *
    generalize row.map V.cells = RS at *
    replace hG := Lib.hid hG
    refine trF_enter (ts := [6]) Try.func10 rfl (by rw [Try.ntmps10]; exact Nat.le_of_ble_eq_true rfl) (fun tmps w => by simp [results, Try.results10, go_sem, resVal]) ?_
    simp only [Try.ntmps10]
    repeat' (first | with_reducible refine Go1.go ?_ | ((with_reducible apply ev_go); (focus ((try simp (disch := omega) only [push_cast, simprocAttr, *]); (try exact rfl); done))) | ((with_reducible refine w_last ?_ ?_ ?_); kernel_rfl; rfl) | with_reducible refine Go2.go ?_ | ((with_reducible first | apply w_stepG | refine s_bi ?_ ?_ | refine blk_ne ?_ ?_); rfl) | ((with_reducible refine al_go ?_); intro b) | ((with_reducible apply (ck_le Try.call31)); exact LEL.refl _; exact hA.out _) | ((with_reducible apply (ck_le Try.call15)); exact LEL.refl _; exact hG.out _) | ((with_reducible apply a2_go); (focus (first | assumption | (intro h; cases h))); (focus (intro o'; repeat (first | exact ra_h | apply ra_t))); (iterate 2 (focus (first | assumption | exact len_nil | exact len_one rfl | (intro a ha; obtain ⟨x, -, rfl⟩ := List.mem_map.1 ha; first | rfl | simp) | (intro a ha; simp at ha; simp [ha])))); (iterate 2 (focus (first | omega | (simp only [List.length_map, List.length_cons, List.length_nil, List.length_append]; omega)))); intro o' ho') | ((with_reducible first | refine w_region ?_ ?_ | refine w_dra ?_ ?_); kernel_rfl) | ((with_reducible refine Go3.go ?_ ?_); all_goals (intro hb; (try with_reducible intro hb1); (try (exfalso; first | contradiction | omega)))) | fail)
    all_goals (refine ret_eq (by simp) (by first | rfl | assumption) (by (repeat (first | exact List.Sublist.refl _ | apply List.Sublist.cons))) ?_; (try simp (disch := omega) only [push_cast, simprocAttr, *]); try (first | exact LE.refl _ | exact LE.sl _ _ | ((first | refine LE.tup ?_ | refine LE.agg ?_); (repeat' (first | exact LEL.nil | refine LEL.cons ?_ ?_ | exact LE.refl _ | exact LE.sl _ _ | refine LE.agg ?_)); done) | refine LE.of_eq ?_))
  | false =>
    rw [hg1] at hG
    cases hg2 : (decide (40 < row.length) || row.any V.great) with
    | true =>
      rw [hg2] at hH
      clear hrow hg1 hg2
      unfold Tm.cells at *
      generalize t.slots.map Sl.cells = SL at *
      generalize t.steps.map Stp.cells = TL at *
      generalize t.name = nm at *
      generalize row.map V.cells = RS at *
      replace hG := Lib.hid hG
      replace hH := Lib.hid hH
      refine trF_enter (ts := [6]) Try.func10 rfl (by rw [Try.ntmps10]; exact Nat.le_of_ble_eq_true rfl) (fun tmps w => by simp [results, Try.results10, go_sem, resVal]) ?_
      simp only [Try.ntmps10]
      repeat' (first | with_reducible refine Go1.go ?_ | ((with_reducible apply ev_go); (focus ((try simp (disch := omega) only [push_cast, simprocAttr, *]); (try exact rfl); done))) | ((with_reducible refine w_last ?_ ?_ ?_); kernel_rfl; rfl) | with_reducible refine Go2.go ?_ | ((with_reducible first | apply w_stepG | refine s_bi ?_ ?_ | refine blk_ne ?_ ?_); rfl) | ((with_reducible refine al_go ?_); intro b) | ((with_reducible apply (ck_le Try.call31)); exact LEL.refl _; exact hA.out _) | ((with_reducible apply (ck_le Try.call15)); exact LEL.refl _; exact hG.out _) | ((with_reducible apply (ck_le Try.call32)); exact LEL.refl _; exact hH.out _) | ((with_reducible apply a2_go); (focus (first | assumption | (intro h; cases h))); (focus (intro o'; repeat (first | exact ra_h | apply ra_t))); (iterate 2 (focus (first | assumption | exact len_nil | exact len_one rfl | (intro a ha; obtain ⟨x, -, rfl⟩ := List.mem_map.1 ha; first | rfl | simp) | (intro a ha; simp at ha; simp [ha])))); (iterate 2 (focus (first | omega | (simp only [List.length_map, List.length_cons, List.length_nil, List.length_append]; omega)))); intro o' ho') | ((with_reducible first | refine w_region ?_ ?_ | refine w_dra ?_ ?_); kernel_rfl) | ((with_reducible refine Go3.go ?_ ?_); all_goals (intro hb; (try with_reducible intro hb1); (try (exfalso; first | contradiction | omega)))) | fail)
      all_goals (refine ret_eq (by simp) (by first | rfl | assumption) (by (repeat (first | exact List.Sublist.refl _ | apply List.Sublist.cons))) ?_; (try simp (disch := omega) only [push_cast, simprocAttr, *]); try (first | exact LE.refl _ | exact LE.sl _ _ | ((first | refine LE.tup ?_ | refine LE.agg ?_); (repeat' (first | exact LEL.nil | refine LEL.cons ?_ ?_ | exact LE.refl _ | exact LE.sl _ _ | refine LE.agg ?_)); done) | refine LE.of_eq ?_))
    | false =>
      rw [hg2] at hH
      have hL : Look t ⟨0, row⟩ := not_great12 hw ⟨⟨by show -9223372036854775808 ≤ (0 : Int); decide, by show (0 : Int) ≤ 9223372036854775807; decide⟩, hrow.1, hrow.2⟩ (by unfold Sch.great12; rw [hg1]; exact hg2)
      have hrn : ∀ u ∈ row, u.nodes ≤ 1000 := fun u h => (hL.rq u h).nodes
      have hrl : row.length ≤ 40 := by
        rw [Bool.or_eq_false_iff, decide_eq_false_iff_not] at hg2
        omega
      clear hg1 hg2
      have hrn2 := Lib.hid hrn
      have hrow2 := Lib.hid hrow
      have hL2 := Lib.hid hL
      have hc3 : Hid (∀ (i : Nat) (v : V), row[i]? = some v → (row.map V.cells)[i]? = some v.cells) := fun i v h => by rw [List.getElem?_map, h]; rfl
      have hm3 : (row.map V.cells).length = row.length := List.length_map ..
      clear hrn hrow hL
      obtain ⟨nm, SL, TL, hTC⟩ : ∃ nm SL TL, t.cells = [.str nm, .sl .shared SL, .sl .shared TL] := ⟨_, _, _, rfl⟩
      rw [hTC] at hG ⊢
      obtain ⟨RS, hRS⟩ : ∃ RS, row.map V.cells = RS := ⟨_, rfl⟩
      rw [hRS] at hH hc3 hm3 ⊢
      replace hTC := Lib.hid hTC
      replace hRS := Lib.hid hRS
      replace hG := Lib.hid hG
      replace hH := Lib.hid hH
      refine trF_enter (ts := [6]) Try.func10 rfl (by rw [Try.ntmps10]; exact Nat.le_of_ble_eq_true rfl) (fun tmps w => by simp [results, Try.results10, go_sem, resVal]) ?_
      simp only [Try.ntmps10]
      repeat' (first | with_reducible refine Go1.go ?_ | ((with_reducible apply ev_go); (focus ((try simp (disch := omega) only [push_cast, simprocAttr, *]); (try exact rfl); done))) | ((with_reducible refine w_last ?_ ?_ ?_); kernel_rfl; rfl) | with_reducible refine Go2.go ?_ | ((with_reducible first | apply w_stepG | refine s_bi ?_ ?_ | refine blk_ne ?_ ?_); rfl) | ((with_reducible refine al_go ?_); intro b) | ((with_reducible apply (ck_le Try.call31)); exact LEL.refl _; exact hA.out _) | ((with_reducible apply (ck_le Try.call15)); exact LEL.refl _; exact hG.out _) | ((with_reducible apply (ck_le Try.call32)); exact LEL.refl _; exact hH.out _) | ((with_reducible apply a2_go); (focus (first | assumption | (intro h; cases h))); (focus (intro o'; repeat (first | exact ra_h | apply ra_t))); (iterate 2 (focus (first | assumption | exact len_nil | exact len_one rfl | (intro a ha; obtain ⟨x, -, rfl⟩ := List.mem_map.1 ha; first | rfl | simp) | (intro a ha; simp at ha; simp [ha])))); (iterate 2 (focus (first | omega | (simp only [List.length_map, List.length_cons, List.length_nil, List.length_append]; omega)))); intro o' ho') | ((with_reducible first | refine w_region ?_ ?_ | refine w_dra ?_ ?_); kernel_rfl) | ((with_reducible refine Go3.go ?_ ?_); all_goals (intro hb; (try with_reducible intro hb1); (try (exfalso; first | contradiction | omega)))) | fail)
      refine tr_loopd (ι := Nat) (fun i A st' => i ≤ row.length ∧ A.df = [] ∧ A.e 1 = .i v ∧ A.e 2 = .sl .shared RS ∧ A.e 3 = .ip [.str nm, .sl .shared SL, .sl .shared TL] ∧ A.e 8 = .i i ∧ ((i = 0 ∧ A.e 7 = .sl .tight [] ∧ st = st') ∨ (0 < i ∧ ∃ (g cap : Nat) (zs : List D) (ps : List Pl), ps.length = i ∧ Hid (∀ (j : Nat) (u : V) (p : Pl), row[j]? = some u → ps[j]? = some p → okQ u p) ∧ (rowQ (row.take i) ps ++ zs).length = cap * 4 ∧ i ≤ cap ∧ A.e 7 = .ar g 0 i cap ∧ st'.Perm (.box g 24 (rowQ (row.take i) ps ++ zs) :: (bsQ (row.take i) ps ++ st))))) (fun i => row.length - i) 0 ⟨Nat.zero_le _, ?_, ?_, ?_, ?_, ?_, .inl ⟨rfl, ?_, rfl⟩⟩ ?_
      iterate 6 (focus (first | rfl | assumption | omega | (simp (disch := omega) only [push_cast, simprocAttr, *]; try omega; done)))
      rintro i A st' ⟨hi, hdf, e1, e2, e3, e8, ⟨rfl, e7, rfl⟩ | ⟨hi0, g, cap, zs, ps, hps, hok, hz, hic, e7, hpm⟩⟩
      · by_cases hlt : 0 < row.length
        · obtain ⟨u, hu⟩ : ∃ u, row[0]? = some u := ⟨_, List.getElem?_eq_getElem hlt⟩
          have h3 := hc3.out 0 u hu
          have hun := hrn2.out u (List.mem_of_getElem? hu)
          have htk : Hid (row.take (0 + 1) = [u]) := Lib.hid (take_snoc' hu)
          cases u with
          | mk k n s l =>
          have hll := V.nodesL_len l
          rw [V.nodes] at hun
          rw [V.cells_mk] at h3
          have hlc : (l.map V.cells).length = l.length := List.length_map ..
          have hle := val_each l
          by_cases hl0 : l = []
          · subst hl0
            rw [List.map_nil] at h3
            refine tr_room 24 4 ([] : List (List D)).length ?_
            repeat' (first | with_reducible refine Go1.go ?_ | ((with_reducible apply ev_go); (focus ((try simp (disch := omega) only [push_cast, simprocAttr, *]); (try exact rfl); done))) | with_reducible refine s_appN (x := .tmp 41) ?_ | with_reducible refine rn_go ?_ | ((with_reducible apply rn2_go); (focus (simp only [List.length_cons, List.length_nil]; omega)); (focus exact len_one rfl); (iterate 2 (focus (simp only [List.length_cons, List.length_nil]; omega))); intro g' cap' zs' hc' hz') | ((with_reducible refine w_last ?_ ?_ ?_); kernel_rfl; rfl) | with_reducible refine Go2.go ?_ | ((with_reducible first | apply w_stepG | refine s_bi ?_ ?_ | refine blk_ne ?_ ?_); rfl) | ((with_reducible refine al_go ?_); intro b) | ((with_reducible apply a2_go); (focus (first | assumption | (intro h; cases h))); (focus (intro o'; repeat (first | exact ra_h | apply ra_t))); (iterate 2 (focus (first | assumption | exact len_nil | exact len_one rfl | (intro a ha; obtain ⟨x, -, rfl⟩ := List.mem_map.1 ha; first | rfl | simp) | (intro a ha; simp at ha; simp [ha])))); (iterate 2 (focus (first | omega | (simp only [List.length_map, List.length_cons, List.length_nil, List.length_append]; omega)))); intro o' ho') | ((with_reducible first | refine w_region ?_ ?_ | refine w_dra ?_ ?_); kernel_rfl) | ((with_reducible refine Go3.go ?_ ?_); all_goals (intro hb; (try with_reducible intro hb1); (try (exfalso; first | contradiction | omega)))) | fail)
            refine ⟨0 + 1, .box g' 24 ([[D.i k, .i n, .str s, .sl .shared []]].flatten ++ zs') :: st, (by (repeat (first | exact List.Sublist.refl _ | with_reducible apply List.Sublist.cons_cons | apply List.Sublist.cons))), ⟨hlt, ?_, ?_, ?_, ?_, ?_, .inr ⟨Nat.zero_lt_one, g', cap', zs', [(0, 0, [])], rfl, ?_, ?_, hc', ?_, ?_⟩⟩, by omega⟩
            · (first | rfl | assumption | omega | (simp (disch := omega) only [push_cast, simprocAttr, *]; try omega; done))
            · (first | rfl | assumption | omega | (simp (disch := omega) only [push_cast, simprocAttr, *]; try omega; done))
            · (first | rfl | assumption | omega | (simp (disch := omega) only [push_cast, simprocAttr, *]; try omega; done))
            · (first | rfl | assumption | omega | (simp (disch := omega) only [push_cast, simprocAttr, *]; try omega; done))
            · (first | rfl | assumption | omega | (simp (disch := omega) only [push_cast, simprocAttr, *]; try omega; done))
            · exact fun j w q h1 h2 h => by
                cases j with
                | zero => rw [hu] at h1; cases h1; exact absurd rfl h
                | succ j => cases h2
            · rw [htk.out]; exact hz'
            · (first | rfl | assumption | omega | (simp (disch := omega) only [push_cast, simprocAttr, *]; try omega; done))
            · rw [htk.out]; exact List.Perm.refl _
          · have hpos : 0 < (l.map V.cells).length := by rw [List.length_map]; exact List.length_pos_iff.2 hl0
            have hfl : (l.map V.cells).flatten = rowC l := rfl
            generalize l.map V.cells = LC at *
            repeat' (first | with_reducible refine Go1.go ?_ | ((with_reducible apply ev_go); (focus ((try simp (disch := omega) only [push_cast, simprocAttr, *]); (try exact rfl); done))) | with_reducible refine s_appN (x := .tmp 41) ?_ | with_reducible refine s_appN (x := .tmp 33) ?_ | with_reducible refine rn_go ?_ | ((with_reducible apply rn2_go); (focus (first | assumption | (simp only [List.length_cons, List.length_nil]; omega))); (focus first | assumption | exact len_one rfl); (iterate 2 (focus first | omega | (simp only [List.length_cons, List.length_nil]; omega))); intro g' cap' zs' hc' hz') | ((with_reducible refine w_last ?_ ?_ ?_); kernel_rfl; rfl) | with_reducible refine Go2.go ?_ | ((with_reducible first | apply w_stepG | refine s_bi ?_ ?_ | refine blk_ne ?_ ?_); rfl) | ((with_reducible refine al_go ?_); intro b) | ((with_reducible apply a2_go); (focus (first | assumption | (intro h; cases h))); (focus (intro o'; repeat (first | exact ra_h | apply ra_t))); (iterate 2 (focus (first | assumption | exact len_nil | exact len_one rfl | (intro a ha; obtain ⟨x, -, rfl⟩ := List.mem_map.1 ha; first | rfl | simp) | (intro a ha; simp at ha; simp [ha])))); (iterate 2 (focus (first | omega | (simp only [List.length_map, List.length_cons, List.length_nil, List.length_append]; omega)))); intro o' ho') | ((with_reducible first | refine w_region ?_ ?_ | refine w_dra ?_ ?_); kernel_rfl) | ((with_reducible refine Go3.go ?_ ?_); all_goals (intro hb; (try with_reducible intro hb1); (try (exfalso; first | contradiction | omega)))) | fail)
            rename_i g1 c1 z1 hc1 hz1
            have hb : bsQ [V.mk k n s l] [(g1, c1, z1)] = [.box g1 24 (rowC l ++ z1)] := by
              unfold bsQ
              show [boxQ (V.mk k n s l) (g1, c1, z1)].flatten = _
              rw [boxQ_ne hl0]; rfl
            have hq : rowQ [V.mk k n s l] [(g1, c1, z1)] = [[D.i k, .i n, .str s, .ar g1 0 l.length c1]].flatten := by
              show [cellQ (V.mk k n s l) (g1, c1, z1)].flatten = _
              rw [cellQ_ne hl0]
            refine ⟨0 + 1, .box g' 24 ([[D.i k, .i n, .str s, .ar g1 0 l.length c1]].flatten ++ zs') :: .box g1 24 (LC.flatten ++ z1) :: st, (by (repeat (first | exact List.Sublist.refl _ | with_reducible apply List.Sublist.cons_cons | apply List.Sublist.cons))), ⟨hlt, ?_, ?_, ?_, ?_, ?_, .inr ⟨Nat.zero_lt_one, g', cap', zs', [(g1, c1, z1)], rfl, ?_, ?_, hc', ?_, ?_⟩⟩, by omega⟩
            · (first | rfl | assumption | omega | (simp (disch := omega) only [push_cast, simprocAttr, *]; try omega; done))
            · (first | rfl | assumption | omega | (simp (disch := omega) only [push_cast, simprocAttr, *]; try omega; done))
            · (first | rfl | assumption | omega | (simp (disch := omega) only [push_cast, simprocAttr, *]; try omega; done))
            · (first | rfl | assumption | omega | (simp (disch := omega) only [push_cast, simprocAttr, *]; try omega; done))
            · (first | rfl | assumption | omega | (simp (disch := omega) only [push_cast, simprocAttr, *]; try omega; done))
            · exact fun j w q h1 h2 h => by
                cases j with
                | zero => rw [hu] at h1; cases h1; cases h2; show (rowC l ++ z1).length = c1 * 4; rw [← hfl]; exact hz1
                | succ j => cases h2
            · rw [htk.out, hq]; exact hz'
            · (first | rfl | assumption | omega | (simp (disch := omega) only [push_cast, simprocAttr, *]; try omega; done))
            · rw [htk.out, hq, hb, hfl]; exact List.Perm.refl _
        · skip
          have hn0 : row = [] := List.eq_nil_of_length_eq_zero (by omega)
          have hL := hL2.out
          have hM := recMakeF t hL.tc.ok hL.tc.dv v [] (fun u h => by cases h) (by decide)
          have hne : ¬ (Sch.makeS t v []).2 = 0 := fun h => by
            obtain ⟨x, out, hx, hl, -⟩ := Sch.make_back h
            have := (Sch.vers_apart x (ver_mem hx)).2.2.2.1
            rw [← hl] at this
            exact absurd this (by decide)
          rw [hTC.out, List.map_nil] at hM
          unfold Rc.cells at hM
          generalize Sch.makeS t v [] = M at *
          generalize M.1.s.map V.cells = MS at *
          generalize M.1.v = mv at *
          generalize M.2 = me at *
          replace hM := Lib.hid hM
          repeat' (first | with_reducible refine Go1.go ?_ | ((with_reducible apply ev_go); (focus ((try simp (disch := omega) only [push_cast, simprocAttr, *]); (try exact rfl); done))) | ((with_reducible refine w_last ?_ ?_ ?_); kernel_rfl; rfl) | with_reducible refine Go2.go ?_ | ((with_reducible first | apply w_stepG | refine s_bi ?_ ?_ | refine blk_ne ?_ ?_); rfl) | ((with_reducible refine al_go ?_); intro b) | ((with_reducible apply (ck_el Try.call33)); exact hM.out _; (focus ((repeat' (first | exact LEL.nil | refine LEL.cons ?_ ?_ | exact LE.refl _ | exact LE.sl _ _ | refine LE.agg ?_)); done))) | ((with_reducible apply a2_go); (focus (first | assumption | (intro h; cases h))); (focus (intro o'; repeat (first | exact ra_h | apply ra_t))); (iterate 2 (focus (first | assumption | exact len_nil | exact len_one rfl | (intro a ha; obtain ⟨x, -, rfl⟩ := List.mem_map.1 ha; first | rfl | simp) | (intro a ha; simp at ha; simp [ha])))); (iterate 2 (focus (first | omega | (simp only [List.length_map, List.length_cons, List.length_nil, List.length_append]; omega)))); intro o' ho') | ((with_reducible first | refine w_region ?_ ?_ | refine w_dra ?_ ?_); kernel_rfl) | ((with_reducible refine Go3.go ?_ ?_); all_goals (intro hb; (try with_reducible intro hb1); (try (exfalso; first | contradiction | omega)))) | fail)
          all_goals (refine ret_eq (by simp) (by first | rfl | assumption) (by (repeat (first | exact List.Sublist.refl _ | apply List.Sublist.cons))) ?_; (try simp (disch := omega) only [push_cast, simprocAttr, *]); try (first | exact LE.refl _ | exact LE.sl _ _ | ((first | refine LE.tup ?_ | refine LE.agg ?_); (repeat' (first | exact LEL.nil | refine LEL.cons ?_ ?_ | exact LE.refl _ | exact LE.sl _ _ | refine LE.agg ?_)); done) | refine LE.of_eq ?_))
      · refine tr_perm hpm ?_
        by_cases hlt : i < row.length
        · obtain ⟨u, hu⟩ : ∃ u, row[i]? = some u := ⟨_, List.getElem?_eq_getElem hlt⟩
          have h3 := hc3.out i u hu
          have hun := hrn2.out u (List.mem_of_getElem? hu)
          have htl : ps.length = (row.take i).length := by rw [List.length_take, hps]; omega
          have hds : (rowQ (row.take i) ps).length = i * 4 := by rw [rowQ_len htl, ← htl, hps]
          have hT : Hid (∀ p, rowQ (row.take (i + 1)) (ps ++ [p]) = rowQ (row.take i) ps ++ [cellQ u p].flatten ∧ bsQ (row.take (i + 1)) (ps ++ [p]) = boxQ u p ++ bsQ (row.take i) ps) := fun p => by
            rw [take_snoc' hu]
            exact ⟨rowQ_add htl u p, bsQ_add htl u p⟩
          have hok' : Hid (∀ p, okQ u p → ∀ (j : Nat) (w : V) (q : Pl), row[j]? = some w → (ps ++ [p])[j]? = some q → okQ w q) := fun p hp j w q h1 h2 => by
            rcases Nat.lt_trichotomy j ps.length with h | h | h
            · rw [List.getElem?_append_left h] at h2
              exact hok.out j w q h1 h2
            · rw [h, List.getElem?_append_right (Nat.le_refl _), Nat.sub_self] at h2
              cases h2
              rw [h, hps, hu] at h1
              cases h1
              exact hp
            · rw [List.getElem?_eq_none (by rw [List.length_append, List.length_singleton]; omega)] at h2
              cases h2
          have hpl : Hid (∀ p, (ps ++ [p]).length = i + 1) := fun p => by rw [List.length_append, List.length_singleton, hps]
          clear htl hok hpm
          generalize rowQ (row.take i) ps = RQ at *
          generalize bsQ (row.take i) ps = BQ at *
          cases u with
          | mk k n s l =>
          have hll := V.nodesL_len l
          rw [V.nodes] at hun
          rw [V.cells_mk] at h3
          have hlc : (l.map V.cells).length = l.length := List.length_map ..
          have hle := val_each l
          by_cases hl0 : l = []
          · subst hl0
            rw [List.map_nil] at h3
            have h5 := hT.out (0, 0, [])
            have h4 := Lib.hid (hok'.out (0, 0, []) (fun h => absurd rfl h))
            rw [show cellQ (.mk k n s []) (0, 0, []) = [.i k, .i n, .str s, .sl .shared []] from rfl, show boxQ (.mk k n s []) (0, 0, []) = [] from rfl, List.nil_append] at h5
            replace h5 := Lib.hid h5
            clear hT hok'
            refine tr_room 24 4 ([] : List (List D)).length ?_
            repeat' (first | with_reducible refine Go1.go ?_ | ((with_reducible apply ev_go); (focus ((try simp (disch := omega) only [push_cast, simprocAttr, *]); (try exact rfl); done))) | with_reducible refine s_appR (x := .tmp 41) ?_ | with_reducible refine rk_go ?_ | ((with_reducible apply (r2_go hds hz)); (focus (intro g' cs'; repeat (first | exact ra_h | apply ra_t))); (focus exact len_one rfl); (iterate 2 (focus (simp only [List.length_cons, List.length_nil]; omega))); intro g' cap' zs' hc' hz') | ((with_reducible refine w_last ?_ ?_ ?_); kernel_rfl; rfl) | with_reducible refine Go2.go ?_ | ((with_reducible first | apply w_stepG | refine s_bi ?_ ?_ | refine blk_ne ?_ ?_); rfl) | ((with_reducible refine al_go ?_); intro b) | ((with_reducible apply a2_go); (focus (first | assumption | (intro h; cases h))); (focus (intro o'; repeat (first | exact ra_h | apply ra_t))); (iterate 2 (focus (first | assumption | exact len_nil | exact len_one rfl | (intro a ha; obtain ⟨x, -, rfl⟩ := List.mem_map.1 ha; first | rfl | simp) | (intro a ha; simp at ha; simp [ha])))); (iterate 2 (focus (first | omega | (simp only [List.length_map, List.length_cons, List.length_nil, List.length_append]; omega)))); intro o' ho') | ((with_reducible first | refine w_region ?_ ?_ | refine w_dra ?_ ?_); kernel_rfl) | ((with_reducible refine Go3.go ?_ ?_); all_goals (intro hb; (try with_reducible intro hb1); (try (exfalso; first | contradiction | omega)))) | fail)
            refine ⟨i + 1, .box g' 24 (RQ ++ [[D.i k, .i n, .str s, .sl .shared []]].flatten ++ zs') :: (BQ ++ st), (by (repeat (first | exact List.Sublist.refl _ | with_reducible apply List.Sublist.cons_cons | apply List.Sublist.cons))), ⟨hlt, ?_, ?_, ?_, ?_, ?_, .inr ⟨Nat.succ_pos _, g', cap', zs', ps ++ [(0, 0, [])], hpl.out _, h4, ?_, hc', ?_, ?_⟩⟩, by omega⟩
            · (first | rfl | assumption | omega | (simp (disch := omega) only [push_cast, simprocAttr, *]; try omega; done))
            · (first | rfl | assumption | omega | (simp (disch := omega) only [push_cast, simprocAttr, *]; try omega; done))
            · (first | rfl | assumption | omega | (simp (disch := omega) only [push_cast, simprocAttr, *]; try omega; done))
            · (first | rfl | assumption | omega | (simp (disch := omega) only [push_cast, simprocAttr, *]; try omega; done))
            · (first | rfl | assumption | omega | (simp (disch := omega) only [push_cast, simprocAttr, *]; try omega; done))
            · rw [h5.out.1]; exact hz'
            · (first | rfl | assumption | omega | (simp (disch := omega) only [push_cast, simprocAttr, *]; try omega; done))
            · rw [h5.out.1, h5.out.2]
          · have hpos : 0 < (l.map V.cells).length := by rw [List.length_map]; exact List.length_pos_iff.2 hl0
            have hfl : (l.map V.cells).flatten = rowC l := rfl
            generalize l.map V.cells = LC at *
            repeat' (first | with_reducible refine Go1.go ?_ | ((with_reducible apply ev_go); (focus ((try simp (disch := omega) only [push_cast, simprocAttr, *]); (try exact rfl); done))) | with_reducible refine s_appR (x := .tmp 41) ?_ | with_reducible refine rk_go ?_ | ((with_reducible apply (r2_go hds hz)); (focus (intro g' cs'; repeat (first | exact ra_h | apply ra_t))); (focus exact len_one rfl); (iterate 2 (focus (simp only [List.length_cons, List.length_nil]; omega))); intro g' cap' zs' hc' hz') | with_reducible refine s_appN (x := .tmp 33) ?_ | with_reducible refine rn_go ?_ | ((with_reducible apply rn2_go); (focus assumption); (focus assumption); (iterate 2 (focus omega)); intro g1 c1 z1 hc1 hz1) | ((with_reducible refine w_last ?_ ?_ ?_); kernel_rfl; rfl) | with_reducible refine Go2.go ?_ | ((with_reducible first | apply w_stepG | refine s_bi ?_ ?_ | refine blk_ne ?_ ?_); rfl) | ((with_reducible refine al_go ?_); intro b) | ((with_reducible apply a2_go); (focus (first | assumption | (intro h; cases h))); (focus (intro o'; repeat (first | exact ra_h | apply ra_t))); (iterate 2 (focus (first | assumption | exact len_nil | exact len_one rfl | (intro a ha; obtain ⟨x, -, rfl⟩ := List.mem_map.1 ha; first | rfl | simp) | (intro a ha; simp at ha; simp [ha])))); (iterate 2 (focus (first | omega | (simp only [List.length_map, List.length_cons, List.length_nil, List.length_append]; omega)))); intro o' ho') | ((with_reducible first | refine w_region ?_ ?_ | refine w_dra ?_ ?_); kernel_rfl) | ((with_reducible refine Go3.go ?_ ?_); all_goals (intro hb; (try with_reducible intro hb1); (try (exfalso; first | contradiction | omega)))) | fail)
            have h5 := hT.out (g1, c1, z1)
            have h4 := Lib.hid (hok'.out (g1, c1, z1) (fun _ => by show (rowC l ++ z1).length = c1 * 4; rw [← hfl]; exact hz1))
            rw [cellQ_ne hl0, boxQ_ne hl0] at h5
            replace h5 := Lib.hid h5
            clear hT hok'
            refine ⟨i + 1, .box g1 24 (LC.flatten ++ z1) :: .box g' 24 (RQ ++ [[D.i k, .i n, .str s, .ar g1 0 l.length c1]].flatten ++ zs') :: (BQ ++ st), (by (repeat (first | exact List.Sublist.refl _ | with_reducible apply List.Sublist.cons_cons | apply List.Sublist.cons))), ⟨hlt, ?_, ?_, ?_, ?_, ?_, .inr ⟨Nat.succ_pos _, g', cap', zs', ps ++ [(g1, c1, z1)], hpl.out _, h4, ?_, hc', ?_, ?_⟩⟩, by omega⟩
            · (first | rfl | assumption | omega | (simp (disch := omega) only [push_cast, simprocAttr, *]; try omega; done))
            · (first | rfl | assumption | omega | (simp (disch := omega) only [push_cast, simprocAttr, *]; try omega; done))
            · (first | rfl | assumption | omega | (simp (disch := omega) only [push_cast, simprocAttr, *]; try omega; done))
            · (first | rfl | assumption | omega | (simp (disch := omega) only [push_cast, simprocAttr, *]; try omega; done))
            · (first | rfl | assumption | omega | (simp (disch := omega) only [push_cast, simprocAttr, *]; try omega; done))
            · rw [h5.out.1]; exact hz'
            · (first | rfl | assumption | omega | (simp (disch := omega) only [push_cast, simprocAttr, *]; try omega; done))
            · rw [h5.out.1, h5.out.2, hfl]
              exact List.Perm.swap _ _ _
        · skip
          have hil : i = row.length := by omega
          rw [hil] at hps hic e7 e8
          rw [List.take_of_length_le (by omega)] at hz ⊢
          clear hpm hi hlt hi0 hil
          have hL := hL2.out
          have hMk := recMakeAF t hL.tc.ok hL.tc.dv v row hrn2.out (by omega) g cap zs ps hps (by rw [rowP_eq]; exact hz) (bsQ row ps ++ st) (fun j u p h1 h2 hl => ⟨List.mem_append_left _ (box_mem h1 h2 hl), hok.out j u p h1 h2 hl⟩)
          rw [hTC.out, rowP_eq] at hMk
          by_cases hme : (Sch.makeS t v row).2 = 0
          · obtain ⟨x, out, hx, hlx, hmk, hol, hval, hback, hall⟩ := Sch.make_back hme
            rw [hmk] at hMk
            have hxv := Sch.ver_some_X hx
            obtain ⟨-, -, hcs, -, hcl⟩ := Sch.vers_apart x (ver_mem hx)
            have hxl : x.slots.length ≤ 16 := (Sch.vers_vi (ver_mem hx)).ls
            have hon := hall (p := fun u => u.nodes ≤ 1000) (hL.tc.dv x (ver_mem hx)) hrn2.out
            have hRw := fun st => recRowAF t hL.tc.ok ⟨v, out⟩ hon (by show out.length ≤ 1000; omega) hval x hxv.symm (fun c hc => by show c < out.length; rw [hol]; exact hcs c hc) hcl row hback.symm st
            have hRr := fun st => RowR.rest (recRowRawF t hL.tc.ok ⟨v, out⟩ hon (by show out.length ≤ 1000; omega) hval x hxv.symm (fun c hc => by show c < out.length; rw [hol]; exact hcs c hc) hcl st)
            have hRE : ∀ st : St, ∃ (d : D) (st' : St), RowA row st d st' := fun st => by
              obtain ⟨ps, h1, h2, h3⟩ : ∃ ps : List Pl, ps.length = row.length ∧ (∀ (j : Nat) (u : V) (p : Pl), row[j]? = some u → ps[j]? = some p → okQ u p) ∧ True := by
                refine ⟨row.map fun u => (0, u.l.length, []), List.length_map .., fun j u p h1 h2 _ => ?_, trivial⟩
                rw [List.getElem?_map, h1] at h2
                cases h2
                show (rowC u.l ++ []).length = u.l.length * 4
                rw [List.append_nil, rowC_len]
              exact ⟨_, _, 0, row.length, [], ps, h1, h2, by rw [List.append_nil, rowQ_len h1], rfl, rfl⟩
            have hS := refAllF .shared .shared row row hrow2.out.1 (by omega)
            rw [V.cmpL_self, hRS.out] at hS
            dsimp only at hRr
            rw [hback, hRS.out] at hRr
            unfold Rc.cells at hMk hRw hRr
            dsimp only at hMk hRw hRr
            rw [hTC.out] at hRw hRr
            unfold RowA at hRw hRE
            generalize out.map V.cells = OS at *
            clear hx hmk hxv hcs hcl hxl hon hval hback hall hol hlx hL hme
            replace hMk := Lib.hid hMk
            replace hRw := Lib.hid hRw
            replace hRr := Lib.hid hRr
            replace hRE := Lib.hid hRE
            replace hS := Lib.hid hS
            repeat' (first | with_reducible refine Go1.go ?_ | ((with_reducible apply ev_go); (focus ((try simp (disch := omega) only [push_cast, simprocAttr, *]); (try exact rfl); done))) | ((with_reducible refine w_last ?_ ?_ ?_); kernel_rfl; rfl) | with_reducible refine Go2.go ?_ | ((with_reducible first | apply w_stepG | refine s_bi ?_ ?_ | refine blk_ne ?_ ?_); rfl) | ((with_reducible refine al_go ?_); intro b) | ((with_reducible apply (ck_le Try.call33)); exact LEL.refl _; exact hMk.out) | ((with_reducible apply (ck_gen Try.call36)); (focus exact List.Perm.refl _); (focus exact hRw.out _); (focus exact LEL.refl _); (focus exact hRE.out _); (rintro d st' ⟨ga, ca, za, qs, hqs, hokq, hzq, rfl, rfl⟩)) | ((with_reducible apply a2_go); (focus (first | assumption | (intro h; cases h))); (focus (intro o'; repeat (first | exact ra_h | apply ra_t))); (iterate 2 (focus (first | assumption | exact len_nil | exact len_one rfl | (intro a ha; obtain ⟨x, -, rfl⟩ := List.mem_map.1 ha; first | rfl | simp) | (intro a ha; simp at ha; simp [ha])))); (iterate 2 (focus (first | omega | (simp only [List.length_map, List.length_cons, List.length_nil, List.length_append]; omega)))); intro o' ho') | ((with_reducible first | refine w_region ?_ ?_ | refine w_dra ?_ ?_); kernel_rfl) | ((with_reducible refine Go3.go ?_ ?_); all_goals (intro hb; (try with_reducible intro hb1); (try (exfalso; first | contradiction | omega)))) | fail)
            obtain ⟨b10, rfl⟩ : ∃ q, q = b := ⟨_, rfl⟩
            have hzl : zs.length + row.length * 4 = cap * 4 := by
              rw [List.length_append, rowQ_len hps] at hz
              omega
            have hzal : za.length + row.length * 4 = ca * 4 := by
              rw [List.length_append, rowQ_len hqs] at hzq
              omega
            have hcaq : row.length ≤ ca := by omega
            replace hokq := Lib.hid hokq
            clear hMk hRw hRE hz hzq
            refine tr_perm (perm_rot (bsQ_perm row qs) (bsQ_perm row ps)) ?_
            refine tr_loopd (ι := Nat) (fun i A st' => i ≤ row.length ∧ A.df = [] ∧ A.e 2 = .sl .shared RS ∧ A.e 3 = .ip [.str nm, .sl .shared SL, .sl .shared TL] ∧ A.e 7 = .ar g 0 row.length cap ∧ A.e 10 = .ptr b10 0 ∧ A.e 12 = .ar ga 0 row.length ca ∧ A.e 13 = .i i ∧ ∃ Jo Ja : List D, Jo.length = i * 4 ∧ Ja.length = i * 4 ∧ st'.Perm (.box g 24 (Jo ++ rowQ (row.drop i) (ps.drop i) ++ zs) :: .box ga 24 (Ja ++ rowQ (row.drop i) (qs.drop i) ++ za) :: .box b10 45 [.i v, .sl .shared OS] :: (asc (row.drop i) (ps.drop i) ++ (asc (row.drop i) (qs.drop i) ++ st)))) (fun i => row.length - i) 0 ⟨Nat.zero_le _, ?_, ?_, ?_, ?_, ?_, ?_, ?_, [], [], rfl, rfl, List.Perm.refl _⟩ ?_
            iterate 7 (focus (first | rfl | assumption | omega | (simp (disch := omega) only [push_cast, simprocAttr, *]; try omega; done)))
            rintro i A st' ⟨hi, hdf, e2, e3, e7, e10, e12, e13, Jo, Ja, hJo, hJa, hpm⟩
            refine tr_perm hpm ?_
            clear hpm
            by_cases hlt : i < row.length
            · obtain ⟨u, hu⟩ : ∃ u, row[i]? = some u := ⟨_, List.getElem?_eq_getElem hlt⟩
              obtain ⟨p, hp⟩ : ∃ p, ps[i]? = some p := ⟨_, List.getElem?_eq_getElem (by omega)⟩
              obtain ⟨q, hq⟩ : ∃ q, qs[i]? = some q := ⟨_, List.getElem?_eq_getElem (by omega)⟩
              have hop := hok.out i u p hu hp
              have hun := hrn2.out u (List.mem_of_getElem? hu)
              have hoq := hokq.out i u q hu hq
              have dc : ∀ {α : Type} {l : List α} {x : α}, l[i]? = some x → l.drop i = x :: l.drop (i + 1) := fun {α l x} h => by
                obtain ⟨h1, rfl⟩ := List.getElem?_eq_some_iff.1 h
                exact List.drop_eq_getElem_cons h1
              have hl1 : (ps.drop (i + 1)).length = (row.drop (i + 1)).length := by rw [List.length_drop, List.length_drop, hps]
              have hl2 : (qs.drop (i + 1)).length = (row.drop (i + 1)).length := by rw [List.length_drop, List.length_drop, hqs]
              have hR1l := rowQ_len hl1
              have hR2l := rowQ_len hl2
              rw [List.length_drop] at hR1l hR2l
              rw [dc hu, dc hp, dc hq, rowQ_cons, rowQ_cons, asc_cons, asc_cons]
              clear hp hq dc hl1 hl2
              obtain ⟨R1, hR1⟩ : ∃ R, rowQ (row.drop (i + 1)) (ps.drop (i + 1)) = R := ⟨_, rfl⟩
              obtain ⟨R2, hR2⟩ : ∃ R, rowQ (row.drop (i + 1)) (qs.drop (i + 1)) = R := ⟨_, rfl⟩
              obtain ⟨AS1, hA1⟩ : ∃ R, asc (row.drop (i + 1)) (ps.drop (i + 1)) = R := ⟨_, rfl⟩
              obtain ⟨AS2, hA2⟩ : ∃ R, asc (row.drop (i + 1)) (qs.drop (i + 1)) = R := ⟨_, rfl⟩
              rw [hR1, hR2, hA1, hA2]
              rw [hR1] at hR1l
              rw [hR2] at hR2l
              replace hR1 := Lib.hid hR1
              replace hR2 := Lib.hid hR2
              replace hA1 := Lib.hid hA1
              replace hA2 := Lib.hid hA2
              cases u with
              | mk k n s l =>
              have hsl1 : Hid ((Jo ++ [D.i 0, .i 0, .str ⟨#[]⟩, .sl .tight []]).length = (i + 1) * 4) := Lib.hid (by rw [List.length_append, hJo]; show i * 4 + 4 = _; omega)
              have hsl2 : Hid ((Ja ++ [D.i 0, .i 0, .str ⟨#[]⟩, .sl .tight []]).length = (i + 1) * 4) := Lib.hid (by rw [List.length_append, hJa]; show i * 4 + 4 = _; omega)
              by_cases hl0 : l = []
              · subst hl0
                rw [show cellQ (.mk k n s []) p = [.i k, .i n, .str s, .sl .shared []] from rfl, show cellQ (.mk k n s []) q = [.i k, .i n, .str s, .sl .shared []] from rfl, show boxQ (.mk k n s []) p = [] from rfl, show boxQ (.mk k n s []) q = [] from rfl, List.nil_append, List.nil_append]
                have hr1 := row_read (R := R1) (zz := zs) (a := .i k) (b := .i n) (c := .str s) (d := .sl .shared []) hJo
                have ho1 := (row_step (e := [D.i k, .i n, .str s, .sl .shared []]) (R := R1) (zz := zs) (z := [D.i 0, .i 0, .str ⟨#[]⟩, .sl .tight []]) hJo rfl rfl).1
                have ho2 := (row_step (e := [D.i k, .i n, .str s, .sl .shared []]) (R := R2) (zz := za) (z := [D.i 0, .i 0, .str ⟨#[]⟩, .sl .tight []]) hJa rfl rfl).1
                have hb1 : i * 4 + 4 ≤ (Jo ++ ([D.i k, .i n, .str s, .sl .shared []] ++ R1) ++ zs).length := by simp only [List.length_append, List.length_cons, List.length_nil]; omega
                have hb2 : i * 4 + 4 ≤ (Ja ++ ([D.i k, .i n, .str s, .sl .shared []] ++ R2) ++ za).length := by simp only [List.length_append, List.length_cons, List.length_nil]; omega
                generalize hC1 : Jo ++ ([D.i k, .i n, .str s, .sl .shared []] ++ R1) ++ zs = C1 at *
                generalize hC2 : Ja ++ ([D.i k, .i n, .str s, .sl .shared []] ++ R2) ++ za = C2 at *
                replace hC1 := Lib.hid hC1
                replace hC2 := Lib.hid hC2
                repeat' (first | with_reducible refine Go1.go ?_ | ((with_reducible apply ev_go); (focus ((try simp (disch := omega) only [push_cast, simprocAttr, *]); (try exact rfl); done))) | ((with_reducible refine w_last ?_ ?_ ?_); kernel_rfl; rfl) | with_reducible refine Go2.go ?_ | ((with_reducible first | apply w_stepG | refine s_bi ?_ ?_ | refine blk_ne ?_ ?_); rfl) | ((with_reducible refine al_go ?_); intro b) | ((with_reducible apply a2_go); (focus (first | assumption | (intro h; cases h))); (focus (intro o'; repeat (first | exact ra_h | apply ra_t))); (iterate 2 (focus (first | assumption | exact len_nil | exact len_one rfl | (intro a ha; obtain ⟨x, -, rfl⟩ := List.mem_map.1 ha; first | rfl | simp) | (intro a ha; simp at ha; simp [ha])))); (iterate 2 (focus (first | omega | (simp only [List.length_map, List.length_cons, List.length_nil, List.length_append]; omega)))); intro o' ho') | ((with_reducible first | refine w_region ?_ ?_ | refine w_dra ?_ ?_); kernel_rfl) | ((with_reducible refine Go3.go ?_ ?_); all_goals (intro hb; (try with_reducible intro hb1); (try (exfalso; first | contradiction | omega)))) | fail)
                refine tr_once1 ?_
                repeat' (first | with_reducible refine Go1.go ?_ | ((with_reducible apply ev_go); (focus ((try simp (disch := omega) only [push_cast, simprocAttr, *]); (try exact rfl); done))) | ((with_reducible refine w_last ?_ ?_ ?_); kernel_rfl; rfl) | with_reducible refine Go2.go ?_ | ((with_reducible first | apply w_stepG | refine s_bi ?_ ?_ | refine blk_ne ?_ ?_); rfl) | ((with_reducible refine al_go ?_); intro b) | ((with_reducible apply a2_go); (focus (first | assumption | (intro h; cases h))); (focus (intro o'; repeat (first | exact ra_h | apply ra_t))); (iterate 2 (focus (first | assumption | exact len_nil | exact len_one rfl | (intro a ha; obtain ⟨x, -, rfl⟩ := List.mem_map.1 ha; first | rfl | simp) | (intro a ha; simp at ha; simp [ha])))); (iterate 2 (focus (first | omega | (simp only [List.length_map, List.length_cons, List.length_nil, List.length_append]; omega)))); intro o' ho') | ((with_reducible first | refine w_region ?_ ?_ | refine w_dra ?_ ?_); kernel_rfl) | ((with_reducible refine Go3.go ?_ ?_); all_goals (intro hb; (try with_reducible intro hb1); (try (exfalso; first | contradiction | omega)))) | fail)
                refine ⟨i + 1, .box g 24 (Jo ++ [D.i 0, .i 0, .str ⟨#[]⟩, .sl .tight []] ++ R1 ++ zs) :: .box ga 24 (Ja ++ [D.i 0, .i 0, .str ⟨#[]⟩, .sl .tight []] ++ R2 ++ za) :: .box b10 45 [.i v, .sl .shared OS] :: (AS1 ++ (AS2 ++ st)), (by (repeat (first | exact List.Sublist.refl _ | with_reducible apply List.Sublist.cons_cons | apply List.Sublist.cons))), ⟨hlt, ?_, ?_, ?_, ?_, ?_, ?_, ?_, Jo ++ [D.i 0, .i 0, .str ⟨#[]⟩, .sl .tight []], Ja ++ [D.i 0, .i 0, .str ⟨#[]⟩, .sl .tight []], hsl1.out, hsl2.out, by rw [hR1.out, hR2.out, hA1.out, hA2.out]⟩, by omega⟩
                all_goals (first | rfl | assumption | omega | (simp (disch := omega) only [push_cast, simprocAttr, *]; try omega; done))
              · have hllb : l.length ≤ 1000 := by
                  have := V.nodesL_len l
                  rw [V.nodes] at hun
                  omega
                clear hun
                obtain ⟨gi, ci, zi⟩ := p
                obtain ⟨hi', ch, zh⟩ := q
                have hzi : (rowC l ++ zi).length = ci * 4 := hop hl0
                have hzh : (rowC l ++ zh).length = ch * 4 := hoq hl0
                have hcl := rowC_len l
                have hci : l.length ≤ ci := by
                  rw [List.length_append] at hzi
                  omega
                have hch : l.length ≤ ch := by
                  rw [List.length_append] at hzh
                  omega
                rw [cellQ_ne hl0, cellQ_ne hl0, boxQ_ne hl0, boxQ_ne hl0]
                have hr1 := row_read (R := R1) (zz := zs) (a := .i k) (b := .i n) (c := .str s) (d := .ar gi 0 l.length ci) hJo
                have hr2 := row_read (R := R2) (zz := za) (a := .i k) (b := .i n) (c := .str s) (d := .ar hi' 0 l.length ch) hJa
                have ho1 := (row_step (e := [D.i k, .i n, .str s, .ar gi 0 l.length ci]) (R := R1) (zz := zs) (z := [D.i 0, .i 0, .str ⟨#[]⟩, .sl .tight []]) hJo rfl rfl).1
                have ho2 := (row_step (e := [D.i k, .i n, .str s, .ar hi' 0 l.length ch]) (R := R2) (zz := za) (z := [D.i 0, .i 0, .str ⟨#[]⟩, .sl .tight []]) hJa rfl rfl).1
                have hb1 : i * 4 + 4 ≤ (Jo ++ ([D.i k, .i n, .str s, .ar gi 0 l.length ci] ++ R1) ++ zs).length := by simp only [List.length_append, List.length_cons, List.length_nil]; omega
                have hb2 : i * 4 + 4 ≤ (Ja ++ ([D.i k, .i n, .str s, .ar hi' 0 l.length ch] ++ R2) ++ za).length := by simp only [List.length_append, List.length_cons, List.length_nil]; omega
                refine tr_perm perm_front ?_
                generalize hC1 : Jo ++ ([D.i k, .i n, .str s, .ar gi 0 l.length ci] ++ R1) ++ zs = C1 at *
                generalize hC2 : Ja ++ ([D.i k, .i n, .str s, .ar hi' 0 l.length ch] ++ R2) ++ za = C2 at *
                replace hC1 := Lib.hid hC1
                replace hC2 := Lib.hid hC2
                generalize rowC l ++ zi = Ci0 at *
                generalize rowC l ++ zh = Ch0 at *
                generalize l.length = ll at *
                replace ho1 := Lib.hid ho1
                replace ho2 := Lib.hid ho2
                repeat' (first | with_reducible refine Go1.go ?_ | ((with_reducible apply ev_go); (focus ((try simp (disch := omega) only [push_cast, simprocAttr, *]); (try exact rfl); done))) | ((with_reducible refine w_last ?_ ?_ ?_); kernel_rfl; rfl) | with_reducible refine Go2.go ?_ | ((with_reducible first | apply w_stepG | refine s_bi ?_ ?_ | refine blk_ne ?_ ?_); rfl) | ((with_reducible refine al_go ?_); intro b) | ((with_reducible apply a2_go); (focus (first | assumption | (intro h; cases h))); (focus (intro o'; repeat (first | exact ra_h | apply ra_t))); (iterate 2 (focus (first | assumption | exact len_nil | exact len_one rfl | (intro a ha; obtain ⟨x, -, rfl⟩ := List.mem_map.1 ha; first | rfl | simp) | (intro a ha; simp at ha; simp [ha])))); (iterate 2 (focus (first | omega | (simp only [List.length_map, List.length_cons, List.length_nil, List.length_append]; omega)))); intro o' ho') | ((with_reducible first | refine w_region ?_ ?_ | refine w_dra ?_ ?_); kernel_rfl) | ((with_reducible refine Go3.go ?_ ?_); all_goals (intro hb; (try with_reducible intro hb1); (try (exfalso; first | contradiction | omega)))) | fail)
                refine tr_loopd (ι := Nat) (fun j A st' => j ≤ ll ∧ A.df = [] ∧ A.e 2 = .sl .shared RS ∧ A.e 3 = .ip [.str nm, .sl .shared SL, .sl .shared TL] ∧ A.e 7 = .ar g 0 row.length cap ∧ A.e 10 = .ptr b10 0 ∧ A.e 12 = .ar ga 0 row.length ca ∧ A.e 13 = .i i ∧ A.e 14 = .i j ∧ ∃ Ci Ch : List D, Ci.length = ci * 4 ∧ Ch.length = ch * 4 ∧ st' = .box gi 24 Ci :: .box hi' 24 Ch :: .box g 24 C1 :: .box ga 24 C2 :: .box b10 45 [.i v, .sl .shared OS] :: (AS1 ++ (AS2 ++ st))) (fun j => ll - j) 0 ⟨Nat.zero_le _, ?_, ?_, ?_, ?_, ?_, ?_, ?_, ?_, Ci0, Ch0, hzi, hzh, rfl⟩ ?_
                iterate 8 (focus (first | rfl | assumption | omega | (simp (disch := omega) only [push_cast, simprocAttr, *]; try omega; done)))
                rintro j A st' ⟨hj, hdf, e2, e3, e7, e10, e12, e13, e14, Ci, Ch, hCi, hCh, rfl⟩
                clear hzi hzh
                by_cases hjl : j < ll
                · have hw1 : j * 4 + 4 ≤ Ci.length := by omega
                  have hw2 : j * 4 + 4 ≤ Ch.length := by omega
                  have hci2 := Lib.hid hCi
                  have hch2 := Lib.hid hCh
                  clear hCi hCh
                  repeat' (first | with_reducible refine Go1.go ?_ | ((with_reducible apply ev_go); (focus ((try simp (disch := omega) only [push_cast, simprocAttr, *]); (try exact rfl); done))) | ((with_reducible refine w_last ?_ ?_ ?_); kernel_rfl; rfl) | with_reducible refine Go2.go ?_ | ((with_reducible first | apply w_stepG | refine s_bi ?_ ?_ | refine blk_ne ?_ ?_); rfl) | ((with_reducible refine al_go ?_); intro b) | ((with_reducible apply a2_go); (focus (first | assumption | (intro h; cases h))); (focus (intro o'; repeat (first | exact ra_h | apply ra_t))); (iterate 2 (focus (first | assumption | exact len_nil | exact len_one rfl | (intro a ha; obtain ⟨x, -, rfl⟩ := List.mem_map.1 ha; first | rfl | simp) | (intro a ha; simp at ha; simp [ha])))); (iterate 2 (focus (first | omega | (simp only [List.length_map, List.length_cons, List.length_nil, List.length_append]; omega)))); intro o' ho') | ((with_reducible first | refine w_region ?_ ?_ | refine w_dra ?_ ?_); kernel_rfl) | ((with_reducible refine Go3.go ?_ ?_); all_goals (intro hb; (try with_reducible intro hb1); (try (exfalso; first | contradiction | omega)))) | fail)
                  refine ⟨j + 1, _, List.Sublist.refl _, ⟨hjl, ?_, ?_, ?_, ?_, ?_, ?_, ?_, ?_, _, _, ?_, ?_, rfl⟩, by omega⟩
                  · (first | rfl | assumption | omega | (simp (disch := omega) only [push_cast, simprocAttr, *]; try omega; done))
                  · (first | rfl | assumption | omega | (simp (disch := omega) only [push_cast, simprocAttr, *]; try omega; done))
                  · (first | rfl | assumption | omega | (simp (disch := omega) only [push_cast, simprocAttr, *]; try omega; done))
                  · (first | rfl | assumption | omega | (simp (disch := omega) only [push_cast, simprocAttr, *]; try omega; done))
                  · (first | rfl | assumption | omega | (simp (disch := omega) only [push_cast, simprocAttr, *]; try omega; done))
                  · (first | rfl | assumption | omega | (simp (disch := omega) only [push_cast, simprocAttr, *]; try omega; done))
                  · (first | rfl | assumption | omega | (simp (disch := omega) only [push_cast, simprocAttr, *]; try omega; done))
                  · (first | rfl | assumption | omega | (simp (disch := omega) only [push_cast, simprocAttr, *]; try omega; done))
                  · have := hci2.out
                    simp only [List.length_append, List.length_take, List.length_drop, List.length_cons, List.length_nil]
                    omega
                  · have := hch2.out
                    simp only [List.length_append, List.length_take, List.length_drop, List.length_cons, List.length_nil]
                    omega
                · replace ho1 := ho1.out
                  replace ho2 := ho2.out
                  clear hCi hCh
                  repeat' (first | with_reducible refine Go1.go ?_ | ((with_reducible apply ev_go); (focus ((try simp (disch := omega) only [push_cast, simprocAttr, *]); (try exact rfl); done))) | ((with_reducible refine w_last ?_ ?_ ?_); kernel_rfl; rfl) | with_reducible refine Go2.go ?_ | ((with_reducible first | apply w_stepG | refine s_bi ?_ ?_ | refine blk_ne ?_ ?_); rfl) | ((with_reducible refine al_go ?_); intro b) | ((with_reducible apply a2_go); (focus (first | assumption | (intro h; cases h))); (focus (intro o'; repeat (first | exact ra_h | apply ra_t))); (iterate 2 (focus (first | assumption | exact len_nil | exact len_one rfl | (intro a ha; obtain ⟨x, -, rfl⟩ := List.mem_map.1 ha; first | rfl | simp) | (intro a ha; simp at ha; simp [ha])))); (iterate 2 (focus (first | omega | (simp only [List.length_map, List.length_cons, List.length_nil, List.length_append]; omega)))); intro o' ho') | ((with_reducible first | refine w_region ?_ ?_ | refine w_dra ?_ ?_); kernel_rfl) | ((with_reducible refine Go3.go ?_ ?_); all_goals (intro hb; (try with_reducible intro hb1); (try (exfalso; first | contradiction | omega)))) | fail)
                  refine ⟨i + 1, .box g 24 (Jo ++ [D.i 0, .i 0, .str ⟨#[]⟩, .sl .tight []] ++ R1 ++ zs) :: .box ga 24 (Ja ++ [D.i 0, .i 0, .str ⟨#[]⟩, .sl .tight []] ++ R2 ++ za) :: .box b10 45 [.i v, .sl .shared OS] :: (AS1 ++ (AS2 ++ st)), (by (repeat (first | exact List.Sublist.refl _ | with_reducible apply List.Sublist.cons_cons | apply List.Sublist.cons))), ⟨hlt, ?_, ?_, ?_, ?_, ?_, ?_, ?_, Jo ++ [D.i 0, .i 0, .str ⟨#[]⟩, .sl .tight []], Ja ++ [D.i 0, .i 0, .str ⟨#[]⟩, .sl .tight []], hsl1.out, hsl2.out, by rw [hR1.out, hR2.out, hA1.out, hA2.out]⟩, by omega⟩
                  all_goals (first | rfl | assumption | omega | (simp (disch := omega) only [push_cast, simprocAttr, *]; try omega; done))
            · skip
              repeat' (first | with_reducible refine Go1.go ?_ | ((with_reducible apply ev_go); (focus ((try simp (disch := omega) only [push_cast, simprocAttr, *]); (try exact rfl); done))) | ((with_reducible refine w_last ?_ ?_ ?_); kernel_rfl; rfl) | with_reducible refine Go2.go ?_ | ((with_reducible first | apply w_stepG | refine s_bi ?_ ?_ | refine blk_ne ?_ ?_); rfl) | ((with_reducible refine al_go ?_); intro b) | ((with_reducible apply (ck_le Try.call36)); exact LEL.refl _; exact hRr.out _) | ((with_reducible apply (ck_le Try.call35)); exact LEL.refl _; exact hS.out _) | ((with_reducible apply a2_go); (focus (first | assumption | (intro h; cases h))); (focus (intro o'; repeat (first | exact ra_h | apply ra_t))); (iterate 2 (focus (first | assumption | exact len_nil | exact len_one rfl | (intro a ha; obtain ⟨x, -, rfl⟩ := List.mem_map.1 ha; first | rfl | simp) | (intro a ha; simp at ha; simp [ha])))); (iterate 2 (focus (first | omega | (simp only [List.length_map, List.length_cons, List.length_nil, List.length_append]; omega)))); intro o' ho') | ((with_reducible first | refine w_region ?_ ?_ | refine w_dra ?_ ?_); kernel_rfl) | ((with_reducible refine Go3.go ?_ ?_); all_goals (intro hb; (try with_reducible intro hb1); (try (exfalso; first | contradiction | omega)))) | fail)
              all_goals (refine ret_eq (by simp) (by first | rfl | assumption) (by (repeat (first | exact List.Sublist.refl _ | exact sub_two | exact List.sublist_append_right _ _ | apply List.Sublist.cons))) ?_; (try simp (disch := omega) only [push_cast, simprocAttr, *]); try exact LE.refl _)
          · clear hL
            generalize Sch.makeS t v row = M at *
            unfold Rc.cells at hMk
            generalize M.1.s.map V.cells = MS at *
            generalize M.1.v = mv at *
            generalize M.2 = me at *
            replace hMk := Lib.hid hMk
            repeat' (first | with_reducible refine Go1.go ?_ | ((with_reducible apply ev_go); (focus ((try simp (disch := omega) only [push_cast, simprocAttr, *]); (try exact rfl); done))) | ((with_reducible refine w_last ?_ ?_ ?_); kernel_rfl; rfl) | with_reducible refine Go2.go ?_ | ((with_reducible first | apply w_stepG | refine s_bi ?_ ?_ | refine blk_ne ?_ ?_); rfl) | ((with_reducible refine al_go ?_); intro b) | ((with_reducible apply (ck_le Try.call33)); exact LEL.refl _; exact hMk.out) | ((with_reducible apply a2_go); (focus (first | assumption | (intro h; cases h))); (focus (intro o'; repeat (first | exact ra_h | apply ra_t))); (iterate 2 (focus (first | assumption | exact len_nil | exact len_one rfl | (intro a ha; obtain ⟨x, -, rfl⟩ := List.mem_map.1 ha; first | rfl | simp) | (intro a ha; simp at ha; simp [ha])))); (iterate 2 (focus (first | omega | (simp only [List.length_map, List.length_cons, List.length_nil, List.length_append]; omega)))); intro o' ho') | ((with_reducible first | refine w_region ?_ ?_ | refine w_dra ?_ ?_); kernel_rfl) | ((with_reducible refine Go3.go ?_ ?_); all_goals (intro hb; (try with_reducible intro hb1); (try (exfalso; first | contradiction | omega)))) | fail)
            all_goals (refine ret_eq (by simp) (by first | rfl | assumption) (by (repeat (first | exact List.Sublist.refl _ | exact sub_two | exact List.sublist_append_right _ _ | apply List.Sublist.cons))) ?_; (try simp (disch := omega) only [push_cast, simprocAttr, *]); try exact LE.refl _)
end Go.Proofs.Ytooaagmhgakhgaa
end
