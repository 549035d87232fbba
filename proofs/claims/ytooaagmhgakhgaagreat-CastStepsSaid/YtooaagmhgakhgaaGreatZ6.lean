/- Texts put together: SchK, RefI, CastA, Copy, CastB, CastC, CastD, CastE, CastF, CastG, SchP, SchGr, CastH, CastI, SchTw, CastO, CastN, AmMark, AmOwn, CastS. No statement is proved here. -/
import Derived.Test.YtooaagmhgakhgaaGreatZ5
set_option linter.all false
section
namespace Go.Proofs.YtooaagmhgakhgaaGreat
set_option linter.unusedSimpArgs false
attribute [local push_cast] encB encI encC V.cells_mk V.cells_len Nat.mul_one Int.sub_zero List.map_nil beq_self_eq_true List.head?_cons
open Go.RowKit
set_option maxRecDepth 10000
set_option maxHeartbeats 4000000
theorem versF' (t : Tm) (st : St) : TrF Tryz.prog 37 [.agg t.cells] st fun d st' => ∃ tb : Nat, True ∧ d = .fn (.func 51) [] [.ptr tb 0] ∧ st' = .box tb 25 t.cells :: st :=
  (versF t st).mono fun _ _ ⟨tb, h1, h2⟩ => ⟨tb, trivial, h1, h2⟩
theorem schLastF (t : Tm) (ht : TOk t) (st : St) : TrF Tryz.prog 26 [.agg t.cells] st fun d st' => d = .i (Sch.last t) ∧ st' = st := by
  have hVF := Lib.hid (versF' t)
  have hIt := Lib.hid fun tb => versIter tb t ht
  have hLl : Hid (((Sch.vers t).zipIdx 1).length = (Sch.vers t).length) := Lib.hid List.length_zipIdx
  have hget : Hid (∀ i x, ((Sch.vers t).zipIdx 1)[i]? = some x → x.2 = i + 1) := fun i x h => by
    rw [List.getElem?_zipIdx] at h
    cases hv : (Sch.vers t)[i]? with
    | none => rw [hv] at h; cases h
    | some y => rw [hv] at h; cases h; exact Nat.add_comm 1 i
  have hlast : Hid (Sch.last t = if (Sch.vers t).length = t.steps.length + 1 then t.steps.length + 1 else 0) := rfl
  have hvl := (Sch.vers_len t).1
  have hms := ht.lt
  generalize Sch.last t = LT at *
  generalize (Sch.vers t).zipIdx 1 = L at *
  generalize (Sch.vers t).length = vl at *
  have hTL : (t.steps.map Stp.cells).length = t.steps.length := List.length_map ..
  unfold Tm.cells at hVF hIt ⊢
  generalize t.slots.map Sl.cells = SL at *
  generalize t.steps.map Stp.cells = TL at *
  generalize t.steps.length = ms at *
  generalize t.name = nm at *
  refine trF_enter (ts := [2]) Tryz.func26 rfl (by rw [Tryz.ntmps26]; exact Nat.le_of_ble_eq_true rfl) (fun tmps w => by simp [results, Tryz.results26, go_sem, resVal]) ?_
  simp only [Tryz.ntmps26]
  repeat' (first | with_reducible refine Go1.go ?_ | ((with_reducible apply ev_go); (focus ((try simp (disch := omega) only [push_cast, simprocAttr, *]); (try exact rfl); done))) | with_reducible refine s_boxP ?_ | ((with_reducible refine w_last ?_ ?_ ?_); kernel_rfl; rfl) | with_reducible refine Go2.go ?_ | ((with_reducible first | apply w_stepG | refine s_bi ?_ ?_ | refine blk_ne ?_ ?_); rfl) | ((with_reducible refine al_go ?_); intro b) | ((with_reducible apply (ck_ex Tryz.call37)); (focus exact LEL.refl _); (focus exact hVF.out _); (focus exact ⟨0, trivial⟩); intro tb htb) | ((with_reducible first | refine w_region ?_ ?_ | refine w_dra ?_ ?_); kernel_rfl) | ((with_reducible refine Go3.go ?_ ?_); all_goals (intro hb; (try with_reducible intro hb1); (try (exfalso; first | contradiction | omega)))) | fail)
  rename_i b1
  refine tr_perm (st' := [.box tb 25 [.str nm, .sl .shared SL, .sl .shared TL]] ++ (.box b 3 [.i 0] :: .box b1 25 [.str nm, .sl .shared SL, .sl .shared TL] :: st)) (.refl _) ?_
  refine tr_range (hIt.out tb) Tryz.call51 (by (try simp (disch := omega) only [push_cast, simprocAttr, *]); (try exact rfl); done) (fun _ => rfl) rfl (fun i C => C = .box b 3 [.i i] :: .box b1 25 [.str nm, .sl .shared SL, .sl .shared TL] :: st) (fun _ _ _ => False) rfl (fun i _ => ⟨_, rfl⟩) ?_ ?_ (fun _ _ _ _ _ _ h => h.elim)
  · rintro l i ⟨y, v⟩ C K hx rfl
    have hv : v = i + 1 := hget.out i _ hx
    subst hv
    have hil : i < L.length := (List.getElem?_eq_some_iff.1 hx).1
    have hib : i ≤ 2000 := by have := hLl.out; omega
    clear hx hil
    refine (?_ : Tr _ _ _ _ (AA.put (AA.put ⟨_, []⟩ (some 7) (.i ((i + 1 : Nat) : Int))) (some 8) (.agg y.cells)) (.box b 3 [.i i] :: .box b1 25 [.str nm, .sl .shared SL, .sl .shared TL] :: (st ++ K)) _)
    repeat' (first | with_reducible refine Go1.go ?_ | ((with_reducible apply ev_go); (focus ((try simp (disch := omega) only [push_cast, simprocAttr, *]); (try exact rfl); done))) | ((with_reducible refine w_last ?_ ?_ ?_); kernel_rfl; rfl) | with_reducible refine Go2.go ?_ | ((with_reducible first | apply w_stepG | refine s_bi ?_ ?_ | refine blk_ne ?_ ?_); rfl) | ((with_reducible refine al_go ?_); intro b) | ((with_reducible first | refine w_region ?_ ?_ | refine w_dra ?_ ?_); kernel_rfl) | ((with_reducible refine Go3.go ?_ ?_); all_goals (intro hb; (try with_reducible intro hb1); (try (exfalso; first | contradiction | omega)))) | fail)
    refine ⟨.box b 3 [.i i] :: .box b1 25 [.str nm, .sl .shared SL, .sl .shared TL] :: st, List.Sublist.refl _, fun K' => ?_⟩
    refine (?_ : Tr _ _ _ _ _ (.box b 3 [.i i] :: .box b1 25 [.str nm, .sl .shared SL, .sl .shared TL] :: (st ++ K')) _)
    repeat' (first | with_reducible refine Go1.go ?_ | ((with_reducible apply ev_go); (focus ((try simp (disch := omega) only [push_cast, simprocAttr, *]); (try exact rfl); done))) | ((with_reducible refine w_last ?_ ?_ ?_); kernel_rfl; rfl) | with_reducible refine Go2.go ?_ | ((with_reducible first | apply w_stepG | refine s_bi ?_ ?_ | refine blk_ne ?_ ?_); rfl) | ((with_reducible refine al_go ?_); intro b) | ((with_reducible first | refine w_region ?_ ?_ | refine w_dra ?_ ?_); kernel_rfl) | ((with_reducible refine Go3.go ?_ ?_); all_goals (intro hb; (try with_reducible intro hb1); (try (exfalso; first | contradiction | omega)))) | fail)
    exact ⟨_, List.Sublist.refl _, rfl⟩
  · rintro d K1 C' rfl rfl
    rw [hLl.out]
    clear hIt
    change Tr _ _ _ _ _ _ _
    by_cases hc : vl = ms + 1
    · have hL2 : LT = vl := by rw [hlast.out, if_pos hc, hc]
      clear hlast
      have hc2 : (vl : Int) = (ms : Int) + 1 := by omega
      clear hc
      refine tr_perm (st' := .box b 3 [.i vl] :: .box b1 25 [.str nm, .sl .shared SL, .sl .shared TL] :: markR d :: .box tb 25 [.str nm, .sl .shared SL, .sl .shared TL] :: st) (by show List.Perm (markR d :: .box tb 25 [.str nm, .sl .shared SL, .sl .shared TL] :: .box b 3 [.i vl] :: .box b1 25 [.str nm, .sl .shared SL, .sl .shared TL] :: st) _; (repeat (first | exact List.Perm.refl _ | refine perm_cons_out (by repeat (first | exact out_here | apply out_there)) ?_))) ?_
      repeat' (first | with_reducible refine Go1.go ?_ | ((with_reducible apply ev_go); (focus ((try simp (disch := omega) only [push_cast, simprocAttr, *]); (try exact rfl); done))) | ((with_reducible refine w_last ?_ ?_ ?_); kernel_rfl; rfl) | with_reducible refine Go2.go ?_ | ((with_reducible first | apply w_stepG | refine s_bi ?_ ?_ | refine blk_ne ?_ ?_); rfl) | ((with_reducible refine al_go ?_); intro b) | ((with_reducible first | refine w_region ?_ ?_ | refine w_dra ?_ ?_); kernel_rfl) | ((with_reducible refine Go3.go ?_ ?_); all_goals (intro hb; (try with_reducible intro hb1); (try (exfalso; first | contradiction | omega)))) | fail)
      all_goals (refine retA_mark (by simp) (by first | rfl | assumption) (by repeat (first | exact out_here | apply out_there)) (by (repeat (first | exact List.Sublist.refl _ | apply List.Sublist.cons))) ?_ ⟨rfl, rfl⟩; (try simp (disch := omega) only [push_cast, simprocAttr, *]); try (first | exact LE.refl _ | exact LE.sl _ _ | ((first | refine LE.tup ?_ | refine LE.agg ?_); (repeat' (first | exact LEL.nil | refine LEL.cons ?_ ?_ | exact LE.refl _ | exact LE.sl _ _ | refine LE.agg ?_)); done) | refine LE.of_eq ?_))
    · have hL2 : LT = 0 := by rw [hlast.out, if_neg hc]
      clear hlast
      have hc2 : ¬ (vl : Int) = (ms : Int) + 1 := by omega
      clear hc
      refine tr_perm (st' := .box b 3 [.i vl] :: .box b1 25 [.str nm, .sl .shared SL, .sl .shared TL] :: markR d :: .box tb 25 [.str nm, .sl .shared SL, .sl .shared TL] :: st) (by show List.Perm (markR d :: .box tb 25 [.str nm, .sl .shared SL, .sl .shared TL] :: .box b 3 [.i vl] :: .box b1 25 [.str nm, .sl .shared SL, .sl .shared TL] :: st) _; (repeat (first | exact List.Perm.refl _ | refine perm_cons_out (by repeat (first | exact out_here | apply out_there)) ?_))) ?_
      repeat' (first | with_reducible refine Go1.go ?_ | ((with_reducible apply ev_go); (focus ((try simp (disch := omega) only [push_cast, simprocAttr, *]); (try exact rfl); done))) | ((with_reducible refine w_last ?_ ?_ ?_); kernel_rfl; rfl) | with_reducible refine Go2.go ?_ | ((with_reducible first | apply w_stepG | refine s_bi ?_ ?_ | refine blk_ne ?_ ?_); rfl) | ((with_reducible refine al_go ?_); intro b) | ((with_reducible first | refine w_region ?_ ?_ | refine w_dra ?_ ?_); kernel_rfl) | ((with_reducible refine Go3.go ?_ ?_); all_goals (intro hb; (try with_reducible intro hb1); (try (exfalso; first | contradiction | omega)))) | fail)
      all_goals (refine retA_mark (by simp) (by first | rfl | assumption) (by repeat (first | exact out_here | apply out_there)) (by (repeat (first | exact List.Sublist.refl _ | apply List.Sublist.cons))) ?_ ⟨rfl, rfl⟩; (try simp (disch := omega) only [push_cast, simprocAttr, *]); try (first | exact LE.refl _ | exact LE.sl _ _ | ((first | refine LE.tup ?_ | refine LE.agg ?_); (repeat' (first | exact LEL.nil | refine LEL.cons ?_ ?_ | exact LE.refl _ | exact LE.sl _ _ | refine LE.agg ?_)); done) | refine LE.of_eq ?_))
theorem schRightF (t : Tm) (ht : TOk t) (st : St) : TrF Tryz.prog 58 [.agg t.cells] st fun d st' => d = .b (decide (0 < Sch.last t)) ∧ st' = st := by
  have hL := Lib.hid (schLastF t ht)
  generalize Sch.last t = n at *
  unfold Tm.cells at *
  generalize t.slots.map Sl.cells = SL at *
  generalize t.steps.map Stp.cells = TL at *
  refine trF_enter (ts := [2]) Tryz.func58 rfl (by rw [Tryz.ntmps58]; exact Nat.le_of_ble_eq_true rfl) (fun tmps w => by simp [results, Tryz.results58, go_sem, resVal]) ?_
  simp only [Tryz.ntmps58]
  repeat' (first | with_reducible refine Go1.go ?_ | ((with_reducible apply ev_go); (focus ((try simp (disch := omega) only [push_cast, simprocAttr, *]); (try exact rfl); done))) | with_reducible refine s_boxP ?_ | ((with_reducible refine w_last ?_ ?_ ?_); kernel_rfl; rfl) | with_reducible refine Go2.go ?_ | ((with_reducible first | apply w_stepG | refine s_bi ?_ ?_ | refine blk_ne ?_ ?_); rfl) | ((with_reducible refine al_go ?_); intro b) | ((with_reducible apply (ck_le Tryz.call26)); exact LEL.refl _; exact hL.out _) | ((with_reducible first | refine w_region ?_ ?_ | refine w_dra ?_ ?_); kernel_rfl) | ((with_reducible refine Go3.go ?_ ?_); all_goals (intro hb; (try with_reducible intro hb1); (try (exfalso; first | contradiction | omega)))) | fail)
  all_goals (refine ret_eq (by simp) (by first | rfl | assumption) (by (repeat (first | exact List.Sublist.refl _ | apply List.Sublist.cons))) ?_; (try simp (disch := omega) only [push_cast, simprocAttr, *]); try (first | exact LE.refl _ | exact LE.sl _ _ | ((first | refine LE.tup ?_ | refine LE.agg ?_); (repeat' (first | exact LEL.nil | refine LEL.cons ?_ ?_ | exact LE.refl _ | exact LE.sl _ _ | refine LE.agg ?_)); done) | refine LE.of_eq ?_))
  all_goals (refine congrArg D.b (decide_eq_decide.2 ?_); omega)
def Sch.verX (t : Tm) (v : Int) : Vr := (Sch.ver t v).getD ⟨[], []⟩
def Sch.verB (t : Tm) (v : Int) : Bool := (Sch.ver t v).isSome
theorem schAtF (t : Tm) (ht : TOk t) (v : Int) (st : St) : TrF Tryz.prog 43 [.agg t.cells, .i v] st fun d st' => d = .tup [.agg (Sch.verX t v).cells, .b (Sch.verB t v)] ∧ st' = st := by
  have hVF := Lib.hid (versF' t)
  have hRi := schRightF t ht
  have hIt := Lib.hid fun tb => versIter tb t ht
  have hLl : Hid (((Sch.vers t).zipIdx 1).length = (Sch.vers t).length) := Lib.hid List.length_zipIdx
  have hget : Hid (∀ i x, ((Sch.vers t).zipIdx 1)[i]? = some x → x.2 = i + 1 ∧ (Sch.vers t)[i]? = some x.1) := fun i x h => by
    rw [List.getElem?_zipIdx] at h
    cases hv : (Sch.vers t)[i]? with
    | none => rw [hv] at h; cases h
    | some y => rw [hv] at h; cases h; exact ⟨Nat.add_comm 1 i, rfl⟩
  have hver : Hid (Sch.ver t v = if 0 < Sch.last t ∧ 1 ≤ v then (Sch.vers t)[(v - 1).toNat]? else none) := rfl
  have hvl := (Sch.vers_len t).1
  have hms := ht.lt
  have hvl2 : Hid ((Sch.vers t).length ≤ 2000) := Lib.hid (by omega)
  unfold Sch.verX Sch.verB
  generalize Sch.ver t v = VT at *
  generalize (Sch.vers t).zipIdx 1 = L at *
  generalize Sch.vers t = Vs at *
  clear hvl hms
  unfold Tm.cells at hVF hIt hRi ⊢
  generalize t.slots.map Sl.cells = SL at *
  generalize t.steps.map Stp.cells = TL at *
  generalize t.name = nm at *
  refine trF_enterG (G := twoA Tryz.prog (.cell 4 77) (.cell 5 4)) Tryz.func43 rfl (by rw [Tryz.ntmps43]; exact Nat.le_of_ble_eq_true rfl) (fun h1 h2 h3 => res_two rfl h1 h2 h3) ?_
  simp only [Tryz.ntmps43]
  by_cases hr : 0 < Sch.last t
  · rw [decide_eq_true hr] at hRi
    replace hRi := Lib.hid hRi
    have hver2 : Hid (VT = if 1 ≤ v then Vs[(v - 1).toNat]? else none) := Lib.hid (by rw [hver.out]; simp [hr])
    clear hver
    repeat' (first | with_reducible refine Go1.go ?_ | ((with_reducible apply ev_go); (focus ((try simp (disch := omega) only [push_cast, simprocAttr, *]); (try exact rfl); done))) | with_reducible refine s_boxP ?_ | ((with_reducible refine w_last ?_ ?_ ?_); kernel_rfl; rfl) | with_reducible refine Go2.go ?_ | ((with_reducible first | apply w_stepG | refine s_bi ?_ ?_ | refine blk_ne ?_ ?_); rfl) | ((with_reducible refine al_go ?_); intro b) | ((with_reducible apply (ck_le Tryz.call58)); exact LEL.refl _; exact hRi.out _) | ((with_reducible apply (ck_ex Tryz.call37)); (focus exact LEL.refl _); (focus exact hVF.out _); (focus exact ⟨0, trivial⟩); intro tb htb) | ((with_reducible first | refine w_region ?_ ?_ | refine w_dra ?_ ?_); kernel_rfl) | ((with_reducible refine Go3.go ?_ ?_); all_goals (intro hb; (try with_reducible intro hb1); (try (exfalso; first | contradiction | omega)))) | fail)
    rename_i b2 b3 b4
    obtain ⟨b5, rfl⟩ : ∃ q, q = b := ⟨_, rfl⟩
    clear hRi
    refine tr_perm (st' := [.box tb 25 [.str nm, .sl .shared SL, .sl .shared TL]] ++ (.box b5 4 [.s (.bool false)] :: .box b4 77 [.sl .tight [], .sl .tight []] :: .box b3 3 [.i v] :: .box b2 25 [.str nm, .sl .shared SL, .sl .shared TL] :: st)) (.refl _) ?_
    refine tr_rangeS (hIt.out tb) Tryz.call51 (by (try simp (disch := omega) only [push_cast, simprocAttr, *]); (try exact rfl); done) (fun _ => rfl) rfl (fun i C => Hid (∀ j, j < i → (j : Int) + 1 ≠ v) ∧ C = .box b5 4 [.s (.bool false)] :: .box b4 77 [.sl .tight [], .sl .tight []] :: .box b3 3 [.i v] :: .box b2 25 [.str nm, .sl .shared SL, .sl .shared TL] :: st) (fun c i C => ∃ x : Vr, c = .ret ∧ Hid (VT = some x) ∧ C = .box b5 4 [.s (.bool true)] :: .box b4 77 x.cells :: .box b3 3 [.i v] :: .box b2 25 [.str nm, .sl .shared SL, .sl .shared TL] :: st)
      ⟨fun j hj => absurd hj (Nat.not_lt_zero _), rfl⟩ ?_ ?_ ?_ ?_
    · rintro i ⟨x, k⟩ C hx ⟨hj, rfl⟩
      obtain ⟨h1, h2⟩ := hget.out i _ hx
      by_cases hv : (i : Int) + 1 = v
      · exact .inr ⟨.ret, _, x, rfl, by rw [hver2.out, if_pos (by omega), show (v - 1).toNat = i by omega]; exact h2, rfl⟩
      · refine .inl ⟨_, fun j hj' => ?_, rfl⟩
        by_cases hji : j = i
        · subst hji; exact hv
        · exact hj.out j (by omega)
    · rintro l i ⟨x, k⟩ C K hx ⟨hj, rfl⟩
      obtain ⟨h1, h2⟩ := hget.out i _ hx
      dsimp only at h1 h2
      subst h1
      have hib : i ≤ 2000 := by
        have := (List.getElem?_eq_some_iff.1 hx).1
        have := hLl.out
        have := hvl2.out
        omega
      have hvx : Hid ((i : Int) + 1 = v → VT = some x) := fun hv => by rw [hver2.out, if_pos (by omega), show (v - 1).toNat = i by omega]; exact h2
      have hnx : Hid ((i : Int) + 1 ≠ v → ∀ j, j < i + 1 → (j : Int) + 1 ≠ v) := fun hv j hj' => by
        by_cases hji : j = i
        · subst hji; exact hv
        · exact hj.out j (by omega)
      clear hx h2 hj hIt
      dsimp only [verD, Vr.cells]
      generalize hX1 : x.slots.map Sl.cells = X1 at *
      generalize hX2 : x.cols.map encC = X2 at *
      replace hX1 := Lib.hid hX1
      replace hX2 := Lib.hid hX2
      refine (?_ : Tr _ _ _ _ (AA.put (AA.put ⟨_, []⟩ (some 14) (.i ((i + 1 : Nat) : Int))) (some 15) (.agg [.sl .shared X1, .sl .shared X2])) (.box b5 4 [.s (.bool false)] :: .box b4 77 [.sl .tight [], .sl .tight []] :: .box b3 3 [.i v] :: .box b2 25 [.str nm, .sl .shared SL, .sl .shared TL] :: (st ++ K)) _)
      repeat' (first | with_reducible refine Go1.go ?_ | ((with_reducible apply ev_go); (focus ((try simp (disch := omega) only [push_cast, simprocAttr, *]); (try exact rfl); done))) | ((with_reducible refine w_last ?_ ?_ ?_); kernel_rfl; rfl) | with_reducible refine Go2.go ?_ | ((with_reducible first | apply w_stepG | refine s_bi ?_ ?_ | refine blk_ne ?_ ?_); rfl) | ((with_reducible refine al_go ?_); intro b) | ((with_reducible first | refine w_region ?_ ?_ | refine w_dra ?_ ?_); kernel_rfl) | ((with_reducible refine Go3.go ?_ ?_); all_goals (intro hb; (try with_reducible intro hb1); (try (exfalso; first | contradiction | omega)))) | fail)
      obtain ⟨b7, rfl⟩ : ∃ q, q = b := ⟨_, rfl⟩
      refine ⟨.box b7 77 [.sl .shared X1, .sl .shared X2] :: .box b5 4 [.s (.bool false)] :: .box b4 77 [.sl .tight [], .sl .tight []] :: .box b3 3 [.i v] :: .box b2 25 [.str nm, .sl .shared SL, .sl .shared TL] :: st, List.Sublist.refl _, fun K' => ?_⟩
      refine (?_ : Tr _ _ _ _ _ (.box b7 77 [.sl .shared X1, .sl .shared X2] :: .box b5 4 [.s (.bool false)] :: .box b4 77 [.sl .tight [], .sl .tight []] :: .box b3 3 [.i v] :: .box b2 25 [.str nm, .sl .shared SL, .sl .shared TL] :: (st ++ K')) _)
      repeat' (first | with_reducible refine Go1.go ?_ | ((with_reducible apply ev_go); (focus ((try simp (disch := omega) only [push_cast, simprocAttr, *]); (try exact rfl); done))) | ((with_reducible refine w_last ?_ ?_ ?_); kernel_rfl; rfl) | with_reducible refine Go2.go ?_ | ((with_reducible first | apply w_stepG | refine s_bi ?_ ?_ | refine blk_ne ?_ ?_); rfl) | ((with_reducible refine al_go ?_); intro b) | ((with_reducible first | refine w_region ?_ ?_ | refine w_dra ?_ ?_); kernel_rfl) | ((with_reducible refine Go3.go ?_ ?_); all_goals (intro hb; (try with_reducible intro hb1); (try (exfalso; first | contradiction | omega)))) | fail)
      · exact ⟨.box b5 4 [.s (.bool true)] :: .box b4 77 [.sl .shared X1, .sl .shared X2] :: .box b3 3 [.i v] :: .box b2 25 [.str nm, .sl .shared SL, .sl .shared TL] :: st, .cons _ (.refl _), ⟨x, rfl, hvx.out hb, by rw [hX1.out, hX2.out]⟩⟩
      · exact ⟨.box b5 4 [.s (.bool false)] :: .box b4 77 [.sl .tight [], .sl .tight []] :: .box b3 3 [.i v] :: .box b2 25 [.str nm, .sl .shared SL, .sl .shared TL] :: st, .cons _ (.refl _), hnx.out hb, rfl⟩
    · rintro d K1 C' rfl ⟨hj, rfl⟩
      have hVN : VT = none := by
        rw [hver2.out]
        split
        · rename_i h1
          refine List.getElem?_eq_none ?_
          have hl := hLl.out
          refine Nat.le_of_not_lt fun hlt => ?_
          exact hj.out (v - 1).toNat (by omega) (by omega)
        · rfl
      subst hVN
      clear hIt hj hver2
      change Tr _ _ _ _ _ _ _
      repeat' (first | with_reducible refine Go1.go ?_ | ((with_reducible apply ev_go); (focus ((try simp (disch := omega) only [push_cast, simprocAttr, *]); (try exact rfl); done))) | ((with_reducible refine w_last ?_ ?_ ?_); kernel_rfl; rfl) | with_reducible refine Go2.go ?_ | ((with_reducible first | apply w_stepG | refine s_bi ?_ ?_ | refine blk_ne ?_ ?_); rfl) | ((with_reducible refine al_go ?_); intro b) | ((with_reducible first | refine w_region ?_ ?_ | refine w_dra ?_ ?_); kernel_rfl) | ((with_reducible refine Go3.go ?_ ?_); all_goals (intro hb; (try with_reducible intro hb1); (try (exfalso; first | contradiction | omega)))) | fail)
      all_goals exact retG_mk (rs := [d]) (s2 := .box tb 25 [.str nm, .sl .shared SL, .sl .shared TL] :: .box b5 4 [.s (.bool false)] :: .box b4 77 [.sl .tight [], .sl .tight []] :: .box b3 3 [.i v] :: .box b2 25 [.str nm, .sl .shared SL, .sl .shared TL] :: st) (by first | exact .inl rfl | exact .inr rfl) rfl (List.Perm.refl _) ⟨_, _, rfl, cell_mk (by simp (disch := omega) only [push_cast, simprocAttr, *]; exact rfl) (by repeat (first | exact mm_h | apply mm_t)) (by simp (disch := omega) only [push_cast, simprocAttr, *]; exact rfl) (by (try simp (disch := omega) only [push_cast, simprocAttr, *]); (try exact rfl); done), cell_mk (by simp (disch := omega) only [push_cast, simprocAttr, *]; exact rfl) (by repeat (first | exact mm_h | apply mm_t)) (by simp (disch := omega) only [push_cast, simprocAttr, *]; exact rfl) (by (try simp (disch := omega) only [push_cast, simprocAttr, *]); (try exact rfl); done)⟩ (by (repeat (first | exact List.Sublist.refl _ | with_reducible apply List.Sublist.cons_cons | apply List.Sublist.cons))) (LE.tup (l' := [.agg [.sl .shared [], .sl .shared []], .b false]) ⟨LE.agg (l := [.sl .tight [], .sl .tight []]) ⟨LE.sl _ _, LE.sl _ _, trivial⟩, LE.refl _, trivial⟩) ⟨rfl, rfl⟩
    · rintro c d i K1 C' rfl ⟨x, rfl, hx, rfl⟩
      have hVS := hx.out
      subst hVS
      clear hIt hver2
      repeat' (first | with_reducible refine Go1.go ?_ | ((with_reducible apply ev_go); (focus ((try simp (disch := omega) only [push_cast, simprocAttr, *]); (try exact rfl); done))) | ((with_reducible refine w_last ?_ ?_ ?_); kernel_rfl; rfl) | with_reducible refine Go2.go ?_ | ((with_reducible first | apply w_stepG | refine s_bi ?_ ?_ | refine blk_ne ?_ ?_); rfl) | ((with_reducible refine al_go ?_); intro b) | ((with_reducible first | refine w_region ?_ ?_ | refine w_dra ?_ ?_); kernel_rfl) | ((with_reducible refine Go3.go ?_ ?_); all_goals (intro hb; (try with_reducible intro hb1); (try (exfalso; first | contradiction | omega)))) | fail)
      all_goals exact retG_mk (rs := [d]) (s2 := .box tb 25 [.str nm, .sl .shared SL, .sl .shared TL] :: .box b5 4 [.s (.bool true)] :: .box b4 77 x.cells :: .box b3 3 [.i v] :: .box b2 25 [.str nm, .sl .shared SL, .sl .shared TL] :: st) (by first | exact .inl rfl | exact .inr rfl) rfl (List.Perm.refl _) ⟨_, _, rfl, cell_mk (by simp (disch := omega) only [push_cast, simprocAttr, *]; exact rfl) (by repeat (first | exact mm_h | apply mm_t)) (by simp (disch := omega) only [push_cast, simprocAttr, *]; exact rfl) (by (try simp (disch := omega) only [push_cast, simprocAttr, *]); (try exact rfl); done), cell_mk (by simp (disch := omega) only [push_cast, simprocAttr, *]; exact rfl) (by repeat (first | exact mm_h | apply mm_t)) (by simp (disch := omega) only [push_cast, simprocAttr, *]; exact rfl) (by (try simp (disch := omega) only [push_cast, simprocAttr, *]); (try exact rfl); done)⟩ (by (repeat (first | exact List.Sublist.refl _ | with_reducible apply List.Sublist.cons_cons | apply List.Sublist.cons))) (LE.refl _) ⟨rfl, rfl⟩
  · rw [decide_eq_false hr] at hRi
    replace hRi := Lib.hid hRi
    have hver2 : VT = none := by rw [hver.out]; simp [hr]
    subst hver2
    repeat' (first | with_reducible refine Go1.go ?_ | ((with_reducible apply ev_go); (focus ((try simp (disch := omega) only [push_cast, simprocAttr, *]); (try exact rfl); done))) | with_reducible refine s_boxP ?_ | ((with_reducible refine w_last ?_ ?_ ?_); kernel_rfl; rfl) | with_reducible refine Go2.go ?_ | ((with_reducible first | apply w_stepG | refine s_bi ?_ ?_ | refine blk_ne ?_ ?_); rfl) | ((with_reducible refine al_go ?_); intro b) | ((with_reducible apply (ck_le Tryz.call58)); exact LEL.refl _; exact hRi.out _) | ((with_reducible apply (ck_ex Tryz.call37)); (focus exact LEL.refl _); (focus exact hVF.out _); (focus exact ⟨0, trivial⟩); intro tb htb) | ((with_reducible first | refine w_region ?_ ?_ | refine w_dra ?_ ?_); kernel_rfl) | ((with_reducible refine Go3.go ?_ ?_); all_goals (intro hb; (try with_reducible intro hb1); (try (exfalso; first | contradiction | omega)))) | fail)
    all_goals exact retG_mk (rs := []) (by first | exact .inl rfl | exact .inr rfl) (by first | rfl | assumption) (List.Perm.refl _) ⟨_, _, rfl, cell_mk (by simp (disch := omega) only [push_cast, simprocAttr, *]; exact rfl) (by repeat (first | exact mm_h | apply mm_t)) (by simp (disch := omega) only [push_cast, simprocAttr, *]; exact rfl) (by (try simp (disch := omega) only [push_cast, simprocAttr, *]); (try exact rfl); done), cell_mk (by simp (disch := omega) only [push_cast, simprocAttr, *]; exact rfl) (by repeat (first | exact mm_h | apply mm_t)) (by simp (disch := omega) only [push_cast, simprocAttr, *]; exact rfl) (by (try simp (disch := omega) only [push_cast, simprocAttr, *]); (try exact rfl); done)⟩ (by (repeat (first | exact List.Sublist.refl _ | with_reducible apply List.Sublist.cons_cons | apply List.Sublist.cons))) (LE.tup (l' := [.agg [.sl .shared [], .sl .shared []], .b false]) ⟨LE.agg (l := [.sl .tight [], .sl .tight []]) ⟨LE.sl _ _, LE.sl _ _, trivial⟩, LE.refl _, trivial⟩) ⟨rfl, rfl⟩
end Go.Proofs.YtooaagmhgakhgaaGreat
end

section
namespace Go.Proofs.YtooaagmhgakhgaaGreat
set_option linter.unusedSimpArgs false
attribute [local push_cast] encB encI encC V.cells_mk V.cells_len Nat.mul_one Int.sub_zero List.map_nil beq_self_eq_true List.head?_cons
open Go.RowKit
set_option maxRecDepth 10000
set_option maxHeartbeats 4000000
theorem refVers_get (t : Tm) (v : Int) : Sch.ver t v = if 1 ≤ v then (Sch.refVers t)[(v - 1).toNat]? else none := by
  unfold Sch.ver Sch.refVers
  by_cases h1 : 0 < Sch.last t
  · simp [h1]
  · rw [if_neg (fun h => h1 h.1), if_neg h1]
    split <;> rfl
theorem refAtF (t : Tm) (ht : TQ t) (v : Int) (st : St) : TrF Tryz.prog 23 [.agg t.cells, .i v] st fun d st' => d = .tup [.agg (Sch.verX t v).cells, .b (Sch.verB t v)] ∧ st' = st := by
  have hV := refVersF t ht
  have hg : Hid (Sch.ver t v = if 1 ≤ v then (Sch.refVers t)[(v - 1).toNat]? else none) := Lib.hid (refVers_get t v)
  have hll := (Sch.vers_len t).2
  have hlen : (Sch.refVers t).length ≤ 9 := by
    unfold Sch.refVers
    split
    · exact hll
    · simp
  have hml : ((Sch.refVers t).map Vr.cells).length = (Sch.refVers t).length := List.length_map ..
  have hgc : Hid (∀ (i : Nat) (x : Vr), (Sch.refVers t)[i]? = some x → ((Sch.refVers t).map Vr.cells)[i]? = some [.sl .shared (x.slots.map Sl.cells), .sl .shared (x.cols.map encC)]) := fun i x h => by rw [List.getElem?_map, h]; rfl
  unfold Sch.verX Sch.verB
  generalize Sch.ver t v = VT at *
  generalize Sch.refVers t = RV at *
  unfold Tm.cells at *
  generalize t.slots.map Sl.cells = SL at *
  generalize t.steps.map Stp.cells = TL at *
  generalize RV.map Vr.cells = RC at *
  generalize t.name = nm at *
  clear hll
  replace hV := Lib.hid hV
  by_cases h1 : 1 ≤ v ∧ v ≤ RV.length
  · obtain ⟨h1, h2⟩ := h1
    obtain ⟨n, hn⟩ := Int.eq_ofNat_of_zero_le (show 0 ≤ v - 1 by omega)
    obtain ⟨x, hx⟩ : ∃ x, RV[n]? = some x := ⟨_, List.getElem?_eq_getElem (by omega)⟩
    have hVT : VT = some x := by rw [hg.out, if_pos h1, hn, Int.toNat_natCast]; exact hx
    subst hVT
    have hc := hgc.out n x hx
    clear hg hgc hx
    refine trF_enterG (G := twoA Tryz.prog (.cell 4 50) (.tmp 5)) Tryz.func23 rfl (by rw [Tryz.ntmps23]; exact Nat.le_of_ble_eq_true rfl) (fun h1 h2 h3 => res_two rfl h1 h2 h3) ?_
    simp only [Tryz.ntmps23]
    have hnl : n < RV.length := by omega
    repeat' (first | with_reducible refine Go1.go ?_ | ((with_reducible apply ev_go); (focus ((try simp (disch := omega) only [push_cast, simprocAttr, *]); (try exact rfl); done))) | ((with_reducible refine w_last ?_ ?_ ?_); kernel_rfl; rfl) | with_reducible refine Go2.go ?_ | ((with_reducible first | apply w_stepG | refine s_bi ?_ ?_ | refine blk_ne ?_ ?_); rfl) | ((with_reducible refine al_go ?_); intro b) | ((with_reducible apply (ck_le Tryz.call27)); exact LEL.refl _; exact hV.out _) | ((with_reducible first | refine w_region ?_ ?_ | refine w_dra ?_ ?_); kernel_rfl) | ((with_reducible refine Go3.go ?_ ?_); all_goals (intro hb; (try with_reducible intro hb1); (try (exfalso; first | contradiction | omega)))) | fail)
    all_goals (refine retG_mk (rs := []) (by first | exact .inl rfl | exact .inr rfl) (by first | rfl | assumption) (List.Perm.refl _) ⟨_, _, rfl, cell_mk (by simp (disch := omega) only [push_cast, simprocAttr, *]; exact rfl) (by repeat (first | exact mm_h | apply mm_t)) (by simp (disch := omega) only [push_cast, simprocAttr, *]; exact rfl) (by (try simp (disch := omega) only [push_cast, simprocAttr, *]); (try exact rfl); done), (by show _ = _; (try simp (disch := omega) only [push_cast, simprocAttr, *]); (try exact rfl); done)⟩ (by (repeat (first | exact List.Sublist.refl _ | with_reducible apply List.Sublist.cons_cons | apply List.Sublist.cons))) (LE.refl _) ⟨rfl, rfl⟩)
  · have hVT : VT = none := by
      rw [hg.out]
      split
      · exact List.getElem?_eq_none (by omega)
      · rfl
    subst hVT
    clear hg hgc
    have h1' : v < 1 ∨ (1 ≤ v ∧ (RV.length : Int) < v) := by omega
    clear h1
    rcases h1' with h1 | ⟨h1, h2⟩
    all_goals skip
    all_goals (
      refine trF_enterG (G := twoA Tryz.prog (.cell 4 50) (.tmp 5)) Tryz.func23 rfl (by rw [Tryz.ntmps23]; exact Nat.le_of_ble_eq_true rfl) (fun h1 h2 h3 => res_two rfl h1 h2 h3) ?_
      simp only [Tryz.ntmps23]
      repeat' (first | with_reducible refine Go1.go ?_ | ((with_reducible apply ev_go); (focus ((try simp (disch := omega) only [push_cast, simprocAttr, *]); (try exact rfl); done))) | ((with_reducible refine w_last ?_ ?_ ?_); kernel_rfl; rfl) | with_reducible refine Go2.go ?_ | ((with_reducible first | apply w_stepG | refine s_bi ?_ ?_ | refine blk_ne ?_ ?_); rfl) | ((with_reducible refine al_go ?_); intro b) | ((with_reducible apply (ck_le Tryz.call27)); exact LEL.refl _; exact hV.out _) | ((with_reducible first | refine w_region ?_ ?_ | refine w_dra ?_ ?_); kernel_rfl) | ((with_reducible refine Go3.go ?_ ?_); all_goals (intro hb; (try with_reducible intro hb1); (try (exfalso; first | contradiction | omega)))) | fail)
      all_goals (refine retG_mk (rs := []) (by first | exact .inl rfl | exact .inr rfl) (by first | rfl | assumption) (List.Perm.refl _) ⟨_, _, rfl, cell_mk (by simp (disch := omega) only [push_cast, simprocAttr, *]; exact rfl) (by repeat (first | exact mm_h | apply mm_t)) (by simp (disch := omega) only [push_cast, simprocAttr, *]; exact rfl) (by (try simp (disch := omega) only [push_cast, simprocAttr, *]); (try exact rfl); done), (by show _ = _; (try simp (disch := omega) only [push_cast, simprocAttr, *]); (try exact rfl); done)⟩ (by (repeat (first | exact List.Sublist.refl _ | with_reducible apply List.Sublist.cons_cons | apply List.Sublist.cons))) (retR .tight .tight [] [] false) ⟨rfl, rfl⟩))
theorem any_drop' {α : Type} {p : α → Bool} {l : List α} {i : Nat} {x : α} (h : l[i]? = some x) : (l.drop i).any p = (p x || (l.drop (i + 1)).any p) := by
  obtain ⟨h1, rfl⟩ := List.getElem?_eq_some_iff.1 h
  rw [List.drop_eq_getElem_cons h1, List.any_cons]
theorem refGreat11F (o : Own) (l : List V) (hok : ∀ v ∈ l, v.Ok) (hl : l.length ≤ 9223372036854775807) (st : St) : TrF Tryz.prog 19 [.sl o (l.map V.cells)] st fun d st' => d = .b (decide (40 < l.length) || l.any V.great) ∧ st' = st := by
  have hml : (l.map V.cells).length = l.length := List.length_map ..
  have hcl : Hid (∀ (i : Nat) (v : V), l[i]? = some v → (l.map V.cells)[i]? = some v.cells) := fun i v h => by rw [List.getElem?_map, h]; rfl
  have hok2 := Lib.hid hok
  clear hok
  obtain ⟨B, hB⟩ : ∃ B, (decide (40 < l.length) || l.any V.great) = B := ⟨_, rfl⟩
  rw [hB]
  generalize l.map V.cells = LC at *
  by_cases h1 : 40 < l.length
  · have hBt : B = true := by rw [← hB]; simp [h1]
    subst hBt
    clear hB
    refine trF_enter (ts := [2]) Tryz.func19 rfl (by rw [Tryz.ntmps19]; exact Nat.le_of_ble_eq_true rfl) (fun tmps w => by simp [results, Tryz.results19, go_sem, resVal]) ?_
    simp only [Tryz.ntmps19]
    repeat' (first | with_reducible refine Go1.go ?_ | ((with_reducible apply ev_go); (focus ((try simp (disch := omega) only [push_cast, simprocAttr, *]); (try exact rfl); done))) | ((with_reducible refine w_last ?_ ?_ ?_); kernel_rfl; rfl) | with_reducible refine Go2.go ?_ | ((with_reducible first | apply w_stepG | refine s_bi ?_ ?_ | refine blk_ne ?_ ?_); rfl) | ((with_reducible refine al_go ?_); intro b) | ((with_reducible apply a2_go); (focus (first | assumption | (intro h; cases h))); (focus (intro o'; repeat (first | exact ra_h | apply ra_t))); (iterate 2 (focus (first | assumption | exact len_nil | exact len_one rfl | (intro a ha; obtain ⟨x, -, rfl⟩ := List.mem_map.1 ha; first | rfl | simp) | (intro a ha; simp at ha; simp [ha])))); (iterate 2 (focus (first | omega | (simp only [List.length_map, List.length_cons, List.length_nil, List.length_append]; omega)))); intro o' ho') | ((with_reducible first | refine w_region ?_ ?_ | refine w_dra ?_ ?_); kernel_rfl) | ((with_reducible refine Go3.go ?_ ?_); all_goals (intro hb; (try with_reducible intro hb1); (try (exfalso; first | contradiction | omega)))) | fail)
    all_goals (refine ret_eq (by simp) (by first | rfl | assumption) (by (repeat (first | exact List.Sublist.refl _ | apply List.Sublist.cons))) ?_; (try simp (disch := omega) only [push_cast, simprocAttr, *]); try (first | exact LE.refl _ | exact LE.sl _ _ | ((first | refine LE.tup ?_ | refine LE.agg ?_); (repeat' (first | exact LEL.nil | refine LEL.cons ?_ ?_ | exact LE.refl _ | exact LE.sl _ _ | refine LE.agg ?_)); done) | refine LE.of_eq ?_))
  have HB : Hid ((l.drop 0).any V.great = B) := Lib.hid (by rw [← hB]; simp [h1])
  clear hB
  refine trF_enter (ts := [2]) Tryz.func19 rfl (by rw [Tryz.ntmps19]; exact Nat.le_of_ble_eq_true rfl) (fun tmps w => by simp [results, Tryz.results19, go_sem, resVal]) ?_
  simp only [Tryz.ntmps19]
  repeat' (first | with_reducible refine Go1.go ?_ | ((with_reducible apply ev_go); (focus ((try simp (disch := omega) only [push_cast, simprocAttr, *]); (try exact rfl); done))) | ((with_reducible refine w_last ?_ ?_ ?_); kernel_rfl; rfl) | with_reducible refine Go2.go ?_ | ((with_reducible first | apply w_stepG | refine s_bi ?_ ?_ | refine blk_ne ?_ ?_); rfl) | ((with_reducible refine al_go ?_); intro b) | ((with_reducible apply a2_go); (focus (first | assumption | (intro h; cases h))); (focus (intro o'; repeat (first | exact ra_h | apply ra_t))); (iterate 2 (focus (first | assumption | exact len_nil | exact len_one rfl | (intro a ha; obtain ⟨x, -, rfl⟩ := List.mem_map.1 ha; first | rfl | simp) | (intro a ha; simp at ha; simp [ha])))); (iterate 2 (focus (first | omega | (simp only [List.length_map, List.length_cons, List.length_nil, List.length_append]; omega)))); intro o' ho') | ((with_reducible first | refine w_region ?_ ?_ | refine w_dra ?_ ?_); kernel_rfl) | ((with_reducible refine Go3.go ?_ ?_); all_goals (intro hb; (try with_reducible intro hb1); (try (exfalso; first | contradiction | omega)))) | fail)
  refine tr_loop (ι := Nat) (fun i A st' => i ≤ l.length ∧ Hid ((l.drop i).any V.great = B) ∧ A.df = [] ∧ A.e 0 = .sl o LC ∧ A.e 3 = .i i ∧ st = st') (fun i => l.length - i) 0 ⟨Nat.zero_le _, HB, ?_, ?_, ?_, rfl⟩ ?_
  iterate 3 (focus (first | rfl | assumption | omega | (simp (disch := omega) only [push_cast, simprocAttr, *]; try omega; done)))
  rintro i A st' ⟨hi, HT, hdf, e0, e3, rfl⟩
  clear HB
  by_cases hlt : i < l.length
  · obtain ⟨v, hv⟩ : ∃ v, l[i]? = some v := ⟨_, List.getElem?_eq_getElem hlt⟩
    have HE := HT.out
    rw [any_drop' hv] at HE
    have hc := hcl.out i v hv
    have hG := refGreatF v (hok2.out v (List.mem_of_getElem? hv))
    clear HT hv
    generalize V.great v = g at *
    cases v with
    | mk k n sv lv =>
    rw [V.cells_mk] at hc hG
    replace hG := Lib.hid hG
    cases g with
    | true =>
      simp only [Bool.true_or] at HE
      subst HE
      repeat' (first | with_reducible refine Go1.go ?_ | ((with_reducible apply ev_go); (focus ((try simp (disch := omega) only [push_cast, simprocAttr, *]); (try exact rfl); done))) | ((with_reducible refine w_last ?_ ?_ ?_); kernel_rfl; rfl) | with_reducible refine Go2.go ?_ | ((with_reducible first | apply w_stepG | refine s_bi ?_ ?_ | refine blk_ne ?_ ?_); rfl) | ((with_reducible refine al_go ?_); intro b) | ((with_reducible apply (ck_le Tryz.call30)); exact LEL.refl _; exact hG.out _) | ((with_reducible apply a2_go); (focus (first | assumption | (intro h; cases h))); (focus (intro o'; repeat (first | exact ra_h | apply ra_t))); (iterate 2 (focus (first | assumption | exact len_nil | exact len_one rfl | (intro a ha; obtain ⟨x, -, rfl⟩ := List.mem_map.1 ha; first | rfl | simp) | (intro a ha; simp at ha; simp [ha])))); (iterate 2 (focus (first | omega | (simp only [List.length_map, List.length_cons, List.length_nil, List.length_append]; omega)))); intro o' ho') | ((with_reducible first | refine w_region ?_ ?_ | refine w_dra ?_ ?_); kernel_rfl) | ((with_reducible refine Go3.go ?_ ?_); all_goals (intro hb; (try with_reducible intro hb1); (try (exfalso; first | contradiction | omega)))) | fail)
      all_goals (refine ret_eq (by simp) (by first | rfl | assumption) (by (repeat (first | exact List.Sublist.refl _ | apply List.Sublist.cons))) ?_; (try simp (disch := omega) only [push_cast, simprocAttr, *]); try (first | exact LE.refl _ | exact LE.sl _ _ | ((first | refine LE.tup ?_ | refine LE.agg ?_); (repeat' (first | exact LEL.nil | refine LEL.cons ?_ ?_ | exact LE.refl _ | exact LE.sl _ _ | refine LE.agg ?_)); done) | refine LE.of_eq ?_))
    | false =>
      rw [Bool.false_or] at HE
      replace HE := Lib.hid HE
      repeat' (first | with_reducible refine Go1.go ?_ | ((with_reducible apply ev_go); (focus ((try simp (disch := omega) only [push_cast, simprocAttr, *]); (try exact rfl); done))) | ((with_reducible refine w_last ?_ ?_ ?_); kernel_rfl; rfl) | with_reducible refine Go2.go ?_ | ((with_reducible first | apply w_stepG | refine s_bi ?_ ?_ | refine blk_ne ?_ ?_); rfl) | ((with_reducible refine al_go ?_); intro b) | ((with_reducible apply (ck_le Tryz.call30)); exact LEL.refl _; exact hG.out _) | ((with_reducible apply a2_go); (focus (first | assumption | (intro h; cases h))); (focus (intro o'; repeat (first | exact ra_h | apply ra_t))); (iterate 2 (focus (first | assumption | exact len_nil | exact len_one rfl | (intro a ha; obtain ⟨x, -, rfl⟩ := List.mem_map.1 ha; first | rfl | simp) | (intro a ha; simp at ha; simp [ha])))); (iterate 2 (focus (first | omega | (simp only [List.length_map, List.length_cons, List.length_nil, List.length_append]; omega)))); intro o' ho') | ((with_reducible first | refine w_region ?_ ?_ | refine w_dra ?_ ?_); kernel_rfl) | ((with_reducible refine Go3.go ?_ ?_); all_goals (intro hb; (try with_reducible intro hb1); (try (exfalso; first | contradiction | omega)))) | fail)
      refine ⟨i + 1, ⟨hlt, HE, ?_, ?_, ?_, rfl⟩, ?_⟩
      all_goals (first | rfl | assumption | omega | (simp (disch := omega) only [push_cast, simprocAttr, *]; try omega; done))
  · have HE := HT.out
    rw [List.drop_of_length_le (by omega), List.any_nil] at HE
    subst HE
    clear HT
    repeat' (first | with_reducible refine Go1.go ?_ | ((with_reducible apply ev_go); (focus ((try simp (disch := omega) only [push_cast, simprocAttr, *]); (try exact rfl); done))) | ((with_reducible refine w_last ?_ ?_ ?_); kernel_rfl; rfl) | with_reducible refine Go2.go ?_ | ((with_reducible first | apply w_stepG | refine s_bi ?_ ?_ | refine blk_ne ?_ ?_); rfl) | ((with_reducible refine al_go ?_); intro b) | ((with_reducible apply a2_go); (focus (first | assumption | (intro h; cases h))); (focus (intro o'; repeat (first | exact ra_h | apply ra_t))); (iterate 2 (focus (first | assumption | exact len_nil | exact len_one rfl | (intro a ha; obtain ⟨x, -, rfl⟩ := List.mem_map.1 ha; first | rfl | simp) | (intro a ha; simp at ha; simp [ha])))); (iterate 2 (focus (first | omega | (simp only [List.length_map, List.length_cons, List.length_nil, List.length_append]; omega)))); intro o' ho') | ((with_reducible first | refine w_region ?_ ?_ | refine w_dra ?_ ?_); kernel_rfl) | ((with_reducible refine Go3.go ?_ ?_); all_goals (intro hb; (try with_reducible intro hb1); (try (exfalso; first | contradiction | omega)))) | fail)
    all_goals (refine ret_eq (by simp) (by first | rfl | assumption) (by (repeat (first | exact List.Sublist.refl _ | apply List.Sublist.cons))) ?_; (try simp (disch := omega) only [push_cast, simprocAttr, *]); try (first | exact LE.refl _ | exact LE.sl _ _ | ((first | refine LE.tup ?_ | refine LE.agg ?_); (repeat' (first | exact LEL.nil | refine LEL.cons ?_ ?_ | exact LE.refl _ | exact LE.sl _ _ | refine LE.agg ?_)); done) | refine LE.of_eq ?_))
theorem refAllF (o o' : Own) (a b : List V) (ha : ∀ v ∈ a, v.Ok) (hl : a.length ≤ 9223372036854775806) (st : St) : TrF Tryz.prog 28 [.sl o (a.map V.cells), .sl o' (b.map V.cells)] st fun d st' => d = .b (V.cmpL a b == 0) ∧ st' = st := by
  have hma : (a.map V.cells).length = a.length := List.length_map ..
  have hmb : (b.map V.cells).length = b.length := List.length_map ..
  have hca : Hid (∀ (i : Nat) (v : V), a[i]? = some v → (a.map V.cells)[i]? = some v.cells) := fun i v h => by rw [List.getElem?_map, h]; rfl
  have hcb : Hid (∀ (i : Nat) (v : V), b[i]? = some v → (b.map V.cells)[i]? = some v.cells) := fun i v h => by rw [List.getElem?_map, h]; rfl
  have ha2 := Lib.hid ha
  have hne : Hid (a ≠ b → (V.cmpL a b == 0) = false) := fun h => by rw [beq_eq_false_iff_ne]; exact fun h2 => h (V.cmpL_eq a b h2)
  have heq : Hid (a = b → (V.cmpL a b == 0) = true) := fun h => by rw [h, V.cmpL_self]; rfl
  clear ha
  generalize (V.cmpL a b == 0) = B at *
  generalize a.map V.cells = AC at *
  generalize b.map V.cells = BC at *
  by_cases hlen : a.length = b.length
  · have hlen2 : b.length = a.length := hlen.symm
    replace hlen := Lib.hid hlen
    refine trF_enter (ts := [4]) Tryz.func28 rfl (by rw [Tryz.ntmps28]; exact Nat.le_of_ble_eq_true rfl) (fun tmps w => by simp [results, Tryz.results28, go_sem, resVal]) ?_
    simp only [Tryz.ntmps28]
    repeat' (first | with_reducible refine Go1.go ?_ | ((with_reducible apply ev_go); (focus ((try simp (disch := omega) only [push_cast, simprocAttr, *]); (try exact rfl); done))) | ((with_reducible refine w_last ?_ ?_ ?_); kernel_rfl; rfl) | with_reducible refine Go2.go ?_ | ((with_reducible first | apply w_stepG | refine s_bi ?_ ?_ | refine blk_ne ?_ ?_); rfl) | ((with_reducible refine al_go ?_); intro b) | ((with_reducible apply a2_go); (focus (first | assumption | (intro h; cases h))); (focus (intro o'; repeat (first | exact ra_h | apply ra_t))); (iterate 2 (focus (first | assumption | exact len_nil | exact len_one rfl | (intro a ha; obtain ⟨x, -, rfl⟩ := List.mem_map.1 ha; first | rfl | simp) | (intro a ha; simp at ha; simp [ha])))); (iterate 2 (focus (first | omega | (simp only [List.length_map, List.length_cons, List.length_nil, List.length_append]; omega)))); intro o' ho') | ((with_reducible first | refine w_region ?_ ?_ | refine w_dra ?_ ?_); kernel_rfl) | ((with_reducible refine Go3.go ?_ ?_); all_goals (intro hb; (try with_reducible intro hb1); (try (exfalso; first | contradiction | omega)))) | fail)
    refine tr_loop (ι := Nat) (fun i A st' => i ≤ a.length ∧ Hid (a.take i = b.take i) ∧ A.df = [] ∧ A.e 0 = .sl o AC ∧ A.e 1 = .sl o' BC ∧ A.e 5 = .i i ∧ st = st') (fun i => a.length - i) 0 ⟨Nat.zero_le _, rfl, ?_, ?_, ?_, ?_, rfl⟩ ?_
    iterate 4 (focus (first | rfl | assumption | omega | (simp (disch := omega) only [push_cast, simprocAttr, *]; try omega; done)))
    rintro i A st' ⟨hi, HT, hdf, e0, e1, e5, rfl⟩
    by_cases hlt : i < a.length
    · obtain ⟨x, hx⟩ : ∃ v, a[i]? = some v := ⟨_, List.getElem?_eq_getElem hlt⟩
      obtain ⟨y, hy⟩ : ∃ v, b[i]? = some v := ⟨_, List.getElem?_eq_getElem (by omega)⟩
      have hcx := hca.out i x hx
      have hcy := hcb.out i y hy
      have hS := refSameF x y (ha2.out x (List.mem_of_getElem? hx))
      have hyes : Hid (x = y → a.take (i + 1) = b.take (i + 1)) := fun e => by
        rw [List.take_add_one, List.take_add_one, HT.out, hx, hy, e]
      have hno : Hid (x ≠ y → a ≠ b) := fun e h => e (by
        rw [h, hy] at hx
        exact (Option.some.inj hx).symm)
      cases hq : (x.cmp y == 0) with
      | true =>
        have hxy := hyes.out (V.cmp_eq x y (by simpa using hq))
        rw [hq] at hS
        clear hyes hno hx hy hq HT
        cases x with
        | mk k n sv lv =>
        cases y with
        | mk k' n' sv' lv' =>
        rw [V.cells_mk] at hcx hcy
        rw [V.cells_mk, V.cells_mk] at hS
        replace hS := Lib.hid hS
        replace hxy := Lib.hid hxy
        repeat' (first | with_reducible refine Go1.go ?_ | ((with_reducible apply ev_go); (focus ((try simp (disch := omega) only [push_cast, simprocAttr, *]); (try exact rfl); done))) | ((with_reducible refine w_drawRN ?_ ?_ ?_ ?_); (iterate 3 (focus kernel_rfl)); intro hne; simp only [nes, ne1, and_assoc] at hne; repeat (have hq := hne.1; replace hne := hne.2)) | ((with_reducible refine w_last ?_ ?_ ?_); kernel_rfl; rfl) | with_reducible refine Go2.go ?_ | ((with_reducible first | apply w_stepG | refine s_bi ?_ ?_ | refine blk_ne ?_ ?_); rfl) | ((with_reducible refine al_go ?_); intro b) | ((with_reducible apply (ck_le Tryz.call42)); exact LEL.refl _; exact hS.out _) | ((with_reducible apply a2_go); (focus (first | assumption | (intro h; cases h))); (focus (intro o'; repeat (first | exact ra_h | apply ra_t))); (iterate 2 (focus (first | assumption | exact len_nil | exact len_one rfl | (intro a ha; obtain ⟨x, -, rfl⟩ := List.mem_map.1 ha; first | rfl | simp) | (intro a ha; simp at ha; simp [ha])))); (iterate 2 (focus (first | omega | (simp only [List.length_map, List.length_cons, List.length_nil, List.length_append]; omega)))); intro o' ho') | ((with_reducible first | refine w_region ?_ ?_ | refine w_dra ?_ ?_); kernel_rfl) | ((with_reducible refine Go3.go ?_ ?_); all_goals (intro hb; (try with_reducible intro hb1); (try (exfalso; first | contradiction | omega)))) | fail)
        refine ⟨i + 1, ⟨hlt, hxy, ?_, ?_, ?_, ?_, rfl⟩, ?_⟩
        all_goals (first | rfl | assumption | omega | (simp (disch := omega) only [push_cast, simprocAttr, *]; try omega; done))
      | false =>
        have hB := hne.out (hno.out fun e => by rw [e, V.cmp_self] at hq; exact absurd hq (by decide))
        rw [hq] at hS
        clear hyes hno hx hy hq HT
        subst hB
        cases x with
        | mk k n sv lv =>
        cases y with
        | mk k' n' sv' lv' =>
        rw [V.cells_mk] at hcx hcy
        rw [V.cells_mk, V.cells_mk] at hS
        replace hS := Lib.hid hS
        repeat' (first | with_reducible refine Go1.go ?_ | ((with_reducible apply ev_go); (focus ((try simp (disch := omega) only [push_cast, simprocAttr, *]); (try exact rfl); done))) | ((with_reducible refine w_drawRN ?_ ?_ ?_ ?_); (iterate 3 (focus kernel_rfl)); intro hne; simp only [nes, ne1, and_assoc] at hne; repeat (have hq := hne.1; replace hne := hne.2)) | ((with_reducible refine w_last ?_ ?_ ?_); kernel_rfl; rfl) | with_reducible refine Go2.go ?_ | ((with_reducible first | apply w_stepG | refine s_bi ?_ ?_ | refine blk_ne ?_ ?_); rfl) | ((with_reducible refine al_go ?_); intro b) | ((with_reducible apply (ck_le Tryz.call42)); exact LEL.refl _; exact hS.out _) | ((with_reducible apply a2_go); (focus (first | assumption | (intro h; cases h))); (focus (intro o'; repeat (first | exact ra_h | apply ra_t))); (iterate 2 (focus (first | assumption | exact len_nil | exact len_one rfl | (intro a ha; obtain ⟨x, -, rfl⟩ := List.mem_map.1 ha; first | rfl | simp) | (intro a ha; simp at ha; simp [ha])))); (iterate 2 (focus (first | omega | (simp only [List.length_map, List.length_cons, List.length_nil, List.length_append]; omega)))); intro o' ho') | ((with_reducible first | refine w_region ?_ ?_ | refine w_dra ?_ ?_); kernel_rfl) | ((with_reducible refine Go3.go ?_ ?_); all_goals (intro hb; (try with_reducible intro hb1); (try (exfalso; first | contradiction | omega)))) | fail)
        all_goals (refine ret_eq (by simp) (by first | rfl | assumption) (by (repeat (first | exact List.Sublist.refl _ | apply List.Sublist.cons))) ?_; (try simp (disch := omega) only [push_cast, simprocAttr, *]); try (first | exact LE.refl _ | exact LE.sl _ _ | ((first | refine LE.tup ?_ | refine LE.agg ?_); (repeat' (first | exact LEL.nil | refine LEL.cons ?_ ?_ | exact LE.refl _ | exact LE.sl _ _ | refine LE.agg ?_)); done) | refine LE.of_eq ?_))
    · have h1 := HT.out
      rw [List.take_of_length_le (by omega), List.take_of_length_le (by omega)] at h1
      have hB := heq.out h1
      subst hB
      clear heq hne HT hca hcb h1
      repeat' (first | with_reducible refine Go1.go ?_ | ((with_reducible apply ev_go); (focus ((try simp (disch := omega) only [push_cast, simprocAttr, *]); (try exact rfl); done))) | ((with_reducible refine w_last ?_ ?_ ?_); kernel_rfl; rfl) | with_reducible refine Go2.go ?_ | ((with_reducible first | apply w_stepG | refine s_bi ?_ ?_ | refine blk_ne ?_ ?_); rfl) | ((with_reducible refine al_go ?_); intro b) | ((with_reducible apply a2_go); (focus (first | assumption | (intro h; cases h))); (focus (intro o'; repeat (first | exact ra_h | apply ra_t))); (iterate 2 (focus (first | assumption | exact len_nil | exact len_one rfl | (intro a ha; obtain ⟨x, -, rfl⟩ := List.mem_map.1 ha; first | rfl | simp) | (intro a ha; simp at ha; simp [ha])))); (iterate 2 (focus (first | omega | (simp only [List.length_map, List.length_cons, List.length_nil, List.length_append]; omega)))); intro o' ho') | ((with_reducible first | refine w_region ?_ ?_ | refine w_dra ?_ ?_); kernel_rfl) | ((with_reducible refine Go3.go ?_ ?_); all_goals (intro hb; (try with_reducible intro hb1); (try (exfalso; first | contradiction | omega)))) | fail)
      all_goals (refine ret_eq (by simp) (by first | rfl | assumption) (by (repeat (first | exact List.Sublist.refl _ | apply List.Sublist.cons))) ?_; (try simp (disch := omega) only [push_cast, simprocAttr, *]); try (first | exact LE.refl _ | exact LE.sl _ _ | ((first | refine LE.tup ?_ | refine LE.agg ?_); (repeat' (first | exact LEL.nil | refine LEL.cons ?_ ?_ | exact LE.refl _ | exact LE.sl _ _ | refine LE.agg ?_)); done) | refine LE.of_eq ?_))
  · have hB := hne.out fun e => hlen (by rw [e])
    subst hB
    have hl2 : ¬ (a.length : Int) = (b.length : Int) := by omega
    clear hne heq hlen
    refine trF_enter (ts := [4]) Tryz.func28 rfl (by rw [Tryz.ntmps28]; exact Nat.le_of_ble_eq_true rfl) (fun tmps w => by simp [results, Tryz.results28, go_sem, resVal]) ?_
    simp only [Tryz.ntmps28]
    repeat' (first | with_reducible refine Go1.go ?_ | ((with_reducible apply ev_go); (focus ((try simp (disch := omega) only [push_cast, simprocAttr, *]); (try exact rfl); done))) | ((with_reducible refine w_last ?_ ?_ ?_); kernel_rfl; rfl) | with_reducible refine Go2.go ?_ | ((with_reducible first | apply w_stepG | refine s_bi ?_ ?_ | refine blk_ne ?_ ?_); rfl) | ((with_reducible refine al_go ?_); intro b) | ((with_reducible apply a2_go); (focus (first | assumption | (intro h; cases h))); (focus (intro o'; repeat (first | exact ra_h | apply ra_t))); (iterate 2 (focus (first | assumption | exact len_nil | exact len_one rfl | (intro a ha; obtain ⟨x, -, rfl⟩ := List.mem_map.1 ha; first | rfl | simp) | (intro a ha; simp at ha; simp [ha])))); (iterate 2 (focus (first | omega | (simp only [List.length_map, List.length_cons, List.length_nil, List.length_append]; omega)))); intro o' ho') | ((with_reducible first | refine w_region ?_ ?_ | refine w_dra ?_ ?_); kernel_rfl) | ((with_reducible refine Go3.go ?_ ?_); all_goals (intro hb; (try with_reducible intro hb1); (try (exfalso; first | contradiction | omega)))) | fail)
    all_goals (refine ret_eq (by simp) (by first | rfl | assumption) (by (repeat (first | exact List.Sublist.refl _ | apply List.Sublist.cons))) ?_; (try simp (disch := omega) only [push_cast, simprocAttr, *]); try (first | exact LE.refl _ | exact LE.sl _ _ | ((first | refine LE.tup ?_ | refine LE.agg ?_); (repeat' (first | exact LEL.nil | refine LEL.cons ?_ ?_ | exact LE.refl _ | exact LE.sl _ _ | refine LE.agg ?_)); done) | refine LE.of_eq ?_))
end Go.Proofs.YtooaagmhgakhgaaGreat
end

section
namespace Go.Proofs.YtooaagmhgakhgaaGreat
set_option linter.unusedSimpArgs false
attribute [local push_cast] encB encI encC V.cells_mk V.cells_len Nat.mul_one Int.sub_zero List.map_nil beq_self_eq_true List.head?_cons
open Go.RowKit
set_option maxRecDepth 10000
set_option maxHeartbeats 4000000
namespace Sch
def fitsL : List Sl → List V → Bool
  | [], [] => true
  | s :: a, v :: b => fits s v && fitsL a b
  | _, _ => false
theorem fitsL_len : ∀ (a : List Sl) (b : List V), fitsL a b = true → a.length = b.length
  | [], [], _ => rfl
  | s :: a, v :: b, h => by
    rw [fitsL, Bool.and_eq_true] at h
    rw [List.length_cons, List.length_cons, fitsL_len a b h.2]
  | [], _ :: _, h => by cases h
  | _ :: _, [], h => by cases h
theorem fitsL_drop {a : List Sl} {b : List V} {i : Nat} {s : Sl} {v : V} (h1 : a[i]? = some s) (h2 : b[i]? = some v) : fitsL (a.drop i) (b.drop i) = (fits s v && fitsL (a.drop (i + 1)) (b.drop (i + 1))) := by
  rw [V.drop_cons h1, V.drop_cons h2, fitsL]
def valid (t : Tm) (r : Rc) : Bool := verB t r.v && fitsL (verX t r.v).slots r.s
end Sch
theorem vers_types {t : Tm} : ∀ x ∈ Sch.vers t, ∀ z ∈ x.slots, Sch.SOk z := by
  intro x hx
  unfold Sch.vers at hx
  split at hx
  · cases hx
  · rename_i y hy
    have key : ∀ (l : List Stp) (y : Vr) (n : Nat), Sch.VZ n y → ∀ x ∈ Sch.versL y l, ∀ z ∈ x.slots, Sch.SOk z := by
      intro l
      induction l with
      | nil => intro y n _ x hx; cases hx
      | cons s l ih =>
        intro y n hy x hx
        rw [Sch.versL] at hx
        cases hs : Sch.stepV y s with
        | none => rw [hs] at hx; cases hx
        | some w =>
          rw [hs] at hx
          have hw := Sch.step_vz hy hs
          rcases List.mem_cons.1 hx with rfl | hx
          · exact hw.sl
          · exact ih w _ hw x hx
    have hz := Sch.first_vz hy
    rcases List.mem_cons.1 hx with rfl | hx
    · exact hz.sl
    · exact key _ _ _ hz x hx
theorem ver_mem {t : Tm} {v : Int} {x : Vr} (h : Sch.ver t v = some x) : x ∈ Sch.vers t := by
  unfold Sch.ver at h
  split at h
  · exact List.mem_of_getElem? h
  · cases h
theorem verX_slots {t : Tm} {v : Int} {p : Sl → Prop} (h : ∀ x ∈ Sch.vers t, ∀ z ∈ x.slots, p z) : ∀ z ∈ (Sch.verX t v).slots, p z := by
  intro z hz
  unfold Sch.verX at hz
  cases hv : Sch.ver t v with
  | none => rw [hv] at hz; cases hz
  | some x => rw [hv] at hz; exact h x (ver_mem hv) z hz
theorem verX_len (t : Tm) (v : Int) : (Sch.verX t v).slots.length ≤ 16 := by
  unfold Sch.verX
  cases hv : Sch.ver t v with
  | none => exact Nat.zero_le _
  | some x => exact (Sch.vers_vi (ver_mem hv)).ls
theorem recValidF (t : Tm) (ht : TOk t) (r : Rc) (hr : ∀ v ∈ r.s, v.nodes ≤ 1000) (hl : r.s.length ≤ 9223372036854775806) (st : St) : TrF Tryz.prog 31 [.agg t.cells, .agg r.cells] st fun d st' => d = .b (Sch.valid t r) ∧ st' = st := by
  have hA := schAtF t ht r.v
  have hxl := verX_len t r.v
  unfold Sch.valid
  generalize Sch.verX t r.v = x at *
  generalize Sch.verB t r.v = ok at *
  obtain ⟨B, hB⟩ : ∃ B, Sch.fitsL x.slots r.s = B := ⟨_, rfl⟩
  rw [hB]
  unfold Tm.cells Rc.cells at *
  unfold Vr.cells at hA
  generalize t.slots.map Sl.cells = SL at *
  generalize t.steps.map Stp.cells = TL at *
  generalize t.name = nm at *
  cases r with
  | mk rv rs =>
  dsimp only at hA hr hl hB ⊢
  have hm1 : (x.slots.map Sl.cells).length = x.slots.length := List.length_map ..
  have hm2 : (rs.map V.cells).length = rs.length := List.length_map ..
  have hc1 : Hid (∀ (i : Nat) (s : Sl), x.slots[i]? = some s → (x.slots.map Sl.cells)[i]? = some s.cells) := fun i s h => by rw [List.getElem?_map, h]; rfl
  have hc2 : Hid (∀ (i : Nat) (v : V), rs[i]? = some v → (rs.map V.cells)[i]? = some v.cells) := fun i v h => by rw [List.getElem?_map, h]; rfl
  have hr2 := Lib.hid hr
  clear hr
  generalize x.slots.map Sl.cells = XS at *
  generalize x.cols.map encC = XC at *
  generalize rs.map V.cells = RS at *
  generalize x.slots = sl at *
  replace hA := Lib.hid hA
  cases ok with
  | false =>
    clear hB
    refine trF_enter (ts := [4]) Tryz.func31 rfl (by rw [Tryz.ntmps31]; exact Nat.le_of_ble_eq_true rfl) (fun tmps w => by simp [results, Tryz.results31, go_sem, resVal]) ?_
    simp only [Tryz.ntmps31]
    repeat' (first | with_reducible refine Go1.go ?_ | ((with_reducible apply ev_go); (focus ((try simp (disch := omega) only [push_cast, simprocAttr, *]); (try exact rfl); done))) | ((with_reducible refine w_last ?_ ?_ ?_); kernel_rfl; rfl) | with_reducible refine Go2.go ?_ | ((with_reducible first | apply w_stepG | refine s_bi ?_ ?_ | refine blk_ne ?_ ?_); rfl) | ((with_reducible refine al_go ?_); intro b) | ((with_reducible apply (ck_le Tryz.call43)); exact LEL.refl _; exact hA.out _) | ((with_reducible first | refine w_region ?_ ?_ | refine w_dra ?_ ?_); kernel_rfl) | ((with_reducible refine Go3.go ?_ ?_); all_goals (intro hb; (try with_reducible intro hb1); (try (exfalso; first | contradiction | omega)))) | fail)
    all_goals (refine ret_eq (by simp) (by first | rfl | assumption) (by (repeat (first | exact List.Sublist.refl _ | apply List.Sublist.cons))) ?_; (try simp (disch := omega) only [push_cast, simprocAttr, *]); try (first | exact LE.refl _ | exact LE.sl _ _ | ((first | refine LE.tup ?_ | refine LE.agg ?_); (repeat' (first | exact LEL.nil | refine LEL.cons ?_ ?_ | exact LE.refl _ | exact LE.sl _ _ | refine LE.agg ?_)); done) | refine LE.of_eq ?_))
  | true =>
    by_cases hlen : rs.length = sl.length
    · have HB : Hid (Sch.fitsL (sl.drop 0) (rs.drop 0) = B) := hB
      clear hB
      refine trF_enter (ts := [4]) Tryz.func31 rfl (by rw [Tryz.ntmps31]; exact Nat.le_of_ble_eq_true rfl) (fun tmps w => by simp [results, Tryz.results31, go_sem, resVal]) ?_
      simp only [Tryz.ntmps31]
      repeat' (first | with_reducible refine Go1.go ?_ | ((with_reducible apply ev_go); (focus ((try simp (disch := omega) only [push_cast, simprocAttr, *]); (try exact rfl); done))) | ((with_reducible refine w_last ?_ ?_ ?_); kernel_rfl; rfl) | with_reducible refine Go2.go ?_ | ((with_reducible first | apply w_stepG | refine s_bi ?_ ?_ | refine blk_ne ?_ ?_); rfl) | ((with_reducible refine al_go ?_); intro b) | ((with_reducible apply (ck_le Tryz.call43)); exact LEL.refl _; exact hA.out _) | ((with_reducible first | refine w_region ?_ ?_ | refine w_dra ?_ ?_); kernel_rfl) | ((with_reducible refine Go3.go ?_ ?_); all_goals (intro hb; (try with_reducible intro hb1); (try (exfalso; first | contradiction | omega)))) | fail)
      refine tr_drop (st' := st) (List.sublist_cons_self _ _) ?_
      refine tr_loopd (ι := Nat) (fun i A st' => i ≤ sl.length ∧ Hid (Sch.fitsL (sl.drop i) (rs.drop i) = B) ∧ A.df = [] ∧ A.e 3 = .ip [.i rv, .sl .shared RS] ∧ A.e 28 = .sl .shared XS ∧ A.e 29 = .i sl.length ∧ A.e 30 = .i i ∧ st = st') (fun i => sl.length - i) 0 ⟨Nat.zero_le _, HB, ?_, ?_, ?_, ?_, ?_, rfl⟩ ?_
      iterate 5 (focus (first | rfl | assumption | omega | (simp (disch := omega) only [push_cast, simprocAttr, *]; try omega; done)))
      rintro i A st' ⟨hi, HT, hdf, e3, e28, e29, e30, rfl⟩
      clear HB
      by_cases hlt : i < sl.length
      · obtain ⟨s, hs⟩ : ∃ s, sl[i]? = some s := ⟨_, List.getElem?_eq_getElem hlt⟩
        obtain ⟨v, hv⟩ : ∃ v, rs[i]? = some v := ⟨_, List.getElem?_eq_getElem (by omega)⟩
        have HE := HT.out
        rw [Sch.fitsL_drop hs hv] at HE
        have h1 := hc1.out i s hs
        have h2 := hc2.out i v hv
        have hvn := hr2.out v (List.mem_of_getElem? hv)
        clear HT hs hv
        cases s with
        | mk snm ty rq dv =>
        have hF := schFitsF snm ty rq dv v (by omega)
        generalize Sch.fits _ v = q at *
        cases dv with
        | mk k n sv lv =>
        cases v with
        | mk k' n' sv' lv' =>
        rw [Sl.cells_mk] at h1 hF
        rw [V.cells_mk] at h2 hF
        replace hF := Lib.hid hF
        clear hvn
        cases q with
        | true =>
          rw [Bool.true_and] at HE
          replace HE := Lib.hid HE
          repeat' (first | with_reducible refine Go1.go ?_ | ((with_reducible apply ev_go); (focus ((try simp (disch := omega) only [push_cast, simprocAttr, *]); (try exact rfl); done))) | ((with_reducible refine w_drawRN ?_ ?_ ?_ ?_); (iterate 3 (focus kernel_rfl)); intro hne; simp only [nes, ne1, and_assoc] at hne; repeat (have hq := hne.1; replace hne := hne.2)) | ((with_reducible refine w_last ?_ ?_ ?_); kernel_rfl; rfl) | with_reducible refine Go2.go ?_ | ((with_reducible first | apply w_stepG | refine s_bi ?_ ?_ | refine blk_ne ?_ ?_); rfl) | ((with_reducible refine al_go ?_); intro b) | ((with_reducible apply (ck_le Tryz.call44)); exact LEL.refl _; exact hF.out _) | ((with_reducible first | refine w_region ?_ ?_ | refine w_dra ?_ ?_); kernel_rfl) | ((with_reducible refine Go3.go ?_ ?_); all_goals (intro hb; (try with_reducible intro hb1); (try (exfalso; first | contradiction | omega)))) | fail)
          refine ⟨i + 1, st, (by (repeat (first | exact List.Sublist.refl _ | apply List.Sublist.cons))), ⟨hlt, HE, ?_, ?_, ?_, ?_, ?_, rfl⟩, by omega⟩
          all_goals (first | rfl | assumption | omega | (simp (disch := omega) only [push_cast, simprocAttr, *]; try omega; done))
        | false =>
          rw [Bool.false_and] at HE
          subst HE
          repeat' (first | with_reducible refine Go1.go ?_ | ((with_reducible apply ev_go); (focus ((try simp (disch := omega) only [push_cast, simprocAttr, *]); (try exact rfl); done))) | ((with_reducible refine w_drawRN ?_ ?_ ?_ ?_); (iterate 3 (focus kernel_rfl)); intro hne; simp only [nes, ne1, and_assoc] at hne; repeat (have hq := hne.1; replace hne := hne.2)) | ((with_reducible refine w_last ?_ ?_ ?_); kernel_rfl; rfl) | with_reducible refine Go2.go ?_ | ((with_reducible first | apply w_stepG | refine s_bi ?_ ?_ | refine blk_ne ?_ ?_); rfl) | ((with_reducible refine al_go ?_); intro b) | ((with_reducible apply (ck_le Tryz.call44)); exact LEL.refl _; exact hF.out _) | ((with_reducible first | refine w_region ?_ ?_ | refine w_dra ?_ ?_); kernel_rfl) | ((with_reducible refine Go3.go ?_ ?_); all_goals (intro hb; (try with_reducible intro hb1); (try (exfalso; first | contradiction | omega)))) | fail)
          all_goals (refine ret_eq (by simp) (by first | rfl | assumption) (by (repeat (first | exact List.Sublist.refl _ | apply List.Sublist.cons))) ?_; (try simp (disch := omega) only [push_cast, simprocAttr, *]); try (first | exact LE.refl _ | exact LE.sl _ _ | ((first | refine LE.tup ?_ | refine LE.agg ?_); (repeat' (first | exact LEL.nil | refine LEL.cons ?_ ?_ | exact LE.refl _ | exact LE.sl _ _ | refine LE.agg ?_)); done) | refine LE.of_eq ?_))
      · have HE := HT.out
        rw [List.drop_of_length_le (by omega), List.drop_of_length_le (by omega), Sch.fitsL] at HE
        subst HE
        clear HT
        repeat' (first | with_reducible refine Go1.go ?_ | ((with_reducible apply ev_go); (focus ((try simp (disch := omega) only [push_cast, simprocAttr, *]); (try exact rfl); done))) | ((with_reducible refine w_last ?_ ?_ ?_); kernel_rfl; rfl) | with_reducible refine Go2.go ?_ | ((with_reducible first | apply w_stepG | refine s_bi ?_ ?_ | refine blk_ne ?_ ?_); rfl) | ((with_reducible refine al_go ?_); intro b) | ((with_reducible first | refine w_region ?_ ?_ | refine w_dra ?_ ?_); kernel_rfl) | ((with_reducible refine Go3.go ?_ ?_); all_goals (intro hb; (try with_reducible intro hb1); (try (exfalso; first | contradiction | omega)))) | fail)
        all_goals (refine ret_eq (by simp) (by first | rfl | assumption) (by (repeat (first | exact List.Sublist.refl _ | apply List.Sublist.cons))) ?_; (try simp (disch := omega) only [push_cast, simprocAttr, *]); try (first | exact LE.refl _ | exact LE.sl _ _ | ((first | refine LE.tup ?_ | refine LE.agg ?_); (repeat' (first | exact LEL.nil | refine LEL.cons ?_ ?_ | exact LE.refl _ | exact LE.sl _ _ | refine LE.agg ?_)); done) | refine LE.of_eq ?_))
    · have hBf : B = false := by
        cases B with
        | false => rfl
        | true => exact absurd (Sch.fitsL_len _ _ hB).symm hlen
      subst hBf
      clear hB
      have hl2 : ¬ (rs.length : Int) = (sl.length : Int) := by omega
      clear hlen
      refine trF_enter (ts := [4]) Tryz.func31 rfl (by rw [Tryz.ntmps31]; exact Nat.le_of_ble_eq_true rfl) (fun tmps w => by simp [results, Tryz.results31, go_sem, resVal]) ?_
      simp only [Tryz.ntmps31]
      repeat' (first | with_reducible refine Go1.go ?_ | ((with_reducible apply ev_go); (focus ((try simp (disch := omega) only [push_cast, simprocAttr, *]); (try exact rfl); done))) | ((with_reducible refine w_last ?_ ?_ ?_); kernel_rfl; rfl) | with_reducible refine Go2.go ?_ | ((with_reducible first | apply w_stepG | refine s_bi ?_ ?_ | refine blk_ne ?_ ?_); rfl) | ((with_reducible refine al_go ?_); intro b) | ((with_reducible apply (ck_le Tryz.call43)); exact LEL.refl _; exact hA.out _) | ((with_reducible first | refine w_region ?_ ?_ | refine w_dra ?_ ?_); kernel_rfl) | ((with_reducible refine Go3.go ?_ ?_); all_goals (intro hb; (try with_reducible intro hb1); (try (exfalso; first | contradiction | omega)))) | fail)
      all_goals (refine ret_eq (by simp) (by first | rfl | assumption) (by (repeat (first | exact List.Sublist.refl _ | apply List.Sublist.cons))) ?_; (try simp (disch := omega) only [push_cast, simprocAttr, *]); try (first | exact LE.refl _ | exact LE.sl _ _ | ((first | refine LE.tup ?_ | refine LE.agg ?_); (repeat' (first | exact LEL.nil | refine LEL.cons ?_ ?_ | exact LE.refl _ | exact LE.sl _ _ | refine LE.agg ?_)); done) | refine LE.of_eq ?_))
theorem refValid11F (t : Tm) (ht : TQ t) (r : Rc) (hr : ∀ v ∈ r.s, VQ v) (hl : r.s.length ≤ 9223372036854775806) (st : St) : TrF Tryz.prog 22 [.agg t.cells, .agg r.cells] st fun d st' => d = .b (Sch.valid t r) ∧ st' = st := by
  have hA := refAtF t ht r.v
  have hxl := verX_len t r.v
  have hxt : ∀ z ∈ (Sch.verX t r.v).slots, 0 ≤ z.types ∧ z.types ≤ 9223372036854775807 := fun z hz => by
    have := Sch.takes_iff.1 (verX_slots (p := Sch.SOk) vers_types z hz).types
    omega
  unfold Sch.valid
  generalize Sch.verX t r.v = x at *
  generalize Sch.verB t r.v = ok at *
  obtain ⟨B, hB⟩ : ∃ B, Sch.fitsL x.slots r.s = B := ⟨_, rfl⟩
  rw [hB]
  unfold Tm.cells Rc.cells at *
  unfold Vr.cells at hA
  generalize t.slots.map Sl.cells = SL at *
  generalize t.steps.map Stp.cells = TL at *
  generalize t.name = nm at *
  cases r with
  | mk rv rs =>
  dsimp only at hA hr hl hB ⊢
  have hm1 : (x.slots.map Sl.cells).length = x.slots.length := List.length_map ..
  have hm2 : (rs.map V.cells).length = rs.length := List.length_map ..
  have hc1 : Hid (∀ (i : Nat) (s : Sl), x.slots[i]? = some s → (x.slots.map Sl.cells)[i]? = some s.cells) := fun i s h => by rw [List.getElem?_map, h]; rfl
  have hc2 : Hid (∀ (i : Nat) (v : V), rs[i]? = some v → (rs.map V.cells)[i]? = some v.cells) := fun i v h => by rw [List.getElem?_map, h]; rfl
  have hr2 := Lib.hid hr
  have hxt2 := Lib.hid hxt
  clear hr hxt
  generalize x.slots.map Sl.cells = XS at *
  generalize x.cols.map encC = XC at *
  generalize rs.map V.cells = RS at *
  generalize x.slots = sl at *
  replace hA := Lib.hid hA
  cases ok with
  | false =>
    clear hB
    refine trF_enter (ts := [4]) Tryz.func22 rfl (by rw [Tryz.ntmps22]; exact Nat.le_of_ble_eq_true rfl) (fun tmps w => by simp [results, Tryz.results22, go_sem, resVal]) ?_
    simp only [Tryz.ntmps22]
    repeat' (first | with_reducible refine Go1.go ?_ | ((with_reducible apply ev_go); (focus ((try simp (disch := omega) only [push_cast, simprocAttr, *]); (try exact rfl); done))) | ((with_reducible refine w_last ?_ ?_ ?_); kernel_rfl; rfl) | with_reducible refine Go2.go ?_ | ((with_reducible first | apply w_stepG | refine s_bi ?_ ?_ | refine blk_ne ?_ ?_); rfl) | ((with_reducible refine al_go ?_); intro b) | ((with_reducible apply (ck_le Tryz.call23)); exact LEL.refl _; exact hA.out _) | ((with_reducible first | refine w_region ?_ ?_ | refine w_dra ?_ ?_); kernel_rfl) | ((with_reducible refine Go3.go ?_ ?_); all_goals (intro hb; (try with_reducible intro hb1); (try (exfalso; first | contradiction | omega)))) | fail)
    all_goals (refine ret_eq (by simp) (by first | rfl | assumption) (by (repeat (first | exact List.Sublist.refl _ | apply List.Sublist.cons))) ?_; (try simp (disch := omega) only [push_cast, simprocAttr, *]); try (first | exact LE.refl _ | exact LE.sl _ _ | ((first | refine LE.tup ?_ | refine LE.agg ?_); (repeat' (first | exact LEL.nil | refine LEL.cons ?_ ?_ | exact LE.refl _ | exact LE.sl _ _ | refine LE.agg ?_)); done) | refine LE.of_eq ?_))
  | true =>
    by_cases hlen : rs.length = sl.length
    · have HB : Hid (Sch.fitsL (sl.drop 0) (rs.drop 0) = B) := hB
      clear hB
      refine trF_enter (ts := [4]) Tryz.func22 rfl (by rw [Tryz.ntmps22]; exact Nat.le_of_ble_eq_true rfl) (fun tmps w => by simp [results, Tryz.results22, go_sem, resVal]) ?_
      simp only [Tryz.ntmps22]
      repeat' (first | with_reducible refine Go1.go ?_ | ((with_reducible apply ev_go); (focus ((try simp (disch := omega) only [push_cast, simprocAttr, *]); (try exact rfl); done))) | ((with_reducible refine w_last ?_ ?_ ?_); kernel_rfl; rfl) | with_reducible refine Go2.go ?_ | ((with_reducible first | apply w_stepG | refine s_bi ?_ ?_ | refine blk_ne ?_ ?_); rfl) | ((with_reducible refine al_go ?_); intro b) | ((with_reducible apply (ck_le Tryz.call23)); exact LEL.refl _; exact hA.out _) | ((with_reducible first | refine w_region ?_ ?_ | refine w_dra ?_ ?_); kernel_rfl) | ((with_reducible refine Go3.go ?_ ?_); all_goals (intro hb; (try with_reducible intro hb1); (try (exfalso; first | contradiction | omega)))) | fail)
      refine tr_loopd (ι := Nat) (fun i A st' => i ≤ sl.length ∧ Hid (Sch.fitsL (sl.drop i) (rs.drop i) = B) ∧ A.df = [] ∧ A.e 3 = .ip [.i rv, .sl .shared RS] ∧ A.e 5 = .ptr b 0 ∧ A.e 7 = .i i ∧ st' = .box b 50 [.sl .shared XS, .sl .shared XC] :: st) (fun i => sl.length - i) 0 ⟨Nat.zero_le _, HB, ?_, ?_, ?_, ?_, rfl⟩ ?_
      iterate 4 (focus (first | rfl | assumption | omega | (simp (disch := omega) only [push_cast, simprocAttr, *]; try omega; done)))
      rintro i A st' ⟨hi, HT, hdf, e3, e5, e7, rfl⟩
      clear HB
      by_cases hlt : i < sl.length
      · obtain ⟨s, hs⟩ : ∃ s, sl[i]? = some s := ⟨_, List.getElem?_eq_getElem hlt⟩
        obtain ⟨v, hv⟩ : ∃ v, rs[i]? = some v := ⟨_, List.getElem?_eq_getElem (by omega)⟩
        have HE := HT.out
        rw [Sch.fitsL_drop hs hv] at HE
        have h1 := hc1.out i s hs
        have h2 := hc2.out i v hv
        have hvq := hr2.out v (List.mem_of_getElem? hv)
        have hF := refFits10F s v hvq.ok hvq.nodes hvq.deep (hxt2.out s (List.mem_of_getElem? hs))
        clear HT hs hv hvq
        generalize Sch.fits s v = q at *
        cases s with
        | mk snm ty rq dv =>
        cases dv with
        | mk k n sv lv =>
        cases v with
        | mk k' n' sv' lv' =>
        rw [Sl.cells_mk] at h1 hF
        rw [V.cells_mk] at h2 hF
        replace hF := Lib.hid hF
        cases q with
        | true =>
          rw [Bool.true_and] at HE
          replace HE := Lib.hid HE
          repeat' (first | with_reducible refine Go1.go ?_ | ((with_reducible apply ev_go); (focus ((try simp (disch := omega) only [push_cast, simprocAttr, *]); (try exact rfl); done))) | ((with_reducible refine w_drawRN ?_ ?_ ?_ ?_); (iterate 3 (focus kernel_rfl)); intro hne; simp only [nes, ne1, and_assoc] at hne; repeat (have hq := hne.1; replace hne := hne.2)) | ((with_reducible refine w_last ?_ ?_ ?_); kernel_rfl; rfl) | with_reducible refine Go2.go ?_ | ((with_reducible first | apply w_stepG | refine s_bi ?_ ?_ | refine blk_ne ?_ ?_); rfl) | ((with_reducible refine al_go ?_); intro b) | ((with_reducible apply (ck_le Tryz.call25)); exact LEL.refl _; exact hF.out _) | ((with_reducible first | refine w_region ?_ ?_ | refine w_dra ?_ ?_); kernel_rfl) | ((with_reducible refine Go3.go ?_ ?_); all_goals (intro hb; (try with_reducible intro hb1); (try (exfalso; first | contradiction | omega)))) | fail)
          refine ⟨i + 1, .box b 50 [.sl .shared XS, .sl .shared XC] :: st, (by (repeat (first | exact List.Sublist.refl _ | apply List.Sublist.cons))), ⟨hlt, HE, ?_, ?_, ?_, ?_, rfl⟩, by omega⟩
          all_goals (first | rfl | assumption | omega | (simp (disch := omega) only [push_cast, simprocAttr, *]; try omega; done))
        | false =>
          rw [Bool.false_and] at HE
          subst HE
          repeat' (first | with_reducible refine Go1.go ?_ | ((with_reducible apply ev_go); (focus ((try simp (disch := omega) only [push_cast, simprocAttr, *]); (try exact rfl); done))) | ((with_reducible refine w_drawRN ?_ ?_ ?_ ?_); (iterate 3 (focus kernel_rfl)); intro hne; simp only [nes, ne1, and_assoc] at hne; repeat (have hq := hne.1; replace hne := hne.2)) | ((with_reducible refine w_last ?_ ?_ ?_); kernel_rfl; rfl) | with_reducible refine Go2.go ?_ | ((with_reducible first | apply w_stepG | refine s_bi ?_ ?_ | refine blk_ne ?_ ?_); rfl) | ((with_reducible refine al_go ?_); intro b) | ((with_reducible apply (ck_le Tryz.call25)); exact LEL.refl _; exact hF.out _) | ((with_reducible first | refine w_region ?_ ?_ | refine w_dra ?_ ?_); kernel_rfl) | ((with_reducible refine Go3.go ?_ ?_); all_goals (intro hb; (try with_reducible intro hb1); (try (exfalso; first | contradiction | omega)))) | fail)
          all_goals (refine ret_eq (by simp) (by first | rfl | assumption) (by (repeat (first | exact List.Sublist.refl _ | apply List.Sublist.cons))) ?_; (try simp (disch := omega) only [push_cast, simprocAttr, *]); try (first | exact LE.refl _ | exact LE.sl _ _ | ((first | refine LE.tup ?_ | refine LE.agg ?_); (repeat' (first | exact LEL.nil | refine LEL.cons ?_ ?_ | exact LE.refl _ | exact LE.sl _ _ | refine LE.agg ?_)); done) | refine LE.of_eq ?_))
      · have HE := HT.out
        rw [List.drop_of_length_le (by omega), List.drop_of_length_le (by omega), Sch.fitsL] at HE
        subst HE
        clear HT
        repeat' (first | with_reducible refine Go1.go ?_ | ((with_reducible apply ev_go); (focus ((try simp (disch := omega) only [push_cast, simprocAttr, *]); (try exact rfl); done))) | ((with_reducible refine w_last ?_ ?_ ?_); kernel_rfl; rfl) | with_reducible refine Go2.go ?_ | ((with_reducible first | apply w_stepG | refine s_bi ?_ ?_ | refine blk_ne ?_ ?_); rfl) | ((with_reducible refine al_go ?_); intro b) | ((with_reducible first | refine w_region ?_ ?_ | refine w_dra ?_ ?_); kernel_rfl) | ((with_reducible refine Go3.go ?_ ?_); all_goals (intro hb; (try with_reducible intro hb1); (try (exfalso; first | contradiction | omega)))) | fail)
        all_goals (refine ret_eq (by simp) (by first | rfl | assumption) (by (repeat (first | exact List.Sublist.refl _ | apply List.Sublist.cons))) ?_; (try simp (disch := omega) only [push_cast, simprocAttr, *]); try (first | exact LE.refl _ | exact LE.sl _ _ | ((first | refine LE.tup ?_ | refine LE.agg ?_); (repeat' (first | exact LEL.nil | refine LEL.cons ?_ ?_ | exact LE.refl _ | exact LE.sl _ _ | refine LE.agg ?_)); done) | refine LE.of_eq ?_))
    · have hBf : B = false := by
        cases B with
        | false => rfl
        | true => exact absurd (Sch.fitsL_len _ _ hB).symm hlen
      subst hBf
      clear hB
      have hl2 : ¬ (sl.length : Int) = (rs.length : Int) := by omega
      clear hlen
      refine trF_enter (ts := [4]) Tryz.func22 rfl (by rw [Tryz.ntmps22]; exact Nat.le_of_ble_eq_true rfl) (fun tmps w => by simp [results, Tryz.results22, go_sem, resVal]) ?_
      simp only [Tryz.ntmps22]
      repeat' (first | with_reducible refine Go1.go ?_ | ((with_reducible apply ev_go); (focus ((try simp (disch := omega) only [push_cast, simprocAttr, *]); (try exact rfl); done))) | ((with_reducible refine w_last ?_ ?_ ?_); kernel_rfl; rfl) | with_reducible refine Go2.go ?_ | ((with_reducible first | apply w_stepG | refine s_bi ?_ ?_ | refine blk_ne ?_ ?_); rfl) | ((with_reducible refine al_go ?_); intro b) | ((with_reducible apply (ck_le Tryz.call23)); exact LEL.refl _; exact hA.out _) | ((with_reducible first | refine w_region ?_ ?_ | refine w_dra ?_ ?_); kernel_rfl) | ((with_reducible refine Go3.go ?_ ?_); all_goals (intro hb; (try with_reducible intro hb1); (try (exfalso; first | contradiction | omega)))) | fail)
      all_goals (refine ret_eq (by simp) (by first | rfl | assumption) (by (repeat (first | exact List.Sublist.refl _ | apply List.Sublist.cons))) ?_; (try simp (disch := omega) only [push_cast, simprocAttr, *]); try (first | exact LE.refl _ | exact LE.sl _ _ | ((first | refine LE.tup ?_ | refine LE.agg ?_); (repeat' (first | exact LEL.nil | refine LEL.cons ?_ ?_ | exact LE.refl _ | exact LE.sl _ _ | refine LE.agg ?_)); done) | refine LE.of_eq ?_))
def Rc.same (a b : Rc) : Bool := (a.v == b.v) && (V.cmpL a.s b.s == 0)
theorem refSame11F (a b : Rc) (ha : ∀ v ∈ a.s, v.Ok) (hl : a.s.length ≤ 9223372036854775806) (st : St) : TrF Tryz.prog 13 [.agg a.cells, .agg b.cells] st fun d st' => d = .b (Rc.same a b) ∧ st' = st := by
  have hA := refAllF .shared .shared a.s b.s ha hl
  unfold Rc.same Rc.cells
  generalize (V.cmpL a.s b.s == 0) = q at *
  generalize a.s.map V.cells = AS at *
  generalize b.s.map V.cells = BS at *
  replace hA := Lib.hid hA
  obtain ⟨p, hp⟩ : ∃ p, (a.v == b.v) = p := ⟨_, rfl⟩
  rw [hp]
  cases p <;> cases q
  all_goals skip
  all_goals (
    refine trF_enter (ts := [4]) Tryz.func13 rfl (by rw [Tryz.ntmps13]; exact Nat.le_of_ble_eq_true rfl) (fun tmps w => by simp [results, Tryz.results13, go_sem, resVal]) ?_
    simp only [Tryz.ntmps13]
    repeat' (first | with_reducible refine Go1.go ?_ | ((with_reducible apply ev_go); (focus ((try simp (disch := omega) only [push_cast, simprocAttr, *]); (try exact rfl); done))) | ((with_reducible refine w_last ?_ ?_ ?_); kernel_rfl; rfl) | with_reducible refine Go2.go ?_ | ((with_reducible first | apply w_stepG | refine s_bi ?_ ?_ | refine blk_ne ?_ ?_); rfl) | ((with_reducible refine al_go ?_); intro b) | ((with_reducible apply (ck_le Tryz.call28)); exact LEL.refl _; exact hA.out _) | ((with_reducible first | refine w_region ?_ ?_ | refine w_dra ?_ ?_); kernel_rfl) | ((with_reducible refine Go3.go ?_ ?_); all_goals (intro hb; (try with_reducible intro hb1); (try (exfalso; first | contradiction | omega)))) | fail)
    all_goals (refine ret_eq (by simp) (by first | rfl | assumption) (by (repeat (first | exact List.Sublist.refl _ | apply List.Sublist.cons))) ?_; (try simp (disch := omega) only [push_cast, simprocAttr, *]); try (first | exact LE.refl _ | exact LE.sl _ _ | ((first | refine LE.tup ?_ | refine LE.agg ?_); (repeat' (first | exact LEL.nil | refine LEL.cons ?_ ?_ | exact LE.refl _ | exact LE.sl _ _ | refine LE.agg ?_)); done) | refine LE.of_eq ?_)))
end Go.Proofs.YtooaagmhgakhgaaGreat
end

section
namespace Go.Proofs.YtooaagmhgakhgaaGreat
set_option linter.unusedSimpArgs false
attribute [local push_cast] encB encI V.cells_mk V.cells_take V.cells_len Nat.mul_one Int.sub_zero
open Go.RowKit
set_option maxRecDepth 10000
set_option maxHeartbeats 4000000
open V in
theorem valCopyF : ∀ (N : Nat) (v : V), v.nodes ≤ N → v.nodes ≤ 1000000000 → ∀ st, TrF Tryz.prog 45 [.agg v.cells] st fun x st' => x = .agg v.cells ∧ st' = st
  | 0, v, h, _ => by have := v.nodes_pos; omega
  | N + 1, .mk k n s l, hN, hB => by
    intro st
    have hll := nodesL_len l
    rw [nodes] at hN hB
    have IH := Lib.hid fun x (hx : x ∈ l) => valCopyF N x (by have := nodesL_mem hx; omega) (by have := nodesL_mem hx; omega)
    clear hN
    rw [V.cells_mk]
    refine trF_enterC (G := cellA 2 42 Tryz.prog) Tryz.func45 rfl (by rw [Tryz.ntmps45]; exact Nat.le_of_ble_eq_true rfl) (fun h1 h2 h3 => res_cell rfl h1 h2 h3) ?_
    simp only [Tryz.ntmps45]
    refine tr_room 42 4 0 ?_
    repeat' (first | with_reducible refine Go1.go ?_ | ((with_reducible apply ev_go); (focus ((try simp (disch := omega) only [push_cast, simprocAttr, *]); (try exact rfl); done))) | with_reducible refine s_boxP ?_ | ((with_reducible refine w_last ?_ ?_ ?_); kernel_rfl; rfl) | with_reducible refine Go2.go ?_ | ((with_reducible first | apply w_stepG | refine s_bi ?_ ?_ | refine blk_ne ?_ ?_); rfl) | ((with_reducible refine al_go ?_); intro b) | ((with_reducible apply a2_go); (focus (first | assumption | (intro h; cases h))); (focus (intro o'; repeat (first | exact ra_h | apply ra_t))); (iterate 2 (focus (first | assumption | exact len_nil | exact len_one rfl | (intro a ha; obtain ⟨x, -, rfl⟩ := List.mem_map.1 ha; first | rfl | simp) | (intro a ha; simp at ha; simp [ha])))); (iterate 2 (focus (first | omega | (simp only [List.length_map, List.length_cons, List.length_nil, List.length_append]; omega)))); intro o' ho') | ((with_reducible first | refine w_region ?_ ?_ | refine w_dra ?_ ?_); kernel_rfl) | ((with_reducible refine Go3.go ?_ ?_); all_goals (intro hb; (try with_reducible intro hb1); (try (exfalso; first | contradiction | omega)))) | fail)
    rename_i b1
    revert b
    intro b2
    refine tr_loopd (ι := Nat) (fun i A st' => i ≤ l.length ∧ A.df = [] ∧ A.e 1 = .ptr b1 0 ∧ A.e 2 = .ptr b2 0 ∧ A.e 7 = .sl .shared (l.map V.cells) ∧ A.e 8 = .i l.length ∧ A.e 9 = .i i ∧ ∃ o', o' ≠ .shared ∧ A.e 3 = .sl o' ((l.take i).map V.cells) ∧ ∃ zs, zs.length = 4 ∧ st' = .box b2 42 zs :: .box b1 42 [.i k, .i n, .str s, .sl .shared (l.map V.cells)] :: .room o' 42 4 ((l.take i).map V.cells).length :: st) (fun i => l.length - i) 0 ⟨Nat.zero_le _, ?_, ?_, ?_, ?_, ?_, ?_, .tight, by simp, ?_, _, rfl, rfl⟩ ?_
    iterate 7 (focus (first | rfl | assumption | omega | (simp (disch := omega) only [push_cast, simprocAttr, *]; try omega; done)))
    rintro i A st' ⟨hi, hdf, e1, e2, e7, e8, e9, o', ho', e3, zs, hzs, rfl⟩
    by_cases hlt : i < l.length
    · obtain ⟨x, hx⟩ : ∃ x, l[i]? = some x := ⟨_, List.getElem?_eq_getElem hlt⟩
      have ih := IH.out x (mem_of hx)
      have htk : l.take (i + 1) = l.take i ++ [x] := by
        rw [List.take_succ, hx]; rfl
      have hTi : (l.take i).length = i := by rw [List.length_take]; omega
      replace htk := Lib.hid htk
      generalize l.take i = Ti at *
      clear IH
      have hT4 : ∀ a ∈ Ti.map V.cells, a.length = 4 := fun a ha => by
        obtain ⟨y, -, rfl⟩ := List.mem_map.1 ha
        exact V.cells_len y
      cases x with
      | mk k1 n1 s1 l1 =>
        rw [V.cells_mk] at ih
        replace ih := Lib.hid ih
        repeat' (first | with_reducible refine Go1.go ?_ | ((with_reducible apply ev_go); (focus ((try simp (disch := omega) only [push_cast, simprocAttr, *]); (try exact rfl); done))) | ((with_reducible apply (a2_go ho')); (focus (intro o'; repeat (first | exact ra_h | apply ra_t))); (focus exact hT4); (focus exact len_one rfl); (focus (simp only [List.length_map, List.length_cons, List.length_nil]; omega)); (focus (simp only [List.length_map, List.length_cons, List.length_nil]; omega)); intro o' ho') | ((with_reducible refine w_last ?_ ?_ ?_); kernel_rfl; rfl) | with_reducible refine Go2.go ?_ | ((with_reducible first | apply w_stepG | refine s_bi ?_ ?_ | refine blk_ne ?_ ?_); rfl) | ((with_reducible refine al_go ?_); intro b) | ((with_reducible apply (ck_le Tryz.call45)); exact LEL.refl _; exact ih.out _) | ((with_reducible apply a2_go); (focus (first | assumption | (intro h; cases h))); (focus (intro o'; repeat (first | exact ra_h | apply ra_t))); (iterate 2 (focus (first | assumption | exact len_nil | exact len_one rfl | (intro a ha; obtain ⟨x, -, rfl⟩ := List.mem_map.1 ha; first | rfl | simp) | (intro a ha; simp at ha; simp [ha])))); (iterate 2 (focus (first | omega | (simp only [List.length_map, List.length_cons, List.length_nil, List.length_append]; omega)))); intro o' ho') | ((with_reducible first | refine w_region ?_ ?_ | refine w_dra ?_ ?_); kernel_rfl) | ((with_reducible refine Go3.go ?_ ?_); all_goals (intro hb; (try with_reducible intro hb1); (try (exfalso; first | contradiction | omega)))) | fail)
        refine ⟨i + 1, .box b2 42 zs :: .box b1 42 [.i k, .i n, .str s, .sl .shared (l.map V.cells)] :: .room o' 42 4 ((l.take (i + 1)).map V.cells).length :: st, ?_, ⟨hlt, ?_, ?_, ?_, ?_, ?_, ?_, o', ho', ?_, zs, hzs, rfl⟩, ?_⟩
        · rw [htk.out]; simp only [List.map_append, List.map_cons, List.map_nil, V.cells_mk]; (repeat (first | exact List.Sublist.refl _ | apply List.Sublist.cons))
        · (first | rfl | assumption | omega | (simp (disch := omega) only [push_cast, simprocAttr, *]; try omega; done))
        · (first | rfl | assumption | omega | (simp (disch := omega) only [push_cast, simprocAttr, *]; try omega; done))
        · (first | rfl | assumption | omega | (simp (disch := omega) only [push_cast, simprocAttr, *]; try omega; done))
        · (first | rfl | assumption | omega | (simp (disch := omega) only [push_cast, simprocAttr, *]; try omega; done))
        · (first | rfl | assumption | omega | (simp (disch := omega) only [push_cast, simprocAttr, *]; try omega; done))
        · (first | rfl | assumption | omega | (simp (disch := omega) only [push_cast, simprocAttr, *]; try omega; done))
        · rw [htk.out]; simp only [List.map_append, List.map_cons, List.map_nil, V.cells_mk]; (first | rfl | assumption | omega | (simp (disch := omega) only [push_cast, simprocAttr, *]; try omega; done))
        · omega
    · rw [List.take_of_length_le (by omega)] at *
      clear IH
      repeat' (first | with_reducible refine Go1.go ?_ | ((with_reducible apply ev_go); (focus ((try simp (disch := omega) only [push_cast, simprocAttr, *]); (try exact rfl); done))) | ((with_reducible refine w_last ?_ ?_ ?_); kernel_rfl; rfl) | with_reducible refine Go2.go ?_ | ((with_reducible first | apply w_stepG | refine s_bi ?_ ?_ | refine blk_ne ?_ ?_); rfl) | ((with_reducible refine al_go ?_); intro b) | ((with_reducible apply a2_go); (focus (first | assumption | (intro h; cases h))); (focus (intro o'; repeat (first | exact ra_h | apply ra_t))); (iterate 2 (focus (first | assumption | exact len_nil | exact len_one rfl | (intro a ha; obtain ⟨x, -, rfl⟩ := List.mem_map.1 ha; first | rfl | simp) | (intro a ha; simp at ha; simp [ha])))); (iterate 2 (focus (first | omega | (simp only [List.length_map, List.length_cons, List.length_nil, List.length_append]; omega)))); intro o' ho') | ((with_reducible first | refine w_region ?_ ?_ | refine w_dra ?_ ?_); kernel_rfl) | ((with_reducible refine Go3.go ?_ ?_); all_goals (intro hb; (try with_reducible intro hb1); (try (exfalso; first | contradiction | omega)))) | fail)
      all_goals (refine retC_cell (by simp) (by first | rfl | assumption) (by simp (disch := omega) only [push_cast, simprocAttr, *]; exact rfl) (by repeat (first | exact mm_h | apply mm_t)) (by simp (disch := omega) only [push_cast, simprocAttr, *]; exact rfl) (by (try simp (disch := omega) only [push_cast, simprocAttr, *]); (try exact rfl); done) (by (repeat (first | exact List.Sublist.refl _ | apply List.Sublist.cons))) ?_ ⟨rfl, rfl⟩; (try simp (disch := omega) only [push_cast, simprocAttr, *]); try (first | exact LE.refl _ | exact LE.sl _ _ | ((first | refine LE.tup ?_ | refine LE.agg ?_); (repeat' (first | exact LEL.nil | refine LEL.cons ?_ ?_ | exact LE.refl _ | exact LE.sl _ _ | refine LE.agg ?_)); done) | refine LE.of_eq ?_))
end Go.Proofs.YtooaagmhgakhgaaGreat
end

section
namespace Go.Proofs.YtooaagmhgakhgaaGreat
set_option linter.unusedSimpArgs false
attribute [local push_cast] encB encI encC V.cells_mk V.cells_len Nat.mul_one Int.sub_zero List.map_nil beq_self_eq_true List.head?_cons
open Go.RowKit
set_option maxRecDepth 10000
set_option maxHeartbeats 4000000
namespace Sch
def castL : List Sl → List V → List V
  | [], _ => []
  | s :: a, [] => s.dv :: castL a []
  | s :: a, v :: b => (if fits s v then v else s.dv) :: castL a b
def one (s : Sl) : Option V → V
  | none => s.dv
  | some v => if fits s v then v else s.dv
theorem castL_len : ∀ (a : List Sl) (b : List V), (castL a b).length = a.length
  | [], _ => rfl
  | s :: a, [] => by rw [castL, List.length_cons, castL_len a [], List.length_cons]
  | s :: a, v :: b => by rw [castL, List.length_cons, castL_len a b, List.length_cons]
theorem castL_get : ∀ (a : List Sl) (b : List V) (i : Nat) (s : Sl), a[i]? = some s → (castL a b)[i]? = some (one s b[i]?)
  | s :: a, [], 0, _, h => by cases h; rw [castL]; rfl
  | s :: a, v :: b, 0, _, h => by cases h; rw [castL]; rfl
  | s :: a, [], i + 1, z, h => by
    rw [castL, List.getElem?_cons_succ, castL_get a [] i z (by simpa using h)]
    rfl
  | s :: a, v :: b, i + 1, z, h => by
    rw [castL, List.getElem?_cons_succ, castL_get a b i z (by simpa using h)]
    rfl
  | [], _, _, _, h => by simp at h
def zeroR : Rc := ⟨0, []⟩
def castS (t : Tm) (r : Rc) (v : Int) : Rc × Int :=
  if valid t r = true then (if verB t v = true then (⟨v, castL (verX t v).slots r.s⟩, 0) else (zeroR, 7)) else (zeroR, 1)
end Sch
theorem keep_roE {ro : Ro} {st : St} (h : roOf st = ro) : Keep (some ro) st := h ▸ keep_ro
theorem take_snoc' {α : Type} {L : List α} {i : Nat} {x : α} (h : L[i]? = some x) : L.take (i + 1) = L.take i ++ [x] := by rw [List.take_add_one, h]; rfl
abbrev retC2 (v : Int) (o : Own) (L : List (List D)) (e : Int) : LE (.tup [.agg [.i v, .sl o L], .i e]) (.tup [.agg [.i v, .sl .shared L], .i e]) := LE.tup (l := [.agg [.i v, .sl o L], .i e]) ⟨LE.agg (l := [.i v, .sl o L]) ⟨LE.refl _, LE.sl _ _, trivial⟩, LE.refl _, trivial⟩
theorem castStepF (t : Tm) (ht : TOk t) (r : Rc) (hr : ∀ v ∈ r.s, v.nodes ≤ 1000) (hl : r.s.length ≤ 9223372036854775806) (hdv : ∀ x ∈ Sch.vers t, ∀ z ∈ x.slots, z.dv.nodes ≤ 1000) (v : Int) (st : St) : TrF Tryz.prog 29 [.agg t.cells, .agg r.cells, .i v] st fun d st' => d = .tup [.agg (Sch.castS t r v).1.cells, .i (Sch.castS t r v).2] ∧ st' = st := by
  have hV := recValidF t ht r hr hl
  have hA := schAtF t ht v
  have hxl := verX_len t v
  have hdx := verX_slots (v := v) hdv
  unfold Sch.castS
  generalize Sch.valid t r = ok at *
  generalize Sch.verX t v = x at *
  generalize Sch.verB t v = is at *
  have hcx : Hid (∀ (i : Nat) (s : Sl), x.slots[i]? = some s → (Sch.castL x.slots r.s)[i]? = some (Sch.one s r.s[i]?)) := fun i s h => Sch.castL_get _ _ _ _ h
  have hcl := Sch.castL_len x.slots r.s
  generalize Sch.castL x.slots r.s = CL at *
  unfold Tm.cells Rc.cells at *
  unfold Vr.cells at hA
  generalize t.slots.map Sl.cells = SL at *
  generalize t.steps.map Stp.cells = TL at *
  generalize t.name = nm at *
  cases r with
  | mk rv rs =>
  dsimp only at hV hr hl hcx hcl ⊢
  have hm1 : (x.slots.map Sl.cells).length = x.slots.length := List.length_map ..
  have hm2 : (rs.map V.cells).length = rs.length := List.length_map ..
  have hc1 : Hid (∀ (i : Nat) (s : Sl), x.slots[i]? = some s → (x.slots.map Sl.cells)[i]? = some s.cells) := fun i s h => by rw [List.getElem?_map, h]; rfl
  have hc2 : Hid (∀ (i : Nat) (v : V), rs[i]? = some v → (rs.map V.cells)[i]? = some v.cells) := fun i v h => by rw [List.getElem?_map, h]; rfl
  have hr2 := Lib.hid hr
  have hdx2 := Lib.hid hdx
  clear hr hdx hdv
  generalize x.slots.map Sl.cells = XS at *
  generalize x.cols.map encC = XC at *
  generalize rs.map V.cells = RS at *
  generalize x.slots = sl at *
  replace hA := Lib.hid hA
  replace hV := Lib.hid hV
  refine trF_enterG (G := twoA Tryz.prog (.cell 6 28) (.tmp 7)) Tryz.func29 rfl (by rw [Tryz.ntmps29]; exact Nat.le_of_ble_eq_true rfl) (fun h1 h2 h3 => res_two rfl h1 h2 h3) ?_
  simp only [Tryz.ntmps29]
  cases ok with
  | false =>
    repeat' (first | with_reducible refine Go1.go ?_ | ((with_reducible apply ev_go); (focus ((try simp (disch := omega) only [push_cast, simprocAttr, *]); (try exact rfl); done))) | ((with_reducible refine w_last ?_ ?_ ?_); kernel_rfl; rfl) | with_reducible refine Go2.go ?_ | ((with_reducible first | apply w_stepG | refine s_bi ?_ ?_ | refine blk_ne ?_ ?_); rfl) | ((with_reducible refine al_go ?_); intro b) | ((with_reducible apply (ck_le Tryz.call31)); exact LEL.refl _; exact hV.out _) | ((with_reducible apply a2_go); (focus (first | assumption | (intro h; cases h))); (focus (intro o'; repeat (first | exact ra_h | apply ra_t))); (iterate 2 (focus (first | assumption | exact len_nil | exact len_one rfl | (intro a ha; obtain ⟨x, -, rfl⟩ := List.mem_map.1 ha; first | rfl | simp) | (intro a ha; simp at ha; simp [ha])))); (iterate 2 (focus (first | omega | (simp only [List.length_map, List.length_cons, List.length_nil, List.length_append]; omega)))); intro o' ho') | ((with_reducible first | refine w_region ?_ ?_ | refine w_dra ?_ ?_); kernel_rfl) | ((with_reducible refine Go3.go ?_ ?_); all_goals (intro hb; (try with_reducible intro hb1); (try (exfalso; first | contradiction | omega)))) | fail)
    all_goals (refine retG_mk (rs := []) (by first | exact .inl rfl | exact .inr rfl) (by first | rfl | assumption) (List.Perm.refl _) ⟨_, _, rfl, cell_mk (by simp (disch := omega) only [push_cast, simprocAttr, *]; exact rfl) (by repeat (first | exact mm_h | apply mm_t)) (by simp (disch := omega) only [push_cast, simprocAttr, *]; exact rfl) (by (try simp (disch := omega) only [push_cast, simprocAttr, *]); (try exact rfl); done), (by show _ = _; (try simp (disch := omega) only [push_cast, simprocAttr, *]); (try exact rfl); done)⟩ (by (repeat (first | exact List.Sublist.refl _ | with_reducible apply List.Sublist.cons_cons | apply List.Sublist.cons))) (retC2 0 .tight [] 1) ⟨rfl, rfl⟩)
  | true =>
    cases is with
    | false =>
      repeat' (first | with_reducible refine Go1.go ?_ | ((with_reducible apply ev_go); (focus ((try simp (disch := omega) only [push_cast, simprocAttr, *]); (try exact rfl); done))) | ((with_reducible refine w_last ?_ ?_ ?_); kernel_rfl; rfl) | with_reducible refine Go2.go ?_ | ((with_reducible first | apply w_stepG | refine s_bi ?_ ?_ | refine blk_ne ?_ ?_); rfl) | ((with_reducible refine al_go ?_); intro b) | ((with_reducible apply (ck_le Tryz.call31)); exact LEL.refl _; exact hV.out _) | ((with_reducible apply (ck_le Tryz.call43)); exact LEL.refl _; exact hA.out _) | ((with_reducible apply a2_go); (focus (first | assumption | (intro h; cases h))); (focus (intro o'; repeat (first | exact ra_h | apply ra_t))); (iterate 2 (focus (first | assumption | exact len_nil | exact len_one rfl | (intro a ha; obtain ⟨x, -, rfl⟩ := List.mem_map.1 ha; first | rfl | simp) | (intro a ha; simp at ha; simp [ha])))); (iterate 2 (focus (first | omega | (simp only [List.length_map, List.length_cons, List.length_nil, List.length_append]; omega)))); intro o' ho') | ((with_reducible first | refine w_region ?_ ?_ | refine w_dra ?_ ?_); kernel_rfl) | ((with_reducible refine Go3.go ?_ ?_); all_goals (intro hb; (try with_reducible intro hb1); (try (exfalso; first | contradiction | omega)))) | fail)
      all_goals (refine retG_mk (rs := []) (by first | exact .inl rfl | exact .inr rfl) (by first | rfl | assumption) (List.Perm.refl _) ⟨_, _, rfl, cell_mk (by simp (disch := omega) only [push_cast, simprocAttr, *]; exact rfl) (by repeat (first | exact mm_h | apply mm_t)) (by simp (disch := omega) only [push_cast, simprocAttr, *]; exact rfl) (by (try simp (disch := omega) only [push_cast, simprocAttr, *]); (try exact rfl); done), (by show _ = _; (try simp (disch := omega) only [push_cast, simprocAttr, *]); (try exact rfl); done)⟩ (by (repeat (first | exact List.Sublist.refl _ | with_reducible apply List.Sublist.cons_cons | apply List.Sublist.cons))) (retC2 0 .tight [] 7) ⟨rfl, rfl⟩)
    | true =>
      refine tr_room 42 4 ([] : List (List D)).length ?_
      repeat' (first | with_reducible refine Go1.go ?_ | ((with_reducible apply ev_go); (focus ((try simp (disch := omega) only [push_cast, simprocAttr, *]); (try exact rfl); done))) | ((with_reducible refine w_last ?_ ?_ ?_); kernel_rfl; rfl) | with_reducible refine Go2.go ?_ | ((with_reducible first | apply w_stepG | refine s_bi ?_ ?_ | refine blk_ne ?_ ?_); rfl) | ((with_reducible refine al_go ?_); intro b) | ((with_reducible apply (ck_le Tryz.call31)); exact LEL.refl _; exact hV.out _) | ((with_reducible apply (ck_le Tryz.call43)); exact LEL.refl _; exact hA.out _) | ((with_reducible apply a2_go); (focus (first | assumption | (intro h; cases h))); (focus (intro o'; repeat (first | exact ra_h | apply ra_t))); (iterate 2 (focus (first | assumption | exact len_nil | exact len_one rfl | (intro a ha; obtain ⟨x, -, rfl⟩ := List.mem_map.1 ha; first | rfl | simp) | (intro a ha; simp at ha; simp [ha])))); (iterate 2 (focus (first | omega | (simp only [List.length_map, List.length_cons, List.length_nil, List.length_append]; omega)))); intro o' ho') | ((with_reducible first | refine w_region ?_ ?_ | refine w_dra ?_ ?_); kernel_rfl) | ((with_reducible refine Go3.go ?_ ?_); all_goals (intro hb; (try with_reducible intro hb1); (try (exfalso; first | contradiction | omega)))) | fail)
      rename_i b6 b8
      refine tr_loopd (ι := Nat) (fun i A st' => i ≤ sl.length ∧ A.df = [] ∧ A.e 4 = .ip [.i rv, .sl .shared RS] ∧ A.e 6 = .ptr b6 0 ∧ A.e 10 = .ptr b 0 ∧ A.e 31 = .sl .shared XS ∧ A.e 32 = .i sl.length ∧ A.e 33 = .i i ∧ ∃ o : Own, o ≠ .shared ∧ st' = .box b 28 [.i v, .sl o ((CL.take i).map V.cells)] :: .box b8 77 [.sl .shared XS, .sl .shared XC] :: .box b6 28 [.i 0, .sl .tight []] :: .room o 42 4 ((CL.take i).map V.cells).length :: st) (fun i => sl.length - i) 0 ⟨Nat.zero_le _, ?_, ?_, ?_, ?_, ?_, ?_, ?_, .tight, by simp, rfl⟩ ?_
      iterate 7 (focus (first | rfl | assumption | omega | (simp (disch := omega) only [push_cast, simprocAttr, *]; try omega; done)))
      obtain ⟨b10, rfl⟩ : ∃ q, q = b := ⟨_, rfl⟩
      rintro i A st' ⟨hi, hdf, e4, e6, e10, e31, e32, e33, o, ho, rfl⟩
      by_cases hlt : i < sl.length
      · obtain ⟨s, hs⟩ : ∃ s, sl[i]? = some s := ⟨_, List.getElem?_eq_getElem hlt⟩
        have h1 := hc1.out i s hs
        have hsn := hdx2.out s (List.mem_of_getElem? hs)
        have hcy := hcx.out i s hs
        have hMl : ((CL.take i).map V.cells).length ≤ 16 := by rw [List.length_map, List.length_take]; omega
        have hME : ∀ e ∈ (CL.take i).map V.cells, e.length = 4 := fun e he => by
          obtain ⟨w, -, rfl⟩ := List.mem_map.1 he
          exact V.cells_len w
        clear hs
        by_cases hir : i < rs.length
        · obtain ⟨u, hu⟩ : ∃ u, rs[i]? = some u := ⟨_, List.getElem?_eq_getElem hir⟩
          have h2 := hc2.out i u hu
          have hun := hr2.out u (List.mem_of_getElem? hu)
          rw [hu, Sch.one] at hcy
          clear hu
          cases s with
          | mk snm ty rq dv =>
          have hF := schFitsF snm ty rq dv u (by omega)
          generalize Sch.fits _ u = q at *
          cases q with
          | true =>
            rw [if_pos rfl] at hcy
            have hts := Lib.hid (congrArg (List.map V.cells) (take_snoc' hcy))
            rw [List.map_append] at hts
            have hB := valCopyF u.nodes u (Nat.le_refl _) (by omega)
            dsimp only at hsn
            clear hcy hun hsn
            cases dv with
            | mk k n sv lv =>
            cases u with
            | mk k' n' sv' lv' =>
            rw [Sl.cells_mk] at h1 hF
            rw [V.cells_mk] at h2 hF hB
            rw [List.map_cons, List.map_nil, V.cells_mk] at hts
            replace hF := Lib.hid hF
            replace hB := Lib.hid hB
            generalize hM : (CL.take i).map V.cells = M at *
            replace hM := Lib.hid hM
            repeat' (first | with_reducible refine Go1.go ?_ | ((with_reducible apply ev_go); (focus ((try simp (disch := omega) only [push_cast, simprocAttr, *]); (try exact rfl); done))) | ((with_reducible refine w_drawRN ?_ ?_ ?_ ?_); (iterate 3 (focus kernel_rfl)); intro hne; simp only [nes, ne1, and_assoc] at hne; repeat (have hq := hne.1; replace hne := hne.2)) | ((with_reducible refine And.intro ?_ ?_); (focus exact keep_roE rfl)) | ((with_reducible refine w_last ?_ ?_ ?_); kernel_rfl; rfl) | with_reducible refine Go2.go ?_ | ((with_reducible first | apply w_stepG | refine s_bi ?_ ?_ | refine blk_ne ?_ ?_); rfl) | ((with_reducible refine al_go ?_); intro b) | ((with_reducible apply (ck_le Tryz.call44)); exact LEL.refl _; exact hF.out _) | ((with_reducible apply (ck_le Tryz.call45)); exact LEL.refl _; exact hB.out _) | ((with_reducible apply a2_go); (focus (first | assumption | (intro h; cases h))); (focus (intro o'; repeat (first | exact ra_h | apply ra_t))); (iterate 2 (focus (first | assumption | exact len_nil | exact len_one rfl | (intro a ha; obtain ⟨x, -, rfl⟩ := List.mem_map.1 ha; first | rfl | simp) | (intro a ha; simp at ha; simp [ha])))); (iterate 2 (focus (first | omega | (simp only [List.length_map, List.length_cons, List.length_nil, List.length_append]; omega)))); intro o' ho') | ((with_reducible first | refine w_region ?_ ?_ | refine w_dra ?_ ?_); kernel_rfl) | ((with_reducible refine Go3.go ?_ ?_); all_goals (intro hb; (try with_reducible intro hb1); (try (exfalso; first | contradiction | omega)))) | fail)
            refine ⟨i + 1, .box b10 28 [.i v, .sl o' ((CL.take (i + 1)).map V.cells)] :: .box b8 77 [.sl .shared XS, .sl .shared XC] :: .box b6 28 [.i 0, .sl .tight []] :: .room o' 42 4 ((CL.take (i + 1)).map V.cells).length :: st, ?_, ⟨hlt, ?_, ?_, ?_, ?_, ?_, ?_, ?_, o', ho', rfl⟩, by omega⟩
            · rw [hts.out]
              exact .cons _ (.cons _ (List.Sublist.refl _))
            all_goals (first | rfl | assumption | omega | (simp (disch := omega) only [push_cast, simprocAttr, *]; try omega; done))
          | false =>
            rw [if_neg Bool.false_ne_true] at hcy
            dsimp only at hsn hcy
            have hts := Lib.hid (congrArg (List.map V.cells) (take_snoc' hcy))
            rw [List.map_append] at hts
            have hB := valCopyF dv.nodes dv (Nat.le_refl _) (by omega)
            clear hcy hsn
            cases dv with
            | mk k n sv lv =>
            cases u with
            | mk k' n' sv' lv' =>
            rw [Sl.cells_mk] at h1 hF
            rw [V.cells_mk] at h2 hF hB
            replace hF := Lib.hid hF
            rw [List.map_cons, List.map_nil, V.cells_mk] at hts
            replace hB := Lib.hid hB
            generalize hM : (CL.take i).map V.cells = M at *
            replace hM := Lib.hid hM
            repeat' (first | with_reducible refine Go1.go ?_ | ((with_reducible apply ev_go); (focus ((try simp (disch := omega) only [push_cast, simprocAttr, *]); (try exact rfl); done))) | ((with_reducible refine w_drawRN ?_ ?_ ?_ ?_); (iterate 3 (focus kernel_rfl)); intro hne; simp only [nes, ne1, and_assoc] at hne; repeat (have hq := hne.1; replace hne := hne.2)) | ((with_reducible refine And.intro ?_ ?_); (focus exact keep_roE rfl)) | ((with_reducible refine w_last ?_ ?_ ?_); kernel_rfl; rfl) | with_reducible refine Go2.go ?_ | ((with_reducible first | apply w_stepG | refine s_bi ?_ ?_ | refine blk_ne ?_ ?_); rfl) | ((with_reducible refine al_go ?_); intro b) | ((with_reducible apply (ck_le Tryz.call44)); exact LEL.refl _; exact hF.out _) | ((with_reducible apply (ck_le Tryz.call45)); exact LEL.refl _; exact hB.out _) | ((with_reducible apply a2_go); (focus (first | assumption | (intro h; cases h))); (focus (intro o'; repeat (first | exact ra_h | apply ra_t))); (iterate 2 (focus (first | assumption | exact len_nil | exact len_one rfl | (intro a ha; obtain ⟨x, -, rfl⟩ := List.mem_map.1 ha; first | rfl | simp) | (intro a ha; simp at ha; simp [ha])))); (iterate 2 (focus (first | omega | (simp only [List.length_map, List.length_cons, List.length_nil, List.length_append]; omega)))); intro o' ho') | ((with_reducible first | refine w_region ?_ ?_ | refine w_dra ?_ ?_); kernel_rfl) | ((with_reducible refine Go3.go ?_ ?_); all_goals (intro hb; (try with_reducible intro hb1); (try (exfalso; first | contradiction | omega)))) | fail)
            refine ⟨i + 1, .box b10 28 [.i v, .sl o' ((CL.take (i + 1)).map V.cells)] :: .box b8 77 [.sl .shared XS, .sl .shared XC] :: .box b6 28 [.i 0, .sl .tight []] :: .room o' 42 4 ((CL.take (i + 1)).map V.cells).length :: st, ?_, ⟨hlt, ?_, ?_, ?_, ?_, ?_, ?_, ?_, o', ho', rfl⟩, by omega⟩
            · rw [hts.out]
              exact .cons _ (.cons _ (List.Sublist.refl _))
            all_goals (first | rfl | assumption | omega | (simp (disch := omega) only [push_cast, simprocAttr, *]; try omega; done))
        · rw [show rs[i]? = none from List.getElem?_eq_none (by omega), Sch.one] at hcy
          cases s with
          | mk snm ty rq dv =>
          dsimp only at hsn hcy
          have hts := Lib.hid (congrArg (List.map V.cells) (take_snoc' hcy))
          rw [List.map_append] at hts
          have hB := valCopyF dv.nodes dv (Nat.le_refl _) (by omega)
          clear hcy hsn
          cases dv with
          | mk k n sv lv =>
          rw [Sl.cells_mk] at h1
          rw [V.cells_mk] at hB
          rw [List.map_cons, List.map_nil, V.cells_mk] at hts
          replace hB := Lib.hid hB
          generalize hM : (CL.take i).map V.cells = M at *
          replace hM := Lib.hid hM
          repeat' (first | with_reducible refine Go1.go ?_ | ((with_reducible apply ev_go); (focus ((try simp (disch := omega) only [push_cast, simprocAttr, *]); (try exact rfl); done))) | ((with_reducible refine w_drawRN ?_ ?_ ?_ ?_); (iterate 3 (focus kernel_rfl)); intro hne; simp only [nes, ne1, and_assoc] at hne; repeat (have hq := hne.1; replace hne := hne.2)) | ((with_reducible refine And.intro ?_ ?_); (focus exact keep_roE rfl)) | ((with_reducible refine w_last ?_ ?_ ?_); kernel_rfl; rfl) | with_reducible refine Go2.go ?_ | ((with_reducible first | apply w_stepG | refine s_bi ?_ ?_ | refine blk_ne ?_ ?_); rfl) | ((with_reducible refine al_go ?_); intro b) | ((with_reducible apply (ck_le Tryz.call45)); exact LEL.refl _; exact hB.out _) | ((with_reducible apply a2_go); (focus (first | assumption | (intro h; cases h))); (focus (intro o'; repeat (first | exact ra_h | apply ra_t))); (iterate 2 (focus (first | assumption | exact len_nil | exact len_one rfl | (intro a ha; obtain ⟨x, -, rfl⟩ := List.mem_map.1 ha; first | rfl | simp) | (intro a ha; simp at ha; simp [ha])))); (iterate 2 (focus (first | omega | (simp only [List.length_map, List.length_cons, List.length_nil, List.length_append]; omega)))); intro o' ho') | ((with_reducible first | refine w_region ?_ ?_ | refine w_dra ?_ ?_); kernel_rfl) | ((with_reducible refine Go3.go ?_ ?_); all_goals (intro hb; (try with_reducible intro hb1); (try (exfalso; first | contradiction | omega)))) | fail)
          refine ⟨i + 1, .box b10 28 [.i v, .sl o' ((CL.take (i + 1)).map V.cells)] :: .box b8 77 [.sl .shared XS, .sl .shared XC] :: .box b6 28 [.i 0, .sl .tight []] :: .room o' 42 4 ((CL.take (i + 1)).map V.cells).length :: st, ?_, ⟨hlt, ?_, ?_, ?_, ?_, ?_, ?_, ?_, o', ho', rfl⟩, by omega⟩
          · rw [hts.out]
            exact .cons _ (.cons _ (List.Sublist.refl _))
          all_goals (first | rfl | assumption | omega | (simp (disch := omega) only [push_cast, simprocAttr, *]; try omega; done))
      · have hil : i = sl.length := by omega
        have hCL : Hid ((CL.take i).map V.cells = CL.map V.cells) := Lib.hid (by rw [List.take_of_length_le (by omega)])
        rw [hCL.out]
        replace hil := Lib.hid hil
        generalize hM : CL.map V.cells = M at *
        have hM2 := Lib.hid hM
        repeat' (first | with_reducible refine Go1.go ?_ | ((with_reducible apply ev_go); (focus ((try simp (disch := omega) only [push_cast, simprocAttr, *]); (try exact rfl); done))) | ((with_reducible refine w_last ?_ ?_ ?_); kernel_rfl; rfl) | with_reducible refine Go2.go ?_ | ((with_reducible first | apply w_stepG | refine s_bi ?_ ?_ | refine blk_ne ?_ ?_); rfl) | ((with_reducible refine al_go ?_); intro b) | ((with_reducible apply a2_go); (focus (first | assumption | (intro h; cases h))); (focus (intro o'; repeat (first | exact ra_h | apply ra_t))); (iterate 2 (focus (first | assumption | exact len_nil | exact len_one rfl | (intro a ha; obtain ⟨x, -, rfl⟩ := List.mem_map.1 ha; first | rfl | simp) | (intro a ha; simp at ha; simp [ha])))); (iterate 2 (focus (first | omega | (simp only [List.length_map, List.length_cons, List.length_nil, List.length_append]; omega)))); intro o' ho') | ((with_reducible first | refine w_region ?_ ?_ | refine w_dra ?_ ?_); kernel_rfl) | ((with_reducible refine Go3.go ?_ ?_); all_goals (intro hb; (try with_reducible intro hb1); (try (exfalso; first | contradiction | omega)))) | fail)
        all_goals (refine retG_mk (rs := []) (by first | exact .inl rfl | exact .inr rfl) (by first | rfl | assumption) (List.Perm.refl _) ⟨_, _, rfl, cell_mk (by simp (disch := omega) only [push_cast, simprocAttr, *]; exact rfl) (by repeat (first | exact mm_h | apply mm_t)) (by simp (disch := omega) only [push_cast, simprocAttr, *]; exact rfl) (by (try simp (disch := omega) only [push_cast, simprocAttr, *]); (try exact rfl); done), (by show _ = _; (try simp (disch := omega) only [push_cast, simprocAttr, *]); (try exact rfl); done)⟩ (by (repeat (first | exact List.Sublist.refl _ | with_reducible apply List.Sublist.cons_cons | apply List.Sublist.cons))) (retC2 v o M 0) ⟨?_, rfl⟩)
        all_goals (rw [← hM2.out]; rfl)
end Go.Proofs.YtooaagmhgakhgaaGreat
end

section
namespace Go.Proofs.YtooaagmhgakhgaaGreat
set_option linter.unusedSimpArgs false
attribute [local push_cast] encB encI encC V.cells_mk V.cells_len Nat.mul_one Int.sub_zero List.map_nil beq_self_eq_true List.head?_cons
open Go.RowKit
set_option maxRecDepth 10000
set_option maxHeartbeats 4000000
namespace Sch
def nums (a b : Int) : List Int := if b < a then (List.range (a - b).toNat).map (fun i : Nat => a - ((i : Int) + 1)) else (List.range (b - a).toNat).map fun i : Nat => a + ((i : Int) + 1)
theorem nums_up {a b : Int} (h : a ≤ b) : (nums a b).length = (b - a).toNat ∧ ∀ i : Nat, i < (b - a).toNat → (nums a b)[i]? = some (a + ((i : Int) + 1)) := by
  unfold nums
  rw [if_neg (by omega)]
  refine ⟨by simp, fun i hi => ?_⟩
  rw [List.getElem?_map, List.getElem?_range hi]; rfl
theorem nums_down {a b : Int} (h : b < a) : (nums a b).length = (a - b).toNat ∧ ∀ i : Nat, i < (a - b).toNat → (nums a b)[i]? = some (a - ((i : Int) + 1)) := by
  unfold nums
  rw [if_pos h]
  refine ⟨by simp, fun i hi => ?_⟩
  rw [List.getElem?_map, List.getElem?_range hi]; rfl
end Sch
theorem castBetweenF (a b : Int) (st : St) : TrF Tryz.prog 33 [.i a, .i b] st fun d st' => d = .fn (.func 48) [] [.ip [.i b], .ip [.i a]] ∧ st' = st := by
  refine trF_enter (ts := [4]) Tryz.func33 rfl (by rw [Tryz.ntmps33]; exact Nat.le_of_ble_eq_true rfl) (fun tmps w => by simp [results, Tryz.results33, go_sem, resVal]) ?_
  simp only [Tryz.ntmps33]
  repeat' (first | with_reducible refine Go1.go ?_ | ((with_reducible apply ev_go); (focus ((try simp (disch := omega) only [push_cast, simprocAttr, *]); (try exact rfl); done))) | ((with_reducible refine w_last ?_ ?_ ?_); kernel_rfl; rfl) | with_reducible refine Go2.go ?_ | ((with_reducible first | apply w_stepG | refine s_bi ?_ ?_ | refine blk_ne ?_ ?_); rfl) | ((with_reducible refine al_go ?_); intro b) | ((with_reducible first | refine w_region ?_ ?_ | refine w_dra ?_ ?_); kernel_rfl) | ((with_reducible refine Go3.go ?_ ?_); all_goals (intro hb; (try with_reducible intro hb1); (try (exfalso; first | contradiction | omega)))) | fail)
  all_goals (refine ret_eq (by simp) (by first | rfl | assumption) (by (repeat (first | exact List.Sublist.refl _ | apply List.Sublist.cons))) ?_; (try simp (disch := omega) only [push_cast, simprocAttr, *]); try (first | exact LE.refl _ | exact LE.sl _ _ | ((first | refine LE.tup ?_ | refine LE.agg ?_); (repeat' (first | exact LEL.nil | refine LEL.cons ?_ ?_ | exact LE.refl _ | exact LE.sl _ _ | refine LE.agg ?_)); done) | refine LE.of_eq ?_))
theorem betweenIter (a b : Int) (ha : -100000 ≤ a ∧ a ≤ 100000) (hb : -100000 ≤ b ∧ b ≤ 100000) : IterC Tryz.prog 48 [.ip [.i b], .ip [.i a]] (fun n : Int => [.i n]) (Sch.nums a b) [] (fun K => K = []) (fun _ K => K = []) := by
  intro l C J Jx hY hJ
  have HY := Lib.hid hY
  have HJ := Lib.hid hJ
  clear hY hJ
  obtain ⟨ha1, ha2⟩ := ha
  obtain ⟨hb1, hb2⟩ := hb
  rcases Int.lt_or_le b a with h | h
  · obtain ⟨hl, hg⟩ := Sch.nums_down h
    have hg2 := Lib.hid hg
    clear hg
    generalize Sch.nums a b = L at *
    obtain ⟨m, hm⟩ : ∃ m : Nat, (a - b).toNat = m := ⟨_, rfl⟩
    rw [hm] at hl hg2
    have hab : a - b = (m : Int) := by omega
    clear hm
    replace hl := Lib.hid hl
    refine trF_enter (ts := []) Tryz.func48 rfl (by rw [Tryz.ntmps48]; exact Nat.le_of_ble_eq_true rfl) (fun tmps w => by simp [results, Tryz.results48, go_sem, resVal]) ?_
    simp only [Tryz.ntmps48]
    refine tr_perm (st' := C) (.refl _) ?_
    repeat' (first | with_reducible refine Go1.go ?_ | ((with_reducible apply ev_go); (focus ((try simp (disch := omega) only [push_cast, simprocAttr, *]); (try exact rfl); done))) | ((with_reducible refine w_last ?_ ?_ ?_); kernel_rfl; rfl) | with_reducible refine Go2.go ?_ | ((with_reducible first | apply w_stepG | refine s_bi ?_ ?_ | refine blk_ne ?_ ?_); rfl) | ((with_reducible refine al_go ?_); intro b) | ((with_reducible first | refine w_region ?_ ?_ | refine w_dra ?_ ?_); kernel_rfl) | ((with_reducible refine Go3.go ?_ ?_); all_goals (intro hb; (try with_reducible intro hb1); (try (exfalso; first | contradiction | omega)))) | fail)
    refine tr_loopd (ι := Nat) (fun i A st' => ∃ C', i ≤ m ∧ Hid (J i C') ∧ A.df = [] ∧ A.e 0 = .fn (.yield l) [] [] ∧ A.e 1 = .ip [.i b] ∧ A.e 4 = .i (-1) ∧ (∃ n : Int, n = a - (i : Int) ∧ A.e 5 = .i n) ∧ st' = C') (fun i => m - i) 0 ⟨C, Nat.zero_le _, HJ, ?_, ?_, ?_, ?_, ⟨a, by omega, ?_⟩, rfl⟩ ?_
    iterate 5 (focus (first | rfl | assumption | omega | (simp (disch := omega) only [push_cast, simprocAttr, *]; try omega; done)))
    rintro i A st' ⟨C', hi, hJi, hdf, e0, e1, e4, ⟨n, hn, e5⟩, rfl⟩
    by_cases hlt : i < m
    · have hx := hg2.out i hlt
      obtain ⟨n2, hn2⟩ : ∃ n2, n2 = a - ((i : Int) + 1) := ⟨_, rfl⟩
      rw [← hn2] at hx
      have hnn : n + (-1) = n2 := by omega
      have hnb : ¬ n = b := by omega
      have hbd : -200000 ≤ n2 ∧ n2 ≤ 200000 := by omega
      obtain ⟨hbd1, hbd2⟩ := hbd
      have hn2' : n2 = a - ((i + 1 : Nat) : Int) := by omega
      replace hn2 := Lib.hid hn2
      replace hn2' := Lib.hid hn2'
      replace hn := Lib.hid hn
      replace hx := Lib.hid hx
      repeat' (first | with_reducible refine Go1.go ?_ | ((with_reducible apply ev_go); (focus ((try simp (disch := omega) only [push_cast, simprocAttr, *]); (try exact rfl); done))) | ((with_reducible apply (s_yield HY.out hJi.out hx.out)); (focus ((try simp (disch := omega) only [push_cast, simprocAttr, *]); (try exact rfl); done)); (focus ((try simp (disch := omega) only [push_cast, simprocAttr, *]); (try exact rfl); done)); (focus first | exact LEL.refl _ | ((repeat' (first | exact LEL.nil | refine LEL.cons ?_ ?_ | exact LE.refl _ | exact LE.sl _ _ | refine LE.agg ?_)); done)); (focus (repeat (first | exact tl_nil | apply tl_cons)); done); all_goals (intro C' hC')) | ((with_reducible refine w_last ?_ ?_ ?_); kernel_rfl; rfl) | with_reducible refine Go2.go ?_ | ((with_reducible first | apply w_stepG | refine s_bi ?_ ?_ | refine blk_ne ?_ ?_); rfl) | ((with_reducible refine al_go ?_); intro b) | ((with_reducible first | refine w_region ?_ ?_ | refine w_dra ?_ ?_); kernel_rfl) | ((with_reducible refine Go3.go ?_ ?_); all_goals (intro hb; (try with_reducible intro hb1); (try (exfalso; first | contradiction | omega)))) | fail)
      · exact ⟨i + 1, _, List.Sublist.refl _, ⟨_, hlt, hC', by (first | rfl | assumption | omega | (simp (disch := omega) only [push_cast, simprocAttr, *]; try omega; done)), by (first | rfl | assumption | omega | (simp (disch := omega) only [push_cast, simprocAttr, *]; try omega; done)), by (first | rfl | assumption | omega | (simp (disch := omega) only [push_cast, simprocAttr, *]; try omega; done)), by (first | rfl | assumption | omega | (simp (disch := omega) only [push_cast, simprocAttr, *]; try omega; done)), ⟨n2, hn2'.out, by (first | rfl | assumption | omega | (simp (disch := omega) only [push_cast, simprocAttr, *]; try omega; done))⟩, rfl⟩, by omega⟩
      · exact retA_mk (by first | exact .inl rfl | exact .inr rfl) (by first | rfl | assumption) (List.Sublist.refl _) (LE.refl _) ⟨[], _, rfl, .inr ⟨_, rfl, hC'⟩⟩
    · have hnb : n = b := by omega
      have him : Hid (i = m) := Lib.hid (by omega)
      subst hnb
      replace hn := Lib.hid hn
      have hL : Hid (L.length = i) := Lib.hid (hl.out.trans him.out.symm)
      repeat' (first | with_reducible refine Go1.go ?_ | ((with_reducible apply ev_go); (focus ((try simp (disch := omega) only [push_cast, simprocAttr, *]); (try exact rfl); done))) | ((with_reducible refine w_last ?_ ?_ ?_); kernel_rfl; rfl) | with_reducible refine Go2.go ?_ | ((with_reducible first | apply w_stepG | refine s_bi ?_ ?_ | refine blk_ne ?_ ?_); rfl) | ((with_reducible refine al_go ?_); intro b) | ((with_reducible first | refine w_region ?_ ?_ | refine w_dra ?_ ?_); kernel_rfl) | ((with_reducible refine Go3.go ?_ ?_); all_goals (intro hb; (try with_reducible intro hb1); (try (exfalso; first | contradiction | omega)))) | fail)
      all_goals exact retA_mk (by first | exact .inl rfl | exact .inr rfl) (by first | rfl | assumption) (List.Sublist.refl _) (LE.refl _) ⟨[], _, rfl, .inl ⟨rfl, by rw [hL.out]; exact hJi.out⟩⟩
  · obtain ⟨hl, hg⟩ := Sch.nums_up h
    have hg2 := Lib.hid hg
    clear hg
    generalize Sch.nums a b = L at *
    obtain ⟨m, hm⟩ : ∃ m : Nat, (b - a).toNat = m := ⟨_, rfl⟩
    rw [hm] at hl hg2
    have hab : b - a = (m : Int) := by omega
    clear hm
    replace hl := Lib.hid hl
    refine trF_enter (ts := []) Tryz.func48 rfl (by rw [Tryz.ntmps48]; exact Nat.le_of_ble_eq_true rfl) (fun tmps w => by simp [results, Tryz.results48, go_sem, resVal]) ?_
    simp only [Tryz.ntmps48]
    refine tr_perm (st' := C) (.refl _) ?_
    repeat' (first | with_reducible refine Go1.go ?_ | ((with_reducible apply ev_go); (focus ((try simp (disch := omega) only [push_cast, simprocAttr, *]); (try exact rfl); done))) | ((with_reducible refine w_last ?_ ?_ ?_); kernel_rfl; rfl) | with_reducible refine Go2.go ?_ | ((with_reducible first | apply w_stepG | refine s_bi ?_ ?_ | refine blk_ne ?_ ?_); rfl) | ((with_reducible refine al_go ?_); intro b) | ((with_reducible first | refine w_region ?_ ?_ | refine w_dra ?_ ?_); kernel_rfl) | ((with_reducible refine Go3.go ?_ ?_); all_goals (intro hb; (try with_reducible intro hb1); (try (exfalso; first | contradiction | omega)))) | fail)
    refine tr_loopd (ι := Nat) (fun i A st' => ∃ C', i ≤ m ∧ Hid (J i C') ∧ A.df = [] ∧ A.e 0 = .fn (.yield l) [] [] ∧ A.e 1 = .ip [.i b] ∧ A.e 4 = .i 1 ∧ (∃ n : Int, n = a + (i : Int) ∧ A.e 5 = .i n) ∧ st' = C') (fun i => m - i) 0 ⟨C, Nat.zero_le _, HJ, ?_, ?_, ?_, ?_, ⟨a, by omega, ?_⟩, rfl⟩ ?_
    iterate 5 (focus (first | rfl | assumption | omega | (simp (disch := omega) only [push_cast, simprocAttr, *]; try omega; done)))
    rintro i A st' ⟨C', hi, hJi, hdf, e0, e1, e4, ⟨n, hn, e5⟩, rfl⟩
    by_cases hlt : i < m
    · have hx := hg2.out i hlt
      obtain ⟨n2, hn2⟩ : ∃ n2, n2 = a + ((i : Int) + 1) := ⟨_, rfl⟩
      rw [← hn2] at hx
      have hnn : n + 1 = n2 := by omega
      have hnb : ¬ n = b := by omega
      have hbd : -200000 ≤ n2 ∧ n2 ≤ 200000 := by omega
      obtain ⟨hbd1, hbd2⟩ := hbd
      have hn2' : n2 = a + ((i + 1 : Nat) : Int) := by omega
      replace hn2 := Lib.hid hn2
      replace hn2' := Lib.hid hn2'
      replace hn := Lib.hid hn
      replace hx := Lib.hid hx
      repeat' (first | with_reducible refine Go1.go ?_ | ((with_reducible apply ev_go); (focus ((try simp (disch := omega) only [push_cast, simprocAttr, *]); (try exact rfl); done))) | ((with_reducible apply (s_yield HY.out hJi.out hx.out)); (focus ((try simp (disch := omega) only [push_cast, simprocAttr, *]); (try exact rfl); done)); (focus ((try simp (disch := omega) only [push_cast, simprocAttr, *]); (try exact rfl); done)); (focus first | exact LEL.refl _ | ((repeat' (first | exact LEL.nil | refine LEL.cons ?_ ?_ | exact LE.refl _ | exact LE.sl _ _ | refine LE.agg ?_)); done)); (focus (repeat (first | exact tl_nil | apply tl_cons)); done); all_goals (intro C' hC')) | ((with_reducible refine w_last ?_ ?_ ?_); kernel_rfl; rfl) | with_reducible refine Go2.go ?_ | ((with_reducible first | apply w_stepG | refine s_bi ?_ ?_ | refine blk_ne ?_ ?_); rfl) | ((with_reducible refine al_go ?_); intro b) | ((with_reducible first | refine w_region ?_ ?_ | refine w_dra ?_ ?_); kernel_rfl) | ((with_reducible refine Go3.go ?_ ?_); all_goals (intro hb; (try with_reducible intro hb1); (try (exfalso; first | contradiction | omega)))) | fail)
      · exact ⟨i + 1, _, List.Sublist.refl _, ⟨_, hlt, hC', by (first | rfl | assumption | omega | (simp (disch := omega) only [push_cast, simprocAttr, *]; try omega; done)), by (first | rfl | assumption | omega | (simp (disch := omega) only [push_cast, simprocAttr, *]; try omega; done)), by (first | rfl | assumption | omega | (simp (disch := omega) only [push_cast, simprocAttr, *]; try omega; done)), by (first | rfl | assumption | omega | (simp (disch := omega) only [push_cast, simprocAttr, *]; try omega; done)), ⟨n2, hn2'.out, by (first | rfl | assumption | omega | (simp (disch := omega) only [push_cast, simprocAttr, *]; try omega; done))⟩, rfl⟩, by omega⟩
      · exact retA_mk (by first | exact .inl rfl | exact .inr rfl) (by first | rfl | assumption) (List.Sublist.refl _) (LE.refl _) ⟨[], _, rfl, .inr ⟨_, rfl, hC'⟩⟩
    · have hnb : n = b := by omega
      have him : Hid (i = m) := Lib.hid (by omega)
      subst hnb
      replace hn := Lib.hid hn
      have hL : Hid (L.length = i) := Lib.hid (hl.out.trans him.out.symm)
      repeat' (first | with_reducible refine Go1.go ?_ | ((with_reducible apply ev_go); (focus ((try simp (disch := omega) only [push_cast, simprocAttr, *]); (try exact rfl); done))) | ((with_reducible refine w_last ?_ ?_ ?_); kernel_rfl; rfl) | with_reducible refine Go2.go ?_ | ((with_reducible first | apply w_stepG | refine s_bi ?_ ?_ | refine blk_ne ?_ ?_); rfl) | ((with_reducible refine al_go ?_); intro b) | ((with_reducible first | refine w_region ?_ ?_ | refine w_dra ?_ ?_); kernel_rfl) | ((with_reducible refine Go3.go ?_ ?_); all_goals (intro hb; (try with_reducible intro hb1); (try (exfalso; first | contradiction | omega)))) | fail)
      all_goals exact retA_mk (by first | exact .inl rfl | exact .inr rfl) (by first | rfl | assumption) (List.Sublist.refl _) (LE.refl _) ⟨[], _, rfl, .inl ⟨rfl, by rw [hL.out]; exact hJi.out⟩⟩
end Go.Proofs.YtooaagmhgakhgaaGreat
end

section
namespace Go.Proofs.YtooaagmhgakhgaaGreat
set_option linter.unusedSimpArgs false
attribute [local push_cast] encB encI encC V.cells_mk V.cells_len Nat.mul_one Int.sub_zero List.map_nil beq_self_eq_true List.head?_cons
open Go.RowKit
set_option maxRecDepth 10000
set_option maxHeartbeats 4000000
structure ROk (r : Rc) : Prop where
  n : ∀ v ∈ r.s, v.nodes ≤ 1000
  l : r.s.length ≤ 1000
structure TC (t : Tm) : Prop where
  ok : TOk t
  dv : ∀ x ∈ Sch.vers t, ∀ z ∈ x.slots, z.dv.nodes ≤ 1000
namespace Sch
theorem castL_mem {p : V → Prop} : ∀ (a : List Sl) (b : List V), (∀ s ∈ a, p s.dv) → (∀ v ∈ b, p v) → ∀ v ∈ castL a b, p v
  | [], _, _, _, v, h => by rw [castL] at h; cases h
  | s :: a, [], ha, hb, v, h => by
    rw [castL] at h
    rcases List.mem_cons.1 h with rfl | h
    · exact ha s (List.mem_cons_self ..)
    · exact castL_mem a [] (fun s h => ha s (List.mem_cons_of_mem _ h)) hb v h
  | s :: a, u :: b, ha, hb, v, h => by
    rw [castL] at h
    rcases List.mem_cons.1 h with rfl | h
    · split
      · exact hb u (List.mem_cons_self ..)
      · exact ha s (List.mem_cons_self ..)
    · exact castL_mem a b (fun s h => ha s (List.mem_cons_of_mem _ h)) (fun v h => hb v (List.mem_cons_of_mem _ h)) v h
theorem castS_ok {t : Tm} (ht : TC t) {r : Rc} (hr : ROk r) (v : Int) : ROk (castS t r v).1 := by
  have hz : ROk zeroR := ⟨fun v h => (by cases h), Nat.zero_le _⟩
  unfold castS
  split
  · split
    · refine ⟨castL_mem _ _ (verX_slots (v := v) ht.dv) hr.n, ?_⟩
      show (castL _ _).length ≤ 1000
      rw [castL_len]
      have := verX_len t v
      omega
    · exact hz
  · exact hz
def foldS (t : Tm) : Rc → List Int → Rc × Int
  | x, [] => (x, 0)
  | x, n :: l => if (castS t x n).2 = 0 then foldS t (castS t x n).1 l else (zeroR, (castS t x n).2)
end Sch
theorem castTo1F (t : Tm) (ht : TC t) (x : Rc) (hx : ROk x) (n : Int) (st : St) : TrF Tryz.prog 34 [.agg x.cells, .i n, .ip t.cells] st fun d st' => d = .tup [.agg (Sch.castS t x n).1.cells, .i (Sch.castS t x n).2] ∧ st' = st := by
  have hS := castStepF t ht.ok x hx.n (by have := hx.l; omega) ht.dv n
  generalize Sch.castS t x n = q at *
  unfold Tm.cells Rc.cells at *
  generalize t.slots.map Sl.cells = SL at *
  generalize t.steps.map Stp.cells = TL at *
  generalize t.name = nm at *
  generalize x.s.map V.cells = XS at *
  generalize q.1.s.map V.cells = QS at *
  generalize q.1.v = qv at *
  generalize q.2 = qe at *
  generalize x.v = xv at *
  replace hS := Lib.hid hS
  refine trF_enterG (G := twoA Tryz.prog (.cell 5 28) (.tmp 6)) Tryz.func34 rfl (by rw [Tryz.ntmps34]; exact Nat.le_of_ble_eq_true rfl) (fun h1 h2 h3 => res_two rfl h1 h2 h3) ?_
  simp only [Tryz.ntmps34]
  repeat' (first | with_reducible refine Go1.go ?_ | ((with_reducible apply ev_go); (focus ((try simp (disch := omega) only [push_cast, simprocAttr, *]); (try exact rfl); done))) | ((with_reducible refine w_last ?_ ?_ ?_); kernel_rfl; rfl) | with_reducible refine Go2.go ?_ | ((with_reducible first | apply w_stepG | refine s_bi ?_ ?_ | refine blk_ne ?_ ?_); rfl) | ((with_reducible refine al_go ?_); intro b) | ((with_reducible apply (ck_le Tryz.call29)); exact LEL.refl _; exact hS.out _) | ((with_reducible first | refine w_region ?_ ?_ | refine w_dra ?_ ?_); kernel_rfl) | ((with_reducible refine Go3.go ?_ ?_); all_goals (intro hb; (try with_reducible intro hb1); (try (exfalso; first | contradiction | omega)))) | fail)
  all_goals (refine retG_mk (rs := []) (by first | exact .inl rfl | exact .inr rfl) (by first | rfl | assumption) (List.Perm.refl _) ⟨_, _, rfl, cell_mk (by simp (disch := omega) only [push_cast, simprocAttr, *]; exact rfl) (by repeat (first | exact mm_h | apply mm_t)) (by simp (disch := omega) only [push_cast, simprocAttr, *]; exact rfl) (by (try simp (disch := omega) only [push_cast, simprocAttr, *]); (try exact rfl); done), (by show _ = _; (try simp (disch := omega) only [push_cast, simprocAttr, *]); (try exact rfl); done)⟩ (by (repeat (first | exact List.Sublist.refl _ | with_reducible apply List.Sublist.cons_cons | apply List.Sublist.cons))) (LE.refl _) ⟨rfl, rfl⟩)
theorem castFoldF (t : Tm) (ht : TC t) (r : Rc) (hr : ROk r) (a b : Int) (ha : -100000 ≤ a ∧ a ≤ 100000) (hb : -100000 ≤ b ∧ b ≤ 100000) (st : St) : TrF Tryz.prog 32 [.agg r.cells, .fn (.func 48) [] [.ip [.i b], .ip [.i a]], .fn (.func 34) [] [.ip t.cells]] st fun d st' => d = .tup [.agg (Sch.foldS t r (Sch.nums a b)).1.cells, .i (Sch.foldS t r (Sch.nums a b)).2] ∧ st' = st := by
  have hIt := Lib.hid (betweenIter a b ha hb)
  obtain ⟨F, hF⟩ : ∃ F, Sch.foldS t r (Sch.nums a b) = F := ⟨_, rfl⟩
  have HF : Hid (Sch.foldS t r ((Sch.nums a b).drop 0) = F) := hF
  have h1F := Lib.hid (castTo1F t ht)
  have hok := Lib.hid fun (x : Rc) (hx : ROk x) (n : Int) => Sch.castS_ok ht hx n
  rw [hF]
  clear hF
  generalize Sch.nums a b = L at *
  unfold Rc.cells
  generalize hTC : t.cells = TC at *
  replace hTC := Lib.hid hTC
  generalize hR1 : r.s.map V.cells = RS at *
  generalize hR2 : r.v = rv at *
  refine trF_enterG (G := twoA Tryz.prog (.cell 6 28) (.cell 7 31)) Tryz.func32 rfl (by rw [Tryz.ntmps32]; exact Nat.le_of_ble_eq_true rfl) (fun h1 h2 h3 => res_two rfl h1 h2 h3) ?_
  simp only [Tryz.ntmps32]
  repeat' (first | with_reducible refine Go1.go ?_ | ((with_reducible apply ev_go); (focus ((try simp (disch := omega) only [push_cast, simprocAttr, *]); (try exact rfl); done))) | with_reducible refine s_boxP ?_ | ((with_reducible refine w_last ?_ ?_ ?_); kernel_rfl; rfl) | with_reducible refine Go2.go ?_ | ((with_reducible first | apply w_stepG | refine s_bi ?_ ?_ | refine blk_ne ?_ ?_); rfl) | ((with_reducible refine al_go ?_); intro b) | ((with_reducible first | refine w_region ?_ ?_ | refine w_dra ?_ ?_); kernel_rfl) | ((with_reducible refine Go3.go ?_ ?_); all_goals (intro hb; (try with_reducible intro hb1); (try (exfalso; first | contradiction | omega)))) | fail)
  rename_i b3 b5 b6
  obtain ⟨b7, rfl⟩ : ∃ q, q = b := ⟨_, rfl⟩
  have hstep : Hid (∀ (x : Rc) (i : Nat) (n : Int), L[i]? = some n → Sch.foldS t x (L.drop i) = if (Sch.castS t x n).2 = 0 then Sch.foldS t (Sch.castS t x n).1 (L.drop (i + 1)) else (Sch.zeroR, (Sch.castS t x n).2)) := fun x i n h => by
    rw [V.drop_cons h, Sch.foldS]
  refine tr_perm (st' := [] ++ (.box b7 31 [.i 0] :: .box b6 28 [.i 0, .sl .tight []] :: .box b5 67 [.fn (.func 34) [] [.ip TC]] :: .box b3 28 [.i rv, .sl .shared RS] :: st)) (.refl _) ?_
  refine tr_rangeS hIt.out Tryz.call48 (by (try simp (disch := omega) only [push_cast, simprocAttr, *]); (try exact rfl); done) (fun _ => rfl) rfl (fun i C => ∃ x : Rc, Hid (F = Sch.foldS t x (L.drop i)) ∧ ROk x ∧ C = .box b7 31 [.i 0] :: .box b6 28 [.i 0, .sl .tight []] :: .box b5 67 [.fn (.func 34) [] [.ip TC]] :: .box b3 28 x.cells :: st)
    (fun c i C => c = .ret ∧ ∃ (e : Int) (x : Rc), Hid (F = (Sch.zeroR, e)) ∧ C = .box b7 31 [.i e] :: .box b6 28 [.i 0, .sl .tight []] :: .box b5 67 [.fn (.func 34) [] [.ip TC]] :: .box b3 28 x.cells :: st)
    ⟨r, HF.out.symm, hr, by unfold Rc.cells; rw [hR1, hR2]⟩ ?_ ?_ ?_ ?_
  · rintro i n C hx ⟨x, hFx, hxo, rfl⟩
    have h1 := hFx.out
    rw [hstep.out x i n hx] at h1
    by_cases he : (Sch.castS t x n).2 = 0
    · rw [if_pos he] at h1
      exact .inl ⟨_, _, h1, hok.out x hxo n, rfl⟩
    · rw [if_neg he] at h1
      exact .inr ⟨.ret, _, rfl, _, x, h1, rfl⟩
  · rintro l i n C K hx ⟨x, hFx, hxo, rfl⟩
    have h1 := hFx.out
    rw [hstep.out x i n hx] at h1
    have hG := h1F.out x hxo n
    have hok2 := hok.out x hxo n
    clear hFx hstep hok h1F HF hIt
    generalize Sch.castS t x n = q at *
    obtain ⟨y, e⟩ := q
    dsimp only at h1 hG hok2
    unfold Rc.cells at hG ⊢
    obtain ⟨ys, hys⟩ : ∃ ys, y.s.map V.cells = ys := ⟨_, rfl⟩
    obtain ⟨yv, hyv⟩ : ∃ yv, y.v = yv := ⟨_, rfl⟩
    rw [hys, hyv] at hG
    generalize hxs : x.s.map V.cells = XS at *
    replace hxs := Lib.hid hxs
    generalize hxv : x.v = xv at *
    replace hxv := Lib.hid hxv
    replace hys := Lib.hid hys
    replace hyv := Lib.hid hyv
    replace hG := Lib.hid hG
    replace h1 := Lib.hid h1
    refine (?_ : Tr _ _ _ _ (AA.put ⟨_, []⟩ (some 13) (.i n)) (.box b7 31 [.i 0] :: .box b6 28 [.i 0, .sl .tight []] :: .box b5 67 [.fn (.func 34) [] [.ip TC]] :: .box b3 28 [.i xv, .sl .shared XS] :: (st ++ K)) _)
    repeat' (first | with_reducible refine Go1.go ?_ | ((with_reducible apply ev_go); (focus ((try simp (disch := omega) only [push_cast, simprocAttr, *]); (try exact rfl); done))) | ((with_reducible refine w_last ?_ ?_ ?_); kernel_rfl; rfl) | with_reducible refine Go2.go ?_ | ((with_reducible first | apply w_stepG | refine s_bi ?_ ?_ | refine blk_ne ?_ ?_); rfl) | ((with_reducible refine al_go ?_); intro b) | ((with_reducible first | refine w_region ?_ ?_ | refine w_dra ?_ ?_); kernel_rfl) | ((with_reducible refine Go3.go ?_ ?_); all_goals (intro hb; (try with_reducible intro hb1); (try (exfalso; first | contradiction | omega)))) | fail)
    refine ⟨.box b7 31 [.i 0] :: .box b6 28 [.i 0, .sl .tight []] :: .box b5 67 [.fn (.func 34) [] [.ip TC]] :: .box b3 28 [.i xv, .sl .shared XS] :: st, List.Sublist.refl _, fun K' => ?_⟩
    refine (?_ : Tr _ _ _ _ _ (.box b7 31 [.i 0] :: .box b6 28 [.i 0, .sl .tight []] :: .box b5 67 [.fn (.func 34) [] [.ip TC]] :: .box b3 28 [.i xv, .sl .shared XS] :: (st ++ K')) _)
    repeat' (first | with_reducible refine Go1.go ?_ | ((with_reducible apply ev_go); (focus ((try simp (disch := omega) only [push_cast, simprocAttr, *]); (try exact rfl); done))) | ((with_reducible refine w_last ?_ ?_ ?_); kernel_rfl; rfl) | with_reducible refine Go2.go ?_ | ((with_reducible first | apply w_stepG | refine s_bi ?_ ?_ | refine blk_ne ?_ ?_); rfl) | ((with_reducible refine al_go ?_); intro b) | ((with_reducible apply (ck_le Tryz.call34)); exact LEL.refl _; exact hG.out _) | ((with_reducible first | refine w_region ?_ ?_ | refine w_dra ?_ ?_); kernel_rfl) | ((with_reducible refine Go3.go ?_ ?_); all_goals (intro hb; (try with_reducible intro hb1); (try (exfalso; first | contradiction | omega)))) | fail)
    · have h2 := h1.out
      rw [if_neg (by assumption)] at h2
      exact ⟨.box b7 31 [.i e] :: .box b6 28 [.i 0, .sl .tight []] :: .box b5 67 [.fn (.func 34) [] [.ip TC]] :: .box b3 28 [.i xv, .sl .shared XS] :: st, .cons _ (.cons _ (List.Sublist.refl _)), rfl, e, x, h2, by rw [hxs.out, hxv.out]⟩
    · have h2 := h1.out
      rw [if_pos (by assumption)] at h2
      exact ⟨.box b7 31 [.i 0] :: .box b6 28 [.i 0, .sl .tight []] :: .box b5 67 [.fn (.func 34) [] [.ip TC]] :: .box b3 28 [.i yv, .sl .shared ys] :: st, .cons _ (List.Sublist.refl _), y, h2, hok2, by rw [hys.out, hyv.out]⟩
  · rintro d K1 C' rfl ⟨x, hFx, hxo, rfl⟩
    have h1 := hFx.out
    rw [List.drop_of_length_le (Nat.le_refl _), Sch.foldS] at h1
    subst h1
    clear hFx hstep hok h1F HF hIt
    unfold Rc.cells
    dsimp only
    generalize x.s.map V.cells = XS at *
    generalize x.v = xv at *
    change Tr _ _ _ _ _ _ _
    repeat' (first | with_reducible refine Go1.go ?_ | ((with_reducible apply ev_go); (focus ((try simp (disch := omega) only [push_cast, simprocAttr, *]); (try exact rfl); done))) | ((with_reducible refine w_last ?_ ?_ ?_); kernel_rfl; rfl) | with_reducible refine Go2.go ?_ | ((with_reducible first | apply w_stepG | refine s_bi ?_ ?_ | refine blk_ne ?_ ?_); rfl) | ((with_reducible refine al_go ?_); intro b) | ((with_reducible first | refine w_region ?_ ?_ | refine w_dra ?_ ?_); kernel_rfl) | ((with_reducible refine Go3.go ?_ ?_); all_goals (intro hb; (try with_reducible intro hb1); (try (exfalso; first | contradiction | omega)))) | fail)
    all_goals exact retG_mk (rs := [d]) (s2 := .box b7 31 [.i 0] :: .box b6 28 [.i xv, .sl .shared XS] :: .box b5 67 [.fn (.func 34) [] [.ip TC]] :: .box b3 28 [.i xv, .sl .shared XS] :: st) (by first | exact .inl rfl | exact .inr rfl) rfl (List.Perm.refl _) ⟨_, _, rfl, cell_mk (by simp (disch := omega) only [push_cast, simprocAttr, *]; exact rfl) (by repeat (first | exact mm_h | apply mm_t)) (by simp (disch := omega) only [push_cast, simprocAttr, *]; exact rfl) (by (try simp (disch := omega) only [push_cast, simprocAttr, *]); (try exact rfl); done), cell_mk (by simp (disch := omega) only [push_cast, simprocAttr, *]; exact rfl) (by repeat (first | exact mm_h | apply mm_t)) (by simp (disch := omega) only [push_cast, simprocAttr, *]; exact rfl) (by (try simp (disch := omega) only [push_cast, simprocAttr, *]); (try exact rfl); done)⟩ (by (repeat (first | exact List.Sublist.refl _ | with_reducible apply List.Sublist.cons_cons | apply List.Sublist.cons))) (LE.refl _) ⟨rfl, rfl⟩
  · rintro c d i K1 C' rfl ⟨rfl, e, x, hFx, rfl⟩
    have h1 := hFx.out
    subst h1
    clear hFx hstep hok h1F HF hIt
    unfold Rc.cells Sch.zeroR
    dsimp only
    generalize x.s.map V.cells = XS at *
    generalize x.v = xv at *
    repeat' (first | with_reducible refine Go1.go ?_ | ((with_reducible apply ev_go); (focus ((try simp (disch := omega) only [push_cast, simprocAttr, *]); (try exact rfl); done))) | ((with_reducible refine w_last ?_ ?_ ?_); kernel_rfl; rfl) | with_reducible refine Go2.go ?_ | ((with_reducible first | apply w_stepG | refine s_bi ?_ ?_ | refine blk_ne ?_ ?_); rfl) | ((with_reducible refine al_go ?_); intro b) | ((with_reducible first | refine w_region ?_ ?_ | refine w_dra ?_ ?_); kernel_rfl) | ((with_reducible refine Go3.go ?_ ?_); all_goals (intro hb; (try with_reducible intro hb1); (try (exfalso; first | contradiction | omega)))) | fail)
    all_goals exact retG_mk (rs := [d]) (s2 := .box b7 31 [.i e] :: .box b6 28 [.i 0, .sl .tight []] :: .box b5 67 [.fn (.func 34) [] [.ip TC]] :: .box b3 28 [.i xv, .sl .shared XS] :: st) (by first | exact .inl rfl | exact .inr rfl) rfl (List.Perm.refl _) ⟨_, _, rfl, cell_mk (by simp (disch := omega) only [push_cast, simprocAttr, *]; exact rfl) (by repeat (first | exact mm_h | apply mm_t)) (by simp (disch := omega) only [push_cast, simprocAttr, *]; exact rfl) (by (try simp (disch := omega) only [push_cast, simprocAttr, *]); (try exact rfl); done), cell_mk (by simp (disch := omega) only [push_cast, simprocAttr, *]; exact rfl) (by repeat (first | exact mm_h | apply mm_t)) (by simp (disch := omega) only [push_cast, simprocAttr, *]; exact rfl) (by (try simp (disch := omega) only [push_cast, simprocAttr, *]); (try exact rfl); done)⟩ (by (repeat (first | exact List.Sublist.refl _ | with_reducible apply List.Sublist.cons_cons | apply List.Sublist.cons))) (LE.tup (l' := [.agg [.i 0, .sl .shared []], .i e]) ⟨LE.agg (l := [.i 0, .sl .tight []]) ⟨LE.refl _, LE.sl _ _, trivial⟩, LE.refl _, trivial⟩) ⟨rfl, rfl⟩
end Go.Proofs.YtooaagmhgakhgaaGreat
end

section
namespace Go.Proofs.YtooaagmhgakhgaaGreat
set_option linter.unusedSimpArgs false
attribute [local push_cast] encB encI encC V.cells_mk V.cells_len Nat.mul_one Int.sub_zero List.map_nil beq_self_eq_true List.head?_cons
open Go.RowKit
set_option maxRecDepth 10000
set_option maxHeartbeats 4000000
namespace Sch
def toS (t : Tm) (r : Rc) (v : Int) (may : Bool) : Rc × Int :=
  if valid t r = true then (if 1 ≤ v ∧ v ≤ last t ∧ may = true then foldS t (castS t r r.v).1 (nums r.v v) else (zeroR, 7)) else (zeroR, 1)
theorem ver_bounds {t : Tm} {v : Int} {x : Vr} (h : ver t v = some x) : 1 ≤ v ∧ v ≤ 9 := by
  unfold ver at h
  split at h
  · rename_i hc
    have h1 := (List.getElem?_eq_some_iff.1 h).1
    have := (vers_len t).2
    omega
  · cases h
theorem valid_bounds {t : Tm} {r : Rc} (h : valid t r = true) : 1 ≤ r.v ∧ r.v ≤ 9 := by
  unfold valid verB at h
  rw [Bool.and_eq_true] at h
  obtain ⟨x, hx⟩ := Option.isSome_iff_exists.1 h.1
  exact ver_bounds hx
theorem last_le (t : Tm) : last t ≤ 9 := by
  have := (vers_len t).2
  unfold last
  split
  · omega
  · exact Nat.zero_le _
end Sch
theorem castToF (t : Tm) (ht : TC t) (r : Rc) (hr : ROk r) (v : Int) (g : FuncId) (caps : List D) (may : Bool) (hgc : ∀ args w, (callFunc g args).run Tryz.prog w = .ok (.enter g args) w) (hM : ∀ st, TrF Tryz.prog g (.i (Sch.last t) :: caps) st fun d st' => d = .b may ∧ st' = st) (st : St) :
    TrF Tryz.prog 20 [.agg t.cells, .agg r.cells, .i v, .fn (.func g) [] caps] st fun d st' => d = .tup [.agg (Sch.toS t r v may).1.cells, .i (Sch.toS t r v may).2] ∧ st' = st := by
  have hV := recValidF t ht.ok r hr.n (by have := hr.l; omega)
  have hL := schLastF t ht.ok
  have hS := castStepF t ht.ok r hr.n (by have := hr.l; omega) ht.dv r.v
  have hok := Sch.castS_ok ht hr r.v
  have hFo : Hid (Sch.valid t r = true → 1 ≤ v ∧ v ≤ Sch.last t → ∀ st, TrF Tryz.prog 32 [.agg (Sch.castS t r r.v).1.cells, .fn (.func 48) [] [.ip [.i v], .ip [.i r.v]], .fn (.func 34) [] [.ip t.cells]] st fun d st' => d = .tup [.agg (Sch.foldS t (Sch.castS t r r.v).1 (Sch.nums r.v v)).1.cells, .i (Sch.foldS t (Sch.castS t r r.v).1 (Sch.nums r.v v)).2] ∧ st' = st) := fun h1 h2 => by
    have h3 := Sch.valid_bounds h1
    have h4 := Sch.last_le t
    exact castFoldF t ht _ hok r.v v (by omega) (by omega)
  have hB := Lib.hid (castBetweenF r.v v)
  have hll := Sch.last_le t
  unfold Sch.toS
  generalize hf : Sch.foldS t (Sch.castS t r r.v).1 (Sch.nums r.v v) = fo at *
  generalize Sch.castS t r r.v = q at *
  generalize Sch.valid t r = ok at *
  generalize Sch.last t = la at *
  clear hf hok
  unfold Tm.cells Rc.cells at *
  generalize t.slots.map Sl.cells = SL at *
  generalize t.steps.map Stp.cells = TL at *
  generalize t.name = nm at *
  cases r with
  | mk rv rs =>
  cases q with
  | mk qr qe =>
  cases qr with
  | mk qv qs =>
  dsimp only at hV hS hFo hB ⊢
  generalize rs.map V.cells = RS at *
  generalize qs.map V.cells = QS at *
  replace hV := Lib.hid hV
  replace hL := Lib.hid hL
  replace hS := Lib.hid hS
  replace hM := Lib.hid hM
  have hgc2 := Lib.hid hgc
  clear hgc
  refine trF_enterG (G := twoA Tryz.prog (.cell 8 28) (.tmp 9)) Tryz.func20 rfl (by rw [Tryz.ntmps20]; exact Nat.le_of_ble_eq_true rfl) (fun h1 h2 h3 => res_two rfl h1 h2 h3) ?_
  simp only [Tryz.ntmps20]
  cases ok with
  | false =>
    repeat' (first | with_reducible refine Go1.go ?_ | ((with_reducible apply ev_go); (focus ((try simp (disch := omega) only [push_cast, simprocAttr, *]); (try exact rfl); done))) | ((with_reducible refine w_last ?_ ?_ ?_); kernel_rfl; rfl) | with_reducible refine Go2.go ?_ | ((with_reducible first | apply w_stepG | refine s_bi ?_ ?_ | refine blk_ne ?_ ?_); rfl) | ((with_reducible refine al_go ?_); intro b) | ((with_reducible apply (ck_le Tryz.call31)); exact LEL.refl _; exact hV.out _) | ((with_reducible first | refine w_region ?_ ?_ | refine w_dra ?_ ?_); kernel_rfl) | ((with_reducible refine Go3.go ?_ ?_); all_goals (intro hb; (try with_reducible intro hb1); (try (exfalso; first | contradiction | omega)))) | fail)
    all_goals (refine retG_mk (rs := []) (by first | exact .inl rfl | exact .inr rfl) (by first | rfl | assumption) (List.Perm.refl _) ⟨_, _, rfl, cell_mk (by simp (disch := omega) only [push_cast, simprocAttr, *]; exact rfl) (by repeat (first | exact mm_h | apply mm_t)) (by simp (disch := omega) only [push_cast, simprocAttr, *]; exact rfl) (by (try simp (disch := omega) only [push_cast, simprocAttr, *]); (try exact rfl); done), (by show _ = _; (try simp (disch := omega) only [push_cast, simprocAttr, *]); (try exact rfl); done)⟩ (by (repeat (first | exact List.Sublist.refl _ | with_reducible apply List.Sublist.cons_cons | apply List.Sublist.cons))) (retC2 0 .tight [] 1) ⟨rfl, rfl⟩)
  | true =>
    by_cases hc : 1 ≤ v ∧ v ≤ (la : Int) ∧ may = true
    · obtain ⟨h1, h2, rfl⟩ := hc
      have hFo2 := Lib.hid (hFo.out rfl ⟨h1, h2⟩)
      clear hFo
      rw [if_pos rfl, if_pos ⟨h1, h2, rfl⟩]
      generalize fo.1.s.map V.cells = FS at *
      generalize fo.1.v = fv at *
      generalize fo.2 = fe at *
      repeat' (first | with_reducible refine Go1.go ?_ | ((with_reducible apply ev_go); (focus ((try simp (disch := omega) only [push_cast, simprocAttr, *]); (try exact rfl); done))) | ((with_reducible apply (w_drawN [(b, [.i qv, .sl .shared QS])])); (iterate 3 (focus kernel_rfl)); (focus ((repeat (first | exact keep_nil | refine keep_more (by (repeat (first | exact mm_h | apply mm_t)); done) ?_)); done)); intro hne; simp only [nes, ne1, and_assoc] at hne; repeat (have hq := hne.1; replace hne := hne.2)) | ((with_reducible refine And.intro ?_ ?_); (focus ((repeat (first | exact keep_nil | refine keep_more (by (repeat (first | exact mm_h | apply mm_t)); done) ?_)); done))) | ((with_reducible refine w_last ?_ ?_ ?_); kernel_rfl; rfl) | with_reducible refine Go2.go ?_ | ((with_reducible first | apply w_stepG | refine s_bi ?_ ?_ | refine blk_ne ?_ ?_); rfl) | ((with_reducible refine al_go ?_); intro b) | ((with_reducible apply (ck_le Tryz.call31)); exact LEL.refl _; exact hV.out _) | ((with_reducible apply (ck_le Tryz.call26)); exact LEL.refl _; exact hL.out _) | ((with_reducible apply (ck_le hgc2.out)); (focus exact LEL.refl _); (focus exact hM.out _)) | ((with_reducible apply (ck_le Tryz.call29)); exact LEL.refl _; exact hS.out _) | ((with_reducible apply (ck_le Tryz.call33)); exact LEL.refl _; exact hB.out _) | ((with_reducible apply (ck_le Tryz.call32)); exact LEL.refl _; exact hFo2.out _) | ((with_reducible first | refine w_region ?_ ?_ | refine w_dra ?_ ?_); kernel_rfl) | ((with_reducible refine Go3.go ?_ ?_); all_goals (intro hb; (try with_reducible intro hb1); (try (exfalso; first | contradiction | omega)))) | fail)
      all_goals (refine retG_mk (rs := []) (by first | exact .inl rfl | exact .inr rfl) (by first | rfl | assumption) (List.Perm.refl _) ⟨_, _, rfl, cell_mk (by simp (disch := omega) only [push_cast, simprocAttr, *]; exact rfl) (by repeat (first | exact mm_h | apply mm_t)) (by simp (disch := omega) only [push_cast, simprocAttr, *]; exact rfl) (by (try simp (disch := omega) only [push_cast, simprocAttr, *]); (try exact rfl); done), (by show _ = _; (try simp (disch := omega) only [push_cast, simprocAttr, *]); (try exact rfl); done)⟩ (by (repeat (first | exact List.Sublist.refl _ | with_reducible apply List.Sublist.cons_cons | apply List.Sublist.cons))) (LE.refl _) ⟨rfl, rfl⟩)
    · rw [if_pos rfl, if_neg hc]
      clear hFo
      have hc' : v < 1 ∨ (1 ≤ v ∧ (la : Int) < v) ∨ (1 ≤ v ∧ v ≤ (la : Int) ∧ may = false) := by
        by_cases h1 : 1 ≤ v
        · by_cases h2 : v ≤ (la : Int)
          · cases may
            · exact .inr (.inr ⟨h1, h2, rfl⟩)
            · exact absurd ⟨h1, h2, rfl⟩ hc
          · exact .inr (.inl ⟨h1, by omega⟩)
        · exact .inl (by omega)
      clear hc
      rcases hc' with h1 | ⟨h1, h2⟩ | ⟨h1, h2, rfl⟩
      all_goals skip
      all_goals (
        repeat' (first | with_reducible refine Go1.go ?_ | ((with_reducible apply ev_go); (focus ((try simp (disch := omega) only [push_cast, simprocAttr, *]); (try exact rfl); done))) | ((with_reducible refine w_last ?_ ?_ ?_); kernel_rfl; rfl) | with_reducible refine Go2.go ?_ | ((with_reducible first | apply w_stepG | refine s_bi ?_ ?_ | refine blk_ne ?_ ?_); rfl) | ((with_reducible refine al_go ?_); intro b) | ((with_reducible apply (ck_le Tryz.call31)); exact LEL.refl _; exact hV.out _) | ((with_reducible apply (ck_le Tryz.call26)); exact LEL.refl _; exact hL.out _) | ((with_reducible apply (ck_le hgc2.out)); (focus exact LEL.refl _); (focus exact hM.out _)) | ((with_reducible first | refine w_region ?_ ?_ | refine w_dra ?_ ?_); kernel_rfl) | ((with_reducible refine Go3.go ?_ ?_); all_goals (intro hb; (try with_reducible intro hb1); (try (exfalso; first | contradiction | omega)))) | fail)
        all_goals (refine retG_mk (rs := []) (by first | exact .inl rfl | exact .inr rfl) (by first | rfl | assumption) (List.Perm.refl _) ⟨_, _, rfl, cell_mk (by simp (disch := omega) only [push_cast, simprocAttr, *]; exact rfl) (by repeat (first | exact mm_h | apply mm_t)) (by simp (disch := omega) only [push_cast, simprocAttr, *]; exact rfl) (by (try simp (disch := omega) only [push_cast, simprocAttr, *]); (try exact rfl); done), (by show _ = _; (try simp (disch := omega) only [push_cast, simprocAttr, *]); (try exact rfl); done)⟩ (by (repeat (first | exact List.Sublist.refl _ | with_reducible apply List.Sublist.cons_cons | apply List.Sublist.cons))) (retC2 0 .tight [] 7) ⟨rfl, rfl⟩))
end Go.Proofs.YtooaagmhgakhgaaGreat
end

section
namespace Go.Proofs.YtooaagmhgakhgaaGreat
set_option linter.unusedSimpArgs false
attribute [local push_cast] encB encI encC V.cells_mk V.cells_len Nat.mul_one Int.sub_zero List.map_nil beq_self_eq_true List.head?_cons
open Go.RowKit
set_option maxRecDepth 10000
set_option maxHeartbeats 4000000
namespace Sch
def upS (t : Tm) (r : Rc) (v : Int) : Rc × Int := toS t r v (decide (v ≥ r.v))
def downS (t : Tm) (r : Rc) (v : Int) : Rc × Int := toS t r v (decide (v ≤ r.v))
def newestS (t : Tm) (r : Rc) : Rc × Int := upS t r (if 1 < (last t : Int) then (last t : Int) else 1)
end Sch
theorem castUp1F (r : Rc) (v a : Int) (st : St) : TrF Tryz.prog 21 [.i a, .ip [.i v], .ip r.cells] st fun d st' => d = .b (decide (v ≥ r.v)) ∧ st' = st := by
  unfold Rc.cells
  generalize r.s.map V.cells = RS at *
  generalize r.v = rv at *
  refine trF_enter (ts := [4]) Tryz.func21 rfl (by rw [Tryz.ntmps21]; exact Nat.le_of_ble_eq_true rfl) (fun tmps w => by simp [results, Tryz.results21, go_sem, resVal]) ?_
  simp only [Tryz.ntmps21]
  repeat' (first | with_reducible refine Go1.go ?_ | ((with_reducible apply ev_go); (focus ((try simp (disch := omega) only [push_cast, simprocAttr, *]); (try exact rfl); done))) | ((with_reducible refine w_last ?_ ?_ ?_); kernel_rfl; rfl) | with_reducible refine Go2.go ?_ | ((with_reducible first | apply w_stepG | refine s_bi ?_ ?_ | refine blk_ne ?_ ?_); rfl) | ((with_reducible refine al_go ?_); intro b) | ((with_reducible first | refine w_region ?_ ?_ | refine w_dra ?_ ?_); kernel_rfl) | ((with_reducible refine Go3.go ?_ ?_); all_goals (intro hb; (try with_reducible intro hb1); (try (exfalso; first | contradiction | omega)))) | fail)
  all_goals (refine ret_eq (by simp) (by first | rfl | assumption) (by (repeat (first | exact List.Sublist.refl _ | apply List.Sublist.cons))) ?_; (try simp (disch := omega) only [push_cast, simprocAttr, *]); try (first | exact LE.refl _ | exact LE.sl _ _ | ((first | refine LE.tup ?_ | refine LE.agg ?_); (repeat' (first | exact LEL.nil | refine LEL.cons ?_ ?_ | exact LE.refl _ | exact LE.sl _ _ | refine LE.agg ?_)); done) | refine LE.of_eq ?_))
theorem castDown1F (r : Rc) (v a : Int) (st : St) : TrF Tryz.prog 24 [.i a, .ip [.i v], .ip r.cells] st fun d st' => d = .b (decide (v ≤ r.v)) ∧ st' = st := by
  unfold Rc.cells
  generalize r.s.map V.cells = RS at *
  generalize r.v = rv at *
  refine trF_enter (ts := [4]) Tryz.func24 rfl (by rw [Tryz.ntmps24]; exact Nat.le_of_ble_eq_true rfl) (fun tmps w => by simp [results, Tryz.results24, go_sem, resVal]) ?_
  simp only [Tryz.ntmps24]
  repeat' (first | with_reducible refine Go1.go ?_ | ((with_reducible apply ev_go); (focus ((try simp (disch := omega) only [push_cast, simprocAttr, *]); (try exact rfl); done))) | ((with_reducible refine w_last ?_ ?_ ?_); kernel_rfl; rfl) | with_reducible refine Go2.go ?_ | ((with_reducible first | apply w_stepG | refine s_bi ?_ ?_ | refine blk_ne ?_ ?_); rfl) | ((with_reducible refine al_go ?_); intro b) | ((with_reducible first | refine w_region ?_ ?_ | refine w_dra ?_ ?_); kernel_rfl) | ((with_reducible refine Go3.go ?_ ?_); all_goals (intro hb; (try with_reducible intro hb1); (try (exfalso; first | contradiction | omega)))) | fail)
  all_goals (refine ret_eq (by simp) (by first | rfl | assumption) (by (repeat (first | exact List.Sublist.refl _ | apply List.Sublist.cons))) ?_; (try simp (disch := omega) only [push_cast, simprocAttr, *]); try (first | exact LE.refl _ | exact LE.sl _ _ | ((first | refine LE.tup ?_ | refine LE.agg ?_); (repeat' (first | exact LEL.nil | refine LEL.cons ?_ ?_ | exact LE.refl _ | exact LE.sl _ _ | refine LE.agg ?_)); done) | refine LE.of_eq ?_))
theorem castUpF (t : Tm) (ht : TC t) (r : Rc) (hr : ROk r) (v : Int) (st : St) : TrF Tryz.prog 7 [.agg t.cells, .agg r.cells, .i v] st fun d st' => d = .tup [.agg (Sch.upS t r v).1.cells, .i (Sch.upS t r v).2] ∧ st' = st := by
  have hT := castToF t ht r hr v 21 [.ip [.i v], .ip r.cells] (decide (v ≥ r.v)) (fun _ _ => rfl) (castUp1F r v _)
  unfold Sch.upS
  generalize Sch.toS t r v (decide (v ≥ r.v)) = q at *
  unfold Tm.cells Rc.cells at *
  generalize t.slots.map Sl.cells = SL at *
  generalize t.steps.map Stp.cells = TL at *
  generalize t.name = nm at *
  generalize r.s.map V.cells = RS at *
  generalize q.1.s.map V.cells = QS at *
  generalize q.1.v = qv at *
  generalize q.2 = qe at *
  generalize r.v = rv at *
  replace hT := Lib.hid hT
  refine trF_enterG (G := twoA Tryz.prog (.cell 6 28) (.tmp 7)) Tryz.func7 rfl (by rw [Tryz.ntmps7]; exact Nat.le_of_ble_eq_true rfl) (fun h1 h2 h3 => res_two rfl h1 h2 h3) ?_
  simp only [Tryz.ntmps7]
  repeat' (first | with_reducible refine Go1.go ?_ | ((with_reducible apply ev_go); (focus ((try simp (disch := omega) only [push_cast, simprocAttr, *]); (try exact rfl); done))) | ((with_reducible refine w_last ?_ ?_ ?_); kernel_rfl; rfl) | with_reducible refine Go2.go ?_ | ((with_reducible first | apply w_stepG | refine s_bi ?_ ?_ | refine blk_ne ?_ ?_); rfl) | ((with_reducible refine al_go ?_); intro b) | ((with_reducible apply (ck_le Tryz.call20)); exact LEL.refl _; exact hT.out _) | ((with_reducible first | refine w_region ?_ ?_ | refine w_dra ?_ ?_); kernel_rfl) | ((with_reducible refine Go3.go ?_ ?_); all_goals (intro hb; (try with_reducible intro hb1); (try (exfalso; first | contradiction | omega)))) | fail)
  all_goals (refine retG_mk (rs := []) (by first | exact .inl rfl | exact .inr rfl) (by first | rfl | assumption) (List.Perm.refl _) ⟨_, _, rfl, cell_mk (by simp (disch := omega) only [push_cast, simprocAttr, *]; exact rfl) (by repeat (first | exact mm_h | apply mm_t)) (by simp (disch := omega) only [push_cast, simprocAttr, *]; exact rfl) (by (try simp (disch := omega) only [push_cast, simprocAttr, *]); (try exact rfl); done), (by show _ = _; (try simp (disch := omega) only [push_cast, simprocAttr, *]); (try exact rfl); done)⟩ (by (repeat (first | exact List.Sublist.refl _ | with_reducible apply List.Sublist.cons_cons | apply List.Sublist.cons))) (LE.refl _) ⟨rfl, rfl⟩)
theorem castDownF (t : Tm) (ht : TC t) (r : Rc) (hr : ROk r) (v : Int) (st : St) : TrF Tryz.prog 9 [.agg t.cells, .agg r.cells, .i v] st fun d st' => d = .tup [.agg (Sch.downS t r v).1.cells, .i (Sch.downS t r v).2] ∧ st' = st := by
  have hT := castToF t ht r hr v 24 [.ip [.i v], .ip r.cells] (decide (v ≤ r.v)) (fun _ _ => rfl) (castDown1F r v _)
  unfold Sch.downS
  generalize Sch.toS t r v (decide (v ≤ r.v)) = q at *
  unfold Tm.cells Rc.cells at *
  generalize t.slots.map Sl.cells = SL at *
  generalize t.steps.map Stp.cells = TL at *
  generalize t.name = nm at *
  generalize r.s.map V.cells = RS at *
  generalize q.1.s.map V.cells = QS at *
  generalize q.1.v = qv at *
  generalize q.2 = qe at *
  generalize r.v = rv at *
  replace hT := Lib.hid hT
  refine trF_enterG (G := twoA Tryz.prog (.cell 6 28) (.tmp 7)) Tryz.func9 rfl (by rw [Tryz.ntmps9]; exact Nat.le_of_ble_eq_true rfl) (fun h1 h2 h3 => res_two rfl h1 h2 h3) ?_
  simp only [Tryz.ntmps9]
  repeat' (first | with_reducible refine Go1.go ?_ | ((with_reducible apply ev_go); (focus ((try simp (disch := omega) only [push_cast, simprocAttr, *]); (try exact rfl); done))) | ((with_reducible refine w_last ?_ ?_ ?_); kernel_rfl; rfl) | with_reducible refine Go2.go ?_ | ((with_reducible first | apply w_stepG | refine s_bi ?_ ?_ | refine blk_ne ?_ ?_); rfl) | ((with_reducible refine al_go ?_); intro b) | ((with_reducible apply (ck_le Tryz.call20)); exact LEL.refl _; exact hT.out _) | ((with_reducible first | refine w_region ?_ ?_ | refine w_dra ?_ ?_); kernel_rfl) | ((with_reducible refine Go3.go ?_ ?_); all_goals (intro hb; (try with_reducible intro hb1); (try (exfalso; first | contradiction | omega)))) | fail)
  all_goals (refine retG_mk (rs := []) (by first | exact .inl rfl | exact .inr rfl) (by first | rfl | assumption) (List.Perm.refl _) ⟨_, _, rfl, cell_mk (by simp (disch := omega) only [push_cast, simprocAttr, *]; exact rfl) (by repeat (first | exact mm_h | apply mm_t)) (by simp (disch := omega) only [push_cast, simprocAttr, *]; exact rfl) (by (try simp (disch := omega) only [push_cast, simprocAttr, *]); (try exact rfl); done), (by show _ = _; (try simp (disch := omega) only [push_cast, simprocAttr, *]); (try exact rfl); done)⟩ (by (repeat (first | exact List.Sublist.refl _ | with_reducible apply List.Sublist.cons_cons | apply List.Sublist.cons))) (LE.refl _) ⟨rfl, rfl⟩)
theorem castLiftF (t : Tm) (ht : TC t) (r : Rc) (hr : ROk r) (hv : -100000 ≤ r.v ∧ r.v ≤ 100000) (st : St) : TrF Tryz.prog 14 [.agg t.cells, .agg r.cells] st fun d st' => d = .tup [.agg (Sch.castS t r (r.v + 1)).1.cells, .i (Sch.castS t r (r.v + 1)).2] ∧ st' = st := by
  have hS := castStepF t ht.ok r hr.n (by have := hr.l; omega) ht.dv (r.v + 1)
  generalize Sch.castS t r (r.v + 1) = q at *
  unfold Tm.cells Rc.cells at *
  generalize t.slots.map Sl.cells = SL at *
  generalize t.steps.map Stp.cells = TL at *
  generalize t.name = nm at *
  generalize r.s.map V.cells = RS at *
  generalize q.1.s.map V.cells = QS at *
  generalize q.1.v = qv at *
  generalize q.2 = qe at *
  generalize r.v = rv at *
  replace hS := Lib.hid hS
  refine trF_enterG (G := twoA Tryz.prog (.cell 4 28) (.tmp 5)) Tryz.func14 rfl (by rw [Tryz.ntmps14]; exact Nat.le_of_ble_eq_true rfl) (fun h1 h2 h3 => res_two rfl h1 h2 h3) ?_
  simp only [Tryz.ntmps14]
  repeat' (first | with_reducible refine Go1.go ?_ | ((with_reducible apply ev_go); (focus ((try simp (disch := omega) only [push_cast, simprocAttr, *]); (try exact rfl); done))) | ((with_reducible refine w_last ?_ ?_ ?_); kernel_rfl; rfl) | with_reducible refine Go2.go ?_ | ((with_reducible first | apply w_stepG | refine s_bi ?_ ?_ | refine blk_ne ?_ ?_); rfl) | ((with_reducible refine al_go ?_); intro b) | ((with_reducible apply (ck_le Tryz.call29)); exact LEL.refl _; exact hS.out _) | ((with_reducible first | refine w_region ?_ ?_ | refine w_dra ?_ ?_); kernel_rfl) | ((with_reducible refine Go3.go ?_ ?_); all_goals (intro hb; (try with_reducible intro hb1); (try (exfalso; first | contradiction | omega)))) | fail)
  all_goals (refine retG_mk (rs := []) (by first | exact .inl rfl | exact .inr rfl) (by first | rfl | assumption) (List.Perm.refl _) ⟨_, _, rfl, cell_mk (by simp (disch := omega) only [push_cast, simprocAttr, *]; exact rfl) (by repeat (first | exact mm_h | apply mm_t)) (by simp (disch := omega) only [push_cast, simprocAttr, *]; exact rfl) (by (try simp (disch := omega) only [push_cast, simprocAttr, *]); (try exact rfl); done), (by show _ = _; (try simp (disch := omega) only [push_cast, simprocAttr, *]); (try exact rfl); done)⟩ (by (repeat (first | exact List.Sublist.refl _ | with_reducible apply List.Sublist.cons_cons | apply List.Sublist.cons))) (LE.refl _) ⟨rfl, rfl⟩)
theorem castLowerF (t : Tm) (ht : TC t) (r : Rc) (hr : ROk r) (hv : -100000 ≤ r.v ∧ r.v ≤ 100000) (st : St) : TrF Tryz.prog 15 [.agg t.cells, .agg r.cells] st fun d st' => d = .tup [.agg (Sch.castS t r (r.v - 1)).1.cells, .i (Sch.castS t r (r.v - 1)).2] ∧ st' = st := by
  have hS := castStepF t ht.ok r hr.n (by have := hr.l; omega) ht.dv (r.v - 1)
  generalize Sch.castS t r (r.v - 1) = q at *
  unfold Tm.cells Rc.cells at *
  generalize t.slots.map Sl.cells = SL at *
  generalize t.steps.map Stp.cells = TL at *
  generalize t.name = nm at *
  generalize r.s.map V.cells = RS at *
  generalize q.1.s.map V.cells = QS at *
  generalize q.1.v = qv at *
  generalize q.2 = qe at *
  generalize r.v = rv at *
  replace hS := Lib.hid hS
  refine trF_enterG (G := twoA Tryz.prog (.cell 4 28) (.tmp 5)) Tryz.func15 rfl (by rw [Tryz.ntmps15]; exact Nat.le_of_ble_eq_true rfl) (fun h1 h2 h3 => res_two rfl h1 h2 h3) ?_
  simp only [Tryz.ntmps15]
  repeat' (first | with_reducible refine Go1.go ?_ | ((with_reducible apply ev_go); (focus ((try simp (disch := omega) only [push_cast, simprocAttr, *]); (try exact rfl); done))) | ((with_reducible refine w_last ?_ ?_ ?_); kernel_rfl; rfl) | with_reducible refine Go2.go ?_ | ((with_reducible first | apply w_stepG | refine s_bi ?_ ?_ | refine blk_ne ?_ ?_); rfl) | ((with_reducible refine al_go ?_); intro b) | ((with_reducible apply (ck_le Tryz.call29)); exact LEL.refl _; exact hS.out _) | ((with_reducible first | refine w_region ?_ ?_ | refine w_dra ?_ ?_); kernel_rfl) | ((with_reducible refine Go3.go ?_ ?_); all_goals (intro hb; (try with_reducible intro hb1); (try (exfalso; first | contradiction | omega)))) | fail)
  all_goals (refine retG_mk (rs := []) (by first | exact .inl rfl | exact .inr rfl) (by first | rfl | assumption) (List.Perm.refl _) ⟨_, _, rfl, cell_mk (by simp (disch := omega) only [push_cast, simprocAttr, *]; exact rfl) (by repeat (first | exact mm_h | apply mm_t)) (by simp (disch := omega) only [push_cast, simprocAttr, *]; exact rfl) (by (try simp (disch := omega) only [push_cast, simprocAttr, *]); (try exact rfl); done), (by show _ = _; (try simp (disch := omega) only [push_cast, simprocAttr, *]); (try exact rfl); done)⟩ (by (repeat (first | exact List.Sublist.refl _ | with_reducible apply List.Sublist.cons_cons | apply List.Sublist.cons))) (LE.refl _) ⟨rfl, rfl⟩)
theorem castNewestF (t : Tm) (ht : TC t) (r : Rc) (hr : ROk r) (st : St) : TrF Tryz.prog 11 [.agg t.cells, .agg r.cells] st fun d st' => d = .tup [.agg (Sch.newestS t r).1.cells, .i (Sch.newestS t r).2] ∧ st' = st := by
  have hU := castUpF t ht r hr (if 1 < (Sch.last t : Int) then (Sch.last t : Int) else 1)
  have hL := schLastF t ht.ok
  unfold Sch.newestS
  have hll := Sch.last_le t
  generalize Sch.last t = la at *
  have hmx : (max 1 (la : Int)) = (if 1 < (la : Int) then (la : Int) else 1) := by
    split <;> omega
  generalize hn : (if 1 < (la : Int) then (la : Int) else 1) = n at *
  generalize Sch.upS t r n = q at *
  unfold Tm.cells Rc.cells at *
  generalize t.slots.map Sl.cells = SL at *
  generalize t.steps.map Stp.cells = TL at *
  generalize t.name = nm at *
  generalize r.s.map V.cells = RS at *
  generalize q.1.s.map V.cells = QS at *
  generalize q.1.v = qv at *
  generalize q.2 = qe at *
  generalize r.v = rv at *
  replace hU := Lib.hid hU
  replace hL := Lib.hid hL
  refine trF_enterG (G := twoA Tryz.prog (.cell 4 28) (.tmp 5)) Tryz.func11 rfl (by rw [Tryz.ntmps11]; exact Nat.le_of_ble_eq_true rfl) (fun h1 h2 h3 => res_two rfl h1 h2 h3) ?_
  simp only [Tryz.ntmps11]
  repeat' (first | with_reducible refine Go1.go ?_ | ((with_reducible apply ev_go); (focus ((try simp (disch := omega) only [push_cast, simprocAttr, *]); (try exact rfl); done))) | ((with_reducible apply (w_drawN [(b, [.i qv, .sl .shared QS])])); (iterate 3 (focus kernel_rfl)); (focus ((repeat (first | exact keep_nil | refine keep_more (by (repeat (first | exact mm_h | apply mm_t)); done) ?_)); done)); intro hne; simp only [nes, ne1, and_assoc] at hne; repeat (have hq := hne.1; replace hne := hne.2)) | ((with_reducible refine And.intro ?_ ?_); (focus ((repeat (first | exact keep_nil | refine keep_more (by (repeat (first | exact mm_h | apply mm_t)); done) ?_)); done))) | ((with_reducible refine w_last ?_ ?_ ?_); kernel_rfl; rfl) | with_reducible refine Go2.go ?_ | ((with_reducible first | apply w_stepG | refine s_bi ?_ ?_ | refine blk_ne ?_ ?_); rfl) | ((with_reducible refine al_go ?_); intro b) | ((with_reducible apply (ck_le Tryz.call26)); exact LEL.refl _; exact hL.out _) | ((with_reducible apply (ck_le Tryz.call7)); exact LEL.refl _; exact hU.out _) | ((with_reducible first | refine w_region ?_ ?_ | refine w_dra ?_ ?_); kernel_rfl) | ((with_reducible refine Go3.go ?_ ?_); all_goals (intro hb; (try with_reducible intro hb1); (try (exfalso; first | contradiction | omega)))) | fail)
  all_goals (refine retG_mk (rs := []) (by first | exact .inl rfl | exact .inr rfl) (by first | rfl | assumption) (List.Perm.refl _) ⟨_, _, rfl, cell_mk (by simp (disch := omega) only [push_cast, simprocAttr, *]; exact rfl) (by repeat (first | exact mm_h | apply mm_t)) (by simp (disch := omega) only [push_cast, simprocAttr, *]; exact rfl) (by (try simp (disch := omega) only [push_cast, simprocAttr, *]); (try exact rfl); done), (by show _ = _; (try simp (disch := omega) only [push_cast, simprocAttr, *]); (try exact rfl); done)⟩ (by (repeat (first | exact List.Sublist.refl _ | with_reducible apply List.Sublist.cons_cons | apply List.Sublist.cons))) (LE.refl _) ⟨rfl, rfl⟩)
end Go.Proofs.YtooaagmhgakhgaaGreat
end

section
namespace Go.Proofs.YtooaagmhgakhgaaGreat
set_option linter.unusedSimpArgs false
namespace Sch
theorem ext_get {α : Type} {a b : List α} (h : ∀ i : Nat, a[i]? = b[i]?) : a = b := List.ext_getElem? h
theorem fitsL_get : ∀ (a : List Sl) (b : List V), fitsL a b = true → ∀ (i : Nat) (s : Sl), a[i]? = some s → ∃ v, b[i]? = some v ∧ fits s v = true
  | [], _, _, _, _, h => by simp at h
  | _ :: _, [], h, _, _, _ => by cases h
  | s :: a, v :: b, h, 0, z, hz => by
    rw [fitsL, Bool.and_eq_true] at h
    cases hz; exact ⟨v, rfl, h.1⟩
  | s :: a, v :: b, h, i + 1, z, hz => by
    rw [fitsL, Bool.and_eq_true] at h
    simpa using fitsL_get a b h.2 i z (by simpa using hz)
theorem fitsL_castL : ∀ (a : List Sl) (b : List V), (∀ s ∈ a, SOk s) → fitsL a (castL a b) = true
  | [], _, _ => by rw [castL]; rfl
  | s :: a, [], h => by
    rw [castL, fitsL, fitsL_castL a [] (fun z hz => h z (List.mem_cons_of_mem _ hz)), (h s (List.mem_cons_self ..)).def_]; rfl
  | s :: a, v :: b, h => by
    rw [castL, fitsL, fitsL_castL a b (fun z hz => h z (List.mem_cons_of_mem _ hz)), Bool.and_true]
    split
    · assumption
    · exact (h s (List.mem_cons_self ..)).def_
theorem castL_self : ∀ (a : List Sl) (b : List V), fitsL a b = true → castL a b = b
  | [], [], _ => rfl
  | s :: a, v :: b, h => by
    rw [fitsL, Bool.and_eq_true] at h
    rw [castL, if_pos h.1, castL_self a b h.2]
  | [], _ :: _, h => by cases h
  | _ :: _, [], h => by cases h
theorem castL_get? (a : List Sl) (b : List V) (i : Nat) : (castL a b)[i]? = a[i]?.map fun s => one s b[i]? := by
  cases h : a[i]? with
  | some s => rw [castL_get a b i s h]; rfl
  | none => exact List.getElem?_eq_none (by rw [castL_len]; exact List.getElem?_eq_none_iff.1 h)
theorem castL_up {a b c : List Sl} {l : List V} (hl : fitsL a l = true) (hab : Grow a b) (hbc : Grow b c) (hc : ∀ s ∈ c, SOk s) : castL c (castL b l) = castL c l := by
  refine ext_get fun i => ?_
  rw [castL_get? c, castL_get? c, castL_get? b]
  cases h : c[i]? with
  | none => rfl
  | some z =>
    have hz := hc z (List.mem_of_getElem? h)
    show some _ = some _
    congr 1
    have hlen := fitsL_len _ _ hl
    cases hb : b[i]? with
    | none =>
      have h1 := List.getElem?_eq_none_iff.1 hb
      have := hab.len
      rw [show l[i]? = none from List.getElem?_eq_none (by omega)]; rfl
    | some y =>
      obtain ⟨z', k1, k2, k3⟩ := hbc.old i y hb
      rw [h] at k1
      cases k1
      cases ha : a[i]? with
      | none =>
        have h1 := List.getElem?_eq_none_iff.1 ha
        rw [show l[i]? = none from List.getElem?_eq_none (by omega)]
        show one z (some y.dv) = z.dv
        rw [one, ← k2, if_pos hz.def_]
      | some x =>
        obtain ⟨v, hv, hf⟩ := fitsL_get _ _ hl i x ha
        obtain ⟨y', m1, m2, m3⟩ := hab.old i x ha
        rw [hb] at m1
        cases m1
        rw [hv]
        show one z (some (one y (some v))) = one z (some v)
        rw [one, one, one, if_pos (m3 v hf)]
theorem castL_down {a b c : List Sl} {l : List V} (hl : fitsL a l = true) (hcb : Grow c b) (hba : Grow b a) (hc : ∀ s ∈ c, SOk s) : castL c (castL b l) = castL c l := by
  refine ext_get fun i => ?_
  rw [castL_get? c, castL_get? c, castL_get? b]
  cases h : c[i]? with
  | none => rfl
  | some z =>
    have hz := hc z (List.mem_of_getElem? h)
    show some _ = some _
    congr 1
    obtain ⟨y, k1, k2, k3⟩ := hcb.old i z h
    obtain ⟨x, m1, m2, m3⟩ := hba.old i y k1
    obtain ⟨v, hv, hf⟩ := fitsL_get _ _ hl i x m1
    rw [k1, hv]
    show one z (some (one y (some v))) = one z (some v)
    rw [one, one, one]
    by_cases hy : fits y v = true
    · rw [if_pos hy]
    · rw [if_neg hy, if_neg (fun h => hy (k3 v h)), k2, if_pos hz.def_]
theorem versL_grow : ∀ (l : List Stp) (y : Vr) (n : Nat), VZ n y → ∀ (i j : Nat) (x z : Vr), i ≤ j → (y :: versL y l)[i]? = some x → (y :: versL y l)[j]? = some z → Grow x.slots z.slots := by
  intro l
  induction l with
  | nil =>
    intro y n hy i j x z hij h1 h2
    rw [versL] at h1 h2
    have a1 := (List.getElem?_eq_some_iff.1 h1).1
    have a2 := (List.getElem?_eq_some_iff.1 h2).1
    simp only [List.length_cons, List.length_nil] at a1 a2
    obtain rfl : i = 0 := by omega
    obtain rfl : j = 0 := by omega
    rw [h1] at h2; cases h2; exact .refl _
  | cons s l ih =>
    intro y n hy i j x z hij h1 h2
    rw [versL] at h1 h2
    cases hs : stepV y s with
    | none =>
      rw [hs] at h1 h2
      have a1 := (List.getElem?_eq_some_iff.1 h1).1
      have a2 := (List.getElem?_eq_some_iff.1 h2).1
      simp only [List.length_cons, List.length_nil] at a1 a2
      obtain rfl : i = 0 := by omega
      obtain rfl : j = 0 := by omega
      rw [h1] at h2; cases h2; exact .refl _
    | some w =>
      rw [hs] at h1 h2
      have hw := step_vz hy hs
      have hg := (step_grow hy.sl hs).1
      cases j with
      | zero =>
        obtain rfl : i = 0 := by omega
        rw [h1] at h2; cases h2; exact .refl _
      | succ j =>
        cases i with
        | zero =>
          cases h1
          exact hg.trans (ih w _ hw 0 j w z (Nat.zero_le _) rfl (by simpa using h2))
        | succ i => exact ih w _ hw i j x z (by omega) (by simpa using h1) (by simpa using h2)
theorem ver_grow {t : Tm} {v w : Int} {x z : Vr} (h1 : ver t v = some x) (h2 : ver t w = some z) (h : v ≤ w) : Grow x.slots z.slots := by
  have b1 := (ver_bounds h1).1
  unfold ver at h1 h2
  split at h1
  · split at h2
    · unfold vers at h1 h2
      split at h1
      · simp at h1
      · rename_i y hy
        rw [hy] at h2
        exact versL_grow _ _ _ (first_vz hy) _ _ _ _ (by omega) h1 h2
    · cases h2
  · cases h1
theorem ver_verB {t : Tm} {v : Int} {x : Vr} (h : ver t v = some x) : verB t v = true ∧ verX t v = x := by
  unfold verB verX
  rw [h]; exact ⟨rfl, rfl⟩
theorem valid_iff {t : Tm} {r : Rc} : valid t r = true ↔ ∃ x, ver t r.v = some x ∧ fitsL x.slots r.s = true := by
  unfold valid
  rw [Bool.and_eq_true]
  constructor
  · rintro ⟨h1, h2⟩
    unfold verB at h1
    obtain ⟨x, hx⟩ := Option.isSome_iff_exists.1 h1
    rw [(ver_verB hx).2] at h2
    exact ⟨x, hx, h2⟩
  · rintro ⟨x, hx, h2⟩
    rw [(ver_verB hx).2]
    exact ⟨(ver_verB hx).1, h2⟩
theorem ver_sok {t : Tm} {v : Int} {x : Vr} (h : ver t v = some x) : ∀ s ∈ x.slots, SOk s := vers_types x (ver_mem h)
theorem castS_eq {t : Tm} {r : Rc} {v : Int} {x : Vr} (hr : valid t r = true) (h : ver t v = some x) : castS t r v = (⟨v, castL x.slots r.s⟩, 0) := by
  unfold castS
  rw [if_pos hr, if_pos (ver_verB h).1, (ver_verB h).2]
theorem castS_valid {t : Tm} {r : Rc} {v : Int} {x : Vr} (h : ver t v = some x) : valid t ⟨v, castL x.slots r.s⟩ = true := valid_iff.2 ⟨x, h, fitsL_castL _ _ (ver_sok h)⟩
theorem nums_self (a : Int) : nums a a = [] := by
  unfold nums
  rw [if_neg (by omega), Int.sub_self]; rfl
theorem nums_upS (a b : Int) (h : a < b) : nums a b = (a + 1) :: nums (a + 1) b := by
  unfold nums
  rw [if_neg (by omega), if_neg (by omega)]
  obtain ⟨n, hn⟩ : ∃ n, (b - (a + 1)).toNat = n := ⟨_, rfl⟩
  rw [hn, show (b - a).toNat = n + 1 by omega, List.range_succ_eq_map, List.map_cons, List.map_map]
  congr 1
  exact List.map_congr_left fun i _ => by show a + (((i + 1 : Nat) : Int) + 1) = a + 1 + ((i : Int) + 1); omega
theorem nums_downS (a b : Int) (h : b < a) : nums a b = (a - 1) :: nums (a - 1) b := by
  by_cases h1 : b = a - 1
  · subst h1
    rw [nums_self]
    unfold nums
    rw [if_pos h, show (a - (a - 1)).toNat = 1 by omega]; rfl
  · unfold nums
    rw [if_pos h, if_pos (by omega)]
    obtain ⟨n, hn⟩ : ∃ n, (a - 1 - b).toNat = n := ⟨_, rfl⟩
    rw [hn, show (a - b).toNat = n + 1 by omega, List.range_succ_eq_map, List.map_cons, List.map_map]
    congr 1
    exact List.map_congr_left fun i _ => by show a - (((i + 1 : Nat) : Int) + 1) = a - 1 - ((i : Int) + 1); omega
theorem ver_some {t : Tm} {v : Int} (h1 : 1 ≤ v) (h2 : v ≤ last t) : ∃ x, ver t v = some x := by
  obtain ⟨x, hx, _⟩ := ver_eq (t := t) (v := v) (by omega) h1 h2
  exact ⟨x, hx⟩
theorem ver_last {t : Tm} {v : Int} {x : Vr} (h : ver t v = some x) : 1 ≤ v ∧ v ≤ last t := by
  have hb := (ver_bounds h).1
  unfold ver at h
  split at h
  · rename_i hc
    have h1 := (List.getElem?_eq_some_iff.1 h).1
    have := last_len hc.1
    exact ⟨hb, by omega⟩
  · cases h
theorem foldS_up {t : Tm} : ∀ (n : Nat) (r : Rc) (b : Int) (x : Vr), valid t r = true → r.v + (n : Int) = b → ver t b = some x → foldS t r (nums r.v b) = (⟨b, castL x.slots r.s⟩, 0)
  | 0, r, b, x, hr, hb, hx => by
    obtain ⟨y, hy, hf⟩ := valid_iff.1 hr
    obtain rfl : r.v = b := by omega
    rw [hy] at hx; cases hx
    rw [nums_self, foldS, castL_self _ _ hf]
  | n + 1, r, b, x, hr, hb, hx => by
    obtain ⟨y, hy, hf⟩ := valid_iff.1 hr
    have hl := ver_last hx
    have hl2 := ver_last hy
    obtain ⟨z, hz⟩ := ver_some (t := t) (v := r.v + 1) (by omega) (by omega)
    rw [nums_upS _ _ (by omega), foldS, castS_eq hr hz, if_pos rfl]
    have ih := foldS_up (t := t) n ⟨r.v + 1, castL z.slots r.s⟩ b x (castS_valid hz) (by show r.v + 1 + (n : Int) = b; omega) hx
    refine ih.trans ?_
    show ((⟨b, castL x.slots (castL z.slots r.s)⟩ : Rc), (0 : Int)) = _
    rw [castL_up hf (ver_grow hy hz (by omega)) (ver_grow hz hx (by omega)) (ver_sok hx)]
theorem foldS_down {t : Tm} : ∀ (n : Nat) (r : Rc) (b : Int) (x : Vr), valid t r = true → r.v - (n : Int) = b → ver t b = some x → foldS t r (nums r.v b) = (⟨b, castL x.slots r.s⟩, 0)
  | 0, r, b, x, hr, hb, hx => by
    obtain ⟨y, hy, hf⟩ := valid_iff.1 hr
    obtain rfl : r.v = b := by omega
    rw [hy] at hx; cases hx
    rw [nums_self, foldS, castL_self _ _ hf]
  | n + 1, r, b, x, hr, hb, hx => by
    obtain ⟨y, hy, hf⟩ := valid_iff.1 hr
    have hl := ver_last hx
    have hl2 := ver_last hy
    obtain ⟨z, hz⟩ := ver_some (t := t) (v := r.v - 1) (by omega) (by omega)
    rw [nums_downS _ _ (by omega), foldS, castS_eq hr hz, if_pos rfl]
    have ih := foldS_down (t := t) n ⟨r.v - 1, castL z.slots r.s⟩ b x (castS_valid hz) (by show r.v - 1 - (n : Int) = b; omega) hx
    refine ih.trans ?_
    show ((⟨b, castL x.slots (castL z.slots r.s)⟩ : Rc), (0 : Int)) = _
    rw [castL_down hf (ver_grow hx hz (by omega)) (ver_grow hz hy (by omega)) (ver_sok hx)]
theorem toS_eq {t : Tm} {r : Rc} {v : Int} {x : Vr} (hr : valid t r = true) (hx : ver t v = some x) : toS t r v true = (⟨v, castL x.slots r.s⟩, 0) := by
  obtain ⟨y, hy, hf⟩ := valid_iff.1 hr
  have hl := ver_last hx
  unfold toS
  rw [if_pos hr, if_pos ⟨hl.1, hl.2, rfl⟩, castS_eq hr hy, castL_self _ _ hf]
  rcases Int.le_total r.v v with h | h
  · exact foldS_up (v - r.v).toNat r v x hr (by omega) hx
  · exact foldS_down (r.v - v).toNat r v x hr (by omega) hx
theorem toS_no {t : Tm} {r : Rc} {v : Int} {m : Bool} (h : ¬(valid t r = true ∧ (ver t v).isSome = true ∧ m = true)) : ∃ e, toS t r v m = (zeroR, e) ∧ (e = 1 ∨ e = 7) := by
  unfold toS
  split
  · rename_i hr
    split
    · rename_i hc
      obtain ⟨x, hx⟩ := ver_some hc.1 hc.2.1
      exact absurd ⟨hr, by rw [hx]; rfl, hc.2.2⟩ h
    · exact ⟨7, rfl, .inr rfl⟩
  · exact ⟨1, rfl, .inl rfl⟩
end Sch
end Go.Proofs.YtooaagmhgakhgaaGreat
end

section
namespace Go.Proofs.YtooaagmhgakhgaaGreat
set_option linter.unusedSimpArgs false
attribute [local push_cast] encB encI encC V.cells_mk V.cells_len Nat.mul_one Int.sub_zero List.map_nil beq_self_eq_true List.head?_cons
open Go.RowKit
set_option maxRecDepth 10000
set_option maxHeartbeats 4000000
namespace Sch
def greatS (s : Sl) : Bool := s.dv.great || decide (300 < s.name.size)
def greatP (s : Stp) : Bool := s.slot.dv.great || (decide (300 < s.slot.name.size) || decide (30 < s.order.length))
def great (t : Tm) : Bool := decide (30 < t.slots.length) || (decide (30 < t.steps.length) || (decide (300 < t.name.size) || (t.slots.any greatS || t.steps.any greatP)))
end Sch
theorem any_drop {α : Type} {p : α → Bool} {l : List α} {i : Nat} {x : α} (h : l[i]? = some x) : (l.drop i).any p = (p x || (l.drop (i + 1)).any p) := by
  obtain ⟨h1, rfl⟩ := List.getElem?_eq_some_iff.1 h
  rw [List.drop_eq_getElem_cons h1, List.any_cons]
theorem refGreat10F (t : Tm) (hw : t.Wf) (st : St) : TrF Tryz.prog 18 [.agg t.cells] st fun d st' => d = .b (Sch.great t) ∧ st' = st := by
  obtain ⟨-, hws, hsl, hwp, hpl⟩ := hw
  obtain ⟨B, hB⟩ : ∃ B, Sch.great t = B := ⟨_, rfl⟩
  rw [hB]
  unfold Sch.great at hB
  cases t with
  | mk nm slots steps =>
  unfold Tm.cells
  dsimp only at hB hws hwp hsl hpl ⊢
  have hws2 := Lib.hid hws
  have hwp2 := Lib.hid hwp
  clear hws hwp
  have hml : (slots.map Sl.cells).length = slots.length := List.length_map ..
  have hmp : (steps.map Stp.cells).length = steps.length := List.length_map ..
  have hcl : Hid (∀ (i : Nat) (s : Sl), slots[i]? = some s → (slots.map Sl.cells)[i]? = some s.cells) := fun i s h => by rw [List.getElem?_map, h]; rfl
  have hcp : Hid (∀ (i : Nat) (s : Stp), steps[i]? = some s → (steps.map Stp.cells)[i]? = some s.cells) := fun i s h => by rw [List.getElem?_map, h]; rfl
  generalize slots.map Sl.cells = SL at *
  generalize steps.map Stp.cells = TL at *
  have hn1 := hml
  have hn2 := hmp
  unfold maxLen at hsl hpl
  by_cases h1 : 30 < slots.length
  · have hBt : B = true := by rw [← hB]; simp [h1]
    subst hBt
    clear hB
    refine trF_enter (ts := [2]) Tryz.func18 rfl (by rw [Tryz.ntmps18]; exact Nat.le_of_ble_eq_true rfl) (fun tmps w => by simp [results, Tryz.results18, go_sem, resVal]) ?_
    simp only [Tryz.ntmps18]
    repeat' (first | with_reducible refine Go1.go ?_ | ((with_reducible apply ev_go); (focus ((try simp (disch := omega) only [push_cast, simprocAttr, *]); (try exact rfl); done))) | ((with_reducible refine w_last ?_ ?_ ?_); kernel_rfl; rfl) | with_reducible refine Go2.go ?_ | ((with_reducible first | apply w_stepG | refine s_bi ?_ ?_ | refine blk_ne ?_ ?_); rfl) | ((with_reducible refine al_go ?_); intro b) | ((with_reducible first | refine w_region ?_ ?_ | refine w_dra ?_ ?_); kernel_rfl) | ((with_reducible refine Go3.go ?_ ?_); all_goals (intro hb; (try with_reducible intro hb1); (try (exfalso; first | contradiction | omega)))) | fail)
    all_goals (refine ret_eq (by simp) (by first | rfl | assumption) (by (repeat (first | exact List.Sublist.refl _ | apply List.Sublist.cons))) ?_; (try simp (disch := omega) only [push_cast, simprocAttr, *]); try (first | exact LE.refl _ | exact LE.sl _ _ | ((first | refine LE.tup ?_ | refine LE.agg ?_); (repeat' (first | exact LEL.nil | refine LEL.cons ?_ ?_ | exact LE.refl _ | exact LE.sl _ _ | refine LE.agg ?_)); done) | refine LE.of_eq ?_))
  by_cases h2 : 30 < steps.length
  · have hBt : B = true := by rw [← hB]; simp [h2]
    subst hBt
    clear hB
    refine trF_enter (ts := [2]) Tryz.func18 rfl (by rw [Tryz.ntmps18]; exact Nat.le_of_ble_eq_true rfl) (fun tmps w => by simp [results, Tryz.results18, go_sem, resVal]) ?_
    simp only [Tryz.ntmps18]
    repeat' (first | with_reducible refine Go1.go ?_ | ((with_reducible apply ev_go); (focus ((try simp (disch := omega) only [push_cast, simprocAttr, *]); (try exact rfl); done))) | ((with_reducible refine w_last ?_ ?_ ?_); kernel_rfl; rfl) | with_reducible refine Go2.go ?_ | ((with_reducible first | apply w_stepG | refine s_bi ?_ ?_ | refine blk_ne ?_ ?_); rfl) | ((with_reducible refine al_go ?_); intro b) | ((with_reducible first | refine w_region ?_ ?_ | refine w_dra ?_ ?_); kernel_rfl) | ((with_reducible refine Go3.go ?_ ?_); all_goals (intro hb; (try with_reducible intro hb1); (try (exfalso; first | contradiction | omega)))) | fail)
    all_goals (refine ret_eq (by simp) (by first | rfl | assumption) (by (repeat (first | exact List.Sublist.refl _ | apply List.Sublist.cons))) ?_; (try simp (disch := omega) only [push_cast, simprocAttr, *]); try (first | exact LE.refl _ | exact LE.sl _ _ | ((first | refine LE.tup ?_ | refine LE.agg ?_); (repeat' (first | exact LEL.nil | refine LEL.cons ?_ ?_ | exact LE.refl _ | exact LE.sl _ _ | refine LE.agg ?_)); done) | refine LE.of_eq ?_))
  by_cases h3 : 300 < nm.size
  · have hBt : B = true := by rw [← hB]; simp [h3]
    subst hBt
    clear hB
    refine trF_enter (ts := [2]) Tryz.func18 rfl (by rw [Tryz.ntmps18]; exact Nat.le_of_ble_eq_true rfl) (fun tmps w => by simp [results, Tryz.results18, go_sem, resVal]) ?_
    simp only [Tryz.ntmps18]
    repeat' (first | with_reducible refine Go1.go ?_ | ((with_reducible apply ev_go); (focus ((try simp (disch := omega) only [push_cast, simprocAttr, *]); (try exact rfl); done))) | ((with_reducible refine w_last ?_ ?_ ?_); kernel_rfl; rfl) | with_reducible refine Go2.go ?_ | ((with_reducible first | apply w_stepG | refine s_bi ?_ ?_ | refine blk_ne ?_ ?_); rfl) | ((with_reducible refine al_go ?_); intro b) | ((with_reducible first | refine w_region ?_ ?_ | refine w_dra ?_ ?_); kernel_rfl) | ((with_reducible refine Go3.go ?_ ?_); all_goals (intro hb; (try with_reducible intro hb1); (try (exfalso; first | contradiction | omega)))) | fail)
    all_goals (refine ret_eq (by simp) (by first | rfl | assumption) (by (repeat (first | exact List.Sublist.refl _ | apply List.Sublist.cons))) ?_; (try simp (disch := omega) only [push_cast, simprocAttr, *]); try (first | exact LE.refl _ | exact LE.sl _ _ | ((first | refine LE.tup ?_ | refine LE.agg ?_); (repeat' (first | exact LEL.nil | refine LEL.cons ?_ ?_ | exact LE.refl _ | exact LE.sl _ _ | refine LE.agg ?_)); done) | refine LE.of_eq ?_))
  have HB : Hid (((slots.drop 0).any Sch.greatS || steps.any Sch.greatP) = B) := Lib.hid (by rw [← hB]; simp [h1, h2, h3])
  clear hB
  refine trF_enter (ts := [2]) Tryz.func18 rfl (by rw [Tryz.ntmps18]; exact Nat.le_of_ble_eq_true rfl) (fun tmps w => by simp [results, Tryz.results18, go_sem, resVal]) ?_
  simp only [Tryz.ntmps18]
  repeat' (first | with_reducible refine Go1.go ?_ | ((with_reducible apply ev_go); (focus ((try simp (disch := omega) only [push_cast, simprocAttr, *]); (try exact rfl); done))) | ((with_reducible refine w_last ?_ ?_ ?_); kernel_rfl; rfl) | with_reducible refine Go2.go ?_ | ((with_reducible first | apply w_stepG | refine s_bi ?_ ?_ | refine blk_ne ?_ ?_); rfl) | ((with_reducible refine al_go ?_); intro b) | ((with_reducible first | refine w_region ?_ ?_ | refine w_dra ?_ ?_); kernel_rfl) | ((with_reducible refine Go3.go ?_ ?_); all_goals (intro hb; (try with_reducible intro hb1); (try (exfalso; first | contradiction | omega)))) | fail)
  refine tr_loop (ι := Nat) (fun i A st' => i ≤ slots.length ∧ Hid (((slots.drop i).any Sch.greatS || steps.any Sch.greatP) = B) ∧ A.df = [] ∧ A.e 1 = .ip [.str nm, .sl .shared SL, .sl .shared TL] ∧ A.e 3 = .i i ∧ st = st') (fun i => slots.length - i) 0 ⟨Nat.zero_le _, HB, ?_, ?_, ?_, rfl⟩ ?_
  iterate 3 (focus (first | rfl | assumption | omega | (simp (disch := omega) only [push_cast, simprocAttr, *]; try omega; done)))
  rintro i A st' ⟨hi, HT, hdf, e1, e3, rfl⟩
  clear HB
  by_cases hlt : i < slots.length
  · obtain ⟨s, hs⟩ : ∃ s, slots[i]? = some s := ⟨_, List.getElem?_eq_getElem hlt⟩
    have HE := HT.out
    rw [any_drop hs, Bool.or_assoc] at HE
    have hc := hcl.out i s hs
    have hG := refGreatF s.dv (hws2.out s (List.mem_of_getElem? hs)).2.2
    clear HT hs
    unfold Sch.greatS at HE
    cases s with
    | mk snm ty rq dv =>
    dsimp only at HE hG
    generalize V.great dv = g at *
    cases dv with
    | mk k n sv l =>
    rw [Sl.cells_mk] at hc
    rw [V.cells_mk] at hG
    replace hG := Lib.hid hG
    cases g with
    | true =>
      simp only [Bool.true_or] at HE
      subst HE
      repeat' (first | with_reducible refine Go1.go ?_ | ((with_reducible apply ev_go); (focus ((try simp (disch := omega) only [push_cast, simprocAttr, *]); (try exact rfl); done))) | ((with_reducible refine w_last ?_ ?_ ?_); kernel_rfl; rfl) | with_reducible refine Go2.go ?_ | ((with_reducible first | apply w_stepG | refine s_bi ?_ ?_ | refine blk_ne ?_ ?_); rfl) | ((with_reducible refine al_go ?_); intro b) | ((with_reducible apply (ck_le Tryz.call30)); exact LEL.refl _; exact hG.out _) | ((with_reducible first | refine w_region ?_ ?_ | refine w_dra ?_ ?_); kernel_rfl) | ((with_reducible refine Go3.go ?_ ?_); all_goals (intro hb; (try with_reducible intro hb1); (try (exfalso; first | contradiction | omega)))) | fail)
      all_goals (refine ret_eq (by simp) (by first | rfl | assumption) (by (repeat (first | exact List.Sublist.refl _ | apply List.Sublist.cons))) ?_; (try simp (disch := omega) only [push_cast, simprocAttr, *]); try (first | exact LE.refl _ | exact LE.sl _ _ | ((first | refine LE.tup ?_ | refine LE.agg ?_); (repeat' (first | exact LEL.nil | refine LEL.cons ?_ ?_ | exact LE.refl _ | exact LE.sl _ _ | refine LE.agg ?_)); done) | refine LE.of_eq ?_))
    | false =>
      by_cases h4 : 300 < snm.size
      · simp only [h4, decide_true, Bool.or_true, Bool.true_or] at HE
        subst HE
        repeat' (first | with_reducible refine Go1.go ?_ | ((with_reducible apply ev_go); (focus ((try simp (disch := omega) only [push_cast, simprocAttr, *]); (try exact rfl); done))) | ((with_reducible refine w_last ?_ ?_ ?_); kernel_rfl; rfl) | with_reducible refine Go2.go ?_ | ((with_reducible first | apply w_stepG | refine s_bi ?_ ?_ | refine blk_ne ?_ ?_); rfl) | ((with_reducible refine al_go ?_); intro b) | ((with_reducible apply (ck_le Tryz.call30)); exact LEL.refl _; exact hG.out _) | ((with_reducible first | refine w_region ?_ ?_ | refine w_dra ?_ ?_); kernel_rfl) | ((with_reducible refine Go3.go ?_ ?_); all_goals (intro hb; (try with_reducible intro hb1); (try (exfalso; first | contradiction | omega)))) | fail)
        all_goals (refine ret_eq (by simp) (by first | rfl | assumption) (by (repeat (first | exact List.Sublist.refl _ | apply List.Sublist.cons))) ?_; (try simp (disch := omega) only [push_cast, simprocAttr, *]); try (first | exact LE.refl _ | exact LE.sl _ _ | ((first | refine LE.tup ?_ | refine LE.agg ?_); (repeat' (first | exact LEL.nil | refine LEL.cons ?_ ?_ | exact LE.refl _ | exact LE.sl _ _ | refine LE.agg ?_)); done) | refine LE.of_eq ?_))
      · rw [decide_eq_false h4, Bool.or_self, Bool.false_or] at HE
        replace HE := Lib.hid HE
        repeat' (first | with_reducible refine Go1.go ?_ | ((with_reducible apply ev_go); (focus ((try simp (disch := omega) only [push_cast, simprocAttr, *]); (try exact rfl); done))) | ((with_reducible refine w_last ?_ ?_ ?_); kernel_rfl; rfl) | with_reducible refine Go2.go ?_ | ((with_reducible first | apply w_stepG | refine s_bi ?_ ?_ | refine blk_ne ?_ ?_); rfl) | ((with_reducible refine al_go ?_); intro b) | ((with_reducible apply (ck_le Tryz.call30)); exact LEL.refl _; exact hG.out _) | ((with_reducible first | refine w_region ?_ ?_ | refine w_dra ?_ ?_); kernel_rfl) | ((with_reducible refine Go3.go ?_ ?_); all_goals (intro hb; (try with_reducible intro hb1); (try (exfalso; first | contradiction | omega)))) | fail)
        refine ⟨i + 1, ⟨hlt, HE, ?_, ?_, ?_, rfl⟩, ?_⟩
        all_goals (first | rfl | assumption | omega | (simp (disch := omega) only [push_cast, simprocAttr, *]; try omega; done))
  · have HE := HT.out
    rw [List.drop_of_length_le (by omega), List.any_nil, Bool.false_or] at HE
    have HB : Hid ((steps.drop 0).any Sch.greatP = B) := HE
    clear HT HE
    repeat' (first | with_reducible refine Go1.go ?_ | ((with_reducible apply ev_go); (focus ((try simp (disch := omega) only [push_cast, simprocAttr, *]); (try exact rfl); done))) | ((with_reducible refine w_last ?_ ?_ ?_); kernel_rfl; rfl) | with_reducible refine Go2.go ?_ | ((with_reducible first | apply w_stepG | refine s_bi ?_ ?_ | refine blk_ne ?_ ?_); rfl) | ((with_reducible refine al_go ?_); intro b) | ((with_reducible first | refine w_region ?_ ?_ | refine w_dra ?_ ?_); kernel_rfl) | ((with_reducible refine Go3.go ?_ ?_); all_goals (intro hb; (try with_reducible intro hb1); (try (exfalso; first | contradiction | omega)))) | fail)
    refine tr_loop (ι := Nat) (fun i A st' => i ≤ steps.length ∧ Hid ((steps.drop i).any Sch.greatP = B) ∧ A.df = [] ∧ A.e 1 = .ip [.str nm, .sl .shared SL, .sl .shared TL] ∧ A.e 4 = .i i ∧ st = st') (fun i => steps.length - i) 0 ⟨Nat.zero_le _, HB, ?_, ?_, ?_, rfl⟩ ?_
    iterate 3 (focus (first | rfl | assumption | omega | (simp (disch := omega) only [push_cast, simprocAttr, *]; try omega; done)))
    clear hdf e1 e3
    rintro i A st' ⟨hi, HT, hdf, e1, e4, rfl⟩
    clear HB
    by_cases hlt : i < steps.length
    · obtain ⟨s, hs⟩ : ∃ s, steps[i]? = some s := ⟨_, List.getElem?_eq_getElem hlt⟩
      have HE := HT.out
      rw [any_drop hs] at HE
      have hc := hcp.out i s hs
      have hG := refGreatF s.slot.dv (hwp2.out s (List.mem_of_getElem? hs)).2.2.1.2.2
      have hol := (hwp2.out s (List.mem_of_getElem? hs)).2.2.2
      clear HT hs
      unfold Sch.greatP at HE
      unfold maxLen at hol
      unfold Stp.cells at hc
      cases s with
      | mk kd col slot order =>
      cases slot with
      | mk snm ty rq dv =>
      dsimp only at HE hG hol
      generalize V.great dv = g at *
      cases dv with
      | mk k n sv l =>
      rw [Sl.cells_mk] at hc
      rw [V.cells_mk] at hG
      dsimp only [List.cons_append, List.nil_append] at hc
      replace hG := Lib.hid hG
      cases g with
      | true =>
        simp only [Bool.true_or] at HE
        subst HE
        repeat' (first | with_reducible refine Go1.go ?_ | ((with_reducible apply ev_go); (focus ((try simp (disch := omega) only [push_cast, simprocAttr, *]); (try exact rfl); done))) | ((with_reducible refine w_last ?_ ?_ ?_); kernel_rfl; rfl) | with_reducible refine Go2.go ?_ | ((with_reducible first | apply w_stepG | refine s_bi ?_ ?_ | refine blk_ne ?_ ?_); rfl) | ((with_reducible refine al_go ?_); intro b) | ((with_reducible apply (ck_le Tryz.call30)); exact LEL.refl _; exact hG.out _) | ((with_reducible first | refine w_region ?_ ?_ | refine w_dra ?_ ?_); kernel_rfl) | ((with_reducible refine Go3.go ?_ ?_); all_goals (intro hb; (try with_reducible intro hb1); (try (exfalso; first | contradiction | omega)))) | fail)
        all_goals (refine ret_eq (by simp) (by first | rfl | assumption) (by (repeat (first | exact List.Sublist.refl _ | apply List.Sublist.cons))) ?_; (try simp (disch := omega) only [push_cast, simprocAttr, *]); try (first | exact LE.refl _ | exact LE.sl _ _ | ((first | refine LE.tup ?_ | refine LE.agg ?_); (repeat' (first | exact LEL.nil | refine LEL.cons ?_ ?_ | exact LE.refl _ | exact LE.sl _ _ | refine LE.agg ?_)); done) | refine LE.of_eq ?_))
      | false =>
        by_cases h4 : 300 < snm.size
        · simp only [h4, decide_true, Bool.or_true, Bool.true_or] at HE
          subst HE
          repeat' (first | with_reducible refine Go1.go ?_ | ((with_reducible apply ev_go); (focus ((try simp (disch := omega) only [push_cast, simprocAttr, *]); (try exact rfl); done))) | ((with_reducible refine w_last ?_ ?_ ?_); kernel_rfl; rfl) | with_reducible refine Go2.go ?_ | ((with_reducible first | apply w_stepG | refine s_bi ?_ ?_ | refine blk_ne ?_ ?_); rfl) | ((with_reducible refine al_go ?_); intro b) | ((with_reducible apply (ck_le Tryz.call30)); exact LEL.refl _; exact hG.out _) | ((with_reducible first | refine w_region ?_ ?_ | refine w_dra ?_ ?_); kernel_rfl) | ((with_reducible refine Go3.go ?_ ?_); all_goals (intro hb; (try with_reducible intro hb1); (try (exfalso; first | contradiction | omega)))) | fail)
          all_goals (refine ret_eq (by simp) (by first | rfl | assumption) (by (repeat (first | exact List.Sublist.refl _ | apply List.Sublist.cons))) ?_; (try simp (disch := omega) only [push_cast, simprocAttr, *]); try (first | exact LE.refl _ | exact LE.sl _ _ | ((first | refine LE.tup ?_ | refine LE.agg ?_); (repeat' (first | exact LEL.nil | refine LEL.cons ?_ ?_ | exact LE.refl _ | exact LE.sl _ _ | refine LE.agg ?_)); done) | refine LE.of_eq ?_))
        · by_cases h5 : 30 < order.length
          · simp only [h5, decide_true, Bool.or_true, Bool.true_or] at HE
            subst HE
            repeat' (first | with_reducible refine Go1.go ?_ | ((with_reducible apply ev_go); (focus ((try simp (disch := omega) only [push_cast, simprocAttr, *]); (try exact rfl); done))) | ((with_reducible refine w_last ?_ ?_ ?_); kernel_rfl; rfl) | with_reducible refine Go2.go ?_ | ((with_reducible first | apply w_stepG | refine s_bi ?_ ?_ | refine blk_ne ?_ ?_); rfl) | ((with_reducible refine al_go ?_); intro b) | ((with_reducible apply (ck_le Tryz.call30)); exact LEL.refl _; exact hG.out _) | ((with_reducible first | refine w_region ?_ ?_ | refine w_dra ?_ ?_); kernel_rfl) | ((with_reducible refine Go3.go ?_ ?_); all_goals (intro hb; (try with_reducible intro hb1); (try (exfalso; first | contradiction | omega)))) | fail)
            all_goals (refine ret_eq (by simp) (by first | rfl | assumption) (by (repeat (first | exact List.Sublist.refl _ | apply List.Sublist.cons))) ?_; (try simp (disch := omega) only [push_cast, simprocAttr, *]); try (first | exact LE.refl _ | exact LE.sl _ _ | ((first | refine LE.tup ?_ | refine LE.agg ?_); (repeat' (first | exact LEL.nil | refine LEL.cons ?_ ?_ | exact LE.refl _ | exact LE.sl _ _ | refine LE.agg ?_)); done) | refine LE.of_eq ?_))
          · rw [decide_eq_false h4, decide_eq_false h5, Bool.or_self, Bool.or_self, Bool.false_or] at HE
            replace HE := Lib.hid HE
            repeat' (first | with_reducible refine Go1.go ?_ | ((with_reducible apply ev_go); (focus ((try simp (disch := omega) only [push_cast, simprocAttr, *]); (try exact rfl); done))) | ((with_reducible refine w_last ?_ ?_ ?_); kernel_rfl; rfl) | with_reducible refine Go2.go ?_ | ((with_reducible first | apply w_stepG | refine s_bi ?_ ?_ | refine blk_ne ?_ ?_); rfl) | ((with_reducible refine al_go ?_); intro b) | ((with_reducible apply (ck_le Tryz.call30)); exact LEL.refl _; exact hG.out _) | ((with_reducible first | refine w_region ?_ ?_ | refine w_dra ?_ ?_); kernel_rfl) | ((with_reducible refine Go3.go ?_ ?_); all_goals (intro hb; (try with_reducible intro hb1); (try (exfalso; first | contradiction | omega)))) | fail)
            refine ⟨i + 1, ⟨hlt, HE, ?_, ?_, ?_, rfl⟩, ?_⟩
            all_goals (first | rfl | assumption | omega | (simp (disch := omega) only [push_cast, simprocAttr, *]; try omega; done))
    · have HE := HT.out
      rw [List.drop_of_length_le (by omega), List.any_nil] at HE
      subst HE
      clear HT
      repeat' (first | with_reducible refine Go1.go ?_ | ((with_reducible apply ev_go); (focus ((try simp (disch := omega) only [push_cast, simprocAttr, *]); (try exact rfl); done))) | ((with_reducible refine w_last ?_ ?_ ?_); kernel_rfl; rfl) | with_reducible refine Go2.go ?_ | ((with_reducible first | apply w_stepG | refine s_bi ?_ ?_ | refine blk_ne ?_ ?_); rfl) | ((with_reducible refine al_go ?_); intro b) | ((with_reducible first | refine w_region ?_ ?_ | refine w_dra ?_ ?_); kernel_rfl) | ((with_reducible refine Go3.go ?_ ?_); all_goals (intro hb; (try with_reducible intro hb1); (try (exfalso; first | contradiction | omega)))) | fail)
      all_goals (refine ret_eq (by simp) (by first | rfl | assumption) (by (repeat (first | exact List.Sublist.refl _ | apply List.Sublist.cons))) ?_; (try simp (disch := omega) only [push_cast, simprocAttr, *]); try (first | exact LE.refl _ | exact LE.sl _ _ | ((first | refine LE.tup ?_ | refine LE.agg ?_); (repeat' (first | exact LEL.nil | refine LEL.cons ?_ ?_ | exact LE.refl _ | exact LE.sl _ _ | refine LE.agg ?_)); done) | refine LE.of_eq ?_))
end Go.Proofs.YtooaagmhgakhgaaGreat
end

section
namespace Go.Proofs.YtooaagmhgakhgaaGreat
set_option linter.unusedSimpArgs false
open Go.RowKit
theorem not_great10 {t : Tm} (hw : t.Wf) (h : Sch.great t = false) : TOk t ∧ (∀ s ∈ t.slots, s.dv.nodes ≤ 1000 ∧ s.dv.deep ≤ 10 ∧ s.name.size ≤ 300 ∧ s.Ok) ∧ (∀ s ∈ t.steps, s.slot.dv.nodes ≤ 1000 ∧ s.slot.dv.deep ≤ 10 ∧ s.slot.name.size ≤ 300 ∧ s.slot.Ok ∧ s.order.length ≤ 30) ∧ t.name.size ≤ 300 ∧ t.slots.length ≤ 30 ∧ t.steps.length ≤ 30 := by
  unfold Sch.great at h
  simp only [Bool.or_eq_false_iff, decide_eq_false_iff_not, List.any_eq_false, Bool.not_eq_true] at h
  obtain ⟨h1, h2, h3, h4, h5⟩ := h
  have hs : ∀ s ∈ t.slots, s.dv.nodes ≤ 1000 ∧ s.dv.deep ≤ 10 ∧ s.name.size ≤ 300 ∧ s.Ok := fun s hs => by
    have := h4 s hs
    unfold Sch.greatS at this
    rw [Bool.or_eq_false_iff, decide_eq_false_iff_not] at this
    obtain ⟨k1, k2⟩ := V.not_great this.1
    exact ⟨k1, k2, by omega, hw.ss s hs⟩
  have hp : ∀ s ∈ t.steps, s.slot.dv.nodes ≤ 1000 ∧ s.slot.dv.deep ≤ 10 ∧ s.slot.name.size ≤ 300 ∧ s.slot.Ok ∧ s.order.length ≤ 30 := fun s hs => by
    have := h5 s hs
    unfold Sch.greatP at this
    simp only [Bool.or_eq_false_iff, decide_eq_false_iff_not] at this
    obtain ⟨k1, k2⟩ := V.not_great this.1
    exact ⟨k1, k2, by omega, (hw.ps s hs).2.2.1, by omega⟩
  refine ⟨⟨by omega, by omega, fun s h => (hs s h).1, fun s h => ?_⟩, hs, hp, by omega, by omega, by omega⟩
  obtain ⟨k1, -, -, k4, k5⟩ := hp s h
  exact ⟨k1, V.Ok.bg k4.2.2, by omega⟩
end Go.Proofs.YtooaagmhgakhgaaGreat
end

section
namespace Go.Proofs.YtooaagmhgakhgaaGreat
set_option linter.unusedSimpArgs false
attribute [local push_cast] encB encI encC V.cells_mk V.cells_len Nat.mul_one Int.sub_zero List.map_nil beq_self_eq_true List.head?_cons
open Go.RowKit
set_option maxRecDepth 10000
set_option maxHeartbeats 4000000
structure Rc.Wf (r : Rc) : Prop where
  v : -9223372036854775808 ≤ r.v ∧ r.v ≤ 9223372036854775807
  s : ∀ x ∈ r.s, x.Ok
  l : r.s.length ≤ maxLen
def Sch.great12 (t : Tm) (r : Rc) : Bool := Sch.great t || (decide (40 < r.s.length) || r.s.any V.great)
theorem cast12GreatF (t : Tm) (hw : t.Wf) (r : Rc) (hr : r.Wf) (st : St) : TrF Tryz.prog 6 [.agg t.cells, .agg r.cells] st fun d st' => d = .b (Sch.great12 t r) ∧ st' = st := by
  have hG := refGreat10F t hw
  have hH := refGreat11F .shared r.s hr.s (by have := hr.l; unfold maxLen at this; omega)
  unfold Sch.great12
  generalize (decide (40 < r.s.length) || r.s.any V.great) = g2 at *
  generalize Sch.great t = g1 at *
  unfold Tm.cells Rc.cells at *
  generalize t.slots.map Sl.cells = SL at *
  generalize t.steps.map Stp.cells = TL at *
  generalize t.name = nm at *
  generalize r.s.map V.cells = RS at *
  generalize r.v = rv at *
  replace hG := Lib.hid hG
  replace hH := Lib.hid hH
  cases g1
  all_goals (
    refine trF_enter (ts := [4]) Tryz.func6 rfl (by rw [Tryz.ntmps6]; exact Nat.le_of_ble_eq_true rfl) (fun tmps w => by simp [results, Tryz.results6, go_sem, resVal]) ?_
    simp only [Tryz.ntmps6]
    repeat' (first | with_reducible refine Go1.go ?_ | ((with_reducible apply ev_go); (focus ((try simp (disch := omega) only [push_cast, simprocAttr, *]); (try exact rfl); done))) | ((with_reducible refine w_last ?_ ?_ ?_); kernel_rfl; rfl) | with_reducible refine Go2.go ?_ | ((with_reducible first | apply w_stepG | refine s_bi ?_ ?_ | refine blk_ne ?_ ?_); rfl) | ((with_reducible refine al_go ?_); intro b) | ((with_reducible apply (ck_le Tryz.call18)); exact LEL.refl _; exact hG.out _) | ((with_reducible apply (ck_le Tryz.call19)); exact LEL.refl _; exact hH.out _) | ((with_reducible first | refine w_region ?_ ?_ | refine w_dra ?_ ?_); kernel_rfl) | ((with_reducible refine Go3.go ?_ ?_); all_goals (intro hb; (try with_reducible intro hb1); (try (exfalso; first | contradiction | omega)))) | fail)
    all_goals (refine ret_eq (by simp) (by first | rfl | assumption) (by (repeat (first | exact List.Sublist.refl _ | apply List.Sublist.cons))) ?_; (try simp (disch := omega) only [push_cast, simprocAttr, *]); try (first | exact LE.refl _ | exact LE.sl _ _ | ((first | refine LE.tup ?_ | refine LE.agg ?_); (repeat' (first | exact LEL.nil | refine LEL.cons ?_ ?_ | exact LE.refl _ | exact LE.sl _ _ | refine LE.agg ?_)); done) | refine LE.of_eq ?_)))
structure Look (t : Tm) (r : Rc) : Prop where
  tc : TC t
  tq : TQ t
  rk : ROk r
  rq : ∀ v ∈ r.s, VQ v
  xq : ∀ x ∈ Sch.vers t, ∀ z ∈ x.slots, VQ z.dv
theorem not_great12 {t : Tm} {r : Rc} (hw : t.Wf) (hr : r.Wf) (h : Sch.great12 t r = false) : Look t r := by
  unfold Sch.great12 at h
  rw [Bool.or_eq_false_iff, Bool.or_eq_false_iff] at h
  obtain ⟨h1, h2, h3⟩ := h
  obtain ⟨hT, hs, hp, -, hl1, hl2⟩ := not_great10 hw h1
  have hv : ∀ v ∈ r.s, VQ v := fun v hv => by
    rw [List.any_eq_false] at h3
    have h4 := h3 v hv
    rw [Bool.not_eq_true] at h4
    obtain ⟨k1, k2⟩ := V.not_great h4
    exact ⟨hr.s v hv, k1, by omega⟩
  have hx : ∀ x ∈ Sch.vers t, ∀ z ∈ x.slots, VQ z.dv := fun x hx => Sch.vers_dv (Q := VQ) (fun s h => ⟨(hs s h).2.2.2.2.2, (hs s h).1, by have := (hs s h).2.1; omega⟩) (fun s h => ⟨(hp s h).2.2.2.1.2.2, (hp s h).1, by have := (hp s h).2.1; omega⟩) x hx
  refine ⟨⟨hT, fun x h z hz => (hx x h z hz).nodes⟩, ⟨by omega, by omega, fun s h => ⟨⟨(hs s h).2.2.2.2.2, (hs s h).1, by have := (hs s h).2.1; omega⟩, (hs s h).2.2.2.2.1⟩, fun s h => ⟨⟨(hp s h).2.2.2.1.2.2, (hp s h).1, by have := (hp s h).2.1; omega⟩, (hp s h).2.2.2.1.2.1, by have := (hp s h).2.2.2.2; omega⟩⟩, ⟨fun v h => (hv v h).nodes, ?_⟩, hv, hx⟩
  have : ¬ 40 < r.s.length := of_decide_eq_false h2
  omega
theorem Look.cast {t : Tm} {r : Rc} (h : Look t r) {v : Int} {x : Vr} (hx : Sch.ver t v = some x) : Look t ⟨v, Sch.castL x.slots r.s⟩ := by
  have hq : ∀ u ∈ Sch.castL x.slots r.s, VQ u := Sch.castL_mem _ _ (h.xq x (ver_mem hx)) h.rq
  refine ⟨h.tc, h.tq, ⟨fun u hu => (hq u hu).nodes, ?_⟩, hq, h.xq⟩
  show (Sch.castL x.slots r.s).length ≤ 1000
  rw [Sch.castL_len]
  have := (Sch.vers_vi (ver_mem hx)).ls
  omega
theorem readsRc : Reads Tryz.prog 28 Rc.cells Rc.Wf := by
  intro n H enc W fuel cs x hf h
  obtain ⟨xs, m, rfl, -, hl, hn, hx⟩ := DataW.trod_struct Tryz.underlying28 h
  have hl2 : cs.length = 2 := hl.trans (by kernel_rfl)
  obtain ⟨a, a1, a2⟩ := struct_field (i := 0) (n := m) (f := fun a : Int => [D.i a]) hx hn rfl (k := 1) (by kernel_rfl) (reads_int (k := .i64) Tryz.underlying3 _) (Nat.le_refl _)
  obtain ⟨b, b1, b2, b3⟩ := struct_field (i := 1) (n := m) (f := fun l : List V => [D.sl .shared (l.map V.cells)]) hx hn rfl (k := 1) (by kernel_rfl) (readsVs _) (Nat.le_refl _)
  refine ⟨⟨a, b⟩, ?_, ⟨i64_bounds a2, b2, b3⟩⟩
  exact RepL.glue a1 (RepL.glue b1 (RepL.glue_end hl2))
end Go.Proofs.YtooaagmhgakhgaaGreat
end

section
namespace Go.Proofs.YtooaagmhgakhgaaGreat
set_option linter.unusedSimpArgs false
attribute [local push_cast] encB encI encC V.cells_mk V.cells_len Nat.mul_one Int.sub_zero List.map_nil beq_self_eq_true List.head?_cons
open Go.RowKit
set_option maxRecDepth 10000
set_option maxHeartbeats 4000000
theorem Rc.same_self (r : Rc) : Rc.same r r = true := by
  unfold Rc.same
  rw [V.cmpL_self, beq_self_eq_true]; rfl
namespace Sch
theorem upS_cases (t : Tm) (r : Rc) (v : Int) : (∃ e, upS t r v = (zeroR, e) ∧ (e = 1 ∨ e = 7)) ∨ ∃ x, ver t v = some x ∧ valid t r = true ∧ r.v ≤ v ∧ upS t r v = (⟨v, castL x.slots r.s⟩, 0) := by
  unfold upS
  by_cases h : valid t r = true ∧ (ver t v).isSome = true ∧ decide (v ≥ r.v) = true
  · obtain ⟨h1, h2, h3⟩ := h
    obtain ⟨x, hx⟩ := Option.isSome_iff_exists.1 h2
    refine .inr ⟨x, hx, h1, of_decide_eq_true h3, ?_⟩
    rw [h3, toS_eq h1 hx]
  · exact .inl (toS_no h)
theorem downS_cases (t : Tm) (r : Rc) (v : Int) : (∃ e, downS t r v = (zeroR, e) ∧ (e = 1 ∨ e = 7)) ∨ ∃ x, ver t v = some x ∧ valid t r = true ∧ v ≤ r.v ∧ downS t r v = (⟨v, castL x.slots r.s⟩, 0) := by
  unfold downS
  by_cases h : valid t r = true ∧ (ver t v).isSome = true ∧ decide (v ≤ r.v) = true
  · obtain ⟨h1, h2, h3⟩ := h
    obtain ⟨x, hx⟩ := Option.isSome_iff_exists.1 h2
    refine .inr ⟨x, hx, h1, of_decide_eq_true h3, ?_⟩
    rw [h3, toS_eq h1 hx]
  · exact .inl (toS_no h)
theorem upS_eq {t : Tm} {r : Rc} {v : Int} {x : Vr} (h1 : valid t r = true) (hx : ver t v = some x) (h : r.v ≤ v) : upS t r v = (⟨v, castL x.slots r.s⟩, 0) := by
  unfold upS
  rw [decide_eq_true (show v ≥ r.v from h), toS_eq h1 hx]
theorem downS_eq {t : Tm} {r : Rc} {v : Int} {x : Vr} (h1 : valid t r = true) (hx : ver t v = some x) (h : v ≤ r.v) : downS t r v = (⟨v, castL x.slots r.s⟩, 0) := by
  unfold downS
  rw [decide_eq_true h, toS_eq h1 hx]
end Sch
end Go.Proofs.YtooaagmhgakhgaaGreat
end

section
namespace Go.Proofs.YtooaagmhgakhgaaGreat
set_option linter.unusedSimpArgs false
attribute [local push_cast] encB encI encC V.cells_mk V.cells_len Nat.mul_one Int.sub_zero List.map_nil beq_self_eq_true List.head?_cons
open Go.RowKit
set_option maxRecDepth 10000
set_option maxHeartbeats 4000000
def twoT : Tm := ⟨⟨#[116]⟩, [⟨⟨#[97]⟩, 4, false, .mk 2 0 ⟨#[]⟩ []⟩, ⟨⟨#[98]⟩, 4, true, .mk 2 0 ⟨#[]⟩ []⟩], [⟨2, 0, ⟨⟨#[]⟩, 0, false, .mk 0 0 ⟨#[]⟩ []⟩, []⟩, ⟨1, 0, ⟨⟨#[99]⟩, 5, false, .mk 0 0 ⟨#[]⟩ []⟩, []⟩]⟩
theorem twoC : twoT.cells = [.str ⟨#[116]⟩, .sl .shared [[.str ⟨#[97]⟩, .i 4, .b false, .i 2, .i 0, .str ⟨#[]⟩, .sl .shared []], [.str ⟨#[98]⟩, .i 4, .b true, .i 2, .i 0, .str ⟨#[]⟩, .sl .shared []]],
    .sl .shared [[.i 2, .i 0, .str ⟨#[]⟩, .i 0, .b false, .i 0, .i 0, .str ⟨#[]⟩, .sl .shared [], .sl .shared []], [.i 1, .i 0, .str ⟨#[99]⟩, .i 5, .b false, .i 0, .i 0, .str ⟨#[]⟩, .sl .shared [], .sl .shared []]]] := by
  unfold twoT Tm.cells
  simp only [List.map_cons, List.map_nil, Stp.cells, Sl.cells_mk, List.cons_append, List.nil_append]
theorem refInt10F (n : Int) (st : St) : TrF Tryz.prog 17 [.i n] st fun x st' => x = .agg (V.mk 2 n ⟨#[]⟩ []).cells ∧ st' = st := by
  refine trF_enterC (G := cellA 2 42 Tryz.prog) Tryz.func17 rfl (by rw [Tryz.ntmps17]; exact Nat.le_of_ble_eq_true rfl) (fun h1 h2 h3 => res_cell rfl h1 h2 h3) ?_
  simp only [Tryz.ntmps17]
  repeat' (first | with_reducible refine Go1.go ?_ | ((with_reducible apply ev_go); (focus ((try simp (disch := omega) only [push_cast, simprocAttr, *]); (try exact rfl); done))) | ((with_reducible refine w_last ?_ ?_ ?_); kernel_rfl; rfl) | with_reducible refine Go2.go ?_ | ((with_reducible first | apply w_stepG | refine s_bi ?_ ?_ | refine blk_ne ?_ ?_); rfl) | ((with_reducible refine al_go ?_); intro b) | ((with_reducible first | refine w_region ?_ ?_ | refine w_dra ?_ ?_); kernel_rfl) | ((with_reducible refine Go3.go ?_ ?_); all_goals (intro hb; (try with_reducible intro hb1); (try (exfalso; first | contradiction | omega)))) | fail)
  all_goals (refine retC_cell (by simp) (by first | rfl | assumption) (by simp (disch := omega) only [push_cast, simprocAttr, *]; exact rfl) (by repeat (first | exact mm_h | apply mm_t)) (by simp (disch := omega) only [push_cast, simprocAttr, *]; exact rfl) (by (try simp (disch := omega) only [push_cast, simprocAttr, *]); (try exact rfl); done) (by (repeat (first | exact List.Sublist.refl _ | apply List.Sublist.cons))) ?_ ⟨rfl, rfl⟩; (try simp (disch := omega) only [push_cast, simprocAttr, *]); try (first | exact LE.refl _ | exact LE.sl _ _ | ((first | refine LE.tup ?_ | refine LE.agg ?_); (repeat' (first | exact LEL.nil | refine LEL.cons ?_ ?_ | exact LE.refl _ | exact LE.sl _ _ | refine LE.agg ?_)); done) | refine LE.of_eq ?_))
theorem twoOk : TOk twoT := by
  refine ⟨by decide, by decide, ?_, ?_⟩
  · intro s hs
    simp only [twoT, List.mem_cons, List.not_mem_nil, or_false] at hs
    rcases hs with rfl | rfl <;> decide
  · intro s hs
    have hb : ∀ k n : Int, (V.mk k n ⟨#[]⟩ []).Bg := fun _ _ => .mk (Nat.zero_le _) (Nat.zero_le _) fun x h => by cases h
    simp only [twoT, List.mem_cons, List.not_mem_nil, or_false] at hs
    rcases hs with rfl | rfl <;> exact ⟨by decide, hb _ _, by decide⟩
abbrev sA : List D := [.str ⟨#[97]⟩, .i 4, .b false, .i 2, .i 0, .str ⟨#[]⟩, .sl .shared []]
abbrev sB : List D := [.str ⟨#[98]⟩, .i 4, .b true, .i 2, .i 0, .str ⟨#[]⟩, .sl .shared []]
abbrev sC : List D := [.str ⟨#[99]⟩, .i 5, .b false, .i 0, .i 0, .str ⟨#[]⟩, .sl .shared []]
theorem twoF (st : St) : TrF Tryz.prog 16 [] st fun d st' => d = .agg twoT.cells ∧ st' = st := by
  have hI := refInt10F 0
  rw [V.cells_mk] at hI
  rw [twoC]
  replace hI := Lib.hid hI
  refine trF_enterC (G := cellA 0 25 Tryz.prog) Tryz.func16 rfl (by rw [Tryz.ntmps16]; exact Nat.le_of_ble_eq_true rfl) (fun h1 h2 h3 => res_cell rfl h1 h2 h3) ?_
  simp only [Tryz.ntmps16]
  repeat' (first | with_reducible refine Go1.go ?_ | ((with_reducible apply ev_go); (focus ((try simp (disch := omega) only [push_cast, simprocAttr, *]); (try exact rfl); done))) | ((with_reducible refine w_last ?_ ?_ ?_); kernel_rfl; rfl) | with_reducible refine Go2.go ?_ | ((with_reducible first | apply w_stepG | refine s_bi ?_ ?_ | refine blk_ne ?_ ?_); rfl) | ((with_reducible refine al_go ?_); intro b) | ((with_reducible apply (ck_le Tryz.call17)); exact LEL.refl _; exact hI.out _) | ((with_reducible first | refine w_region ?_ ?_ | refine w_dra ?_ ?_); kernel_rfl) | ((with_reducible refine Go3.go ?_ ?_); all_goals (intro hb; (try with_reducible intro hb1); (try (exfalso; first | contradiction | omega)))) | fail)
  all_goals (refine retC_cell (by simp) (by first | rfl | assumption) (by simp (disch := omega) only [push_cast, simprocAttr, *]; exact rfl) (by repeat (first | exact mm_h | apply mm_t)) (by simp (disch := omega) only [push_cast, simprocAttr, *]; exact rfl) (by (try simp (disch := omega) only [push_cast, simprocAttr, *]); (try exact rfl); done) (by (repeat (first | exact List.Sublist.refl _ | apply List.Sublist.cons))) ?_ ⟨rfl, rfl⟩; (try simp (disch := omega) only [push_cast, simprocAttr, *]); try (first | exact LE.refl _ | exact LE.sl _ _ | ((first | refine LE.tup ?_ | refine LE.agg ?_); (repeat' (first | exact LEL.nil | refine LEL.cons ?_ ?_ | exact LE.refl _ | exact LE.sl _ _ | refine LE.agg ?_)); done) | refine LE.of_eq ?_))
end Go.Proofs.YtooaagmhgakhgaaGreat
end

section
namespace Go.Proofs.YtooaagmhgakhgaaGreat
set_option linter.unusedSimpArgs false
attribute [local push_cast] encB encI encC V.cells_mk V.cells_len Nat.mul_one Int.sub_zero List.map_nil beq_self_eq_true List.head?_cons
open Go.RowKit
set_option maxRecDepth 10000
set_option maxHeartbeats 4000000
abbrev r12 : Rc := ⟨1, [.mk 2 3 ⟨#[]⟩ [], .mk 2 4 ⟨#[]⟩ []]⟩
abbrev u12 : Rc := ⟨3, [.mk 2 3 ⟨#[]⟩ [], .mk 2 4 ⟨#[]⟩ [], .mk 0 0 ⟨#[]⟩ []]⟩
abbrev x12 : Rc := ⟨2, [.mk 2 3 ⟨#[]⟩ [], .mk 2 4 ⟨#[]⟩ []]⟩
theorem r12_new : Sch.newestS twoT r12 = (u12, 0) := by kernel_rfl
theorem r12_down : Sch.downS twoT u12 1 = (r12, 0) := by kernel_rfl
theorem r12_lower : Sch.castS twoT r12 0 = (Sch.zeroR, 7) := by kernel_rfl
theorem r12_lift : Sch.castS twoT r12 2 = (x12, 0) := by kernel_rfl
theorem r12_up : Sch.upS twoT r12 2 = (x12, 0) := by kernel_rfl
theorem twoTC : TC twoT := ⟨twoOk, fun x hx => Sch.vers_dv (Q := fun v => v.nodes ≤ 1000) (fun s h => twoOk.os s h) (fun s h => (twoOk.ot s h).1) x hx⟩
theorem r12_ok : ROk r12 := ⟨by decide, by decide⟩
theorem u12_ok : ROk u12 := ⟨by decide, by decide⟩
theorem cast12AliveF (st : St) : TrF Tryz.prog 5 [] st fun d st' => d = .b true ∧ st' = st := by
  have hT := twoF
  have hI1 := refInt10F 3
  have hI2 := refInt10F 4
  have hN := castNewestF twoT twoTC r12 r12_ok
  have hD := castDownF twoT twoTC u12 u12_ok 1
  have hLo := castLowerF twoT twoTC r12 r12_ok (by decide)
  have hLi := castLiftF twoT twoTC r12 r12_ok (by decide)
  have hU := castUpF twoT twoTC r12 r12_ok 2
  have hS1 := refSame11F r12 r12 (fun v h => by simp only [r12, List.mem_cons, List.not_mem_nil, or_false] at h; rcases h with h | h <;> rw [h] <;> exact V.Ok.mk (by decide) (by decide) (by decide) (Nat.zero_le _) (fun x h => by cases h)) (by decide)
  have hS2 := refSame11F x12 x12 (fun v h => by simp only [x12, List.mem_cons, List.not_mem_nil, or_false] at h; rcases h with h | h <;> rw [h] <;> exact V.Ok.mk (by decide) (by decide) (by decide) (Nat.zero_le _) (fun x h => by cases h)) (by decide)
  rw [Rc.same_self] at hS1 hS2
  rw [r12_new] at hN
  rw [r12_down] at hD
  rw [show (r12.v - 1 : Int) = 0 from rfl, r12_lower] at hLo
  rw [show (r12.v + 1 : Int) = 2 from rfl, r12_lift] at hLi
  rw [r12_up] at hU
  unfold Sch.zeroR at hLo
  simp only [Rc.cells, List.map_cons, List.map_nil, V.cells_mk] at hN hD hLo hLi hU hS1 hS2 hI1 hI2
  rw [twoC] at hT hN hD hLo hLi hU
  replace hT := Lib.hid hT
  replace hN := Lib.hid hN
  replace hD := Lib.hid hD
  replace hLo := Lib.hid hLo
  replace hLi := Lib.hid hLi
  replace hU := Lib.hid hU
  replace hS1 := Lib.hid hS1
  replace hS2 := Lib.hid hS2
  replace hI1 := Lib.hid hI1
  replace hI2 := Lib.hid hI2
  refine trF_enter (ts := [0]) Tryz.func5 rfl (by rw [Tryz.ntmps5]; exact Nat.le_of_ble_eq_true rfl) (fun tmps w => by simp [results, Tryz.results5, go_sem, resVal]) ?_
  simp only [Tryz.ntmps5]
  repeat' (first | with_reducible refine Go1.go ?_ | ((with_reducible apply ev_go); (focus ((try simp (disch := omega) only [push_cast, simprocAttr, *]); (try exact rfl); done))) | ((with_reducible refine w_last ?_ ?_ ?_); kernel_rfl; rfl) | with_reducible refine Go2.go ?_ | ((with_reducible first | apply w_stepG | refine s_bi ?_ ?_ | refine blk_ne ?_ ?_); rfl) | ((with_reducible refine al_go ?_); intro b) | ((with_reducible apply (ck_le Tryz.call16)); exact LEL.refl _; exact hT.out _) | ((with_reducible apply (ck_le Tryz.call17)); exact LEL.refl _; exact hI1.out _) | ((with_reducible apply (ck_le Tryz.call17)); exact LEL.refl _; exact hI2.out _) | ((with_reducible apply (ck_le Tryz.call11)); exact LEL.refl _; exact hN.out _) | ((with_reducible apply (ck_le Tryz.call9)); exact LEL.refl _; exact hD.out _) | ((with_reducible apply (ck_le Tryz.call15)); exact LEL.refl _; exact hLo.out _) | ((with_reducible apply (ck_le Tryz.call14)); exact LEL.refl _; exact hLi.out _) | ((with_reducible apply (ck_le Tryz.call7)); exact LEL.refl _; exact hU.out _) | ((with_reducible apply (ck_le Tryz.call13)); exact LEL.refl _; exact hS1.out _) | ((with_reducible apply (ck_le Tryz.call13)); exact LEL.refl _; exact hS2.out _) | ((with_reducible first | refine w_region ?_ ?_ | refine w_dra ?_ ?_); kernel_rfl) | ((with_reducible refine Go3.go ?_ ?_); all_goals (intro hb; (try with_reducible intro hb1); (try (exfalso; first | contradiction | omega)))) | fail)
  all_goals (refine ret_eq (by simp) (by first | rfl | assumption) (by (repeat (first | exact List.Sublist.refl _ | apply List.Sublist.cons))) ?_; (try simp (disch := omega) only [push_cast, simprocAttr, *]); try (first | exact LE.refl _ | exact LE.sl _ _ | ((first | refine LE.tup ?_ | refine LE.agg ?_); (repeat' (first | exact LEL.nil | refine LEL.cons ?_ ?_ | exact LE.refl _ | exact LE.sl _ _ | refine LE.agg ?_)); done) | refine LE.of_eq ?_))
end Go.Proofs.YtooaagmhgakhgaaGreat
end

section
namespace Go.Proofs.YtooaagmhgakhgaaGreat
set_option linter.unusedSimpArgs false
namespace Sch
theorem down_none {t : Tm} {r : Rc} {v : Int} (hv : valid t r = true) (h : verB t v = true → ¬ v ≤ r.v) : downS t r v = (zeroR, 7) := by
  unfold downS toS
  rw [if_pos hv, if_neg]
  rintro ⟨h1, h2, h3⟩
  obtain ⟨x, hx⟩ := ver_some h1 h2
  exact h (ver_verB hx).1 (of_decide_eq_true h3)
theorem up_none {t : Tm} {r : Rc} {v : Int} (hv : valid t r = true) (h : verB t v = true → ¬ r.v ≤ v) : upS t r v = (zeroR, 7) := by
  unfold upS toS
  rw [if_pos hv, if_neg]
  rintro ⟨h1, h2, h3⟩
  obtain ⟨x, hx⟩ := ver_some h1 h2
  exact h (ver_verB hx).1 (of_decide_eq_true h3)
theorem verB_some {t : Tm} {v : Int} (h : verB t v = true) : ∃ x, ver t v = some x := by
  unfold verB at h
  cases hx : ver t v with
  | none => rw [hx] at h; cases h
  | some x => exact ⟨x, rfl⟩
theorem up_bad {t : Tm} {r : Rc} {v : Int} (hv : valid t r = false) : upS t r v = (zeroR, 1) := by
  unfold upS toS
  rw [if_neg (by rw [hv]; exact Bool.false_ne_true)]
theorem down_bad {t : Tm} {r : Rc} {v : Int} (hv : valid t r = false) : downS t r v = (zeroR, 1) := by
  unfold downS toS
  rw [if_neg (by rw [hv]; exact Bool.false_ne_true)]
theorem castL_take {x y : List Sl} {l : List V} (hl : fitsL y l = true) (hyx : Grow y x) : (castL x l).take l.length = l := by
  refine List.ext_getElem? fun i => ?_
  rw [List.getElem?_take]
  split
  · rename_i hi
    have hyl := fitsL_len _ _ hl
    obtain ⟨z, hz⟩ : ∃ z, y[i]? = some z := ⟨_, List.getElem?_eq_getElem (by omega)⟩
    obtain ⟨u, hu, hf⟩ := fitsL_get _ _ hl i z hz
    obtain ⟨s, hs, -, hg⟩ := hyx.old i z hz
    rw [castL_get?, hs, hu]
    show some (one s (some u)) = some u
    rw [one, if_pos (hg u hf)]
  · rw [List.getElem?_eq_none (by omega)]
end Sch
end Go.Proofs.YtooaagmhgakhgaaGreat
end

section
namespace Go.Proofs.YtooaagmhgakhgaaGreat
set_option linter.unusedSimpArgs false
open Go.RowKit
section
variable {P : Program} {st : St} {w : World}
end
section
variable {P : Program} {r : Option Nat} {A : AA} {st : St} {w : World} {m : Option Ro} {k : D → St → Prop} {dst : Option Tmp} {ty : TypeId} {pos : String} {aft : Array Edge} {gd : Option (Nat × Bool)}
end
end Go.Proofs.YtooaagmhgakhgaaGreat
end

section
namespace Go.Proofs.YtooaagmhgakhgaaGreat
set_option linter.unusedSimpArgs false
open Go.RowKit
def aFillO (place : Nat → Option (Nat × Nat)) : List D → List (Nat × D) → Option (List D)
  | cs, [] => some cs
  | cs, (i, d) :: rest => match place i with
    | some (off, sz) => if d.cells.length = sz ∧ off + sz ≤ cs.length then aFillO place (splice cs off d.cells) rest else none
    | none => none
def aBuildO (P : Program) (t : TypeId) (ps : List (Nat × D)) : Option D :=
  match tinfo P t with
  | some ti => if ti.zero.all noAgg then match ti.k with
    | .struct fs => (aFillO (fun i => (fs[i]?).map fun f => (f.1, f.2.1)) (ti.zero.map leafD) ps).map .agg
    | _ => none
    else none
  | none => none
section
variable {P : Program} {st : St} {w : World}
theorem fill_repO {O : Nat → Nat → Prop} {place : Nat → Option (Nat × Nat)} : ∀ {ps : List (Nat × D)} {vs : List (Nat × Value)} {cs cs' : List D} {cells : Array Value}, vs.map (·.1) = ps.map (·.1) → RepL O w (vs.map (·.2)) (ps.map (·.2)) → RepL O w cells.toList cs → aFillO place cs ps = some cs' →
    ∃ cells', Instr.fill place cells vs = some cells' ∧ RepL O w cells'.toList cs'
  | [], [], cs, cs', cells, _, _, hc, h => by cases h; exact ⟨cells, rfl, hc⟩
  | (i, d) :: ps, (i', v) :: vs, cs, cs', cells, h1, h2, hc, h => by
    simp only [List.map_cons, List.cons.injEq] at h1
    obtain ⟨rfl, h1⟩ := h1
    obtain ⟨u, t, e, hd, h2'⟩ := RepL.inv_cons h2
    rw [List.map_cons] at e
    cases e
    unfold aFillO at h
    unfold Instr.fill
    cases hp : place i' with
    | none => rw [hp] at h; cases h
    | some q =>
      obtain ⟨off, sz⟩ := q
      rw [hp] at h
      simp only at h ⊢
      split at h
      · rename_i hq
        have hcl := hd.cells
        have hvs : v.cells.size = sz := by rw [← Array.length_toList, hcl.1]; exact hq.1
        have hcs : cells.size = cs.length := by rw [← Array.length_toList]; exact hc.1
        have hcond : (decide (v.cells.size ≠ sz) || decide (off + v.cells.size > cells.size)) = false := by
          simp only [Bool.or_eq_false_iff, decide_eq_false_iff_not]
          omega
        have hcond' : ¬ ((v.cells.size ≠ sz || off + v.cells.size > cells.size) = true) := by rw [hcond]; exact Bool.false_ne_true
        rw [if_neg hcond']
        have hfold := fold_set off v.cells.toList 0 cells (by rw [Array.length_toList]; omega)
        simp only [Nat.add_zero] at hfold
        have harr : (v.cells.zipIdx.foldl (fun cs (x : Value × Nat) => cs.setIfInBounds (off + x.2) x.1) cells) = (v.cells.toList.zipIdx.foldl (fun cs (x : Value × Nat) => cs.setIfInBounds (off + x.2) x.1) cells) := by
          rw [← Array.foldl_toList, Array.toList_zipIdx]
        refine fill_repO h1 h2' ?_ h
        show RepL O w (v.cells.zipIdx.foldl (fun cs (x : Value × Nat) => cs.setIfInBounds (off + x.2) x.1) cells).toList _
        rw [harr, hfold]
        unfold splice
        rw [hcl.1]
        exact ((hc.take off).append hcl).append (hc.drop _)
      · cases h
  | [], _ :: _, _, _, _, h1, _, _, _ => by simp at h1
  | _ :: _, [], _, _, _, h1, _, _, _ => by simp at h1
theorem out_buildO {t : TypeId} {ps : List (Nat × D)} {vs : List (Nat × Value)} {d : D} (hh : Holds st w) (h1 : vs.map (·.1) = ps.map (·.1)) (h2 : RepL (OwnS st) w (vs.map (·.2)) (ps.map (·.2))) (h : aBuildO P t ps = some d) : Out st w d P (Instr.build t vs.toArray) := by
  unfold aBuildO at h
  split at h
  · rename_i ti hti
    split at h
    · rename_i hz
      obtain ⟨zv, hzl, hzr⟩ := run_zeroValue hti w
      have hzrep : RepL (OwnS st) w zv.cells.toList (ti.zero.map leafD) := by rw [hzl]; exact zero_rep hz
      split at h
      · rename_i fs hfs
        obtain ⟨fields, hu, hff, rfl⟩ := (und_of_k hti).2.2.2.2.2.1 _ hfs
        cases hf : aFillO (fun i => (((fields.toList.map fun f => (f.offset, szT P f.type, aggT P f.type))[i]?).map fun (f : Nat × Nat × Bool) => (f.1, f.2.1))) (ti.zero.map leafD) ps with
        | none => rw [hf] at h; cases h
        | some cs =>
          rw [hf] at h; cases h
          obtain ⟨cells', k1, k2⟩ := fill_repO h1 h2 hzrep hf
          have hpl : (fun (i : Nat) => (((fields.toList.map fun f => (f.offset, szT P f.type, aggT P f.type))[i]?).map fun (f : Nat × Nat × Bool) => (f.1, f.2.1))) = fun (i : Nat) => (fields.map fun f => (f.offset, szT P f.type))[i]? := by
            funext i
            simp only [List.getElem?_map, Array.getElem?_map, Array.getElem?_toList, Option.map_map]
            rfl
          rw [hpl] at k1
          have hm : (fields.mapM fun f => (do pure (f.offset, ← sizeOf f.type) : Sem (Nat × Nat))).run P w = .ok (fields.map fun f => (f.offset, szT P f.type)) w :=
            run_mapM _ _ fields fun f hf => by
              simp only [Sem.run_bind, run_sizeOf' (hff f (by simpa using hf)).1, Result.andThen_ok, Sem.run_pure]
          refine Out.same hh (v := .agg cells') ?_ ?_
          · simp only [Instr.build, Sem.run_bind, hzr, Result.andThen_ok, run_underlying hu, hm, List.toList_toArray, k1, Sem.run_pure]
          · exact .agg cells'.toList cs k2.1 k2.2
      · cases h
    · cases h
  · cases h
end
section
variable {P : Program} {r : Option Nat} {A : AA} {st : St} {k : D → St → Prop} {dst : Option Tmp} {ty : TypeId} {pos : String} {aft : Array Edge} {gd : Option (Nat × Bool)}
theorem s_buildO {t : TypeId} {ps : Array (Nat × Operand)} (h : Ev ((evP A.e ps.toList).bind (aBuildO P t)) fun d => k d st) : S P r none ⟨dst, .build t ps, ty, pos, aft, gd⟩ A st k := by
  obtain ⟨d, h1, hk⟩ := h
  refine opC_val (by intro c hc; cases hc) fun ρ w hr hh => .inl ?_
  cases hp : evP A.e ps.toList with
  | none => rw [hp] at h1; cases h1
  | some ds =>
    rw [hp] at h1
    obtain ⟨k1, k2⟩ := evP_rep hr (fun x hx => by simp only [Op.operands, List.mem_toArray, List.mem_map]; exact ⟨x, hx, rfl⟩) hp
    obtain ⟨v, w', q1, q2, q3, q4⟩ := out_buildO hh k1 k2 h1
    have he : ps.map (fun p => (p.1, ρ p.2)) = (ps.toList.map fun p => (p.1, ρ p.2)).toArray := by apply Array.ext'; simp
    refine ⟨v, w', ?_, d, st, q2, q3, q4, hk⟩
    unfold execOp
    simp only [he, Sem.run_bind, q1, Result.andThen_ok, Sem.run_pure]
instance (priority := high) i_s_buildO {t : TypeId} {ps : Array (Nat × Operand)} : Go1 (S P r none ⟨dst, .build t ps, ty, pos, aft, gd⟩ A st k) (Ev ((evP A.e ps.toList).bind (aBuildO P t)) fun d => k d st) := ⟨s_buildO⟩
end
attribute [push_cast] aBuildO aFillO
end Go.Proofs.YtooaagmhgakhgaaGreat
end

section
namespace Go.Proofs.YtooaagmhgakhgaaGreat
set_option linter.unusedSimpArgs false
attribute [local push_cast] encB encI encC V.cells_mk V.cells_len Nat.mul_one Int.sub_zero List.map_nil beq_self_eq_true List.head?_cons
open Go.RowKit
set_option maxRecDepth 10000
set_option maxHeartbeats 8000000
theorem refUp12F (t : Tm) (r : Rc) (hL : Look t r) (v : Int) (st : St) : TrF Tryz.prog 8 [.agg t.cells, .agg r.cells, .i v] st fun d st' => d = .tup [.agg (Sch.upS t r v).1.cells, .i (Sch.upS t r v).2] ∧ st' = st := by
  have hV := refValid11F t hL.tq r hL.rq (by have := hL.rk.l; omega)
  have hP := refAtF t hL.tq v
  cases hval : Sch.valid t r with
  | false =>
    rw [Sch.up_bad hval]
    rw [hval] at hV
    unfold Sch.zeroR
    clear hval hL
    unfold Tm.cells Rc.cells at *
    generalize t.slots.map Sl.cells = SL at *
    generalize t.steps.map Stp.cells = TL at *
    generalize t.name = nm at *
    generalize r.s.map V.cells = RS at *
    generalize r.v = rv at *
    replace hV := Lib.hid hV
    refine trF_enterG (G := twoA Tryz.prog (.cell 6 28) (.tmp 7)) Tryz.func8 rfl (by rw [Tryz.ntmps8]; exact Nat.le_of_ble_eq_true rfl) (fun h1 h2 h3 => res_two rfl h1 h2 h3) ?_
    simp only [Tryz.ntmps8]
    repeat' (first | with_reducible refine Go1.go ?_ | ((with_reducible apply ev_go); (focus ((try simp (disch := omega) only [push_cast, simprocAttr, *]); (try exact rfl); done))) | ((with_reducible refine w_last ?_ ?_ ?_); kernel_rfl; rfl) | with_reducible refine Go2.go ?_ | ((with_reducible first | apply w_stepG | refine s_bi ?_ ?_ | refine blk_ne ?_ ?_); rfl) | ((with_reducible refine al_go ?_); intro b) | ((with_reducible apply (ck_le Tryz.call22)); exact LEL.refl _; exact hV.out _) | ((with_reducible apply a2_go); (focus (first | assumption | (intro h; cases h))); (focus (intro o'; repeat (first | exact ra_h | apply ra_t))); (iterate 2 (focus (first | assumption | exact len_nil | exact len_one rfl | (intro a ha; obtain ⟨x, -, rfl⟩ := List.mem_map.1 ha; first | rfl | simp) | (intro a ha; simp at ha; simp [ha])))); (iterate 2 (focus (first | omega | (simp only [List.length_map, List.length_cons, List.length_nil, List.length_append]; omega)))); intro o' ho') | ((with_reducible first | refine w_region ?_ ?_ | refine w_dra ?_ ?_); kernel_rfl) | ((with_reducible refine Go3.go ?_ ?_); all_goals (intro hb; (try with_reducible intro hb1); (try (exfalso; first | contradiction | omega)))) | fail)
    all_goals (refine retG_mk (rs := []) (by first | exact .inl rfl | exact .inr rfl) (by first | rfl | assumption) (List.Perm.refl _) ⟨_, _, rfl, cell_mk (by simp (disch := omega) only [push_cast, simprocAttr, *]; exact rfl) (by repeat (first | exact mm_h | apply mm_t)) (by simp (disch := omega) only [push_cast, simprocAttr, *]; exact rfl) (by (try simp (disch := omega) only [push_cast, simprocAttr, *]); (try exact rfl); done), (by show _ = _; (try simp (disch := omega) only [push_cast, simprocAttr, *]); (try exact rfl); done)⟩ (by (repeat (first | exact List.Sublist.refl _ | with_reducible apply List.Sublist.cons_cons | apply List.Sublist.cons))) (retC2 0 .tight [] 1) ⟨rfl, rfl⟩)
  | true =>
    rw [hval] at hV
    by_cases hin : Sch.verB t v = true → ¬ r.v ≤ v
    · rw [Sch.up_none hval hin]
      unfold Sch.zeroR
      clear hval hL
      generalize Sch.verX t v = x at *
      generalize Sch.verB t v = ok at *
      cases x with
      | mk xs xc =>
      unfold Vr.cells at hP
      dsimp only at hP
      generalize xs.map Sl.cells = XS at *
      generalize xc.map encC = XC at *
      unfold Tm.cells Rc.cells at *
      generalize t.slots.map Sl.cells = SL at *
      generalize t.steps.map Stp.cells = TL at *
      generalize t.name = nm at *
      generalize r.s.map V.cells = RS at *
      generalize r.v = rv at *
      replace hV := Lib.hid hV
      replace hP := Lib.hid hP
      refine trF_enterG (G := twoA Tryz.prog (.cell 6 28) (.tmp 7)) Tryz.func8 rfl (by rw [Tryz.ntmps8]; exact Nat.le_of_ble_eq_true rfl) (fun h1 h2 h3 => res_two rfl h1 h2 h3) ?_
      simp only [Tryz.ntmps8]
      cases ok with
      | false =>
        clear hin
        repeat' (first | with_reducible refine Go1.go ?_ | ((with_reducible apply ev_go); (focus ((try simp (disch := omega) only [push_cast, simprocAttr, *]); (try exact rfl); done))) | ((with_reducible refine w_last ?_ ?_ ?_); kernel_rfl; rfl) | with_reducible refine Go2.go ?_ | ((with_reducible first | apply w_stepG | refine s_bi ?_ ?_ | refine blk_ne ?_ ?_); rfl) | ((with_reducible refine al_go ?_); intro b) | ((with_reducible apply (ck_le Tryz.call22)); exact LEL.refl _; exact hV.out _) | ((with_reducible apply (ck_le Tryz.call23)); exact LEL.refl _; exact hP.out _) | ((with_reducible apply a2_go); (focus (first | assumption | (intro h; cases h))); (focus (intro o'; repeat (first | exact ra_h | apply ra_t))); (iterate 2 (focus (first | assumption | exact len_nil | exact len_one rfl | (intro a ha; obtain ⟨x, -, rfl⟩ := List.mem_map.1 ha; first | rfl | simp) | (intro a ha; simp at ha; simp [ha])))); (iterate 2 (focus (first | omega | (simp only [List.length_map, List.length_cons, List.length_nil, List.length_append]; omega)))); intro o' ho') | ((with_reducible first | refine w_region ?_ ?_ | refine w_dra ?_ ?_); kernel_rfl) | ((with_reducible refine Go3.go ?_ ?_); all_goals (intro hb; (try with_reducible intro hb1); (try (exfalso; first | contradiction | omega)))) | fail)
        all_goals (refine retG_mk (rs := []) (by first | exact .inl rfl | exact .inr rfl) (by first | rfl | assumption) (List.Perm.refl _) ⟨_, _, rfl, cell_mk (by simp (disch := omega) only [push_cast, simprocAttr, *]; exact rfl) (by repeat (first | exact mm_h | apply mm_t)) (by simp (disch := omega) only [push_cast, simprocAttr, *]; exact rfl) (by (try simp (disch := omega) only [push_cast, simprocAttr, *]); (try exact rfl); done), (by show _ = _; (try simp (disch := omega) only [push_cast, simprocAttr, *]); (try exact rfl); done)⟩ (by (repeat (first | exact List.Sublist.refl _ | with_reducible apply List.Sublist.cons_cons | apply List.Sublist.cons))) (retC2 0 .tight [] 7) ⟨rfl, rfl⟩)
      | true =>
        replace hin := hin rfl
        repeat' (first | with_reducible refine Go1.go ?_ | ((with_reducible apply ev_go); (focus ((try simp (disch := omega) only [push_cast, simprocAttr, *]); (try exact rfl); done))) | ((with_reducible refine w_last ?_ ?_ ?_); kernel_rfl; rfl) | with_reducible refine Go2.go ?_ | ((with_reducible first | apply w_stepG | refine s_bi ?_ ?_ | refine blk_ne ?_ ?_); rfl) | ((with_reducible refine al_go ?_); intro b) | ((with_reducible apply (ck_le Tryz.call22)); exact LEL.refl _; exact hV.out _) | ((with_reducible apply (ck_le Tryz.call23)); exact LEL.refl _; exact hP.out _) | ((with_reducible apply a2_go); (focus (first | assumption | (intro h; cases h))); (focus (intro o'; repeat (first | exact ra_h | apply ra_t))); (iterate 2 (focus (first | assumption | exact len_nil | exact len_one rfl | (intro a ha; obtain ⟨x, -, rfl⟩ := List.mem_map.1 ha; first | rfl | simp) | (intro a ha; simp at ha; simp [ha])))); (iterate 2 (focus (first | omega | (simp only [List.length_map, List.length_cons, List.length_nil, List.length_append]; omega)))); intro o' ho') | ((with_reducible first | refine w_region ?_ ?_ | refine w_dra ?_ ?_); kernel_rfl) | ((with_reducible refine Go3.go ?_ ?_); all_goals (intro hb; (try with_reducible intro hb1); (try (exfalso; first | contradiction | omega)))) | fail)
        all_goals (refine retG_mk (rs := []) (by first | exact .inl rfl | exact .inr rfl) (by first | rfl | assumption) (List.Perm.refl _) ⟨_, _, rfl, cell_mk (by simp (disch := omega) only [push_cast, simprocAttr, *]; exact rfl) (by repeat (first | exact mm_h | apply mm_t)) (by simp (disch := omega) only [push_cast, simprocAttr, *]; exact rfl) (by (try simp (disch := omega) only [push_cast, simprocAttr, *]); (try exact rfl); done), (by show _ = _; (try simp (disch := omega) only [push_cast, simprocAttr, *]); (try exact rfl); done)⟩ (by (repeat (first | exact List.Sublist.refl _ | with_reducible apply List.Sublist.cons_cons | apply List.Sublist.cons))) (retC2 0 .tight [] 7) ⟨rfl, rfl⟩)
    · have hvb : Sch.verB t v = true := by
        cases h : Sch.verB t v with
        | true => rfl
        | false => exact absurd (fun h' => by rw [h] at h'; cases h') hin
      have hle : r.v ≤ v := by
        by_cases h : r.v ≤ v
        · exact h
        · exact absurd (fun _ => h) hin
      clear hin
      obtain ⟨x, hx⟩ := Sch.verB_some hvb
      obtain ⟨y, hy, hf⟩ := Sch.valid_iff.1 hval
      rw [Sch.upS_eq hval hx hle]
      rw [hvb, (Sch.ver_verB hx).2] at hP
      have hyx := Sch.ver_grow hy hx hle
      have hxl : x.slots.length ≤ 16 := (Sch.vers_vi (ver_mem hx)).ls
      have hyl := hyx.len
      have hrl := Sch.fitsL_len _ _ hf
      have htk := Sch.castL_take hf hyx
      have hget := Lib.hid (Sch.castL_get? x.slots r.s)
      have hcl := Sch.castL_len x.slots r.s
      clear hL hx hy hf hyx hvb hval
      unfold Tm.cells Rc.cells at *
      unfold Vr.cells at hP
      generalize t.slots.map Sl.cells = SL at *
      generalize t.steps.map Stp.cells = TL at *
      generalize t.name = nm at *
      cases r with
      | mk rv rs =>
      cases x with
      | mk xs xc =>
      dsimp only at *
      generalize Sch.castL xs rs = CL at *
      have hm1 : (xs.map Sl.cells).length = xs.length := List.length_map ..
      have hm2 : (rs.map V.cells).length = rs.length := List.length_map ..
      have hRE : ∀ e ∈ rs.map V.cells, e.length = 4 := fun e he => by
        obtain ⟨w, -, rfl⟩ := List.mem_map.1 he
        exact V.cells_len w
      have hc1 : Hid (∀ (i : Nat) (s : Sl), xs[i]? = some s → (xs.map Sl.cells)[i]? = some s.cells) := fun i s h => by rw [List.getElem?_map, h]; rfl
      have hT0 : Hid (rs.map V.cells = (CL.take rs.length).map V.cells) := Lib.hid (by rw [htk])
      clear htk
      generalize xs.map Sl.cells = XS at *
      generalize xc.map encC = XC at *
      generalize rs.map V.cells = RS at *
      replace hV := Lib.hid hV
      replace hP := Lib.hid hP
      refine trF_enterG (G := twoA Tryz.prog (.cell 6 28) (.tmp 7)) Tryz.func8 rfl (by rw [Tryz.ntmps8]; exact Nat.le_of_ble_eq_true rfl) (fun h1 h2 h3 => res_two rfl h1 h2 h3) ?_
      simp only [Tryz.ntmps8]
      refine tr_room 42 4 ([] : List (List D)).length ?_
      repeat' (first | with_reducible refine Go1.go ?_ | ((with_reducible apply ev_go); (focus ((try simp (disch := omega) only [push_cast, simprocAttr, *]); (try exact rfl); done))) | ((with_reducible refine w_last ?_ ?_ ?_); kernel_rfl; rfl) | with_reducible refine Go2.go ?_ | ((with_reducible first | apply w_stepG | refine s_bi ?_ ?_ | refine blk_ne ?_ ?_); rfl) | ((with_reducible refine al_go ?_); intro b) | ((with_reducible apply (ck_le Tryz.call22)); exact LEL.refl _; exact hV.out _) | ((with_reducible apply (ck_le Tryz.call23)); exact LEL.refl _; exact hP.out _) | ((with_reducible apply a2_go); (focus (first | assumption | (intro h; cases h))); (focus (intro o'; repeat (first | exact ra_h | apply ra_t))); (iterate 2 (focus (first | assumption | exact len_nil | exact len_one rfl | (intro a ha; obtain ⟨x, -, rfl⟩ := List.mem_map.1 ha; first | rfl | simp) | (intro a ha; simp at ha; simp [ha])))); (iterate 2 (focus (first | omega | (simp only [List.length_map, List.length_cons, List.length_nil, List.length_append]; omega)))); intro o' ho') | ((with_reducible first | refine w_region ?_ ?_ | refine w_dra ?_ ?_); kernel_rfl) | ((with_reducible refine Go3.go ?_ ?_); all_goals (intro hb; (try with_reducible intro hb1); (try (exfalso; first | contradiction | omega)))) | fail)
      rename_i b6 b8
      obtain ⟨b10, rfl⟩ : ∃ q, q = b := ⟨_, rfl⟩
      refine tr_loopd (ι := Nat) (fun i A st' => rs.length ≤ i ∧ i ≤ xs.length ∧ A.df = [] ∧ A.e 6 = .ptr b6 0 ∧ A.e 8 = .ptr b8 0 ∧ A.e 10 = .ptr b10 0 ∧ A.e 11 = .i i ∧ ∃ o : Own, o ≠ .shared ∧ st' = .box b10 28 [.i v, .sl o ((CL.take i).map V.cells)] :: .box b8 50 [.sl .shared XS, .sl .shared XC] :: .box b6 28 [.i 0, .sl .tight []] :: .room o 42 4 ((CL.take i).map V.cells).length :: st) (fun i => xs.length - i) rs.length ⟨Nat.le_refl _, by omega, ?_, ?_, ?_, ?_, ?_, o', ho', by rw [← hT0.out]; rfl⟩ ?_
      iterate 5 (focus (first | rfl | assumption | omega | (simp (disch := omega) only [push_cast, simprocAttr, *]; try omega; done)))
      rintro i A st' ⟨hi0, hi, hdf, e6, e8, e10, e11, o, ho, rfl⟩
      clear hT0 hRE
      by_cases hlt : i < xs.length
      · obtain ⟨s, hs⟩ : ∃ s, xs[i]? = some s := ⟨_, List.getElem?_eq_getElem hlt⟩
        have h1 := hc1.out i s hs
        have hcy := hget.out i
        rw [hs, show rs[i]? = none from List.getElem?_eq_none (by omega)] at hcy
        replace hcy : CL[i]? = some s.dv := hcy
        have hMl : ((CL.take i).map V.cells).length ≤ 16 := by rw [List.length_map, List.length_take]; omega
        have hME : ∀ e ∈ (CL.take i).map V.cells, e.length = 4 := fun e he => by
          obtain ⟨w, -, rfl⟩ := List.mem_map.1 he
          exact V.cells_len w
        have hts := Lib.hid (congrArg (List.map V.cells) (take_snoc' hcy))
        rw [List.map_append] at hts
        clear hs hcy
        cases s with
        | mk snm ty rq dv =>
        cases dv with
        | mk k n sv lv =>
        rw [Sl.cells_mk] at h1
        rw [List.map_cons, List.map_nil, V.cells_mk] at hts
        generalize hM : (CL.take i).map V.cells = M at *
        replace hM := Lib.hid hM
        repeat' (first | with_reducible refine Go1.go ?_ | ((with_reducible apply ev_go); (focus ((try simp (disch := omega) only [push_cast, simprocAttr, *]); (try exact rfl); done))) | ((with_reducible refine w_drawRN ?_ ?_ ?_ ?_); (iterate 3 (focus kernel_rfl)); intro hne; simp only [nes, ne1, and_assoc] at hne; repeat (have hq := hne.1; replace hne := hne.2)) | ((with_reducible refine And.intro ?_ ?_); (focus exact keep_roE rfl)) | ((with_reducible refine w_last ?_ ?_ ?_); kernel_rfl; rfl) | with_reducible refine Go2.go ?_ | ((with_reducible first | apply w_stepG | refine s_bi ?_ ?_ | refine blk_ne ?_ ?_); rfl) | ((with_reducible refine al_go ?_); intro b) | ((with_reducible apply a2_go); (focus (first | assumption | (intro h; cases h))); (focus (intro o'; repeat (first | exact ra_h | apply ra_t))); (iterate 2 (focus (first | assumption | exact len_nil | exact len_one rfl | (intro a ha; obtain ⟨x, -, rfl⟩ := List.mem_map.1 ha; first | rfl | simp) | (intro a ha; simp at ha; simp [ha])))); (iterate 2 (focus (first | omega | (simp only [List.length_map, List.length_cons, List.length_nil, List.length_append]; omega)))); intro o' ho') | ((with_reducible first | refine w_region ?_ ?_ | refine w_dra ?_ ?_); kernel_rfl) | ((with_reducible refine Go3.go ?_ ?_); all_goals (intro hb; (try with_reducible intro hb1); (try (exfalso; first | contradiction | omega)))) | fail)
        refine ⟨i + 1, .box b10 28 [.i v, .sl o' ((CL.take (i + 1)).map V.cells)] :: .box b8 50 [.sl .shared XS, .sl .shared XC] :: .box b6 28 [.i 0, .sl .tight []] :: .room o' 42 4 ((CL.take (i + 1)).map V.cells).length :: st, ?_, ⟨by omega, hlt, ?_, ?_, ?_, ?_, ?_, o', ho', rfl⟩, by omega⟩
        · rw [hts.out]
          exact List.Sublist.refl _
        all_goals (first | rfl | assumption | omega | (simp (disch := omega) only [push_cast, simprocAttr, *]; try omega; done))
      · have hil : i = xs.length := by omega
        have hCL : Hid ((CL.take i).map V.cells = CL.map V.cells) := Lib.hid (by rw [List.take_of_length_le (by omega)])
        rw [hCL.out]
        replace hil := Lib.hid hil
        generalize hM : CL.map V.cells = M at *
        have hM2 := Lib.hid hM
        repeat' (first | with_reducible refine Go1.go ?_ | ((with_reducible apply ev_go); (focus ((try simp (disch := omega) only [push_cast, simprocAttr, *]); (try exact rfl); done))) | ((with_reducible refine w_last ?_ ?_ ?_); kernel_rfl; rfl) | with_reducible refine Go2.go ?_ | ((with_reducible first | apply w_stepG | refine s_bi ?_ ?_ | refine blk_ne ?_ ?_); rfl) | ((with_reducible refine al_go ?_); intro b) | ((with_reducible apply a2_go); (focus (first | assumption | (intro h; cases h))); (focus (intro o'; repeat (first | exact ra_h | apply ra_t))); (iterate 2 (focus (first | assumption | exact len_nil | exact len_one rfl | (intro a ha; obtain ⟨x, -, rfl⟩ := List.mem_map.1 ha; first | rfl | simp) | (intro a ha; simp at ha; simp [ha])))); (iterate 2 (focus (first | omega | (simp only [List.length_map, List.length_cons, List.length_nil, List.length_append]; omega)))); intro o' ho') | ((with_reducible first | refine w_region ?_ ?_ | refine w_dra ?_ ?_); kernel_rfl) | ((with_reducible refine Go3.go ?_ ?_); all_goals (intro hb; (try with_reducible intro hb1); (try (exfalso; first | contradiction | omega)))) | fail)
        all_goals (refine retG_mk (rs := []) (by first | exact .inl rfl | exact .inr rfl) (by first | rfl | assumption) (List.Perm.refl _) ⟨_, _, rfl, cell_mk (by simp (disch := omega) only [push_cast, simprocAttr, *]; exact rfl) (by repeat (first | exact mm_h | apply mm_t)) (by simp (disch := omega) only [push_cast, simprocAttr, *]; exact rfl) (by (try simp (disch := omega) only [push_cast, simprocAttr, *]); (try exact rfl); done), (by show _ = _; (try simp (disch := omega) only [push_cast, simprocAttr, *]); (try exact rfl); done)⟩ (by (repeat (first | exact List.Sublist.refl _ | with_reducible apply List.Sublist.cons_cons | apply List.Sublist.cons))) (retC2 v o M 0) ⟨?_, rfl⟩)
        all_goals (rw [← hM2.out]; try rfl)
theorem refDown12F (t : Tm) (r : Rc) (hL : Look t r) (v : Int) (st : St) : TrF Tryz.prog 10 [.agg t.cells, .agg r.cells, .i v] st fun d st' => d = .tup [.agg (Sch.downS t r v).1.cells, .i (Sch.downS t r v).2] ∧ st' = st := by
  have hV := refValid11F t hL.tq r hL.rq (by have := hL.rk.l; omega)
  have hP := refAtF t hL.tq v
  cases hval : Sch.valid t r with
  | false =>
    rw [Sch.down_bad hval]
    rw [hval] at hV
    unfold Sch.zeroR
    clear hval hL
    unfold Tm.cells Rc.cells at *
    generalize t.slots.map Sl.cells = SL at *
    generalize t.steps.map Stp.cells = TL at *
    generalize t.name = nm at *
    generalize r.s.map V.cells = RS at *
    generalize r.v = rv at *
    replace hV := Lib.hid hV
    refine trF_enterG (G := twoA Tryz.prog (.cell 6 28) (.tmp 7)) Tryz.func10 rfl (by rw [Tryz.ntmps10]; exact Nat.le_of_ble_eq_true rfl) (fun h1 h2 h3 => res_two rfl h1 h2 h3) ?_
    simp only [Tryz.ntmps10]
    repeat' (first | with_reducible refine Go1.go ?_ | ((with_reducible apply ev_go); (focus ((try simp (disch := omega) only [push_cast, simprocAttr, *]); (try exact rfl); done))) | ((with_reducible refine w_last ?_ ?_ ?_); kernel_rfl; rfl) | with_reducible refine Go2.go ?_ | ((with_reducible first | apply w_stepG | refine s_bi ?_ ?_ | refine blk_ne ?_ ?_); rfl) | ((with_reducible refine al_go ?_); intro b) | ((with_reducible apply (ck_le Tryz.call22)); exact LEL.refl _; exact hV.out _) | ((with_reducible apply a2_go); (focus (first | assumption | (intro h; cases h))); (focus (intro o'; repeat (first | exact ra_h | apply ra_t))); (iterate 2 (focus (first | assumption | exact len_nil | exact len_one rfl | (intro a ha; obtain ⟨x, -, rfl⟩ := List.mem_map.1 ha; first | rfl | simp) | (intro a ha; simp at ha; simp [ha])))); (iterate 2 (focus (first | omega | (simp only [List.length_map, List.length_cons, List.length_nil, List.length_append]; omega)))); intro o' ho') | ((with_reducible first | refine w_region ?_ ?_ | refine w_dra ?_ ?_); kernel_rfl) | ((with_reducible refine Go3.go ?_ ?_); all_goals (intro hb; (try with_reducible intro hb1); (try (exfalso; first | contradiction | omega)))) | fail)
    all_goals (refine retG_mk (rs := []) (by first | exact .inl rfl | exact .inr rfl) (by first | rfl | assumption) (List.Perm.refl _) ⟨_, _, rfl, cell_mk (by simp (disch := omega) only [push_cast, simprocAttr, *]; exact rfl) (by repeat (first | exact mm_h | apply mm_t)) (by simp (disch := omega) only [push_cast, simprocAttr, *]; exact rfl) (by (try simp (disch := omega) only [push_cast, simprocAttr, *]); (try exact rfl); done), (by show _ = _; (try simp (disch := omega) only [push_cast, simprocAttr, *]); (try exact rfl); done)⟩ (by (repeat (first | exact List.Sublist.refl _ | with_reducible apply List.Sublist.cons_cons | apply List.Sublist.cons))) (retC2 0 .tight [] 1) ⟨rfl, rfl⟩)
  | true =>
    rw [hval] at hV
    by_cases hin : Sch.verB t v = true → ¬ v ≤ r.v
    · rw [Sch.down_none hval hin]
      unfold Sch.zeroR
      clear hval hL
      generalize Sch.verX t v = x at *
      generalize Sch.verB t v = ok at *
      cases x with
      | mk xs xc =>
      unfold Vr.cells at hP
      dsimp only at hP
      generalize xs.map Sl.cells = XS at *
      generalize xc.map encC = XC at *
      unfold Tm.cells Rc.cells at *
      generalize t.slots.map Sl.cells = SL at *
      generalize t.steps.map Stp.cells = TL at *
      generalize t.name = nm at *
      generalize r.s.map V.cells = RS at *
      generalize r.v = rv at *
      replace hV := Lib.hid hV
      replace hP := Lib.hid hP
      refine trF_enterG (G := twoA Tryz.prog (.cell 6 28) (.tmp 7)) Tryz.func10 rfl (by rw [Tryz.ntmps10]; exact Nat.le_of_ble_eq_true rfl) (fun h1 h2 h3 => res_two rfl h1 h2 h3) ?_
      simp only [Tryz.ntmps10]
      cases ok with
      | false =>
        clear hin
        repeat' (first | with_reducible refine Go1.go ?_ | ((with_reducible apply ev_go); (focus ((try simp (disch := omega) only [push_cast, simprocAttr, *]); (try exact rfl); done))) | ((with_reducible refine w_last ?_ ?_ ?_); kernel_rfl; rfl) | with_reducible refine Go2.go ?_ | ((with_reducible first | apply w_stepG | refine s_bi ?_ ?_ | refine blk_ne ?_ ?_); rfl) | ((with_reducible refine al_go ?_); intro b) | ((with_reducible apply (ck_le Tryz.call22)); exact LEL.refl _; exact hV.out _) | ((with_reducible apply (ck_le Tryz.call23)); exact LEL.refl _; exact hP.out _) | ((with_reducible apply a2_go); (focus (first | assumption | (intro h; cases h))); (focus (intro o'; repeat (first | exact ra_h | apply ra_t))); (iterate 2 (focus (first | assumption | exact len_nil | exact len_one rfl | (intro a ha; obtain ⟨x, -, rfl⟩ := List.mem_map.1 ha; first | rfl | simp) | (intro a ha; simp at ha; simp [ha])))); (iterate 2 (focus (first | omega | (simp only [List.length_map, List.length_cons, List.length_nil, List.length_append]; omega)))); intro o' ho') | ((with_reducible first | refine w_region ?_ ?_ | refine w_dra ?_ ?_); kernel_rfl) | ((with_reducible refine Go3.go ?_ ?_); all_goals (intro hb; (try with_reducible intro hb1); (try (exfalso; first | contradiction | omega)))) | fail)
        all_goals (refine retG_mk (rs := []) (by first | exact .inl rfl | exact .inr rfl) (by first | rfl | assumption) (List.Perm.refl _) ⟨_, _, rfl, cell_mk (by simp (disch := omega) only [push_cast, simprocAttr, *]; exact rfl) (by repeat (first | exact mm_h | apply mm_t)) (by simp (disch := omega) only [push_cast, simprocAttr, *]; exact rfl) (by (try simp (disch := omega) only [push_cast, simprocAttr, *]); (try exact rfl); done), (by show _ = _; (try simp (disch := omega) only [push_cast, simprocAttr, *]); (try exact rfl); done)⟩ (by (repeat (first | exact List.Sublist.refl _ | with_reducible apply List.Sublist.cons_cons | apply List.Sublist.cons))) (retC2 0 .tight [] 7) ⟨rfl, rfl⟩)
      | true =>
        replace hin := hin rfl
        repeat' (first | with_reducible refine Go1.go ?_ | ((with_reducible apply ev_go); (focus ((try simp (disch := omega) only [push_cast, simprocAttr, *]); (try exact rfl); done))) | ((with_reducible refine w_last ?_ ?_ ?_); kernel_rfl; rfl) | with_reducible refine Go2.go ?_ | ((with_reducible first | apply w_stepG | refine s_bi ?_ ?_ | refine blk_ne ?_ ?_); rfl) | ((with_reducible refine al_go ?_); intro b) | ((with_reducible apply (ck_le Tryz.call22)); exact LEL.refl _; exact hV.out _) | ((with_reducible apply (ck_le Tryz.call23)); exact LEL.refl _; exact hP.out _) | ((with_reducible apply a2_go); (focus (first | assumption | (intro h; cases h))); (focus (intro o'; repeat (first | exact ra_h | apply ra_t))); (iterate 2 (focus (first | assumption | exact len_nil | exact len_one rfl | (intro a ha; obtain ⟨x, -, rfl⟩ := List.mem_map.1 ha; first | rfl | simp) | (intro a ha; simp at ha; simp [ha])))); (iterate 2 (focus (first | omega | (simp only [List.length_map, List.length_cons, List.length_nil, List.length_append]; omega)))); intro o' ho') | ((with_reducible first | refine w_region ?_ ?_ | refine w_dra ?_ ?_); kernel_rfl) | ((with_reducible refine Go3.go ?_ ?_); all_goals (intro hb; (try with_reducible intro hb1); (try (exfalso; first | contradiction | omega)))) | fail)
        all_goals (refine retG_mk (rs := []) (by first | exact .inl rfl | exact .inr rfl) (by first | rfl | assumption) (List.Perm.refl _) ⟨_, _, rfl, cell_mk (by simp (disch := omega) only [push_cast, simprocAttr, *]; exact rfl) (by repeat (first | exact mm_h | apply mm_t)) (by simp (disch := omega) only [push_cast, simprocAttr, *]; exact rfl) (by (try simp (disch := omega) only [push_cast, simprocAttr, *]); (try exact rfl); done), (by show _ = _; (try simp (disch := omega) only [push_cast, simprocAttr, *]); (try exact rfl); done)⟩ (by (repeat (first | exact List.Sublist.refl _ | with_reducible apply List.Sublist.cons_cons | apply List.Sublist.cons))) (retC2 0 .tight [] 7) ⟨rfl, rfl⟩)
    · have hvb : Sch.verB t v = true := by
        cases h : Sch.verB t v with
        | true => rfl
        | false => exact absurd (fun h' => by rw [h] at h'; cases h') hin
      have hle : v ≤ r.v := by
        by_cases h : v ≤ r.v
        · exact h
        · exact absurd (fun _ => h) hin
      clear hin
      obtain ⟨x, hx⟩ := Sch.verB_some hvb
      obtain ⟨y, hy, hf⟩ := Sch.valid_iff.1 hval
      rw [Sch.downS_eq hval hx hle]
      rw [hvb, (Sch.ver_verB hx).2] at hP
      have hxy := Sch.ver_grow hx hy hle
      have hyl : y.slots.length ≤ 16 := (Sch.vers_vi (ver_mem hy)).ls
      have hxl := hxy.len
      have hrl := Sch.fitsL_len _ _ hf
      have hget := Lib.hid (Sch.castL_get? x.slots r.s)
      have hcl := Sch.castL_len x.slots r.s
      have hrq := Lib.hid hL.rq
      have hxt : Hid (∀ z ∈ x.slots, 0 ≤ z.types ∧ z.types ≤ 9223372036854775807) := Lib.hid fun z hz => by
        have := Sch.takes_iff.1 (Sch.ver_sok hx z hz).types
        omega
      generalize y.slots.length = yn at *
      clear hL hx hy hf hxy hvb hval
      unfold Tm.cells Rc.cells at *
      unfold Vr.cells at hP
      generalize t.slots.map Sl.cells = SL at *
      generalize t.steps.map Stp.cells = TL at *
      generalize t.name = nm at *
      cases r with
      | mk rv rs =>
      cases x with
      | mk xs xc =>
      dsimp only at *
      generalize Sch.castL xs rs = CL at *
      have hm1 : (xs.map Sl.cells).length = xs.length := List.length_map ..
      have hm2 : (rs.map V.cells).length = rs.length := List.length_map ..
      have hc1 : Hid (∀ (i : Nat) (s : Sl), xs[i]? = some s → (xs.map Sl.cells)[i]? = some s.cells) := fun i s h => by rw [List.getElem?_map, h]; rfl
      have hc3 : Hid (∀ (i : Nat) (v : V), rs[i]? = some v → (rs.map V.cells)[i]? = some v.cells) := fun i v h => by rw [List.getElem?_map, h]; rfl
      generalize xs.map Sl.cells = XS at *
      generalize xc.map encC = XC at *
      generalize rs.map V.cells = RS at *
      replace hV := Lib.hid hV
      replace hP := Lib.hid hP
      refine trF_enterG (G := twoA Tryz.prog (.cell 6 28) (.tmp 7)) Tryz.func10 rfl (by rw [Tryz.ntmps10]; exact Nat.le_of_ble_eq_true rfl) (fun h1 h2 h3 => res_two rfl h1 h2 h3) ?_
      simp only [Tryz.ntmps10]
      refine tr_room 42 4 ([] : List (List D)).length ?_
      repeat' (first | with_reducible refine Go1.go ?_ | ((with_reducible apply ev_go); (focus ((try simp (disch := omega) only [push_cast, simprocAttr, *]); (try exact rfl); done))) | ((with_reducible refine w_last ?_ ?_ ?_); kernel_rfl; rfl) | with_reducible refine Go2.go ?_ | ((with_reducible first | apply w_stepG | refine s_bi ?_ ?_ | refine blk_ne ?_ ?_); rfl) | ((with_reducible refine al_go ?_); intro b) | ((with_reducible apply (ck_le Tryz.call22)); exact LEL.refl _; exact hV.out _) | ((with_reducible apply (ck_le Tryz.call23)); exact LEL.refl _; exact hP.out _) | ((with_reducible apply a2_go); (focus (first | assumption | (intro h; cases h))); (focus (intro o'; repeat (first | exact ra_h | apply ra_t))); (iterate 2 (focus (first | assumption | exact len_nil | exact len_one rfl | (intro a ha; obtain ⟨x, -, rfl⟩ := List.mem_map.1 ha; first | rfl | simp) | (intro a ha; simp at ha; simp [ha])))); (iterate 2 (focus (first | omega | (simp only [List.length_map, List.length_cons, List.length_nil, List.length_append]; omega)))); intro o' ho') | ((with_reducible first | refine w_region ?_ ?_ | refine w_dra ?_ ?_); kernel_rfl) | ((with_reducible refine Go3.go ?_ ?_); all_goals (intro hb; (try with_reducible intro hb1); (try (exfalso; first | contradiction | omega)))) | fail)
      rename_i b6 b8
      obtain ⟨b10, rfl⟩ : ∃ q, q = b := ⟨_, rfl⟩
      refine tr_loopd (ι := Nat) (fun i A st' => i ≤ xs.length ∧ A.df = [] ∧ A.e 4 = .ip [.i rv, .sl .shared RS] ∧ A.e 6 = .ptr b6 0 ∧ A.e 8 = .ptr b8 0 ∧ A.e 10 = .ptr b10 0 ∧ A.e 11 = .i i ∧ ∃ o : Own, o ≠ .shared ∧ st' = .box b10 28 [.i v, .sl o ((CL.take i).map V.cells)] :: .box b8 50 [.sl .shared XS, .sl .shared XC] :: .box b6 28 [.i 0, .sl .tight []] :: .room o 42 4 ((CL.take i).map V.cells).length :: st) (fun i => xs.length - i) 0 ⟨Nat.zero_le _, ?_, ?_, ?_, ?_, ?_, ?_, .tight, (by intro h; cases h), rfl⟩ ?_
      iterate 6 (focus (first | rfl | assumption | omega | (simp (disch := omega) only [push_cast, simprocAttr, *]; try omega; done)))
      rintro i A st' ⟨hi, hdf, e4, e6, e8, e10, e11, o, ho, rfl⟩
      by_cases hlt : i < xs.length
      · obtain ⟨s, hs⟩ : ∃ s, xs[i]? = some s := ⟨_, List.getElem?_eq_getElem hlt⟩
        obtain ⟨u, hu⟩ : ∃ u, rs[i]? = some u := ⟨_, List.getElem?_eq_getElem (by omega)⟩
        have h1 := hc1.out i s hs
        have h2 := hc3.out i u hu
        have hcy := hget.out i
        rw [hs, hu] at hcy
        replace hcy : CL[i]? = some (if Sch.fits s u = true then u else s.dv) := hcy
        have huq := hrq.out u (List.mem_of_getElem? hu)
        have hF := refFits10F s u huq.ok huq.nodes huq.deep (hxt.out s (List.mem_of_getElem? hs))
        have hMl : ((CL.take i).map V.cells).length ≤ 16 := by rw [List.length_map, List.length_take]; omega
        have hME : ∀ e ∈ (CL.take i).map V.cells, e.length = 4 := fun e he => by
          obtain ⟨w, -, rfl⟩ := List.mem_map.1 he
          exact V.cells_len w
        have hts := Lib.hid (congrArg (List.map V.cells) (take_snoc' hcy))
        rw [List.map_append] at hts
        clear hs hu hcy huq
        generalize Sch.fits s u = q at *
        cases s with
        | mk snm ty rq dv =>
        cases dv with
        | mk k n sv lv =>
        cases u with
        | mk k' n' sv' lv' =>
        rw [Sl.cells_mk] at h1 hF
        rw [V.cells_mk] at h2 hF
        replace hF := Lib.hid hF
        generalize hM : (CL.take i).map V.cells = M at *
        replace hM := Lib.hid hM
        cases q with
        | true =>
          rw [if_pos rfl, List.map_cons, List.map_nil, V.cells_mk] at hts
          repeat' (first | with_reducible refine Go1.go ?_ | ((with_reducible apply ev_go); (focus ((try simp (disch := omega) only [push_cast, simprocAttr, *]); (try exact rfl); done))) | ((with_reducible refine w_drawRN ?_ ?_ ?_ ?_); (iterate 3 (focus kernel_rfl)); intro hne; simp only [nes, ne1, and_assoc] at hne; repeat (have hq := hne.1; replace hne := hne.2)) | ((with_reducible refine And.intro ?_ ?_); (focus exact keep_roE rfl)) | ((with_reducible refine w_last ?_ ?_ ?_); kernel_rfl; rfl) | with_reducible refine Go2.go ?_ | ((with_reducible first | apply w_stepG | refine s_bi ?_ ?_ | refine blk_ne ?_ ?_); rfl) | ((with_reducible refine al_go ?_); intro b) | ((with_reducible apply (ck_le Tryz.call25)); exact LEL.refl _; exact hF.out _) | ((with_reducible apply a2_go); (focus (first | assumption | (intro h; cases h))); (focus (intro o'; repeat (first | exact ra_h | apply ra_t))); (iterate 2 (focus (first | assumption | exact len_nil | exact len_one rfl | (intro a ha; obtain ⟨x, -, rfl⟩ := List.mem_map.1 ha; first | rfl | simp) | (intro a ha; simp at ha; simp [ha])))); (iterate 2 (focus (first | omega | (simp only [List.length_map, List.length_cons, List.length_nil, List.length_append]; omega)))); intro o' ho') | ((with_reducible first | refine w_region ?_ ?_ | refine w_dra ?_ ?_); kernel_rfl) | ((with_reducible refine Go3.go ?_ ?_); all_goals (intro hb; (try with_reducible intro hb1); (try (exfalso; first | contradiction | omega)))) | fail)
          refine ⟨i + 1, .box b10 28 [.i v, .sl o' ((CL.take (i + 1)).map V.cells)] :: .box b8 50 [.sl .shared XS, .sl .shared XC] :: .box b6 28 [.i 0, .sl .tight []] :: .room o' 42 4 ((CL.take (i + 1)).map V.cells).length :: st, ?_, ⟨hlt, ?_, ?_, ?_, ?_, ?_, ?_, o', ho', rfl⟩, by omega⟩
          · rw [hts.out]
            exact .cons _ (List.Sublist.refl _)
          all_goals (first | rfl | assumption | omega | (simp (disch := omega) only [push_cast, simprocAttr, *]; try omega; done))
        | false =>
          rw [if_neg Bool.false_ne_true, List.map_cons, List.map_nil, V.cells_mk] at hts
          repeat' (first | with_reducible refine Go1.go ?_ | ((with_reducible apply ev_go); (focus ((try simp (disch := omega) only [push_cast, simprocAttr, *]); (try exact rfl); done))) | ((with_reducible refine w_drawRN ?_ ?_ ?_ ?_); (iterate 3 (focus kernel_rfl)); intro hne; simp only [nes, ne1, and_assoc] at hne; repeat (have hq := hne.1; replace hne := hne.2)) | ((with_reducible refine And.intro ?_ ?_); (focus exact keep_roE rfl)) | ((with_reducible refine w_last ?_ ?_ ?_); kernel_rfl; rfl) | with_reducible refine Go2.go ?_ | ((with_reducible first | apply w_stepG | refine s_bi ?_ ?_ | refine blk_ne ?_ ?_); rfl) | ((with_reducible refine al_go ?_); intro b) | ((with_reducible apply (ck_le Tryz.call25)); exact LEL.refl _; exact hF.out _) | ((with_reducible apply a2_go); (focus (first | assumption | (intro h; cases h))); (focus (intro o'; repeat (first | exact ra_h | apply ra_t))); (iterate 2 (focus (first | assumption | exact len_nil | exact len_one rfl | (intro a ha; obtain ⟨x, -, rfl⟩ := List.mem_map.1 ha; first | rfl | simp) | (intro a ha; simp at ha; simp [ha])))); (iterate 2 (focus (first | omega | (simp only [List.length_map, List.length_cons, List.length_nil, List.length_append]; omega)))); intro o' ho') | ((with_reducible first | refine w_region ?_ ?_ | refine w_dra ?_ ?_); kernel_rfl) | ((with_reducible refine Go3.go ?_ ?_); all_goals (intro hb; (try with_reducible intro hb1); (try (exfalso; first | contradiction | omega)))) | fail)
          refine ⟨i + 1, .box b10 28 [.i v, .sl o' ((CL.take (i + 1)).map V.cells)] :: .box b8 50 [.sl .shared XS, .sl .shared XC] :: .box b6 28 [.i 0, .sl .tight []] :: .room o' 42 4 ((CL.take (i + 1)).map V.cells).length :: st, ?_, ⟨hlt, ?_, ?_, ?_, ?_, ?_, ?_, o', ho', rfl⟩, by omega⟩
          · rw [hts.out]
            exact .cons _ (List.Sublist.refl _)
          all_goals (first | rfl | assumption | omega | (simp (disch := omega) only [push_cast, simprocAttr, *]; try omega; done))
      · have hil : i = xs.length := by omega
        have hCL : Hid ((CL.take i).map V.cells = CL.map V.cells) := Lib.hid (by rw [List.take_of_length_le (by omega)])
        rw [hCL.out]
        replace hil := Lib.hid hil
        generalize hM : CL.map V.cells = M at *
        have hM2 := Lib.hid hM
        repeat' (first | with_reducible refine Go1.go ?_ | ((with_reducible apply ev_go); (focus ((try simp (disch := omega) only [push_cast, simprocAttr, *]); (try exact rfl); done))) | ((with_reducible refine w_last ?_ ?_ ?_); kernel_rfl; rfl) | with_reducible refine Go2.go ?_ | ((with_reducible first | apply w_stepG | refine s_bi ?_ ?_ | refine blk_ne ?_ ?_); rfl) | ((with_reducible refine al_go ?_); intro b) | ((with_reducible apply a2_go); (focus (first | assumption | (intro h; cases h))); (focus (intro o'; repeat (first | exact ra_h | apply ra_t))); (iterate 2 (focus (first | assumption | exact len_nil | exact len_one rfl | (intro a ha; obtain ⟨x, -, rfl⟩ := List.mem_map.1 ha; first | rfl | simp) | (intro a ha; simp at ha; simp [ha])))); (iterate 2 (focus (first | omega | (simp only [List.length_map, List.length_cons, List.length_nil, List.length_append]; omega)))); intro o' ho') | ((with_reducible first | refine w_region ?_ ?_ | refine w_dra ?_ ?_); kernel_rfl) | ((with_reducible refine Go3.go ?_ ?_); all_goals (intro hb; (try with_reducible intro hb1); (try (exfalso; first | contradiction | omega)))) | fail)
        all_goals (refine retG_mk (rs := []) (by first | exact .inl rfl | exact .inr rfl) (by first | rfl | assumption) (List.Perm.refl _) ⟨_, _, rfl, cell_mk (by simp (disch := omega) only [push_cast, simprocAttr, *]; exact rfl) (by repeat (first | exact mm_h | apply mm_t)) (by simp (disch := omega) only [push_cast, simprocAttr, *]; exact rfl) (by (try simp (disch := omega) only [push_cast, simprocAttr, *]); (try exact rfl); done), (by show _ = _; (try simp (disch := omega) only [push_cast, simprocAttr, *]); (try exact rfl); done)⟩ (by (repeat (first | exact List.Sublist.refl _ | with_reducible apply List.Sublist.cons_cons | apply List.Sublist.cons))) (retC2 v o M 0) ⟨?_, rfl⟩)
        all_goals (rw [← hM2.out]; try rfl)
theorem newest_vers (t : Tm) (r : Rc) : Sch.upS t r ((Sch.refVers t).length : Nat) = Sch.newestS t r := by
  unfold Sch.newestS Sch.refVers
  by_cases h0 : 0 < Sch.last t
  · rw [if_pos h0]
    have hl : (Sch.vers t).length = Sch.last t := by
      unfold Sch.last at h0 ⊢
      split
      · rename_i h; exact h
      · rename_i h; rw [if_neg h] at h0; omega
    rw [hl]
    by_cases h1 : (1 : Int) < Sch.last t
    · rw [if_pos h1]
    · rw [if_neg h1, show ((Sch.last t : Nat) : Int) = 1 by omega]
  · rw [if_neg h0]
    have hv : Sch.valid t r = false := by
      cases h : Sch.valid t r with
      | false => rfl
      | true =>
        obtain ⟨x, hx, -⟩ := Sch.valid_iff.1 h
        have := Sch.ver_last hx
        omega
    rw [Sch.up_bad hv, Sch.up_bad hv]
theorem refNewest12F (t : Tm) (r : Rc) (hL : Look t r) (st : St) : TrF Tryz.prog 12 [.agg t.cells, .agg r.cells] st fun d st' => d = .tup [.agg (Sch.newestS t r).1.cells, .i (Sch.newestS t r).2] ∧ st' = st := by
  have hV := refVersF t hL.tq
  have hU := refUp12F t r hL ((Sch.refVers t).length : Nat)
  have hml : ((Sch.refVers t).map Vr.cells).length = (Sch.refVers t).length := List.length_map ..
  rw [newest_vers] at hU
  generalize (Sch.refVers t).map Vr.cells = VS at *
  generalize (Sch.refVers t).length = n at *
  generalize Sch.newestS t r = o at *
  clear hL
  unfold Tm.cells Rc.cells at *
  generalize t.slots.map Sl.cells = SL at *
  generalize t.steps.map Stp.cells = TL at *
  generalize t.name = nm at *
  generalize o.1.s.map V.cells = OS at *
  generalize o.1.v = ov at *
  generalize o.2 = oe at *
  generalize r.s.map V.cells = RS at *
  generalize r.v = rv at *
  replace hV := Lib.hid hV
  replace hU := Lib.hid hU
  refine trF_enterG (G := twoA Tryz.prog (.cell 4 28) (.tmp 5)) Tryz.func12 rfl (by rw [Tryz.ntmps12]; exact Nat.le_of_ble_eq_true rfl) (fun h1 h2 h3 => res_two rfl h1 h2 h3) ?_
  simp only [Tryz.ntmps12]
  repeat' (first | with_reducible refine Go1.go ?_ | ((with_reducible apply ev_go); (focus ((try simp (disch := omega) only [push_cast, simprocAttr, *]); (try exact rfl); done))) | ((with_reducible refine w_last ?_ ?_ ?_); kernel_rfl; rfl) | with_reducible refine Go2.go ?_ | ((with_reducible first | apply w_stepG | refine s_bi ?_ ?_ | refine blk_ne ?_ ?_); rfl) | ((with_reducible refine al_go ?_); intro b) | ((with_reducible apply (ck_le Tryz.call27)); exact LEL.refl _; exact hV.out _) | ((with_reducible apply (ck_le Tryz.call8)); exact LEL.refl _; exact hU.out _) | ((with_reducible first | refine w_region ?_ ?_ | refine w_dra ?_ ?_); kernel_rfl) | ((with_reducible refine Go3.go ?_ ?_); all_goals (intro hb; (try with_reducible intro hb1); (try (exfalso; first | contradiction | omega)))) | fail)
  all_goals (refine retG_mk (rs := []) (by first | exact .inl rfl | exact .inr rfl) (by first | rfl | assumption) (List.Perm.refl _) ⟨_, _, rfl, cell_mk (by simp (disch := omega) only [push_cast, simprocAttr, *]; exact rfl) (by repeat (first | exact mm_h | apply mm_t)) (by simp (disch := omega) only [push_cast, simprocAttr, *]; exact rfl) (by (try simp (disch := omega) only [push_cast, simprocAttr, *]); (try exact rfl); done), (by show _ = _; (try simp (disch := omega) only [push_cast, simprocAttr, *]); (try exact rfl); done)⟩ (by (repeat (first | exact List.Sublist.refl _ | with_reducible apply List.Sublist.cons_cons | apply List.Sublist.cons))) (LE.refl _) ⟨rfl, rfl⟩)
end Go.Proofs.YtooaagmhgakhgaaGreat
end
