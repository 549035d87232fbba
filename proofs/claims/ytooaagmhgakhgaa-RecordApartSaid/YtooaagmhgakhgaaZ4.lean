/- Texts put together: AmRow2, Slices, SchA, SchB, SchC, SchL, SchO, RefRight, AmPivot, AmPivot2, SchN, CastL, AmFrz, AmRes, RefA, RefB, RefC, SchD, SchE, RefD, RefE, ReoL, RefF, RefG, RecN, SchI, RefH, SchF, SchG, SchH, SchJ, SchK. No statement is proved here. -/
import Derived.Test.YtooaagmhgakhgaaShelf
import Derived.Deep.QuietTactic
import Derived.BigQuiet
import Derived.Test.YtooaagmhgakhgaaZ3
set_option linter.all false
section
namespace Go.Proofs.Ytooaagmhgakhgaa
set_option linter.unusedSimpArgs false
open Go.RowKit
section
variable {P : Program} {st : St} {w w' : World}
theorem set_any {b : Nat} {ty : TypeId} {cs cs' : List D} {us us' : Array Value} (h : Holds (.box b ty cs :: st) w) (hb : w.heap[b]? = some (.cells us ty (0, 0))) (hs : us'.size = us.size)
    (ho : w'.os = w.os) (ht : w'.tape = w.tape) (hout : w'.output = w.output) (hsz : w'.heap.size = w.heap.size) (hb' : w'.heap[b]? = some (.cells us' ty (0, 0))) (hoth : ∀ k, k ≠ b → w'.heap[k]? = w.heap[k]?)
    (hr : RepL (OwnS (.box b ty cs :: st)) w us'.toList cs') (hl : ∀ d ∈ cs', d.leaf = true) :
    Holds (.box b ty cs' :: st) w' ∧ Ext (OwnS (.box b ty cs :: st)) w (OwnS (.box b ty cs' :: st)) w' := by
  have hown : ∀ k off, OwnS (.box b ty cs' :: st) k off → OwnS (.box b ty cs :: st) k off := fun k off ho => by
    rw [OwnS.cons_iff] at ho ⊢
    exact ho
  have he : Ext (OwnS (.box b ty cs :: st)) w (OwnS (.box b ty cs' :: st)) w' := by
    refine ⟨ho, ht, hout, by omega, fun k off _ ho => hown k off ho, fun k hk hn => ?_, fun k c E fr hk => ?_⟩
    · refine hoth k fun e => ?_
      subst e
      exact hn 0 (OwnS.cons_iff.2 (.inl ⟨rfl, Nat.le_refl _⟩))
    · by_cases e : k = b
      · subst e
        rw [hb] at hk
        cases hk
        exact ⟨us', _, hb', hs, fun off hn => absurd (OwnS.cons_iff.2 (.inl ⟨rfl, Nat.zero_le _⟩)) hn⟩
      · exact ⟨c, fr, (hoth k e).trans hk, rfl, fun _ _ => rfl⟩
  refine ⟨h.put he (fun x hx k hk => hoth k fun e => ?_) ⟨⟨us', hb', hr.ext he⟩, hl⟩ (fun x hx => ?_), he⟩
  · subst e
    exact (List.pairwise_cons.1 h.1).1 x hx k rfl hk
  · exact (List.pairwise_cons.1 h.1).1 x hx
theorem chop_row {sz : Nat} (zs : List D) : ∀ es : List (List D), (∀ e ∈ es, e.length = sz) → chop sz es.length (es.flatten ++ zs) = es
  | [], _ => rfl
  | e :: es, h => by
    have he := h e (List.mem_cons_self ..)
    rw [List.length_cons, chop, List.flatten_cons, List.append_assoc, List.take_left' he, List.drop_left' he, chop_row zs es fun x hx => h x (List.mem_cons_of_mem _ hx)]
theorem TrF.freeze {f : FuncId} {args : List D} {el : TypeId} {es : List (List D)} {sz n : Nat} {s0 : St} (h : TrF P f args st fun d st' => ∃ g cap zs, d = .ar g 0 n cap ∧ st' = .box g el (es.flatten ++ zs) :: s0) (hsz : 0 < sz) (hes : ∀ e ∈ es, e.length = sz) (hn : es.length = n) : TrF P f args st fun d st' => d = .sl .shared es ∧ st' = s0 := by
  intro vs w h1 h2
  refine (h vs w h1 h2).mono fun _ w' ⟨v, ev, d, s, k1, k2, k3, g, cap, zs, e1, e2⟩ => ?_
  subst e1 e2
  have hch : chop sz n ((es.flatten ++ zs).drop 0) = es := by
    rw [List.drop_zero, ← hn]
    exact chop_row zs es hes
  have hr := frozen .shared (.inl rfl) (sz := sz) k2 k1 hsz (by rw [List.length_append, flat_len hes, hn]; omega) (by intro h; cases h)
  rw [hch] at hr
  have he := Ext.drop (st := .box g el (es.flatten ++ zs) :: s0) (st' := s0) (fun _ h => List.mem_cons_of_mem _ h) w'
  exact ⟨v, ev, _, s0, hr, k2.sub (List.sublist_cons_self _ _), k3.trans he, rfl, rfl⟩
end
section
variable {P : Program} {N : Nat} {r : Option Nat} {A : AA} {st : St} {Q : Exit → AA → St → Prop} {m : Option Ro} {k : D → St → Prop} {dst : Option Tmp} {ty : TypeId} {pos : String} {aft : Array Edge} {gd : Option (Nat × Bool)} {o : Oper} {w : World}
theorem s_isNilA {t t' : TypeId} {x : Operand} {g off n cap : Nat} {q : TypeId × Nat × Nat} (ht : sliceT P t = some q) (hx : ev A.e x = some (.ar g off n cap)) (hk : k (.b false) st) : S P r none ⟨dst, .binOp .eql t x (.const (.slice none 0 0)) t', ty, pos, aft, gd⟩ A st k := by
  refine opC_val (by intro c hc; cases hc) fun ρ w hr hh => .inl ?_
  have hv1 := hr _ (by simp [Op.operands]) _ hx
  have hv2 := hr.cst (.slice none 0 0)
  obtain ⟨el, sz, bytes⟩ := q
  obtain ⟨ti, z, h10, h11⟩ := sliceT_spec ht
  obtain ⟨hu, -⟩ := (und_of_k h10).2.2.2.2.1 _ _ _ _ h11
  generalize hxv : ρ x = xv at hv1
  cases hv1 with
  | ar _ _ _ _ c1 c2 =>
  refine ⟨.bool false, w, ?_, _, _, .s (.bool false) rfl, hh, Ext.refl _ _, hk⟩
  unfold execOp
  have hrun : (binOp .eql t (.slice (some ⟨g, off, none⟩) n cap) (.slice none 0 0)).run P w = .ok (.bool false) w := by
    simp only [binOp]
    simp [run_equal_slice_nil w t el (some ⟨g, off, none⟩) n cap hu]
  simp only [hxv, hv2, Sem.run_bind, guard_plain .eql t x (.const (.slice none 0 0)) (.slice (some ⟨g, off, none⟩) n cap) (.slice none 0 0) (fun u => by simp) (fun u v => by simp), hrun, Result.andThen_ok, Sem.run_pure]
def RowC (P : Program) (m : Option Ro) (t : TypeId) (p : D × D) (st : St) (k : D → St → Prop) : Prop :=
  ∃ (el : TypeId) (sz bytes : Nat) (g n cap : Nat) (ds zs : List D), p = (.sl .tight [], .ar g 0 n cap) ∧ rowT P t = some (el, sz, bytes) ∧ Res.box g el (ds ++ zs) ∈ st ∧ ds.length = n * sz ∧ 0 < n ∧ n * bytes ≤ 140737488355328 ∧ n ≤ 140737488355328 ∧
    ∀ g' cap' zs', n ≤ cap' → (ds ++ zs').length = cap' * sz → Keep m (.box g' el (ds ++ zs') :: st) ∧ k (.ar g' 0 n cap') (.box g' el (ds ++ zs') :: st)
theorem s_appC {t : TypeId} {x y : Operand} (h : Ev (pairX (ev A.e x) (ev A.e y)) fun p => RowC P m t p st k) : S P r m ⟨dst, .call ⟨.builtin .append, #[x, y], #[t, t]⟩, ty, pos, aft, gd⟩ A st k := by
  obtain ⟨p, h1, el, sz, bytes, g, n, cap, ds, zs, rfl, h2, hm, hds, hpos, h7, h8, h9⟩ := h
  unfold pairX at h1
  split at h1
  · rename_i d d' hx hy
    cases h1
    refine s_chain (R := fun d st' => ∃ g' cap' zs', n ≤ cap' ∧ (ds ++ zs').length = cap' * sz ∧ d = .ar g' 0 n cap' ∧ st' = .box g' el (ds ++ zs') :: st) rfl ?_ ⟨_, _, 0, n, [], Nat.le_refl _, by rw [List.append_nil, hds], rfl, rfl⟩ fun d st' ⟨g', cap', zs', ha, hb, e1, e2⟩ => by subst e1 e2; exact h9 g' cap' zs' ha hb
    refine opC_val (by intro c hc; cases hc) fun ρ w hr hh => .inl ?_
    have v1 := hr _ (by simp [Op.operands, Call.operands]) _ hx
    have v2 := hr _ (by simp [Op.operands, Call.operands]) _ hy
    obtain ⟨q1, i, zv, q2, q3, q4, q5, rfl, rfl, q8⟩ := rowT_spec h2
    unfold execOp
    simp only [resolve, invoke, builtin, Sem.run_bind, Sem.run_pure, Result.andThen_ok, List.map_toArray, List.map_cons, List.map_nil]
    generalize ρ x = xv at v1
    generalize ρ y = yv at v2
    cases v2 with
    | ar _ _ _ _ c1 c2 =>
    obtain ⟨⟨us, hb, hrr⟩, hlc⟩ := hh.2 _ hm
    have hul := hrr.1
    rw [List.length_append] at hul
    have hrep : RepL (OwnS st) w (us.toList.take (n * i.size)) ds := by
      have := hrr.take (n * i.size)
      rwa [List.take_append_of_le_length (by omega), List.take_of_length_le (l := ds) (by omega)] at this
    obtain ⟨w', g', cap', zs', e1, e2, e3, e4, e5, e6⟩ := run_appendFirst (P := P) t ty el q1 q2 q3 q4 q5 q8 hh v1 (xad := ⟨g, 0, none⟩) (m := n) (xcap := cap) (by rw [List.length_take]; omega) (fun j u hu => by
      rw [add_lit, Nat.zero_add, cell_of_row w g j us el (0, 0) hb]
      rw [List.getElem?_take] at hu
      split at hu
      · rw [← hu]; simp
      · cases hu) hrep (fun d hd => hlc d (List.mem_append_left _ hd)) hpos h7 h8
    rw [e1]
    exact ⟨_, w', rfl, _, _, .ar g' 0 _ cap' e2 e3, e5, e6, g', cap', zs', e2, e4, rfl, rfl⟩
  · cases h1
def RowC2 (m : Option Ro) (q : TypeId × Nat × Nat) (p : D × D) (st : St) (k : D → St → Prop) : Prop :=
  ∃ (g n cap : Nat) (ds zs : List D), p = (.sl .tight [], .ar g 0 n cap) ∧ Res.box g q.1 (ds ++ zs) ∈ st ∧ ds.length = n * q.2.1 ∧ 0 < n ∧ n * q.2.2 ≤ 140737488355328 ∧ n ≤ 140737488355328 ∧
    ∀ g' cap' zs', n ≤ cap' → (ds ++ zs').length = cap' * q.2.1 → Keep m (.box g' q.1 (ds ++ zs') :: st) ∧ k (.ar g' 0 n cap') (.box g' q.1 (ds ++ zs') :: st)
theorem rc_go {t : TypeId} {p : D × D} (h : Ev (rowT P t) fun q => RowC2 m q p st k) : RowC P m t p st k := by
  obtain ⟨⟨el, sz, bytes⟩, h1, g, n, cap, ds, zs, h2, h3, h4, h5, h6, h7, h8⟩ := h
  exact ⟨el, sz, bytes, g, n, cap, ds, zs, h2, h1, h3, h4, h5, h6, h7, h8⟩
theorem rc2_go {el : TypeId} {sz bytes g n cap : Nat} {ds zs : List D} (h3 : Res.box g el (ds ++ zs) ∈ st) (h4 : ds.length = n * sz) (h5 : 0 < n) (h6 : n * bytes ≤ 140737488355328) (h7 : n ≤ 140737488355328)
    (h8 : ∀ g' cap' zs', n ≤ cap' → (ds ++ zs').length = cap' * sz → Keep m (.box g' el (ds ++ zs') :: st) ∧ k (.ar g' 0 n cap') (.box g' el (ds ++ zs') :: st)) : RowC2 m (el, sz, bytes) (.sl .tight [], .ar g 0 n cap) st k := ⟨g, n, cap, ds, zs, rfl, h3, h4, h5, h6, h7, h8⟩
end
section
variable {P : Program} {f : FuncId} {ds ds' : List D} {st s1 : St} {m : Option Ro} {k : D → St → Prop}
theorem ck_gen {R : D → St → Prop} (henter : ∀ args w, (callFunc f args).run P w = .ok (.enter f args) w) (hp : st.Perm s1) (h : TrF P f ds' s1 R) (hle : LEL ds ds') (hex : ∃ d st', R d st') (hk : ∀ d st', R d st' → Keep m st' ∧ k d st') : CallK P m (f, ds) st k :=
  ⟨R, henter, (TrF.perm hp h).le hle, hex, hk⟩
end
end Go.Proofs.Ytooaagmhgakhgaa
end

section
namespace Go.Proofs.Ytooaagmhgakhgaa
set_option linter.unusedSimpArgs false
attribute [local push_cast] encB encI encC V.cells_mk V.cells_len Nat.mul_one Int.sub_zero List.map_nil beq_self_eq_true
open Go.RowKit
set_option maxRecDepth 10000
set_option maxHeartbeats 4000000
def colC (l : List Nat) : List D := (l.map encC).flatten
theorem colC_len (l : List Nat) : (colC l).length = l.length * 1 := by
  unfold colC
  rw [flat_len (sz := 1) fun e he => by
    obtain ⟨x, -, rfl⟩ := List.mem_map.1 he
    rfl, List.length_map]
def slotC (l : List Sl) : List D := (l.map Sl.cells).flatten
theorem slotC_len (l : List Sl) : (slotC l).length = l.length * 7 := by
  unfold slotC
  rw [flat_len (sz := 7) fun e he => by
    obtain ⟨x, -, rfl⟩ := List.mem_map.1 he
    exact Sl.cells_len x, List.length_map]
theorem cloneIF (g cap : Nat) (l : List Nat) (zs : List D) (hl : l ≠ []) (h8 : l.length ≤ 1000000) (st : St) (hm : Res.box g 3 (colC l ++ zs) ∈ st) : TrF Try.prog 89 [.ar g 0 l.length cap] st fun d st' => d = .sl .shared (l.map encC) ∧ st' = st := by
  have hcl := colC_len l
  have hpos : 0 < l.length := List.length_pos_iff.2 hl
  refine TrF.freeze (el := 3) (sz := 1) (n := l.length) ?_ (by decide) (fun e he => by
    obtain ⟨x, -, rfl⟩ := List.mem_map.1 he
    rfl) (List.length_map ..)
  show TrF _ _ _ _ fun d st' => ∃ g' cap' zs', d = .ar g' 0 l.length cap' ∧ st' = .box g' _ (colC l ++ zs') :: st
  generalize colC l = R at *
  generalize l.length = n at *
  refine trF_enter (ts := [2]) Try.func89 rfl (by rw [Try.ntmps89]; exact Nat.le_of_ble_eq_true rfl) (fun tmps w => by simp [results, Try.results89, go_sem, resVal]) ?_
  simp only [Try.ntmps89]
  repeat' (first | with_reducible refine Go1.go ?_ | ((with_reducible apply ev_go); (focus ((try simp (disch := omega) only [push_cast, simprocAttr, *]); (try exact rfl); done))) | ((with_reducible apply s_isNilA); (focus simp (disch := omega) only [push_cast, simprocAttr, *]; exact rfl); (focus simp (disch := omega) only [push_cast, simprocAttr, *]; exact rfl)) | with_reducible refine s_appC ?_ | with_reducible refine rc_go ?_ | ((with_reducible apply (rc2_go hm)); (focus assumption); (focus assumption); (focus omega); (focus omega); intro g' cap' zs' hc hl') | ((with_reducible refine w_last ?_ ?_ ?_); kernel_rfl; rfl) | with_reducible refine Go2.go ?_ | ((with_reducible first | apply w_stepG | refine s_bi ?_ ?_ | refine blk_ne ?_ ?_); rfl) | ((with_reducible refine al_go ?_); intro b) | ((with_reducible first | refine w_region ?_ ?_ | refine w_dra ?_ ?_); kernel_rfl) | ((with_reducible refine Go3.go ?_ ?_); all_goals (intro hb; (try with_reducible intro hb1); (try (exfalso; first | contradiction | omega)))) | fail)
  all_goals (refine retA_mk (by first | exact .inl rfl | exact .inr rfl) rfl (List.Sublist.refl _) (LE.of_eq ?_) ⟨g', cap', zs', rfl, rfl⟩; simp (disch := omega) only [push_cast, simprocAttr, *])

theorem cloneSF (g cap : Nat) (l : List Sl) (zs : List D) (hl : l ≠ []) (h8 : l.length ≤ 1000000) (st : St) (hm : Res.box g 26 (slotC l ++ zs) ∈ st) : TrF Try.prog 88 [.ar g 0 l.length cap] st fun d st' => d = .sl .shared (l.map Sl.cells) ∧ st' = st := by
  have hcl := slotC_len l
  have hpos : 0 < l.length := List.length_pos_iff.2 hl
  refine TrF.freeze (el := 26) (sz := 7) (n := l.length) ?_ (by decide) (fun e he => by
    obtain ⟨x, -, rfl⟩ := List.mem_map.1 he
    exact Sl.cells_len x) (List.length_map ..)
  show TrF _ _ _ _ fun d st' => ∃ g' cap' zs', d = .ar g' 0 l.length cap' ∧ st' = .box g' _ (slotC l ++ zs') :: st
  generalize slotC l = R at *
  generalize l.length = n at *
  refine trF_enter (ts := [2]) Try.func88 rfl (by rw [Try.ntmps88]; exact Nat.le_of_ble_eq_true rfl) (fun tmps w => by simp [results, Try.results88, go_sem, resVal]) ?_
  simp only [Try.ntmps88]
  repeat' (first | with_reducible refine Go1.go ?_ | ((with_reducible apply ev_go); (focus ((try simp (disch := omega) only [push_cast, simprocAttr, *]); (try exact rfl); done))) | ((with_reducible apply s_isNilA); (focus simp (disch := omega) only [push_cast, simprocAttr, *]; exact rfl); (focus simp (disch := omega) only [push_cast, simprocAttr, *]; exact rfl)) | with_reducible refine s_appC ?_ | with_reducible refine rc_go ?_ | ((with_reducible apply (rc2_go hm)); (focus assumption); (focus assumption); (focus omega); (focus omega); intro g' cap' zs' hc hl') | ((with_reducible refine w_last ?_ ?_ ?_); kernel_rfl; rfl) | with_reducible refine Go2.go ?_ | ((with_reducible first | apply w_stepG | refine s_bi ?_ ?_ | refine blk_ne ?_ ?_); rfl) | ((with_reducible refine al_go ?_); intro b) | ((with_reducible first | refine w_region ?_ ?_ | refine w_dra ?_ ?_); kernel_rfl) | ((with_reducible refine Go3.go ?_ ?_); all_goals (intro hb; (try with_reducible intro hb1); (try (exfalso; first | contradiction | omega)))) | fail)
  all_goals (refine retA_mk (by first | exact .inl rfl | exact .inr rfl) rfl (List.Sublist.refl _) (LE.of_eq ?_) ⟨g', cap', zs', rfl, rfl⟩; simp (disch := omega) only [push_cast, simprocAttr, *])

theorem containsF (o : Own) (l : List Nat) (x : Nat) (st : St) : TrF Try.prog 106 [.sl o (l.map encC), .i x] st fun d st' => d = .b (decide (x ∈ l)) ∧ st' = st :=
  trF_pure fun vs w hv => by
    obtain ⟨v, v', rfl, h1, h2⟩ := args2 hv
    cases rep_s h2
    have hs : Sees (fun n : Nat => Value.int .i64 n) w v l := sees_of_rep (f := fun n : Nat => Value.int .i64 n) h1
    refine ⟨_, fun _ _ => .s _ rfl, ?_⟩
    obtain ⟨a, cap, rfl, q1, q2, q3, q4⟩ := hs
    cases l with
    | nil =>
      refine (Try.slices_Contains_int_empty a cap x w).mono ?_
      rintro e w' ⟨he, rfl⟩
      exact ⟨he, Below.refl _ _⟩
    | cons y r =>
      obtain ⟨b, rfl⟩ : ∃ b, a = some b := by
        cases a with
        | none => have := q3 rfl; simp at q1; omega
        | some b => exact ⟨b, rfl⟩
      obtain ⟨e1, e2, e3⟩ := q4 b rfl (by simp)
      obtain ⟨bk, off, sp⟩ := b
      dsimp only at e1 e2 e3
      subst e1
      have hc := Try.slices_Contains_int bk off (y :: r).length cap ((y :: r).map Int.ofNat) x w (by simp) (by unfold maxLen at q2; omega) (fun j hj => by
        rw [List.length_map] at hj
        rw [e3 j hj, List.getD_eq_getElem?_getD, List.getElem?_map, List.getElem?_eq_getElem hj]; rfl)
      refine hc.mono ?_
      rintro e w' ⟨he, rfl⟩
      refine ⟨?_, Below.refl _ _⟩
      rw [he]
      congr 2
      rw [List.take_of_length_le (by simp), Bool.eq_iff_iff, List.contains_iff_mem, decide_eq_true_eq, List.mem_map]
      constructor
      · rintro ⟨a, h1, h2⟩
        have : a = x := Int.ofNat.inj h2
        exact this ▸ h1
      · intro h; exact ⟨x, h, rfl⟩
theorem deleteF (g cap i : Nat) (l : List Nat) (zs : List D) (hi : i < l.length) (hzs : (colC l ++ zs).length = cap * 1) (st : St) : TrF Try.prog 105 [.ar g 0 l.length cap, .i i, .i ((i : Int) + 1)] (.box g 3 (colC l ++ zs) :: st) fun d st' => d = .ar g 0 (l.eraseIdx i).length cap ∧ st' = .box g 3 (colC (l.eraseIdx i) ++ (.i 0 :: zs)) :: st := by
  intro vs w hv hh
  obtain ⟨lv⟩ := vs
  obtain ⟨v0, t0, e0, h1, hv⟩ := hv.inv_cons
  obtain ⟨v1, t1, e1, h2, hv⟩ := hv.inv_cons
  obtain ⟨v2, t2, e2, h3, hv⟩ := hv.inv_cons
  have e3 := hv.inv_nil
  dsimp only at e0
  subst e3 e2 e1 e0
  cases rep_s h2
  cases rep_s h3
  have hh1 := h1
  cases h1 with
  | ar _ _ _ _ c1 c2 =>
  obtain ⟨⟨us, hb, hr⟩, hlc⟩ := hh.2 _ (List.mem_cons_self ..)
  have hul := hr.1
  have hcl := colC_len l
  rw [List.length_append] at hul
  have hcm : ∀ l : List Nat, colC l = l.map fun c : Nat => D.i c := by
    intro l
    unfold colC
    induction l with
    | nil => rfl
    | cons x l ih => rw [List.map_cons, List.flatten_cons, ih]; rfl
  have hat : ∀ j (hj : j < l.length), us[j]? = some (.int .i64 (l[j] : Nat)) := fun j hj => by
    have hd : (colC l ++ zs)[j]? = some (.i (l[j] : Nat)) := by
      rw [List.getElem?_append_left (by omega), hcm, List.getElem?_map, List.getElem?_eq_getElem hj]; rfl
    obtain ⟨u, hu, hru⟩ := hr.get? hd
    rw [rep_s hru] at hu
    rw [← hu]; simp
  have hH : Sort.Holds (Value.int .i64) w g 0 ((l.map Int.ofNat).toArray) := fun j hj => by
    have hj' : j < l.length := by simpa using hj
    refine ⟨?_, ?_⟩
    · rw [Nat.zero_add, cell_of_row w g j us _ (0, 0) hb, hat j hj', getElem!_pos _ j hj]
      simp
    · unfold World.frozen?
      dsimp only
      rw [hb]; simp
  have hc := Try.slices_Delete_int g 0 cap i (i + 1) (l.map Int.ofNat) w hH (by simpa using c1) (by unfold maxLen at c2; omega) (by omega) (by rw [List.length_map]; omega)
  rw [List.length_map] at hc
  have hcast : ((i + 1 : Nat) : Int) = (i : Int) + 1 := by omega
  rw [hcast] at hc
  refine hc.mono ?_
  rintro e w' ⟨rfl, q, hw⟩
  refine ⟨_, rfl, ?_⟩
  obtain ⟨d', hd'⟩ : ∃ d', ((l.map Int.ofNat).take i ++ (l.map Int.ofNat).drop (i + 1) ++ List.replicate (i + 1 - i) 0) = d' := ⟨_, rfl⟩
  rw [hd'] at hw
  have hdl : d'.length = l.length := by
    rw [← hd']
    simp only [List.length_append, List.length_take, List.length_drop, List.length_map, List.length_replicate]
    omega
  have hus : (Sort.putCells (Value.int .i64) 0 d'.toArray us).toList = d'.map (Value.int .i64) ++ us.toList.drop l.length := by
    apply List.ext_getElem?
    intro k
    unfold Sort.putCells
    rw [Array.getElem?_toList, Array.getElem?_mapIdx]
    by_cases hk : k < l.length
    · have hk2 : k < us.size := by rw [← Array.length_toList]; omega
      rw [List.getElem?_append_left (by rw [List.length_map]; omega), Array.getElem?_eq_getElem hk2, List.getElem?_map, List.getElem?_eq_getElem (by omega : k < d'.length)]
      simp only [Option.map_some, Nat.zero_le, Nat.zero_add, List.size_toArray, hdl, hk, and_self, if_true, Nat.sub_zero, true_and]
      rw [getElem!_pos _ k (by simp; omega)]
      simp
    · rw [List.getElem?_append_right (by rw [List.length_map]; omega), List.length_map, hdl, List.getElem?_drop, show l.length + (k - l.length) = k by omega, Array.getElem?_toList]
      cases us[k]? with
      | none => rfl
      | some u => simp [hdl, hk]
  have hrep : RepL (OwnS (.box g 3 (colC l ++ zs) :: st)) w (Sort.putCells (Value.int .i64) 0 d'.toArray us).toList (colC (l.eraseIdx i) ++ (.i 0 :: zs)) := by
    rw [hus, show colC (l.eraseIdx i) ++ (.i 0 :: zs) = (d'.map fun n => D.i n) ++ zs by
      rw [← hd', hcm, List.eraseIdx_eq_take_drop_succ, show i + 1 - i = 1 by omega]
      simp only [List.map_append, List.map_take, List.map_drop, List.map_map, List.append_assoc, List.replicate, List.map_cons, List.map_nil, List.cons_append, List.nil_append]
      rfl]
    refine RepL.append (RepL.map fun x _ => .s _ rfl) ?_
    have := hr.drop l.length
    rwa [List.drop_append, List.drop_of_length_le (l := colC l) (by omega), List.nil_append, show l.length - (colC l).length = 0 by omega, List.drop_zero] at this
  have hw' : w'.heap[g]? = some (.cells (Sort.putCells (Value.int .i64) 0 d'.toArray us) 3 (0, 0)) := by
    rw [hw]
    simp only [Sort.putRow, Sort.mapBlock, Sort.ahead]
    rw [Array.getElem?_modify]
    simp [hb, Sort.onCells]
  have hs := set_any (w' := w') hh hb (by simp [Sort.putCells]) (by rw [hw]; rfl) (by rw [hw]; rfl) (by rw [hw]; rfl) (by rw [hw]; simp [Sort.putRow, Sort.mapBlock, Sort.ahead]) hw' (fun k hk => by
    rw [hw]
    simp only [Sort.putRow, Sort.mapBlock, Sort.ahead]
    rw [Array.getElem?_modify, if_neg (Ne.symm hk)]) hrep (fun d hd => by
      rw [hcm, List.mem_append] at hd
      rcases hd with hd | hd
      · obtain ⟨c, -, rfl⟩ := List.mem_map.1 hd; rfl
      · rcases List.mem_cons.1 hd with rfl | hd
        · rfl
        · exact hlc d (List.mem_append_right _ hd))
  have hel : (l.eraseIdx i).length = l.length - (i + 1 - i) := by rw [List.length_eraseIdx_of_lt hi]; omega
  refine ⟨.ar g 0 (l.eraseIdx i).length cap, _, ?_, hs.1, hs.2, rfl, rfl⟩
  rw [hel]
  exact .ar g 0 _ cap (by omega) c2
end Go.Proofs.Ytooaagmhgakhgaa
end

section
namespace Go.Proofs.Ytooaagmhgakhgaa
set_option linter.unusedSimpArgs false
attribute [local push_cast] encB encI encC V.cells_mk V.cells_len Nat.mul_one Int.sub_zero List.map_nil beq_self_eq_true
open Go.RowKit
set_option maxRecDepth 10000
set_option maxHeartbeats 4000000
theorem schTakesF (t : Int) (st : St) : TrF Try.prog 102 [.i t] st fun x st' => x = .b (Sch.takes t) ∧ st' = st := by
  unfold Sch.takes
  refine trF_enter (ts := [2]) Try.func102 rfl (by rw [Try.ntmps102]; exact Nat.le_of_ble_eq_true rfl) (fun tmps w => by simp [results, Try.results102, go_sem, resVal]) ?_
  simp only [Try.ntmps102]
  repeat' (first | with_reducible refine Go1.go ?_ | ((with_reducible apply ev_go); (focus ((try simp (disch := omega) only [push_cast, simprocAttr, *]); (try exact rfl); done))) | ((with_reducible refine w_last ?_ ?_ ?_); kernel_rfl; rfl) | with_reducible refine Go2.go ?_ | ((with_reducible first | apply w_stepG | refine s_bi ?_ ?_ | refine blk_ne ?_ ?_); rfl) | ((with_reducible refine al_go ?_); intro b) | ((with_reducible first | refine w_region ?_ ?_ | refine w_dra ?_ ?_); kernel_rfl) | ((with_reducible refine Go3.go ?_ ?_); all_goals (intro hb; (try with_reducible intro hb1); (try (exfalso; first | contradiction | omega)))) | fail)
  all_goals (refine ret_eq (by simp) (by first | rfl | assumption) (by (repeat (first | exact List.Sublist.refl _ | apply List.Sublist.cons))) ?_; (try simp (disch := omega) only [push_cast, simprocAttr, *]); try (first | exact LE.refl _ | exact LE.sl _ _ | ((first | refine LE.tup ?_ | refine LE.agg ?_); (repeat' (first | exact LEL.nil | refine LEL.cons ?_ ?_ | exact LE.refl _ | exact LE.sl _ _ | refine LE.agg ?_)); done) | refine LE.of_eq ?_))
  all_goals (first | rfl | (refine congrArg D.b ?_; rw [Bool.eq_iff_iff]; simp only [Bool.true_and, Bool.false_and, Bool.and_true, Bool.and_false, Bool.or_false, Bool.or_true, Bool.true_or, Bool.false_or, true_and, and_true, Bool.not_eq_true', Bool.not_eq_false', decide_eq_true_eq, decide_eq_false_iff_not, beq_iff_eq, beq_eq_false_iff_ne, bne_iff_ne, ne_eq, reduceCtorEq, iff_true, true_iff, iff_false, false_iff, Bool.and_eq_true, Bool.or_eq_true, Bool.false_eq_true, Bool.true_eq_false]; first | done | omega))
theorem schFitsF (nm : ByteArray) (ty : Int) (rq : Bool) (dv v : V) (hB : v.nodes ≤ 4611686018427387904) (st : St) : TrF Try.prog 13 [.agg (Sl.mk nm ty rq dv).cells, .agg v.cells] st fun x st' => x = .b (Sch.fits (Sl.mk nm ty rq dv) v) ∧ st' = st := by
  have hR := valRightF v hB
  unfold Sch.fits
  cases hr : v.right with
  | false =>
    rw [hr] at hR
    cases v with
    | mk k n s l =>
    cases dv with
    | mk dk dn ds dl =>
    rw [V.cells_mk] at hR
    rw [Sl.cells_mk, V.cells_mk]
    replace hR := Lib.hid hR
    refine trF_enter (ts := [4]) Try.func13 rfl (by rw [Try.ntmps13]; exact Nat.le_of_ble_eq_true rfl) (fun tmps w => by simp [results, Try.results13, go_sem, resVal]) ?_
    simp only [Try.ntmps13]
    repeat' (first | with_reducible refine Go1.go ?_ | ((with_reducible apply ev_go); (focus ((try simp (disch := omega) only [push_cast, simprocAttr, *]); (try exact rfl); done))) | ((with_reducible refine w_last ?_ ?_ ?_); kernel_rfl; rfl) | with_reducible refine Go2.go ?_ | ((with_reducible first | apply w_stepG | refine s_bi ?_ ?_ | refine blk_ne ?_ ?_); rfl) | ((with_reducible refine al_go ?_); intro b) | ((with_reducible apply (ck_le Try.call42)); exact LEL.refl _; exact hR.out _) | ((with_reducible first | refine w_region ?_ ?_ | refine w_dra ?_ ?_); kernel_rfl) | ((with_reducible refine Go3.go ?_ ?_); all_goals (intro hb; (try with_reducible intro hb1); (try (exfalso; first | contradiction | omega)))) | fail)
    all_goals (refine ret_eq (by simp) (by first | rfl | assumption) (by (repeat (first | exact List.Sublist.refl _ | apply List.Sublist.cons))) ?_; (try simp (disch := omega) only [push_cast, simprocAttr, *]); try (first | exact LE.refl _ | exact LE.sl _ _ | ((first | refine LE.tup ?_ | refine LE.agg ?_); (repeat' (first | exact LEL.nil | refine LEL.cons ?_ ?_ | exact LE.refl _ | exact LE.sl _ _ | refine LE.agg ?_)); done) | refine LE.of_eq ?_))
  | true =>
    rw [hr] at hR
    cases v with
    | mk k n s l =>
    cases dv with
    | mk dk dn ds dl =>
    have hk : 0 ≤ k ∧ k ≤ 5 := by
      have := (V.right_iff.1 hr).1
      rw [V.parts, Bool.and_eq_true, Bool.and_eq_true] at this
      have := this.1.1
      unfold V.sgl at this
      repeat' split at this
      all_goals (first | omega | exact absurd this (by decide))
    obtain ⟨hk1, hk2⟩ := hk
    rw [V.cells_mk] at hR
    rw [Sl.cells_mk, V.cells_mk]
    replace hR := Lib.hid hR
    unfold Sch.bit
    clear hr
    refine trF_enter (ts := [4]) Try.func13 rfl (by rw [Try.ntmps13]; exact Nat.le_of_ble_eq_true rfl) (fun tmps w => by simp [results, Try.results13, go_sem, resVal]) ?_
    simp only [Try.ntmps13]
    repeat' (first | with_reducible refine Go1.go ?_ | ((with_reducible apply ev_go); (focus ((try simp (disch := omega) only [push_cast, simprocAttr, *]); (try exact rfl); done))) | ((with_reducible refine w_last ?_ ?_ ?_); kernel_rfl; rfl) | with_reducible refine Go2.go ?_ | ((with_reducible first | apply w_stepG | refine s_bi ?_ ?_ | refine blk_ne ?_ ?_); rfl) | ((with_reducible refine al_go ?_); intro b) | ((with_reducible apply (ck_le Try.call42)); exact LEL.refl _; exact hR.out _) | ((with_reducible first | refine w_region ?_ ?_ | refine w_dra ?_ ?_); kernel_rfl) | ((with_reducible refine Go3.go ?_ ?_); all_goals (intro hb; (try with_reducible intro hb1); (try (exfalso; first | contradiction | omega)))) | fail)
    all_goals (refine ret_eq (by simp) (by first | rfl | assumption) (by (repeat (first | exact List.Sublist.refl _ | apply List.Sublist.cons))) ?_; (try simp (disch := omega) only [push_cast, simprocAttr, *]); try (first | exact LE.refl _ | exact LE.sl _ _ | ((first | refine LE.tup ?_ | refine LE.agg ?_); (repeat' (first | exact LEL.nil | refine LEL.cons ?_ ?_ | exact LE.refl _ | exact LE.sl _ _ | refine LE.agg ?_)); done) | refine LE.of_eq ?_))

theorem schSoundF (s : Sl) (hB : s.dv.nodes ≤ 4611686018427387904) (st : St) : TrF Try.prog 87 [.agg s.cells] st fun x st' => x = .b (Sch.sound s) ∧ st' = st := by
  have hN := Lib.hid (valIsNameF s.name)
  have hT := Lib.hid (schTakesF s.types)
  have hF := schFitsF s.name s.types s.req s.dv s.dv hB
  unfold Sch.sound
  cases s with
  | mk nm ty rq dv =>
  dsimp only at hN hT hF ⊢
  generalize V.isName nm.data.toList = q1 at *
  generalize Sch.takes ty = q2 at *
  generalize Sch.fits (Sl.mk nm ty rq dv) dv = q3 at *
  cases dv with
  | mk k n s l =>
  rw [Sl.cells_mk, V.cells_mk] at hF
  rw [Sl.cells_mk]
  replace hF := Lib.hid hF
  cases q1 <;> cases q2 <;> cases q3
  all_goals skip
  all_goals (
    refine trF_enter (ts := [2]) Try.func87 rfl (by rw [Try.ntmps87]; exact Nat.le_of_ble_eq_true rfl) (fun tmps w => by simp [results, Try.results87, go_sem, resVal]) ?_
    simp only [Try.ntmps87]
    repeat' (first | with_reducible refine Go1.go ?_ | ((with_reducible apply ev_go); (focus ((try simp (disch := omega) only [push_cast, simprocAttr, *]); (try exact rfl); done))) | ((with_reducible refine w_last ?_ ?_ ?_); kernel_rfl; rfl) | with_reducible refine Go2.go ?_ | ((with_reducible first | apply w_stepG | refine s_bi ?_ ?_ | refine blk_ne ?_ ?_); rfl) | ((with_reducible refine al_go ?_); intro b) | ((with_reducible apply (ck_le Try.call86)); exact LEL.refl _; exact hN.out _) | ((with_reducible apply (ck_le Try.call102)); exact LEL.refl _; exact hT.out _) | ((with_reducible apply (ck_le Try.call13)); exact LEL.refl _; exact hF.out _) | ((with_reducible first | refine w_region ?_ ?_ | refine w_dra ?_ ?_); kernel_rfl) | ((with_reducible refine Go3.go ?_ ?_); all_goals (intro hb; (try with_reducible intro hb1); (try (exfalso; first | contradiction | omega)))) | fail)
    all_goals (refine ret_eq (by simp) (by first | rfl | assumption) (by (repeat (first | exact List.Sublist.refl _ | apply List.Sublist.cons))) ?_; (try simp (disch := omega) only [push_cast, simprocAttr, *]); try (first | exact LE.refl _ | exact LE.sl _ _ | ((first | refine LE.tup ?_ | refine LE.agg ?_); (repeat' (first | exact LEL.nil | refine LEL.cons ?_ ?_ | exact LE.refl _ | exact LE.sl _ _ | refine LE.agg ?_)); done) | refine LE.of_eq ?_)))
theorem schBareF (s : Sl) (b1 b2 : Bool) (hB : s.dv.Bg) (st : St) : TrF Try.prog 104 [.agg s.cells, .b b1, .b b2] st fun x st' => x = .b (Sch.bare s b1 b2) ∧ st' = st := by
  have hS := valSameB s.dv Sch.zeroV hB (.mk (Nat.zero_le _) (Nat.zero_le _) fun x h => by cases h)
  unfold Sch.bare
  cases s with
  | mk nm ty rq dv =>
  dsimp only at hS ⊢
  have hE := isE_eq nm
  generalize decide (nm.size = 0) = q1 at *
  generalize (dv.cmp Sch.zeroV == 0) = q3 at *
  unfold Sch.zeroV at hS
  cases dv with
  | mk k n s l =>
  rw [V.cells_mk, V.cells_mk, List.map_nil] at hS
  rw [Sl.cells_mk]
  replace hS := Lib.hid hS
  obtain ⟨q2, h2⟩ : ∃ q2, (ty == 0) = q2 := ⟨_, rfl⟩
  rw [h2]
  refine trF_enter (ts := [6]) Try.func104 rfl (by rw [Try.ntmps104]; exact Nat.le_of_ble_eq_true rfl) (fun tmps w => by simp [results, Try.results104, go_sem, resVal]) ?_
  simp only [Try.ntmps104]
  cases b1 <;> cases b2 <;> cases q1 <;> cases q2 <;> cases rq
  all_goals skip
  all_goals (
    repeat' (first | with_reducible refine Go1.go ?_ | ((with_reducible apply ev_go); (focus ((try simp (disch := omega) only [push_cast, simprocAttr, *]); (try exact rfl); done))) | ((with_reducible refine w_last ?_ ?_ ?_); kernel_rfl; rfl) | with_reducible refine Go2.go ?_ | ((with_reducible first | apply w_stepG | refine s_bi ?_ ?_ | refine blk_ne ?_ ?_); rfl) | ((with_reducible refine al_go ?_); intro b) | ((with_reducible apply (ck_el Try.call83)); exact hS.out _; (focus ((repeat' (first | exact LEL.nil | refine LEL.cons ?_ ?_ | exact LE.refl _ | exact LE.sl _ _ | refine LE.agg ?_)); done))) | ((with_reducible first | refine w_region ?_ ?_ | refine w_dra ?_ ?_); kernel_rfl) | ((with_reducible refine Go3.go ?_ ?_); all_goals (intro hb; (try with_reducible intro hb1); (try (exfalso; first | contradiction | omega)))) | fail)
    all_goals (refine ret_eq (by simp) (by first | rfl | assumption) (by (repeat (first | exact List.Sublist.refl _ | apply List.Sublist.cons))) ?_; (try simp (disch := omega) only [push_cast, simprocAttr, *]); try (first | exact LE.refl _ | exact LE.sl _ _ | ((first | refine LE.tup ?_ | refine LE.agg ?_); (repeat' (first | exact LEL.nil | refine LEL.cons ?_ ?_ | exact LE.refl _ | exact LE.sl _ _ | refine LE.agg ?_)); done) | refine LE.of_eq ?_)))
end Go.Proofs.Ytooaagmhgakhgaa
end

section
namespace Go.Proofs.Ytooaagmhgakhgaa
set_option linter.unusedSimpArgs false
attribute [local push_cast] encB encI encC V.cells_mk V.cells_len Nat.mul_one Int.sub_zero List.map_nil beq_self_eq_true
open Go.RowKit
set_option maxRecDepth 10000
set_option maxHeartbeats 4000000
theorem colL_drop {slots : List Sl} {name : ByteArray} {cols : List Nat} {i c : Nat} (h : cols[i]? = some c) : Sch.colL slots name (cols.drop i) = if Sch.named slots name c then (c : Int) else Sch.colL slots name (cols.drop (i + 1)) := by
  obtain ⟨h1, rfl⟩ := List.getElem?_eq_some_iff.1 h
  rw [List.drop_eq_getElem_cons h1, Sch.colL]
theorem schColF (slots : List Sl) (cols : List Nat) (name : ByteArray) (hl : slots.length ≤ 1000000) (hc : cols.length ≤ 1000000) (st : St) : TrF Try.prog 38 [.agg [.sl .shared (slots.map Sl.cells), .sl .shared (cols.map encC)], .str name] st fun x st' => x = .i (Sch.colL slots name cols) ∧ st' = st := by
  obtain ⟨B, hB⟩ : ∃ B, Sch.colL slots name cols = B := ⟨_, rfl⟩
  have HB : Hid (Sch.colL slots name (cols.drop 0) = B) := hB
  rw [hB]
  clear hB
  refine trF_enter (ts := [4]) Try.func38 rfl (by rw [Try.ntmps38]; exact Nat.le_of_ble_eq_true rfl) (fun tmps w => by simp [results, Try.results38, go_sem, resVal]) ?_
  simp only [Try.ntmps38]
  repeat' (first | with_reducible refine Go1.go ?_ | ((with_reducible apply ev_go); (focus ((try simp (disch := omega) only [push_cast, simprocAttr, *]); (try exact rfl); done))) | ((with_reducible refine w_last ?_ ?_ ?_); kernel_rfl; rfl) | with_reducible refine Go2.go ?_ | ((with_reducible first | apply w_stepG | refine s_bi ?_ ?_ | refine blk_ne ?_ ?_); rfl) | ((with_reducible refine al_go ?_); intro b) | ((with_reducible first | refine w_region ?_ ?_ | refine w_dra ?_ ?_); kernel_rfl) | ((with_reducible refine Go3.go ?_ ?_); all_goals (intro hb; (try with_reducible intro hb1); (try (exfalso; first | contradiction | omega)))) | fail)
  refine tr_loop (ι := Nat) (fun i A st' => i ≤ cols.length ∧ Hid (Sch.colL slots name (cols.drop i) = B) ∧ A.df = [] ∧ A.e 1 = .str name ∧ A.e 2 = .ip [.sl .shared (slots.map Sl.cells), .sl .shared (cols.map encC)] ∧ A.e 8 = .sl .shared (cols.map encC) ∧ A.e 9 = .i cols.length ∧ A.e 10 = .i i ∧ st = st') (fun i => cols.length - i) 0 ⟨Nat.zero_le _, HB, ?_, ?_, ?_, ?_, ?_, ?_, rfl⟩ ?_
  iterate 6 (focus (first | rfl | assumption | omega | (simp (disch := omega) only [push_cast, simprocAttr, *]; try omega; done)))
  rintro i A st' ⟨hi, HT, hdf, e1, e2, e8, e9, e10, rfl⟩
  by_cases hlt : i < cols.length
  · obtain ⟨c, hx⟩ : ∃ c, cols[i]? = some c := ⟨_, List.getElem?_eq_getElem hlt⟩
    have HE := HT.out
    rw [colL_drop hx] at HE
    clear HT HB
    by_cases hcs : c < slots.length
    · obtain ⟨s, hs⟩ : ∃ s, slots[c]? = some s := ⟨_, List.getElem?_eq_getElem hcs⟩
      cases s with
      | mk nm ty rq dv =>
      cases dv with
      | mk k n sv l =>
      obtain ⟨q, hq⟩ : ∃ q, (nm.toList == name.toList) = q := ⟨_, rfl⟩
      have hnm : Sch.named slots name c = q := by
        unfold Sch.named
        rw [hs, ← hq]; rfl
      rw [hnm] at HE
      clear hnm
      have hcell : (slots.map Sl.cells)[c]? = some [.str nm, .i ty, .b rq, .i k, .i n, .str sv, .sl .shared (l.map V.cells)] := by
        rw [List.getElem?_map, hs, ← Sl.cells_mk]; rfl
      clear hs
      have hsl : (slots.map Sl.cells).length = slots.length := List.length_map ..
      generalize slots.map Sl.cells = SL at *
      cases q with
      | true =>
        rw [if_pos rfl] at HE
        rw [← HE]
        clear HE
        repeat' (first | with_reducible refine Go1.go ?_ | ((with_reducible apply ev_go); (focus ((try simp (disch := omega) only [push_cast, simprocAttr, *]); (try exact rfl); done))) | ((with_reducible refine w_last ?_ ?_ ?_); kernel_rfl; rfl) | with_reducible refine Go2.go ?_ | ((with_reducible first | apply w_stepG | refine s_bi ?_ ?_ | refine blk_ne ?_ ?_); rfl) | ((with_reducible refine al_go ?_); intro b) | ((with_reducible first | refine w_region ?_ ?_ | refine w_dra ?_ ?_); kernel_rfl) | ((with_reducible refine Go3.go ?_ ?_); all_goals (intro hb; (try with_reducible intro hb1); (try (exfalso; first | contradiction | omega)))) | fail)
        all_goals (refine ret_eq (by simp) (by first | rfl | assumption) (by (repeat (first | exact List.Sublist.refl _ | apply List.Sublist.cons))) ?_; (try simp (disch := omega) only [push_cast, simprocAttr, *]); try (first | exact LE.refl _ | exact LE.sl _ _ | ((first | refine LE.tup ?_ | refine LE.agg ?_); (repeat' (first | exact LEL.nil | refine LEL.cons ?_ ?_ | exact LE.refl _ | exact LE.sl _ _ | refine LE.agg ?_)); done) | refine LE.of_eq ?_))
      | false =>
        rw [if_neg (by decide)] at HE
        replace HE := Lib.hid HE
        repeat' (first | with_reducible refine Go1.go ?_ | ((with_reducible apply ev_go); (focus ((try simp (disch := omega) only [push_cast, simprocAttr, *]); (try exact rfl); done))) | ((with_reducible refine w_last ?_ ?_ ?_); kernel_rfl; rfl) | with_reducible refine Go2.go ?_ | ((with_reducible first | apply w_stepG | refine s_bi ?_ ?_ | refine blk_ne ?_ ?_); rfl) | ((with_reducible refine al_go ?_); intro b) | ((with_reducible first | refine w_region ?_ ?_ | refine w_dra ?_ ?_); kernel_rfl) | ((with_reducible refine Go3.go ?_ ?_); all_goals (intro hb; (try with_reducible intro hb1); (try (exfalso; first | contradiction | omega)))) | fail)
        refine ⟨i + 1, ⟨hlt, HE, ?_, ?_, ?_, ?_, ?_, ?_, rfl⟩, ?_⟩
        all_goals (first | rfl | assumption | omega | (simp (disch := omega) only [push_cast, simprocAttr, *]; try omega; done))
    · have hnm : Sch.named slots name c = false := by
        unfold Sch.named
        rw [List.getElem?_eq_none (by omega)]; rfl
      rw [hnm, if_neg (by decide)] at HE
      replace HE := Lib.hid HE
      clear hnm
      repeat' (first | with_reducible refine Go1.go ?_ | ((with_reducible apply ev_go); (focus ((try simp (disch := omega) only [push_cast, simprocAttr, *]); (try exact rfl); done))) | ((with_reducible refine w_last ?_ ?_ ?_); kernel_rfl; rfl) | with_reducible refine Go2.go ?_ | ((with_reducible first | apply w_stepG | refine s_bi ?_ ?_ | refine blk_ne ?_ ?_); rfl) | ((with_reducible refine al_go ?_); intro b) | ((with_reducible first | refine w_region ?_ ?_ | refine w_dra ?_ ?_); kernel_rfl) | ((with_reducible refine Go3.go ?_ ?_); all_goals (intro hb; (try with_reducible intro hb1); (try (exfalso; first | contradiction | omega)))) | fail)
      refine ⟨i + 1, ⟨hlt, HE, ?_, ?_, ?_, ?_, ?_, ?_, rfl⟩, ?_⟩
      all_goals (first | rfl | assumption | omega | (simp (disch := omega) only [push_cast, simprocAttr, *]; try omega; done))
  · have HE := HT.out
    rw [List.drop_of_length_le (by omega), Sch.colL] at HE
    rw [← HE]
    clear HE HT HB
    repeat' (first | with_reducible refine Go1.go ?_ | ((with_reducible apply ev_go); (focus ((try simp (disch := omega) only [push_cast, simprocAttr, *]); (try exact rfl); done))) | ((with_reducible refine w_last ?_ ?_ ?_); kernel_rfl; rfl) | with_reducible refine Go2.go ?_ | ((with_reducible first | apply w_stepG | refine s_bi ?_ ?_ | refine blk_ne ?_ ?_); rfl) | ((with_reducible refine al_go ?_); intro b) | ((with_reducible first | refine w_region ?_ ?_ | refine w_dra ?_ ?_); kernel_rfl) | ((with_reducible refine Go3.go ?_ ?_); all_goals (intro hb; (try with_reducible intro hb1); (try (exfalso; first | contradiction | omega)))) | fail)
    all_goals (refine ret_eq (by simp) (by first | rfl | assumption) (by (repeat (first | exact List.Sublist.refl _ | apply List.Sublist.cons))) ?_; (try simp (disch := omega) only [push_cast, simprocAttr, *]); try (first | exact LE.refl _ | exact LE.sl _ _ | ((first | refine LE.tup ?_ | refine LE.agg ?_); (repeat' (first | exact LEL.nil | refine LEL.cons ?_ ?_ | exact LE.refl _ | exact LE.sl _ _ | refine LE.agg ?_)); done) | refine LE.of_eq ?_))
theorem schColumnF (x : Vr) (s : Stp) (st : St) (ho : s.order.length ≤ 9223372036854775807) (hc : x.cols.length ≤ 1000000) : TrF Try.prog 103 [.ip x.cells, .agg s.cells] st fun d st' => d = .b (Sch.column x s) ∧ st' = st := by
  unfold Sch.column Vr.cells Stp.cells
  cases s with
  | mk kd col slot order =>
  cases slot with
  | mk nm ty rq dv =>
  cases dv with
  | mk k n sv l =>
  rw [Sl.cells_mk]
  dsimp only [List.cons_append, List.nil_append] at ho ⊢
  refine trF_enter (ts := [4]) Try.func103 rfl (by rw [Try.ntmps103]; exact Nat.le_of_ble_eq_true rfl) (fun tmps w => by simp [results, Try.results103, go_sem, resVal]) ?_
  simp only [Try.ntmps103]
  repeat' (first | with_reducible refine Go1.go ?_ | ((with_reducible apply ev_go); (focus ((try simp (disch := omega) only [push_cast, simprocAttr, *]); (try exact rfl); done))) | ((with_reducible refine w_last ?_ ?_ ?_); kernel_rfl; rfl) | with_reducible refine Go2.go ?_ | ((with_reducible first | apply w_stepG | refine s_bi ?_ ?_ | refine blk_ne ?_ ?_); rfl) | ((with_reducible refine al_go ?_); intro b) | ((with_reducible first | refine w_region ?_ ?_ | refine w_dra ?_ ?_); kernel_rfl) | ((with_reducible refine Go3.go ?_ ?_); all_goals (intro hb; (try with_reducible intro hb1); (try (exfalso; first | contradiction | omega)))) | fail)
  all_goals (refine ret_eq (by simp) (by first | rfl | assumption) (by (repeat (first | exact List.Sublist.refl _ | apply List.Sublist.cons))) ?_; (try simp (disch := omega) only [push_cast, simprocAttr, *]); try (first | exact LE.refl _ | exact LE.sl _ _ | ((first | refine LE.tup ?_ | refine LE.agg ?_); (repeat' (first | exact LEL.nil | refine LEL.cons ?_ ?_ | exact LE.refl _ | exact LE.sl _ _ | refine LE.agg ?_)); done) | refine LE.of_eq ?_))
  all_goals (first | rfl | (refine congrArg D.b ?_; rw [Bool.eq_iff_iff]; simp only [Bool.true_and, Bool.false_and, Bool.and_true, Bool.and_false, Bool.or_false, Bool.or_true, Bool.true_or, Bool.false_or, true_and, and_true, Bool.not_eq_true', Bool.not_eq_false', decide_eq_true_eq, decide_eq_false_iff_not, beq_iff_eq, beq_eq_false_iff_ne, bne_iff_ne, ne_eq, reduceCtorEq, iff_true, true_iff, iff_false, false_iff, Bool.and_eq_true, Bool.or_eq_true, Bool.false_eq_true, Bool.true_eq_false]; first | done | omega))
end Go.Proofs.Ytooaagmhgakhgaa
end

section
namespace Go.Proofs.Ytooaagmhgakhgaa
set_option linter.unusedSimpArgs false
attribute [local push_cast] encB encI encC V.cells_mk V.cells_len Nat.mul_one Int.sub_zero List.map_nil beq_self_eq_true
open Go.RowKit
set_option maxRecDepth 10000
set_option maxHeartbeats 4000000
abbrev VB (bx gs cS : Nat) (zS : List D) (gc cC : Nat) (zC : List D) (x : Vr) (s : St) : St :=
  .box bx 38 [.ar gs 0 x.slots.length cS, .ar gc 0 x.cols.length cC] :: .box gs 26 (slotC x.slots ++ zS) :: .box gc 3 (colC x.cols ++ zC) :: s
def VL (cS : Nat) (zS : List D) (cC : Nat) (zC : List D) (x : Vr) : Prop := (slotC x.slots ++ zS).length = cS * 7 ∧ (colC x.cols ++ zC).length = cC * 1
structure VW (x : Vr) : Prop where
  ls : x.slots.length ≤ 1000
  lc : x.cols.length ≤ 8
  cs : ∀ c ∈ x.cols, c < x.slots.length
def Stp.Ok (s : Stp) : Prop := s.slot.dv.nodes ≤ 1000 ∧ s.slot.dv.Bg ∧ s.order.length ≤ 1000
theorem slotC_flat (x : Vr) : (x.slots.map Sl.cells).flatten = slotC x.slots := rfl
theorem colC_flat (x : Vr) : (x.cols.map encC).flatten = colC x.cols := rfl
theorem slots_each (l : List Sl) : ∀ e ∈ l.map Sl.cells, e.length = 7 := fun e he => by
  obtain ⟨x, -, rfl⟩ := List.mem_map.1 he
  exact Sl.cells_len x
theorem cols_each (l : List Nat) : ∀ e ∈ l.map encC, e.length = 1 := fun e he => by
  obtain ⟨x, -, rfl⟩ := List.mem_map.1 he
  rfl
def StepR (F : Vr → Stp → Option Vr) (x : Vr) (stp : Stp) (bx : Nat) (s : St) (d : D) (st' : St) : Prop :=
  (F x stp = none ∧ d = .b false ∧ st' = s) ∨ ∃ x' gs cS zS gc cC zC, F x stp = some x' ∧ VL cS zS cC zC x' ∧ d = .b true ∧ st' = VB bx gs cS zS gc cC zC x' s
theorem slotC_add (l : List Sl) (s : Sl) : slotC (l ++ [s]) = slotC l ++ [s.cells].flatten := by
  unfold slotC; simp
theorem colC_add (l : List Nat) (c : Nat) : colC (l ++ [c]) = colC l ++ [[D.i c]].flatten := by
  unfold colC; simp [encC]
theorem schAddF (bx gs cS gc cC : Nat) (zS zC : List D) (x : Vr) (stp : Stp) (hx : VW x) (hs : stp.Ok) (hz : VL cS zS cC zC x) (s : St) : TrF Try.prog 90 [.ptr bx 0, .agg stp.cells] (VB bx gs cS zS gc cC zC x s) (StepR Sch.addS x stp bx s) := by
  obtain ⟨ls, lc, -⟩ := hx
  obtain ⟨hn, -, ho⟩ := hs
  obtain ⟨hz1, hz2⟩ := hz
  have hS := schSoundF stp.slot (by omega)
  have hC := schColF x.slots x.cols stp.slot.name (by omega) (by omega) []
  have hr1 := slotC_len x.slots
  have hr2 := colC_len x.cols
  have e1 := Lib.hid (slots_each x.slots)
  have e2 := Lib.hid (cols_each x.cols)
  have f1 := Lib.hid (slotC_flat x)
  have f2 := Lib.hid (colC_flat x)
  have l1 : Hid ((x.slots.map Sl.cells).length = x.slots.length) := List.length_map ..
  have l2 : Hid ((x.cols.map encC).length = x.cols.length) := List.length_map ..
  have g1 := Lib.hid (slotC_add x.slots stp.slot)
  have g2 := Lib.hid (colC_add x.cols x.slots.length)
  have g3 : Hid ((x.slots ++ [stp.slot]).length = x.slots.length + 1) := List.length_append
  have g4 : Hid ((x.cols ++ [x.slots.length]).length = x.cols.length + 1) := List.length_append
  obtain ⟨x', hx'⟩ : ∃ x' : Vr, x' = ⟨x.slots ++ [stp.slot], x.cols ++ [x.slots.length]⟩ := ⟨_, rfl⟩
  have hF : Hid (Sch.addS x stp = if stp.col = 0 ∧ stp.order.length = 0 ∧ x.cols.length < 8 ∧ Sch.sound stp.slot = true ∧ stp.slot.req = false ∧ Sch.colL x.slots stp.slot.name x.cols < 0 then some x' else none) := by rw [hx']; rfl
  have s1 : Hid (x'.slots = x.slots ++ [stp.slot]) := by rw [hx']; rfl
  have s2 : Hid (x'.cols = x.cols ++ [x.slots.length]) := by rw [hx']; rfl
  clear hx'
  unfold StepR VL VB Stp.cells
  generalize Sch.addS x stp = F at *
  cases stp with
  | mk kd col slot order =>
  cases slot with
  | mk nm ty rq dv =>
  cases dv with
  | mk k n sv l =>
  dsimp only at hS hC ho hF ⊢
  generalize Sch.sound _ = q at *
  generalize Sch.colL _ _ _ = cv at *
  generalize slotC x.slots = R1 at *
  generalize colC x.cols = R2 at *
  generalize x.slots.map Sl.cells = L1 at *
  generalize x.cols.map encC = L2 at *
  rw [Sl.cells_mk] at *
  dsimp only [List.cons_append, List.nil_append] at ho ⊢
  generalize x.slots.length = m1 at *
  generalize x.cols.length = m2 at *
  replace hS := Lib.hid hS
  replace hC := Lib.hid hC
  refine trF_enter (ts := [4]) Try.func90 rfl (by rw [Try.ntmps90]; exact Nat.le_of_ble_eq_true rfl) (fun tmps w => by simp [results, Try.results90, go_sem, resVal]) ?_
  simp only [Try.ntmps90]
  repeat' (first | with_reducible refine Go1.go ?_ | ((with_reducible apply ev_go); (focus ((try simp (disch := omega) only [push_cast, simprocAttr, *]); (try exact rfl); done))) | ((with_reducible refine w_draw [(bx, [.ar gs 0 m1 cS, .ar gc 0 m2 cC])] ?_ ?_ ?_ ?_ ?_); (iterate 3 (focus kernel_rfl)); (focus ((repeat (first | exact keep_nil | refine keep_more (by repeat (first | exact mm_h | apply mm_t)) ?_)); done))) | ((with_reducible refine And.intro ?_ ?_); (focus ((repeat (first | exact keep_nil | refine keep_more (by (repeat (first | exact mm_h | apply mm_t)); done) ?_)); done))) | ((with_reducible refine w_draw [(bx, [.ar gs 0 m1 cS, .ar gc' 0 (m2 + 1) cC'])] ?_ ?_ ?_ ?_ ?_); (iterate 3 (focus kernel_rfl)); (focus ((repeat (first | exact keep_nil | refine keep_more (by repeat (first | exact mm_h | apply mm_t)) ?_)); done))) | ((with_reducible refine And.intro ?_ ?_); (focus ((repeat (first | exact keep_nil | refine keep_more (by (repeat (first | exact mm_h | apply mm_t)); done) ?_)); done))) | with_reducible refine s_appR ?_ | with_reducible refine rk_go ?_ | ((with_reducible apply (r2_go hr1 hz1)); (focus (intro g' cs'; repeat (first | exact ra_h | apply ra_t))); (focus exact len_one rfl); (focus (simp only [List.length_cons, List.length_nil]; omega)); (focus (simp only [List.length_cons, List.length_nil]; omega)); intro gs' cS' zS' hcs hls) | ((with_reducible apply (r2_go hr2 hz2)); (focus (intro g' cs'; repeat (first | exact ra_h | apply ra_t))); (focus exact len_one rfl); (focus (simp only [List.length_cons, List.length_nil]; omega)); (focus (simp only [List.length_cons, List.length_nil]; omega)); intro gc' cC' zC' hcc hlc) | ((with_reducible refine w_last ?_ ?_ ?_); kernel_rfl; rfl) | with_reducible refine Go2.go ?_ | ((with_reducible first | apply w_stepG | refine s_bi ?_ ?_ | refine blk_ne ?_ ?_); rfl) | ((with_reducible refine al_go ?_); intro b) | ((with_reducible apply (ck_le Try.call87)); exact LEL.refl _; exact hS.out _) | ((with_reducible apply (ck_lend Try.call38)); (focus exact hC.out); (focus exact ⟨Lend.agg ⟨Lend.rowE (by repeat (first | exact mm_h | apply mm_t)) f1.out (by decide) e1.out l1.out, Lend.rowE (by repeat (first | exact mm_h | apply mm_t)) f2.out (by decide) e2.out l2.out, trivial⟩, Lend.refl _, trivial⟩)) | ((with_reducible first | refine w_region ?_ ?_ | refine w_dra ?_ ?_); kernel_rfl) | ((with_reducible refine Go3.go ?_ ?_); all_goals (intro hb; (try with_reducible intro hb1); (try (exfalso; first | contradiction | omega)))) | fail)
  all_goals first
    | ((refine retA_mk (by first | exact .inl rfl | exact .inr rfl) (by first | rfl | assumption) (by (repeat (first | exact List.Sublist.refl _ | apply List.Sublist.cons))) (LE.of_eq ?_) (.inl ⟨?_, rfl, rfl⟩)); (focus simp (disch := omega) only [push_cast, simprocAttr, *]); (focus (rw [hF.out]; refine if_neg ?_; rintro ⟨h1, h2, h3, h4, h5, h6⟩; (first | omega | exact Bool.noConfusion (h4.symm.trans (by assumption) : true = false) | exact Bool.noConfusion (h5.symm.trans (by assumption) : false = true)))))
    | ((refine retA_mk (by first | exact .inl rfl | exact .inr rfl) (by first | rfl | assumption) (List.Sublist.refl _) (LE.of_eq ?_) (.inr ⟨x', gs', cS', zS', gc', cC', zC', ?_, ⟨?_, ?_⟩, rfl, ?_⟩)); (focus simp (disch := omega) only [push_cast, simprocAttr, *]); (focus (rw [hF.out]; refine if_pos ⟨?_, ?_, ?_, ?_, ?_, ?_⟩ <;> first | assumption | omega)); (focus (rw [s1.out, g1.out, (by assumption : rq = false)]; exact hls)); (focus (rw [s2.out, g2.out]; exact hlc)); (focus (rw [s1.out, s2.out, g1.out, g2.out, g3.out, g4.out, (by assumption : rq = false)])))
end Go.Proofs.Ytooaagmhgakhgaa
end

section
namespace Go.Proofs.Ytooaagmhgakhgaa
set_option linter.unusedSimpArgs false
open Go.RowKit
structure TOk (t : Tm) : Prop where
  ls : t.slots.length ≤ 1000
  lt : t.steps.length ≤ 1000
  os : ∀ s ∈ t.slots, s.dv.nodes ≤ 1000
  ot : ∀ s ∈ t.steps, s.Ok
namespace Sch
structure VI (n : Nat) (x : Vr) : Prop where
  ls : x.slots.length ≤ n
  lp : 1 ≤ x.slots.length
  cp : 1 ≤ x.cols.length
  lc : x.cols.length ≤ 8
  cs : ∀ c ∈ x.cols, c < x.slots.length
theorem VI.vw {n : Nat} {x : Vr} (h : VI n x) (hn : n ≤ 1000) : VW x := ⟨by have := h.ls; omega, h.lc, h.cs⟩
theorem VI.mono {n m : Nat} {x : Vr} (h : VI n x) (hn : n ≤ m) : VI m x := ⟨by have := h.ls; omega, h.lp, h.cp, h.lc, h.cs⟩
theorem reo_sub {cols : List Nat} : ∀ (l : List Int) (out r : List Nat), reo cols l out = some r → (∀ c ∈ out, c ∈ cols) → (∀ c ∈ r, c ∈ cols) ∧ r.length = out.length + l.length
  | [], out, r, h, ho => by cases h; exact ⟨ho, rfl⟩
  | k :: l, out, r, h, ho => by
    rw [reo] at h
    split at h
    · rename_i hk
      have hc : cols.getD k.toNat 0 ∈ cols := by
        have : k.toNat < cols.length := by omega
        rw [List.getD_eq_getElem?_getD, List.getElem?_eq_getElem this]
        exact List.getElem_mem this
      obtain ⟨h1, h2⟩ := reo_sub l _ r h (by
        intro c hc'
        rcases List.mem_append.1 hc' with h | h
        · exact ho c h
        · rw [List.mem_singleton] at h
          subst h; exact hc)
      refine ⟨h1, ?_⟩
      rw [h2, List.length_append, List.length_cons, List.length_cons, List.length_nil]; omega
    · cases h
theorem step_vi {n : Nat} {x y : Vr} {s : Stp} (hx : VI n x) (h : stepV x s = some y) : VI (n + 1) y := by
  obtain ⟨h1, h2, h3, h4, h5⟩ := hx
  unfold stepV at h
  split at h
  · unfold addS at h
    split at h
    · rename_i hc
      cases h
      refine ⟨by simp; omega, by simp, by simp, by simp; omega, fun c hc' => ?_⟩
      rcases List.mem_append.1 hc' with h | h
      · have := h5 c h; simp; omega
      · rw [List.mem_singleton] at h
        subst h; simp
    · cases h
  · split at h
    · unfold loseS at h
      split at h
      · rename_i hc
        cases h
        have hi : s.col.toNat < x.cols.length := by
          have := hc.1
          unfold column at this
          simp at this; omega
        refine ⟨by simp; omega, by simp; omega, ?_, ?_, fun c hc' => h5 c (List.mem_of_mem_eraseIdx hc')⟩
        · show 1 ≤ (x.cols.eraseIdx _).length
          rw [List.length_eraseIdx_of_lt hi]; omega
        · show (x.cols.eraseIdx _).length ≤ 8
          rw [List.length_eraseIdx_of_lt hi]; omega
      · cases h
    · split at h
      · unfold renameS at h
        split at h
        · cases h
          exact ⟨by simp; omega, by simp; omega, h3, h4, fun c hc' => by have := h5 c hc'; simpa using this⟩
        · cases h
      · split at h
        · unfold widenS at h
          split at h
          · cases h
            exact ⟨by simp; omega, by simp; omega, h3, h4, fun c hc' => by have := h5 c hc'; simpa using this⟩
          · cases h
        · split at h
          · unfold reorderS at h
            split at h
            · rename_i hc
              cases hr : reo x.cols s.order [] with
              | none => rw [hr] at h; cases h
              | some r =>
                rw [hr] at h
                cases h
                obtain ⟨k1, k2⟩ := reo_sub _ _ _ hr (fun c h => by cases h)
                have hl : r.length = x.cols.length := by rw [k2]; simp; omega
                exact ⟨by show x.slots.length ≤ _; omega, h2, by show 1 ≤ r.length; omega, by show r.length ≤ 8; omega, fun c hc' => h5 c (k1 c hc')⟩
            · cases h
          · cases h
theorem firstL_vi : ∀ (l : List Sl) (x y : Vr), (∀ c ∈ x.cols, c < x.slots.length) → x.cols.length = x.slots.length → firstL l x = some y → (∀ c ∈ y.cols, c < y.slots.length) ∧ y.cols.length = y.slots.length ∧ y.slots = x.slots ++ l
  | [], x, y, h1, h2, h => by cases h; exact ⟨h1, h2, (List.append_nil _).symm⟩
  | s :: l, x, y, h1, h2, h => by
    rw [firstL] at h
    split at h
    · obtain ⟨k1, k2, k3⟩ := firstL_vi l _ y (fun c hc => by
        rcases List.mem_append.1 hc with h | h
        · have := h1 c h; simp; omega
        · rw [List.mem_singleton] at h
          subst h; simp) (by simp; omega) h
      refine ⟨k1, k2, ?_⟩
      rw [k3, List.append_assoc]; rfl
    · cases h
theorem first_vi {t : Tm} {x : Vr} (h : firstV t = some x) : VI 8 x ∧ x.slots = t.slots ∧ t.steps.length ≤ 8 := by
  unfold firstV at h
  split at h
  · rename_i hc
    obtain ⟨k1, k2, k3⟩ := firstL_vi _ _ _ (fun c h => by cases h) rfl h
    rw [List.nil_append] at k3
    have hl : x.slots.length = t.slots.length := by rw [k3]
    exact ⟨⟨by omega, by omega, by omega, by omega, k1⟩, k3, hc.2.2.2⟩
  · cases h
theorem versL_drop {x : Vr} {l : List Stp} {i : Nat} {s : Stp} (h : l[i]? = some s) : versL x (l.drop i) = match stepV x s with
    | none => []
    | some y => y :: versL y (l.drop (i + 1)) := by
  obtain ⟨h1, rfl⟩ := List.getElem?_eq_some_iff.1 h
  rw [List.drop_eq_getElem_cons h1, versL]
  all_goals (cases stepV x l[i] <;> rfl)
theorem versL_vi : ∀ (l : List Stp) (n : Nat) (x : Vr), VI n x → ∀ y ∈ versL x l, VI (n + l.length) y
  | [], _, _, _, y, hy => by cases hy
  | s :: l, n, x, hx, y, hy => by
    rw [versL] at hy
    cases hs : stepV x s with
    | none => rw [hs] at hy; cases hy
    | some z =>
      rw [hs] at hy
      have hz := step_vi hx hs
      rcases List.mem_cons.1 hy with rfl | hy
      · exact hz.mono (by rw [List.length_cons]; omega)
      · exact (versL_vi l _ z hz y hy).mono (by rw [List.length_cons]; omega)
theorem versL_len : ∀ (l : List Stp) (x : Vr), (versL x l).length ≤ l.length
  | [], _ => Nat.le_refl _
  | s :: l, x => by
    rw [versL]
    split
    · exact Nat.zero_le _
    · rename_i y hy
      have := versL_len l y
      rw [List.length_cons, List.length_cons]; omega
theorem vers_vi {t : Tm} {y : Vr} (h : y ∈ vers t) : VI 16 y := by
  unfold vers at h
  split at h
  · cases h
  · rename_i x hx
    obtain ⟨k1, -, k2⟩ := first_vi hx
    rcases List.mem_cons.1 h with rfl | h
    · exact k1.mono (by omega)
    · exact (versL_vi _ _ _ k1 y h).mono (by omega)
theorem vers_len (t : Tm) : (vers t).length ≤ t.steps.length + 1 ∧ (vers t).length ≤ 9 := by
  unfold vers
  split
  · exact ⟨Nat.zero_le _, Nat.zero_le _⟩
  · rename_i x hx
    have := versL_len t.steps x
    have := (first_vi hx).2.2
    rw [List.length_cons]; omega
end Sch
end Go.Proofs.Ytooaagmhgakhgaa
end

section
namespace Go.Proofs.Ytooaagmhgakhgaa
set_option linter.unusedSimpArgs false
open Go.RowKit
namespace Sch
def cut (t : Tm) (k : Nat) : Tm := ⟨t.name, t.slots, t.steps.take k⟩
theorem modify_get {α : Type} {l : List α} {f : α → α} {i j : Nat} {y : α} (h : l[j]? = some y) : (l.modify i f)[j]? = some (if i = j then f y else y) := by
  rw [List.getElem?_modify, h]
  split <;> rfl
theorem step_dv {Q : V → Prop} {x y : Vr} {s : Stp} (hx : ∀ z ∈ x.slots, Q z.dv) (hs : Q s.slot.dv) (h : stepV x s = some y) : ∀ z ∈ y.slots, Q z.dv := by
  have hmod : ∀ (l : List Sl) (f : Sl → Sl) (i : Nat), (∀ z, (f z).dv = z.dv) → (∀ z ∈ l, Q z.dv) → ∀ z ∈ l.modify i f, Q z.dv := by
    intro l f i hf hl z hz
    obtain ⟨j, hj⟩ := List.getElem?_of_mem hz
    cases hlj : l[j]? with
    | none => rw [List.getElem?_modify, hlj] at hj; simp at hj
    | some w =>
      rw [modify_get hlj] at hj
      have hw := hl w (List.mem_of_getElem? hlj)
      cases hj
      split
      · rw [hf]; exact hw
      · exact hw
  unfold stepV at h
  split at h
  · unfold addS at h
    split at h
    · cases h
      intro z hz
      rcases List.mem_append.1 hz with h | h
      · exact hx z h
      · rw [List.mem_singleton] at h
        subst h; exact hs
    · cases h
  · split at h
    · unfold loseS at h
      split at h
      · cases h; exact hx
      · cases h
    · split at h
      · unfold renameS at h
        split at h
        · cases h; exact hmod _ _ _ (fun _ => rfl) hx
        · cases h
      · split at h
        · unfold widenS at h
          split at h
          · cases h; exact hmod _ _ _ (fun _ => rfl) hx
          · cases h
        · split at h
          · unfold reorderS at h
            split at h
            · cases hr : reo x.cols s.order [] with
              | none => rw [hr] at h; cases h
              | some r => rw [hr] at h; cases h; exact hx
            · cases h
          · cases h
theorem versL_dv {Q : V → Prop} : ∀ (l : List Stp) (x : Vr), (∀ z ∈ x.slots, Q z.dv) → (∀ s ∈ l, Q s.slot.dv) → ∀ y ∈ versL x l, ∀ z ∈ y.slots, Q z.dv
  | [], _, _, _, y, hy => by cases hy
  | s :: l, x, hx, hl, y, hy => by
    rw [versL] at hy
    cases hs : stepV x s with
    | none => rw [hs] at hy; cases hy
    | some z =>
      rw [hs] at hy
      have hz := step_dv hx (hl s (List.mem_cons_self ..)) hs
      rcases List.mem_cons.1 hy with rfl | hy
      · exact hz
      · exact versL_dv l z hz (fun s hs => hl s (List.mem_cons_of_mem _ hs)) y hy
theorem vers_dv {Q : V → Prop} {t : Tm} (hs : ∀ s ∈ t.slots, Q s.dv) (ht : ∀ s ∈ t.steps, Q s.slot.dv) : ∀ y ∈ vers t, ∀ z ∈ y.slots, Q z.dv := by
  intro y hy
  unfold vers at hy
  split at hy
  · cases hy
  · rename_i x hx
    obtain ⟨-, k3, -⟩ := first_vi hx
    rcases List.mem_cons.1 hy with rfl | hy
    · rw [k3]; exact hs
    · exact versL_dv _ _ (by rw [k3]; exact hs) ht y hy
end Sch
end Go.Proofs.Ytooaagmhgakhgaa
end

section
namespace Go.Proofs.Ytooaagmhgakhgaa
set_option linter.unusedSimpArgs false
attribute [local push_cast] encB encI V.cells_mk V.cells_take V.cells_len Nat.mul_one Int.sub_zero
open Go.RowKit
set_option maxRecDepth 10000
set_option maxHeartbeats 4000000
end Go.Proofs.Ytooaagmhgakhgaa
end

section
namespace Go.Proofs.Ytooaagmhgakhgaa
set_option linter.unusedSimpArgs false
open Go.RowKit
section
variable {P : Program} {r : Option Nat} {ro : Ro} {ops : Array Oper} {md : Region.Mode} {st : St}
def wpAnyP (P : Program) (r : Option Nat) (ro : Ro) (md : Region.Mode) (ops : Array Oper) (p : Nat) (Q : AA → St → Prop) : Nat → Array Bool → AA → St → Prop
  | 0, _, _, _ => False
  | fuel + 1, listed, A, st => Region.ready md ops listed ≠ [] ∧ ∀ i ∈ Region.ready md ops listed, ∀ o, ops[i]? = some o →
      if i = p then mOpA P r ro true ops o (fun A' st' => ∃ ro2, Keeps ro2 st' ∧ wpAnyA P r ro2 md ops Q fuel (listed.setIfInBounds i true) A' st') A st
      else mOpA P r ro false ops o (wpAnyP P r ro md ops p Q fuel (listed.setIfInBounds i true)) A st
def pureA (o : Oper) : Bool := freeA o && match o.op with
  | .load _ _ => false
  | _ => true
theorem frC_pure {ro ro' : Ro} {o : Oper} {e : Nat → D} (h : pureA o = true) : frC P ro o e = frC P ro' o e := by
  unfold pureA at h
  unfold frC
  split
  · rename_i t x hop
    rw [hop] at h
    simp at h
  · rfl
def Between (ms : List Nat) (ops : Array Oper) (p : Nat) : Prop := ∀ j oj, ops[j]? = some oj → j ≠ p → waitsT ms j p = true ∨ waitsT ms p j = true ∨ pureA oj = true
theorem wpAnyP_pivot {ms : List Nat} (hms : MOk md ops.toList ms) {p : Nat} (hB : Between ms ops p) {Q : AA → St → Prop} {op : Oper} (hp : ops[p]? = some op) : ∀ (fuel : Nat) (listed : Array Bool) (A : AA) (st : St), Keeps ro st → DC md ops listed →
    (∀ j oj, ops[j]? = some oj → j ≠ p → listed.getD j true = false → waitsT ms j p = false → op.apart ops oj = true) → p ∈ Region.ready md ops listed →
    mOpA P r ro true ops op (fun A' st' => ∃ ro2, Keeps ro2 st' ∧ wpAnyA P r ro2 md ops Q fuel (listed.setIfInBounds p true) A' st') A st → wpAnyP P r ro md ops p Q (fuel + 1) listed A st := by
  intro fuel
  induction fuel with
  | zero =>
    intro listed A st hw hdc hfree hr H
    refine ⟨fun h => (by rw [h] at hr; cases hr), fun i hi oi hoi => ?_⟩
    by_cases hip : i = p
    · subst hip
      rw [hp] at hoi; cases hoi
      rw [if_pos rfl]; exact H
    · exfalso
      obtain ⟨v, w', _, ro2, _, h1⟩ := mOpA_some hw H
      have h2 := ready_mono hi hip
      rw [h1.1] at h2
      cases h2
  | succ fuel ih =>
    intro listed A st hw hdc hfree hr H
    refine ⟨fun h => (by rw [h] at hr; cases hr), fun j hj oj hoj => ?_⟩
    by_cases hjp : j = p
    · subst hjp
      rw [hp] at hoj; cases hoj
      rw [if_pos rfl]; exact H
    · rw [if_neg hjp]
      have h1 := hdc.ready hms (ready_unlisted hr) hj
      have h2 := hdc.ready hms (ready_unlisted hj) hr
      have hpu : pureA oj = true := by
        rcases hB j oj hoj hjp with h | h | h
        · rw [h1] at h; cases h
        · rw [h2] at h; cases h
        · exact h
      have hfj : freeA oj = true := by
        unfold pureA at hpu
        rw [Bool.and_eq_true] at hpu
        exact hpu.1
      have hdc' := hdc.step hj
      obtain ⟨hjun, -⟩ := mem_ready.1 hj
      have hap := hfree j oj hoj hjp hjun h1
      obtain ⟨d1, d2, d3⟩ := Oper.apart_spec hap
      have hri := ready_mono hr (Ne.symm hjp)
      have hcomm : (listed.setIfInBounds j true).setIfInBounds p true = (listed.setIfInBounds p true).setIfInBounds j true := Array.setIfInBounds_comm _ _ hjp
      have hfree' : ∀ k ok, ops[k]? = some ok → k ≠ p → (listed.setIfInBounds j true).getD k true = false → waitsT ms k p = false → op.apart ops ok = true := fun k ok hk hkp hun hno => by
        refine hfree k ok hk hkp ?_ hno
        by_cases hjk : j = k
        · subst hjk; exact hjun
        · rw [getD_set_ne true hjk] at hun; exact hun
      have hij : ∀ v st' ro2, wpAnyA P r ro2 md ops Q (fuel + 1) (listed.setIfInBounds p true) (A.put op.dst v) st' →
          mOpA P r ro2 (decide (j + 1 = ops.size) && lastAll ops) ops oj (wpAnyA P r ro2 md ops Q fuel ((listed.setIfInBounds j true).setIfInBounds p true)) (A.put op.dst v) st' := fun v st' ro2 h => by
        have := h.2 j (ready_mono hj hjp) oj hoj
        rw [hcomm]; exact this
      have hjw : ∀ v, wantedA ops oj (A.put op.dst v).e = wantedA ops oj A.e := fun v => wantedA_far d1
      have hje : ∀ v ro2, frC P ro2 oj (A.put op.dst v).e = frC P ro oj A.e := fun v ro2 => (frC_congr (ev_far d1)).trans (frC_pure hpu)
      by_cases hwj : wantedA ops oj A.e = true
      · obtain ⟨v1, w1, hc1, ro1, q1, k1⟩ := mOpA_some hw H
        have k2 := hij v1 w1 ro1 k1
        unfold mOpA at k2
        rw [hjw v1, if_pos hwj, if_pos hfj, hje v1] at k2
        obtain ⟨u, hu, _⟩ := k2
        have hstep : mOpA P r ro true ops op (fun A' st' => ∃ ro2, Keeps ro2 st' ∧ wpAnyA P r ro2 md ops Q fuel ((listed.setIfInBounds j true).setIfInBounds p true) A' st') (A.put oj.dst u) st := by
          refine mOpA_far hap (mOpA_put hw (fun v w' hc ⟨ro2, g1, g2⟩ => ⟨ro2, g1, ?_⟩) H)
          have k3 := hij v w' ro2 g2
          unfold mOpA at k3
          rw [hjw v, if_pos hwj, if_pos hfj, hje v] at k3
          obtain ⟨u', hu', k4⟩ := k3
          rw [hu] at hu'
          cases hu'
          exact k4
        unfold mOpA
        rw [if_pos hwj, if_pos hfj]
        exact ⟨u, hu, ih _ _ _ hw hdc' hfree' hri hstep⟩
      · have hstep : mOpA P r ro true ops op (fun A' st' => ∃ ro2, Keeps ro2 st' ∧ wpAnyA P r ro2 md ops Q fuel ((listed.setIfInBounds j true).setIfInBounds p true) A' st') (A.put oj.dst D.un) st := by
          refine mOpA_far hap (mOpA_put hw (fun v w' hc ⟨ro2, g1, g2⟩ => ⟨ro2, g1, ?_⟩) H)
          have k3 := hij v w' ro2 g2
          unfold mOpA at k3
          rw [hjw v, if_neg hwj] at k3
          exact k3
        unfold mOpA
        rw [if_neg hwj]
        exact ih _ _ _ hw hdc' hfree' hri hstep
theorem wpAnyP_first {ms : List Nat} (hms : MOk md ops.toList ms) {p : Nat} {Q : AA → St → Prop} {i : Nat} {oi : Oper} (hi : ops[i]? = some oi) (hip : i ≠ p) (hpi : waitsT ms p i = true) :
    ∀ (fuel : Nat) (listed : Array Bool) (A : AA) (st : St), Keeps ro st → DC md ops listed →
      (∀ j oj, ops[j]? = some oj → j ≠ i → listed.getD j true = false → waitsT ms j i = false → oi.apart ops oj = true ∧ (freeA oi = true ∨ freeA oj = true)) →
      i ∈ Region.ready md ops listed →
      mOpA P r ro false ops oi (wpAnyP P r ro md ops p Q fuel (listed.setIfInBounds i true)) A st → wpAnyP P r ro md ops p Q (fuel + 1) listed A st := by
  intro fuel
  induction fuel with
  | zero =>
    intro listed A st hw _ _ hr H
    obtain ⟨v, w', _, h1⟩ := mOpA_some hw H
    exact h1.elim
  | succ fuel ih =>
    intro listed A st hw hdc hfree hr H
    refine ⟨fun h => (by rw [h] at hr; cases hr), fun j hj oj hoj => ?_⟩
    by_cases hji : j = i
    · subst hji
      rw [hi] at hoj; cases hoj
      rw [if_neg hip]; exact H
    · obtain ⟨hjun, oj', hoj', hall⟩ := mem_ready.1 hj
      rw [hoj] at hoj'; cases hoj'
      have hnot := hdc.ready hms (ready_unlisted hr) hj
      have hjp : j ≠ p := fun e => by
        subst e
        rw [hpi] at hnot; cases hnot
      rw [if_neg hjp]
      have hdc' := hdc.step hj
      obtain ⟨hap, hfk⟩ := hfree j oj hoj hji hjun hnot
      obtain ⟨d1, d2, d3⟩ := Oper.apart_spec hap
      have hfree' : ∀ k ok, ops[k]? = some ok → k ≠ i → (listed.setIfInBounds j true).getD k true = false →
          waitsT ms k i = false → oi.apart ops ok = true ∧ (freeA oi = true ∨ freeA ok = true) := fun k ok hk hki hun hno => by
        refine hfree k ok hk hki ?_ hno
        by_cases hjk : j = k
        · subst hjk; exact hjun
        · rw [getD_set_ne true hjk] at hun; exact hun
      have hri := ready_mono hr (Ne.symm hji)
      have hcomm : (listed.setIfInBounds j true).setIfInBounds i true = (listed.setIfInBounds i true).setIfInBounds j true := Array.setIfInBounds_comm _ _ hji
      have hij : ∀ v st', wpAnyP P r ro md ops p Q (fuel + 1) (listed.setIfInBounds i true) (A.put oi.dst v) st' →
          mOpA P r ro false ops oj (wpAnyP P r ro md ops p Q fuel ((listed.setIfInBounds j true).setIfInBounds i true)) (A.put oi.dst v) st' := fun v st' h => by
        have := h.2 j (ready_mono hj hji) oj hoj
        rw [if_neg hjp] at this
        rw [hcomm]; exact this
      have hjw : ∀ v, wantedA ops oj (A.put oi.dst v).e = wantedA ops oj A.e := fun v => wantedA_far d1
      have hje : ∀ v, frC P ro oj (A.put oi.dst v).e = frC P ro oj A.e := fun v => frC_congr (ev_far d1)
      have hput : ∀ v u, (A.put oi.dst v).put oj.dst u = (A.put oj.dst u).put oi.dst v := fun v u => put_comm A v u d2
      by_cases hwj : wantedA ops oj A.e = true
      · by_cases hfj : freeA oj = true
        · obtain ⟨v1, w1, hc1, k1⟩ := mOpA_some hw H
          have k2 := hij v1 w1 k1
          unfold mOpA at k2
          rw [hjw v1, if_pos hwj, if_pos hfj, hje v1] at k2
          obtain ⟨u, hu, _⟩ := k2
          have hstep : mOpA P r ro false ops oi (wpAnyP P r ro md ops p Q fuel ((listed.setIfInBounds j true).setIfInBounds i true)) (A.put oj.dst u) st := by
            refine mOpA_far hap (mOpA_put hw (fun v w' hc h => ?_) H)
            have k3 := hij v w' h
            unfold mOpA at k3
            rw [hjw v, if_pos hwj, if_pos hfj, hje v] at k3
            obtain ⟨u', hu', k4⟩ := k3
            rw [hu] at hu'
            cases hu'
            exact k4
          unfold mOpA
          rw [if_pos hwj, if_pos hfj]
          exact ⟨u, hu, ih _ _ _ hw hdc' hfree' hri hstep⟩
        · have hfi : freeA oi = true := hfk.resolve_right hfj
          have key : ∀ v, wpAnyP P r ro md ops p Q (fuel + 1) (listed.setIfInBounds i true) (A.put oi.dst v) st → (∀ u st', Keeps ro st' → wpAnyP P r ro md ops p Q fuel ((listed.setIfInBounds j true).setIfInBounds i true) ((A.put oj.dst u).put oi.dst v) st' → mOpA P r ro false ops oi (wpAnyP P r ro md ops p Q fuel ((listed.setIfInBounds j true).setIfInBounds i true)) (A.put oj.dst u) st') →
              mOpA P r ro false ops oj (wpAnyP P r ro md ops p Q (fuel + 1) (listed.setIfInBounds j true)) A st := fun v h hback => by
            have k3 := hij v st h
            unfold mOpA at k3 ⊢
            rw [hjw v, if_pos hwj, if_neg hfj] at k3
            rw [if_pos hwj, if_neg hfj]
            obtain ⟨k4, u, st', k5, k6⟩ := k3
            refine ⟨(opC_congr (ev_far d1) k4).mono fun u st' hk => ⟨hk.1, ?_⟩, u, st', k5, ?_⟩
            · have hk2 := hk.2
              rw [hput v u] at hk2
              have hk1 := hk.1.resolve_left Bool.false_ne_true
              exact ih _ _ _ hk1 hdc' hfree' hri (hback u st' hk1 hk2)
            · rw [hput v u] at k6
              have hk1 := k5.resolve_left Bool.false_ne_true
              exact ih _ _ _ hk1 hdc' hfree' hri (hback u st' hk1 k6)
          have hiw : ∀ u, wantedA ops oi (A.put oj.dst u).e = wantedA ops oi A.e := fun u => wantedA_far d3
          have hie : ∀ u, frC P ro oi (A.put oj.dst u).e = frC P ro oi A.e := fun u => frC_congr (ev_far d3)
          unfold mOpA at H
          by_cases hwi : wantedA ops oi A.e = true
          · rw [if_pos hwi, if_pos hfi] at H
            obtain ⟨v, hv, h⟩ := H
            refine key v h fun u w' hc hk => ?_
            unfold mOpA
            rw [hiw u, if_pos hwi, if_pos hfi, hie u]
            exact ⟨v, hv, hk⟩
          · rw [if_neg hwi] at H
            refine key D.un H fun u w' hc hk => ?_
            unfold mOpA
            rw [hiw u, if_neg hwi]
            exact hk
      · have hstep : mOpA P r ro false ops oi (wpAnyP P r ro md ops p Q fuel ((listed.setIfInBounds j true).setIfInBounds i true)) (A.put oj.dst D.un) st := by
          refine mOpA_far hap (mOpA_put hw (fun v w' hc h => ?_) H)
          have k3 := hij v w' h
          unfold mOpA at k3
          rw [hjw v, if_neg hwj] at k3
          exact k3
        unfold mOpA
        rw [if_neg hwj]
        exact ih _ _ _ hw hdc' hfree' hri hstep
theorem wpAnyP_lex {ms : List Nat} (hms : MOk md ops.toList ms) (hL : LastW ms ops) (hall : lastAll ops = true) {p : Nat} (hBt : Between ms ops p) {op : Oper} {l2 : List Oper} {Q : AA → St → Prop} : ∀ (l1 : List Oper) (k : Nat) (listed : Array Bool) (A : AA) (st : St), Keeps ro st → DC md ops listed → k + l1.length = p → (∀ i, k ≤ i → i < p → waitsT ms p i = true) → (∀ j, (l1 ++ op :: l2)[j]? = ops[k + j]?) →
    mixFromA md ms ops (l1 ++ op :: l2).length k listed = true → wpMixA P r ro ops (fun A' st' => ∃ ro2, Keeps ro2 st' ∧ wpMixA P r ro2 ops Q l2 A' st') (l1 ++ [op]) A st → wpAnyP P r ro md ops p Q (l1 ++ op :: l2).length listed A st
  | [], k, listed, A, st, hw, hdc, hk, hwt, hl, hB, h => by
    have hkp : k = p := hk
    subst hkp
    have h0 : ops[k]? = some op := by simpa using (hl 0).symm
    simp only [List.nil_append, List.length_cons, mixFromA, Bool.and_eq_true] at hB
    obtain ⟨⟨hr, hf⟩, hB'⟩ := hB
    have hrk : k ∈ Region.ready md ops listed := by simpa using hr
    refine wpAnyP_pivot hms hBt h0 _ _ _ _ hw hdc (fun j oj hj hne hun hno => (mixFreeA_spec h0 hf j oj hj hne hun hno).1) hrk ?_
    have h : mOpA P r ro (true && lastAll ops) ops op (fun A' st' => ∃ ro2, Keeps ro2 st' ∧ wpMixA P r ro2 ops Q l2 A' st') A st := h
    rw [hall] at h
    refine mOpA_put hw (fun v w' _ ⟨ro2, q1, q2⟩ => ⟨ro2, q1, ?_⟩) h
    exact wpAnyA_lex hms hL l2 (k + 1) _ _ _ q1 (hdc.step hrk) (fun j => by have := hl (j + 1); simpa [Nat.add_assoc, Nat.add_comm 1 j] using this) hB' q2
  | o :: l1, k, listed, A, st, hw, hdc, hk, hwt, hl, hB, h => by
    have h0 : ops[k]? = some o := by simpa using (hl 0).symm
    simp only [List.cons_append, List.length_cons, mixFromA, Bool.and_eq_true] at hB
    obtain ⟨⟨hr, hf⟩, hB'⟩ := hB
    rw [List.length_cons] at hk
    refine wpAnyP_first hms h0 (by omega) (hwt k (Nat.le_refl _) (by omega)) _ listed A st hw hdc (mixFreeA_spec h0 hf) (by simpa using hr) ?_
    have h : mOpA P r ro ((l1 ++ [op]).isEmpty && lastAll ops) ops o (wpMixA P r ro ops (fun A' st' => ∃ ro2, Keeps ro2 st' ∧ wpMixA P r ro2 ops Q l2 A' st') (l1 ++ [op])) A st := h
    have hne : (l1 ++ [op]).isEmpty = false := by simp
    rw [hne, Bool.false_and] at h
    refine mOpA_put hw (fun v w' hc hk' => ?_) h
    exact wpAnyP_lex hms hL hall hBt l1 (k + 1) _ _ _ (hc.resolve_left Bool.false_ne_true) (hdc.step (by simpa using hr)) (by omega) (fun i h1 h2 => hwt i (by omega) h2) (fun j => by have := hl (j + 1); simpa [Nat.add_assoc, Nat.add_comm 1 j] using this) hB' hk'
theorem wpAnyIn_of_P {N : Nat} {ms : List Nat} (hms : MOk md ops.toList ms) (hL : LastW ms ops) {p : Nat} {K : AA → St → Prop} (hok : ∀ (i : Nat) (o : Oper), ops[i]? = some o → dstOk N o.dst = true ∧ guardOk N ops o = true) : ∀ (fuel : Nat) (listed : Array Bool) (A : AA) (st : St) (a : Act) (w : World) (Q : Exit → Act → World → Prop), Keeps ro st → DC md ops listed → RelA N (OwnS st) w a A → Holds st w → wpAnyP P r ro md ops p K fuel listed A st →
    (∀ A' st' a' w', RelA N (OwnS st') w' a' A' → Holds st' w' → Ext (OwnS st) w (OwnS st') w' → K A' st' → Q .normal a' w') → wpAnyIn (FR r) 0 P md ops Q fuel listed a w
  | 0, listed, A, st, a, w, Q, hk, hdc, hr, hh, h, hQ => h.elim
  | fuel + 1, listed, A, st, a, w, Q, hk, hdc, hr, hh, h, hQ => by
    refine ⟨fun h0 => absurd h0 h.1, fun i hi => ?_⟩
    obtain ⟨_, o, ho, _⟩ := mem_ready.1 hi
    obtain ⟨hd, hg⟩ := hok i o ho
    have hm := h.2 i hi o ho
    unfold wpOpIn
    simp only [ho]
    rw [wantedA_eq hr ops o (guardOk_spec hg)]
    by_cases hip : i = p
    · rw [if_pos hip] at hm
      unfold mOpA at hm
      split
      · rename_i hw
        rw [if_pos hw] at hm
        refine wpIn_of_ResC ?_
        have hC : OpC P r o A.e st fun d st' => ∃ ro2, Keeps ro2 st' ∧ wpAnyA P r ro2 md ops K fuel (listed.setIfInBounds i true) (A.put o.dst d) st' := by
          split at hm
          · obtain ⟨d, k1, k2⟩ := hm
            exact (frC_sound hk k1).opC k2
          · exact hm.1.mono fun d st' hkp => hkp.2
        exact (hC a.eval w (hr.repE _) hh).mono fun v w' ⟨d, st', k1, k2, k3, ro2, k4, k5⟩ =>
          wpAnyIn_of_A hms hL hok fuel _ _ st' _ w' Q (.inl k4) (hdc.step hi) ((hr.ext k3).put hd k1) k2 k5 fun A' st'' a' w'' q1 q2 q3 q4 => hQ A' st'' a' w'' q1 q2 (k3.trans q3) q4
      · rename_i hw
        rw [if_neg hw] at hm
        obtain ⟨ro2, k4, k5⟩ := hm
        exact ⟨fun f _ => trivial, wpAnyIn_of_A hms hL hok fuel _ _ st _ w Q (.inl k4) (hdc.step hi) (hr.put hd (.s undef rfl)) hh k5 hQ⟩
    · rw [if_neg hip] at hm
      unfold mOpA at hm
      split
      · rename_i hw
        rw [if_pos hw] at hm
        refine wpIn_of_ResC ?_
        have hC : OpC P r o A.e st fun d st' => Keeps ro st' ∧ wpAnyP P r ro md ops p K fuel (listed.setIfInBounds i true) (A.put o.dst d) st' := by
          split at hm
          · obtain ⟨d, k1, k2⟩ := hm
            exact (frC_sound hk k1).opC ⟨hk, k2⟩
          · exact hm.1.mono fun d st' hkp => ⟨hkp.1.resolve_left Bool.false_ne_true, hkp.2⟩
        exact (hC a.eval w (hr.repE _) hh).mono fun v w' ⟨d, st', k1, k2, k3, k4, k5⟩ =>
          wpAnyIn_of_P hms hL hok fuel _ _ st' _ w' Q k4 (hdc.step hi) ((hr.ext k3).put hd k1) k2 k5 fun A' st'' a' w'' q1 q2 q3 q4 => hQ A' st'' a' w'' q1 q2 (k3.trans q3) q4
      · rename_i hw
        rw [if_neg hw] at hm
        exact ⟨fun f _ => trivial, wpAnyIn_of_P hms hL hok fuel _ _ st _ w Q hk (hdc.step hi) (hr.put hd (.s undef rfl)) hh hm hQ⟩
def betweenB (l : List Oper) (p : Nat) : Bool := lastAll l.toArray && (List.range l.length).all fun j => j == p || (if j < p then waitsT (masks .any l []) p j else waitsT (masks .any l []) j p || ((l[j]?).any pureA))
theorem tr_drawP {N : Nat} {id : Nat} {l : List Oper} {A : AA} {Q : Exit → AA → St → Prop} (ro : Ro) (l1 : List Oper) (op : Oper) (l2 : List Oper) (hl : l = l1 ++ op :: l2) (hm : P.follows .mixedOrders = true) (hB : mixBA .any l.toArray = true) (hok : opsOk N l = true) (hbt : betweenB l l1.length = true) (hC : Keeps ro st)
    (h : wpMixA P r ro l.toArray (fun A' st' => ∃ ro2, Keeps ro2 st' ∧ wpMixA P r ro2 l.toArray (Q .normal) l2 A' st') (l1 ++ [op]) A st) : Tr P N r (.region id l.toArray true) A st Q := by
  intro a w h1 h2
  have hok' : ∀ (i : Nat) (o : Oper), l.toArray[i]? = some o → dstOk N o.dst = true ∧ guardOk N l.toArray o = true := fun i o ho => by
    have := List.all_eq_true.1 hok o (by simp at ho; exact List.mem_of_getElem? ho)
    simpa using this
  have he := Ext.drew (OwnS st) w
  have hms := masks_ok (md := .any) l l [] (by simp) (fun k i h => by simp at h)
  have hL : LastW (masks .any l []) l.toArray := fun h j i hj hi hne => by
    unfold lastAll at h
    have := List.all_eq_true.1 h i (List.mem_range.2 (by omega))
    rw [show l.toArray.size - 1 = j by omega] at this
    exact this
  unfold betweenB at hbt
  rw [Bool.and_eq_true] at hbt
  have hsz : l.toArray.size = l.length := by simp
  have hb : ∀ j, j < l.length → j ≠ l1.length → (if j < l1.length then waitsT (masks .any l []) l1.length j else waitsT (masks .any l []) j l1.length || ((l[j]?).any pureA)) = true := fun j hj hne => by
    have := List.all_eq_true.1 hbt.2 j (List.mem_range.2 hj)
    rw [Bool.or_eq_true, beq_iff_eq] at this
    exact this.resolve_left hne
  have hBt : Between (masks .any l []) l.toArray l1.length := fun j oj hj hne => by
    have hjl := (Array.getElem?_eq_some_iff.1 hj).1
    have := hb j (by rw [← hsz]; exact hjl) hne
    split at this
    · exact .inr (.inl this)
    · rw [Bool.or_eq_true] at this
      rcases this with h | h
      · exact .inl h
      · refine .inr (.inr ?_)
        rw [show l[j]? = some oj by simpa using hj] at h
        exact h
  have hdc : DC .any l.toArray (Array.replicate l.toArray.size false) := fun k o _ hl => absurd hl (by rw [getD_rep]; exact Bool.false_ne_true)
  have hlen : l1.length < l.length := by rw [hl]; simp
  have hany := wpAnyP_lex (P := P) (r := r) (ro := ro) (md := .any) hms hL hbt.1 hBt (op := op) (l2 := l2) (Q := Q .normal) l1 0 (Array.replicate l.toArray.size false) A st hC hdc (by omega) (fun i _ hi => by
    have := hb i (by omega) (by omega)
    rwa [if_pos hi] at this) (fun j => by rw [← hl]; simp) (by rw [← hl]; simpa [mixBA] using hB) h
  refine wpIn_region_any hm ?_
  rw [← hl] at hany
  rw [hsz] at hany hdc ⊢
  exact wpAnyIn_of_P hms hL hok' _ _ A st a w.drew _ hC hdc (h1.ext he) (h2.drewN 1) hany fun A' st' a' w' q1 q2 q3 q5 => ⟨A', st', q1, q2, he.trans q3, q5⟩
theorem mOpA_mono {f : Bool} {o : Oper} {A : AA} {K K' : AA → St → Prop} (h : ∀ A st, K A st → K' A st) (hh : mOpA P r ro f ops o K A st) : mOpA P r ro f ops o K' A st := by
  unfold mOpA at *
  split
  · rename_i hw
    rw [if_pos hw] at hh
    split
    · rename_i hf
      rw [if_pos hf] at hh
      obtain ⟨d, h1, h2⟩ := hh
      exact ⟨d, h1, h _ _ h2⟩
    · rename_i hf
      rw [if_neg hf] at hh
      obtain ⟨h1, d, st', h2, h3⟩ := hh
      exact ⟨h1.mono fun d st' hk => ⟨hk.1, h _ _ hk.2⟩, d, st', h2, h _ _ h3⟩
  · rename_i hw
    rw [if_neg hw] at hh
    exact h _ _ hh
theorem wpMixA_mono {K K' : AA → St → Prop} (h : ∀ A st, K A st → K' A st) : ∀ (l : List Oper) (A : AA) (st : St), wpMixA P r ro ops K l A st → wpMixA P r ro ops K' l A st
  | [], A, st, hh => h A st hh
  | o :: l, A, st, hh => mOpA_mono (wpMixA_mono h l) hh
def ne1 (b : Nat) : St → Prop
  | [] => True
  | .box b' _ _ :: s => ((b' == b) = false ∧ (b == b') = false) ∧ ne1 b s
  | _ :: s => ne1 b s
def nes : St → Prop
  | [] => True
  | .box b _ _ :: s => ne1 b s ∧ nes s
  | _ :: s => nes s
theorem ne1_of {b : Nat} {x : Res} (hb : x.blk = some b) : ∀ {s : St}, (∀ y ∈ s, Apart x y) → ne1 b s
  | [], _ => trivial
  | y :: s, h => by
    have ht : ne1 b s := ne1_of hb fun z hz => h z (List.mem_cons_of_mem _ hz)
    cases y with
    | box b' ty cs =>
      have hne : b' ≠ b := fun e => h _ (List.mem_cons_self ..) b hb (by rw [← e]; rfl)
      exact ⟨⟨beq_eq_false_iff_ne.2 hne, beq_eq_false_iff_ne.2 hne.symm⟩, ht⟩
    | room => exact ht
    | raw => exact ht
    | know => exact ht
theorem nes_of : ∀ {s : St}, s.Pairwise Apart → nes s
  | [], _ => trivial
  | y :: s, h => by
    have h' := List.pairwise_cons.1 h
    have ht := nes_of h'.2
    cases y with
    | box b ty cs => exact ⟨ne1_of rfl h'.1, ht⟩
    | room => exact ht
    | raw => exact ht
    | know => exact ht
theorem tr_nes {N : Nat} {c : Code} {A : AA} {Q : Exit → AA → St → Prop} (h : nes st → Tr P N r c A st Q) : Tr P N r c A st Q := fun a w ha hh => h (nes_of hh.1) a w ha hh
theorem w_drawQ {N : Nat} {id : Nat} {l : List Oper} {A : AA} {Q : Exit → AA → St → Prop} (ro : Ro) (n : Nat) {t1 t2 : List Oper} (hm : P.follows .mixedOrders = true) (hB : mixBA .any l.toArray = true) (hok : opsOk N l = true) (hbt : betweenB l n = true) (h1 : l.take (n + 1) = t1) (h2 : l.drop (n + 1) = t2) (hC : Keep (some ro) st)
    (h : nes st → W P r (some ro) l.toArray (fun A' st' => ∃ ro2, Keep (some ro2) st' ∧ W P r (some ro2) l.toArray (Q .normal) t2 A' st') t1 A st) : Tr P N r (.region id l.toArray true) A st Q := by
  refine tr_nes fun hne => ?_
  subst h1 h2
  by_cases hn : n < l.length
  · have hl : l = l.take n ++ l[n] :: l.drop (n + 1) := by rw [List.getElem_cons_drop, List.take_append_drop]
    have hlen : (l.take n).length = n := by rw [List.length_take]; omega
    refine tr_drawP ro (l.take n) l[n] (l.drop (n + 1)) hl hm hB hok (by rw [hlen]; exact hbt) hC ?_
    rw [show l.take n ++ [l[n]] = l.take (n + 1) from (List.take_succ_eq_append_getElem hn).symm]
    exact wpMixA_mono (fun A' st' ⟨ro2, k1, k2⟩ => ⟨ro2, k1, k2⟩) _ _ _ (h hne)
  · rw [List.take_of_length_le (by omega), List.drop_of_length_le (by omega)] at h
    exact tr_draw ro hm hB hok hC (wpMixA_mono (fun A' st' ⟨ro2, k1, k2⟩ => k2) _ _ _ (h hne))
theorem w_drawN {N : Nat} {id : Nat} {l : List Oper} {A : AA} {Q : Exit → AA → St → Prop} (ro : Ro) (hm : P.follows .mixedOrders = true) (hB : mixBA .any l.toArray = true) (hok : opsOk N l = true) (hC : Keep (some ro) st)
    (h : nes st → W P r (some ro) l.toArray (Q .normal) l A st) : Tr P N r (.region id l.toArray true) A st Q := tr_nes fun hne => w_draw ro hm hB hok hC (h hne)
end
end Go.Proofs.Ytooaagmhgakhgaa
end

section
namespace Go.Proofs.Ytooaagmhgakhgaa
set_option linter.unusedSimpArgs false
open Go.RowKit
theorem w_drawRN {P : Program} {r : Option Nat} {st : St} {N : Nat} {id : Nat} {l : List Oper} {A : AA} {Q : Exit → AA → St → Prop} (hm : P.follows .mixedOrders = true) (hB : mixBA .any l.toArray = true) (hok : opsOk N l = true)
    (h : nes st → W P r (some (roOf st)) l.toArray (Q .normal) l A st) : Tr P N r (.region id l.toArray true) A st Q := tr_nes fun hne => w_draw (roOf st) hm hB hok (keeps_roOf st) (h hne)
end Go.Proofs.Ytooaagmhgakhgaa
end

section
namespace Go.Proofs.Ytooaagmhgakhgaa
set_option linter.unusedSimpArgs false
attribute [local push_cast] encB encI encC V.cells_mk V.cells_len Nat.mul_one Int.sub_zero List.map_nil beq_self_eq_true List.head?_cons
open Go.RowKit
set_option maxRecDepth 10000
set_option maxHeartbeats 4000000
def Sch.has (t k : Nat) : Bool := t / 2 ^ k % 2 == 1
theorem i64_and1 (a : Nat) (ha : a ≤ 9223372036854775807) : bits .and .i64 (a : Int) 1 = ((a % 2 : Nat) : Int) := by
  have h1 : a &&& 1 = a % 2 := Nat.and_one_is_mod a
  show IntKind.i64.wrap ((BitVec.ofInt 64 (a : Int) &&& BitVec.ofInt 64 ((1 : Nat) : Int)).toNat : Int) = _
  rw [BitVec.toNat_and, ofInt_i64 a (by omega), ofInt_i64 1 (by omega), h1]
  exact IntWalk.i64_in _ (by omega)
theorem Sch.bit_has (t k : Nat) (ht : t ≤ 9223372036854775807) : Sch.bit t k = Sch.has t k := by
  unfold Sch.bit Sch.has
  have : ((t : Int) / 2 ^ ((k : Int).toNat)) = ((t / 2 ^ k : Nat) : Int) := by
    rw [Int.toNat_natCast]; simp
  rw [this, i64_and1 _ (Nat.le_trans (Nat.div_le_self _ _) ht)]
  rw [Bool.eq_iff_iff, beq_iff_eq, beq_iff_eq]; omega
theorem V.right_kind {k n : Int} {s : ByteArray} {l : List V} (h : (V.mk k n s l).right = true) : 0 ≤ k ∧ k ≤ 5 := by
  have := (V.right_iff.1 h).1
  rw [V.parts, Bool.and_eq_true, Bool.and_eq_true] at this
  have := this.1.1
  unfold V.sgl at this
  repeat' split at this
  all_goals (first | omega | exact absurd this (by decide))
end Go.Proofs.Ytooaagmhgakhgaa
end

section
namespace Go.Proofs.Ytooaagmhgakhgaa
set_option linter.unusedSimpArgs false
open Go.RowKit
structure Rc where
  v : Int
  s : List V
def Rc.cells (r : Rc) : List D := [.i r.v, .sl .shared (r.s.map V.cells)]
namespace Sch
structure Grow (a b : List Sl) : Prop where
  len : a.length ≤ b.length
  old : ∀ (i : Nat) (s : Sl), a[i]? = some s → ∃ s', b[i]? = some s' ∧ s'.dv = s.dv ∧ ∀ v, fits s v = true → fits s' v = true
theorem Grow.refl (a : List Sl) : Grow a a := ⟨Nat.le_refl _, fun _ s h => ⟨s, h, rfl, fun _ h => h⟩⟩
theorem Grow.trans {a b c : List Sl} (h : Grow a b) (k : Grow b c) : Grow a c := by
  refine ⟨Nat.le_trans h.len k.len, fun i s hs => ?_⟩
  obtain ⟨s1, h1, h2, h3⟩ := h.old i s hs
  obtain ⟨s2, k1, k2, k3⟩ := k.old i s1 h1
  exact ⟨s2, k1, k2.trans h2, fun v hv => k3 v (h3 v hv)⟩
structure SOk (s : Sl) : Prop where
  name : V.isName s.name.data.toList = true
  types : takes s.types = true
  def_ : fits s s.dv = true
theorem sound_ok {s : Sl} (h : sound s = true) : SOk s := by
  unfold sound at h
  rw [Bool.and_eq_true, Bool.and_eq_true] at h
  exact ⟨h.1.1, h.1.2, h.2⟩
theorem takes_iff {t : Int} : takes t = true ↔ 1 ≤ t ∧ t ≤ 63 := by
  unfold takes
  rw [Bool.and_eq_true, decide_eq_true_eq, decide_eq_true_eq]
theorem or_has (a b k : Nat) : has (a ||| b) k = (has a k || has b k) := by
  unfold has
  have h := Nat.testBit_or a b k
  simp only [Nat.testBit, Nat.shiftRight_eq_div_pow, Nat.one_and_eq_mod_two] at h
  rw [Bool.eq_iff_iff] at h ⊢
  simp only [bne_iff_ne, ne_eq, Bool.or_eq_true, beq_iff_eq] at h ⊢
  omega
theorem widen_nat {a b : Int} (ha : takes a = true) (hb : takes b = true) : ∃ (m n : Nat), a = m ∧ b = n ∧ m < 64 ∧ n < 64 ∧ bits .or .i64 a b = ((m ||| n : Nat) : Int) ∧ m ||| n < 64 := by
  rw [takes_iff] at ha hb
  obtain ⟨m, rfl⟩ := Int.eq_ofNat_of_zero_le (show 0 ≤ a by omega)
  obtain ⟨n, rfl⟩ := Int.eq_ofNat_of_zero_le (show 0 ≤ b by omega)
  have h := Nat.or_lt_two_pow (x := m) (y := n) (n := 6) (by omega) (by omega)
  exact ⟨m, n, rfl, rfl, by omega, by omega, i64_or_nat m n (by omega) (by omega), by omega⟩
theorem fits_types {s s' : Sl} {v : V} (h : ∀ k n sv l, v = .mk k n sv l → bit s.types k = true → bit s'.types k = true) (hv : fits s v = true) : fits s' v = true := by
  unfold fits at hv ⊢
  rw [Bool.and_eq_true] at hv ⊢
  cases v with
  | mk k n sv l => exact ⟨hv.1, h k n sv l rfl hv.2⟩
theorem step_grow {x y : Vr} {s : Stp} (hx : ∀ z ∈ x.slots, SOk z) (h : stepV x s = some y) : Grow x.slots y.slots ∧ ∀ z ∈ y.slots, SOk z := by
  unfold stepV at h
  split at h
  · unfold addS at h
    split at h
    · rename_i hc
      cases h
      refine ⟨⟨by simp, fun i z hz => ⟨z, ?_, rfl, fun _ h => h⟩⟩, fun z hz => ?_⟩
      · have := (List.getElem?_eq_some_iff.1 hz).1
        show (x.slots ++ [s.slot])[i]? = _
        rw [List.getElem?_append_left this]; exact hz
      · rcases List.mem_append.1 hz with h | h
        · exact hx z h
        · rw [List.mem_singleton] at h
          subst h; exact sound_ok hc.2.2.2.1
    · cases h
  · split at h
    · unfold loseS at h
      split at h
      · cases h; exact ⟨Grow.refl _, hx⟩
      · cases h
    · split at h
      · unfold renameS at h
        split at h
        · rename_i hc
          cases h
          refine ⟨⟨by simp, fun i z hz => ⟨_, modify_get hz, ?_, fun v hv => ?_⟩⟩, fun z hz => ?_⟩
          · split <;> rfl
          · split
            · exact hv
            · exact hv
          · obtain ⟨j, hj⟩ := List.getElem?_of_mem hz
            cases hlj : x.slots[j]? with
            | none => rw [List.getElem?_modify, hlj] at hj; simp at hj
            | some w =>
              rw [modify_get hlj] at hj
              have hw := hx w (List.mem_of_getElem? hlj)
              cases hj
              split
              · exact ⟨hc.2.2.1, hw.types, hw.def_⟩
              · exact hw
        · cases h
      · split at h
        · unfold widenS at h
          split at h
          · rename_i hc
            cases h
            have hbit : ∀ w : Sl, SOk w → ∀ v, fits w v = true → fits { w with types := bits .or .i64 w.types s.slot.types } v = true := fun w hw v hv => by
              obtain ⟨m, n, e1, e2, l1, l2, e3, l3⟩ := widen_nat hw.types hc.2.2.1
              refine fits_types (fun k nn sv l hve hb => ?_) hv
              subst hve
              have hr : (V.mk k nn sv l).right = true := by
                unfold fits at hv
                rw [Bool.and_eq_true] at hv
                exact hv.1
              obtain ⟨k1, k2⟩ := V.right_kind hr
              obtain ⟨kn, rfl⟩ := Int.eq_ofNat_of_zero_le k1
              show bit (bits .or .i64 w.types s.slot.types) kn = true
              rw [e3, bit_has _ _ (by omega), or_has]
              rw [e1, bit_has _ _ (by omega)] at hb
              rw [hb, Bool.true_or]
            refine ⟨⟨by simp, fun i z hz => ⟨_, modify_get hz, ?_, fun v hv => ?_⟩⟩, fun z hz => ?_⟩
            · split <;> rfl
            · split
              · exact hbit z (hx z (List.mem_of_getElem? hz)) v hv
              · exact hv
            · obtain ⟨j, hj⟩ := List.getElem?_of_mem hz
              cases hlj : x.slots[j]? with
              | none => rw [List.getElem?_modify, hlj] at hj; simp at hj
              | some w =>
                rw [modify_get hlj] at hj
                have hw := hx w (List.mem_of_getElem? hlj)
                cases hj
                split
                · refine ⟨hw.name, ?_, hbit w hw _ hw.def_⟩
                  obtain ⟨m, n, e1, e2, l1, l2, e3, l3⟩ := widen_nat hw.types hc.2.2.1
                  show takes (bits .or .i64 w.types s.slot.types) = true
                  rw [e3, takes_iff]
                  have hm : 1 ≤ m := by have := (takes_iff.1 hw.types).1; omega
                  have : m ≤ m ||| n := Nat.left_le_or
                  omega
                · exact hw
          · cases h
        · split at h
          · unfold reorderS at h
            split at h
            · cases hr : reo x.cols s.order [] with
              | none => rw [hr] at h; cases h
              | some r => rw [hr] at h; cases h; exact ⟨Grow.refl _, hx⟩
            · cases h
          · cases h
end Sch
end Go.Proofs.Ytooaagmhgakhgaa
end

section
namespace Go.Proofs.Ytooaagmhgakhgaa
set_option linter.unusedSimpArgs false
open Go.RowKit
mutual
inductive Frz (g n cap : Nat) (es : List (List D)) : D → D → Prop
  | same (d : D) : Frz g n cap es d d
  | ar : Frz g n cap es (.ar g 0 n cap) (.sl .shared es)
  | agg (cs cs' : List D) (h : FrzL g n cap es cs cs') : Frz g n cap es (.agg cs) (.agg cs')
  | tup (cs cs' : List D) (h : FrzL g n cap es cs cs') : Frz g n cap es (.tup cs) (.tup cs')
inductive FrzL (g n cap : Nat) (es : List (List D)) : List D → List D → Prop
  | nil : FrzL g n cap es [] []
  | cons (d d' : D) (l l' : List D) (h : Frz g n cap es d d') (k : FrzL g n cap es l l') : FrzL g n cap es (d :: l) (d' :: l')
end
section
variable {g n cap : Nat} {es : List (List D)} {O O' : Nat → Nat → Prop} {w : World}
mutual
theorem Frz.rep (he : Ext O w O' w) (hr : ∀ v, Rep O w v (.ar g 0 n cap) → Rep O' w v (.sl .shared es)) : ∀ {d d' : D}, Frz g n cap es d d' → ∀ v, Rep O w v d → Rep O' w v d'
  | _, _, .same d, v, h => h.ext he
  | _, _, .ar, v, h => hr v h
  | _, _, .agg cs cs' k, v, h => by
    cases h with
    | agg us _ h1 h2 =>
      obtain ⟨q1, q2⟩ := FrzL.rep he hr k us ⟨h1, h2⟩
      exact .agg us cs' q1 q2
  | _, _, .tup cs cs' k, v, h => by
    cases h with
    | tup us _ h1 h2 =>
      obtain ⟨q1, q2⟩ := FrzL.rep he hr k us ⟨h1, h2⟩
      exact .tup us cs' q1 q2
theorem FrzL.rep (he : Ext O w O' w) (hr : ∀ v, Rep O w v (.ar g 0 n cap) → Rep O' w v (.sl .shared es)) : ∀ {l l' : List D}, FrzL g n cap es l l' → ∀ us, RepL O w us l → RepL O' w us l'
  | _, _, .nil, us, h => by
    obtain rfl := h.inv_nil
    exact .nil
  | _, _, .cons d d' l l' h k, us, hh => by
    obtain ⟨u, t, rfl, k1, k2⟩ := hh.inv_cons
    exact .cons (Frz.rep he hr h u k1) (FrzL.rep he hr k t k2)
end
theorem row_rest {el : TypeId} {zs : List D} {s0 : St} {sz : Nat} (hh : Holds (.box g el (es.flatten ++ zs) :: s0) w) (hsz : 0 < sz) (hes : ∀ e ∈ es, e.length = sz) (hn : es.length = n) (v : Value) (hv : Rep (OwnS (.box g el (es.flatten ++ zs) :: s0)) w v (.ar g 0 n cap)) : Rep (OwnS s0) w v (.sl .shared es) := by
  have hch : chop sz n ((es.flatten ++ zs).drop 0) = es := by
    rw [List.drop_zero, ← hn]
    exact chop_row zs es hes
  have hr := frozen .shared (.inl rfl) (sz := sz) hh hv hsz (by rw [List.length_append, flat_len hes, hn]; omega) (by intro h; cases h)
  rwa [hch] at hr
end
section
variable {P : Program} {f : FuncId} {args : List D} {st : St}
theorem TrF.rest {ι : Type} {el : TypeId} {sz : Nat} {p : ι → Prop} {es : ι → List (List D)} {g n cap : ι → Nat} {F F' : ι → D} {zs : ι → List D} {S : ι → St} (hsz : 0 < sz) (hes : ∀ i, p i → (∀ e ∈ es i, e.length = sz) ∧ (es i).length = n i) (hF : ∀ i, Frz (g i) (n i) (cap i) (es i) (F i) (F' i))
    (h : TrF P f args st fun d st' => ∃ i, p i ∧ d = F i ∧ st' = .box (g i) el ((es i).flatten ++ zs i) :: S i) : TrF P f args st fun d st' => ∃ i, p i ∧ d = F' i ∧ st' = S i := by
  intro vs w h1 h2
  refine (h vs w h1 h2).mono fun _ w' ⟨v, ev, d, s, k1, k2, k3, i, hi, e1, e2⟩ => ?_
  subst e1 e2
  have he := Ext.drop (st := .box (g i) el ((es i).flatten ++ zs i) :: S i) (st' := S i) (fun _ h => List.mem_cons_of_mem _ h) w'
  exact ⟨v, ev, _, S i, (hF i).rep he (row_rest k2 hsz (hes i hi).1 (hes i hi).2) v k1, k2.sub (List.sublist_cons_self _ _), k3.trans he, i, hi, rfl, rfl⟩
end
section
variable {P : Program} {N : Nat} {r : Option Nat} {A : AA} {st : St} {Q : Exit → AA → St → Prop}
end
end Go.Proofs.Ytooaagmhgakhgaa
end

section
namespace Go.Proofs.Ytooaagmhgakhgaa
set_option linter.unusedSimpArgs false
open Go.RowKit
section
variable {P : Program} {f : FuncId} {args : List D} {st : St} {R : D → St → Prop} {w : World} {A : AA}
def oneA (P : Program) (r : ResultVar) (A : AA) (st : St) (d : D) : Prop :=
  match r with
  | .tmp t => A.e t = d
  | .cell t T => cellA t T P A st d
def twoA (P : Program) (r1 r2 : ResultVar) (A : AA) (st : St) (d : D) : Prop := ∃ d1 d2, d = .tup [d1, d2] ∧ oneA P r1 A st d1 ∧ oneA P r2 A st d2
def readOne (tmps : Array Value) : ResultVar → Sem Value
  | .tmp t => pure (tmps.getD t undef)
  | .cell a t => do loadVar t (← asAddr (tmps.getD a undef))
theorem res_one {r : ResultVar} {a : Act} {N : Nat} {d : D} (h1 : RelA N (OwnS st) w a A) (h2 : Holds st w) (h3 : oneA P r A st d) : ∃ v, (readOne a.tmps r).run P w = .ok v w ∧ Rep (OwnS st) w v d := by
  cases r with
  | tmp t =>
    have : A.e t = d := h3
    exact ⟨_, rfl, this ▸ h1.2.2 t⟩
  | cell t T =>
    obtain ⟨b, off, ty, cs, ti, k1, k2, k3, k4⟩ := h3
    have hp := h1.2.2 t
    rw [k1] at hp
    have hv : a.tmps.getD t undef = .pointer (some ⟨b, off, none⟩) := by
      generalize a.tmps.getD t undef = v at hp
      cases hp; rfl
    obtain ⟨v, q1, q2⟩ := run_loadBox h2 k2 k3 k4
    refine ⟨v, ?_, q2⟩
    have q3 : (loadVar T ⟨b, off, none⟩).run P w = .ok v w := by
      simpa [Instr.loadAt, Instr.sureAddr] using q1
    show ((do loadVar T (← asAddr (a.tmps.getD t undef))) : Sem Value).run P w = _
    rw [hv]
    simp [asAddr, q3]
theorem res_two {fn : Func} {r1 r2 : ResultVar} (hr : fn.results = #[r1, r2]) {a : Act} {N : Nat} {d : D} (h1 : RelA N (OwnS st) w a A) (h2 : Holds st w) (h3 : twoA P r1 r2 A st d) : ∃ v, (results fn a.tmps).run P w = .ok v w ∧ Rep (OwnS st) w v d := by
  obtain ⟨d1, d2, rfl, k1, k2⟩ := h3
  obtain ⟨v1, q1, p1⟩ := res_one h1 h2 k1
  obtain ⟨v2, q2, p2⟩ := res_one h1 h2 k2
  refine ⟨.tuple #[v1, v2], ?_, ?_⟩
  · have hm : results fn a.tmps = (do
        let vs ← fn.results.mapM (readOne a.tmps)
        pure (if h : vs.size = 1 then vs[0] else .tuple vs)) := by
      unfold results
      congr 2
    rw [hm, hr]
    simp only [Array.mapM_eq_mapM_toList, List.mapM_cons, List.mapM_nil, Sem.run_bind, q1, q2, Result.andThen_ok, Sem.run_pure, map_eq_pure_bind]
    rfl
  · exact .tup [v1, v2] [d1, d2] rfl (RepL.cons p1 (RepL.cons p2 .nil)).2
def retG (G : AA → St → D → Prop) (R : D → St → Prop) : Exit → AA → St → Prop
  | .normal, A, st | .ret, A, st => ∃ (rs : List Nat) (d0 d : D) (s2 st' : St), A.df = rs.map mark ∧ st.Perm (rs.map markR ++ s2) ∧ G A s2 d0 ∧ st'.Sublist s2 ∧ LE d0 d ∧ R d st'
  | _, _, _ => False
theorem leaves_marksG {fn : Func} {tmps : Array Value} {Rw : Ending → World → Prop} : ∀ (rs : List Nat) (w : World), rs.Nodup → (∀ r ∈ rs, w.heap[r]? = some (.deferred (some []))) →
    (∀ w', w'.os = w.os → w'.tape = w.tape → w'.output = w.output → w'.heap.size = w.heap.size → (∀ b, b ∉ rs → w'.heap[b]? = w.heap[b]?) → ∃ v, (results fn tmps).run P w' = .ok v w' ∧ Rw (.returned v) w') → LeavesInM Fence.wide 0 P fn tmps Rw (rs.map mark) .returning w
  | [], w, _, _, hw => by
    obtain ⟨v, h1, h2⟩ := hw w rfl rfl rfl rfl fun _ _ => rfl
    show LeavesIn Fence.wide 0 P fn tmps Rw [] .returning w
    exact ⟨v, h1, h2⟩
  | r :: rs, w, hn, hb, hw => by
    have hr := hb r (List.mem_cons_self ..)
    have hlt := (Array.getElem?_eq_some_iff.1 hr).1
    refine ⟨(by intro h; cases h), .inl ⟨r, _, rfl, run_takeDeferred hr, leaves_marksG rs _ (List.nodup_cons.1 hn).2 (fun x hx => ?_) fun w' h1 h2 h3 h4 h5 => ?_⟩⟩
    · rw [World.putObj_heap_other (by intro e; subst e; exact (List.nodup_cons.1 hn).1 hx)]
      exact hb x (List.mem_cons_of_mem _ hx)
    · refine hw w' h1 h2 h3 (by rw [h4]; simp) fun b hb => ?_
      rw [h5 b fun h => hb (List.mem_cons_of_mem _ h)]
      exact World.putObj_heap_other fun e => hb (e ▸ List.mem_cons_self ..)
theorem trF_enterG {fn : Func} {c : Code} {G : AA → St → D → Prop} (hf : P.funcs[f]? = some fn) (hb : fn.body = some c) (hn : args.length ≤ fn.ntmps) (hres : ∀ {a A w st d}, RelA fn.ntmps (OwnS st) w a A → Holds st w → G A st d → ∃ v, (results fn a.tmps).run P w = .ok v w ∧ Rep (OwnS st) w v d)
    (h : Tr P fn.ntmps none c ⟨initE args, []⟩ st (retG G R)) : TrF P f args st R := by
  intro vs w hv hw
  refine (callsIn_wide (n := 0)).1 (callsIn_of_wp_marks hf hb trivial ?_ rfl)
  have hvl : vs.size = args.length := by rw [← Array.length_toList]; exact hv.1
  have hrel : RelA fn.ntmps (OwnS st) w { tmps := vs ++ Array.replicate (fn.ntmps - vs.size) undef, defers := [] } ⟨initE args, []⟩ := by
    refine ⟨by simp [hvl]; omega, rfl, fun t => ?_⟩
    show Rep _ _ _ (args.getD t D.un)
    simp only [Array.getD_eq_getD_getElem?, List.getD_eq_getElem?_getD]
    rcases Nat.lt_or_ge t args.length with ht | ht
    · have h1 : t < vs.toList.length := by simp; omega
      have := hv.2 t h1 ht
      rw [Array.getElem?_append_left (by omega), List.getElem?_eq_getElem ht, Array.getElem?_eq_getElem (by omega)]
      simpa using this
    · rw [Array.getElem?_append_right (by omega), List.getElem?_eq_none ht]
      simp only [Option.getD_none]
      by_cases h2 : t - vs.size < fn.ntmps - vs.size
      · rw [Array.getElem?_replicate, if_pos h2]
        exact .s undef rfl
      · rw [Array.getElem?_replicate, if_neg h2]
        exact .s undef rfl
  refine wpIn_mono (h _ w hrel hw) fun ex a' w' ⟨A', st', k1, k2, k3, k4⟩ => ?_
  have main : (∃ (rs : List Nat) (d0 d : D) (s2 st'' : St), A'.df = rs.map mark ∧ st'.Perm (rs.map markR ++ s2) ∧ G A' s2 d0 ∧ st''.Sublist s2 ∧ LE d0 d ∧ R d st'') → LeavesInM (FR none) 0 P fn a'.tmps (fun e w' => ∃ v, e = .returned v ∧ PostV st w R v w') a'.defers .returning w' := by
    rintro ⟨rs, d0, d, s2, st'', q1, q2, qg, qs, q3, q4⟩
    rw [k1.2.1, q1]
    have hh := k2.perm q2
    have hnd : rs.Nodup := by
      have := List.Pairwise.sublist (List.sublist_append_left _ _) hh.1
      rw [List.pairwise_map] at this
      exact this.imp fun {a b} hab e => hab a rfl (by rw [e]; rfl)
    have hblk : ∀ r ∈ rs, w'.heap[r]? = some (.deferred (some [])) := fun r hr => hh.2 (markR r) (List.mem_append_left _ (List.mem_map_of_mem hr))
    refine leaves_marksG rs w' hnd hblk fun w'' e1 e2 e3 e4 e5 => ?_
    have hown : ∀ b off, OwnS s2 b off → OwnS st' b off := fun b off ⟨x, hx, ho⟩ => ⟨x, q2.mem_iff.2 (List.mem_append_right _ hx), ho⟩
    have hmk : ∀ r ∈ rs, ∀ off, OwnS st' r off := fun r hr off => ⟨markR r, q2.mem_iff.2 (List.mem_append_left _ (List.mem_map_of_mem hr)), rfl, Nat.zero_le _⟩
    have he : Ext (OwnS st') w' (OwnS s2) w'' := by
      refine ⟨e1, e2, e3, by omega, fun b off _ ho => hown b off ho, fun b hb hno => e5 b fun hr => hno 0 (hmk b hr 0), fun b c E fr hc => ⟨c, fr, ?_, rfl, fun _ _ => rfl⟩⟩
      rw [e5 b fun hr => by rw [hblk b hr] at hc; cases hc]
      exact hc
    have hh2 : Holds s2 w'' := by
      refine ⟨(List.pairwise_append.1 hh.1).2.1, fun x hx => (k2.2 x (q2.mem_iff.2 (List.mem_append_right _ hx))).ext he fun b hb => e5 b fun hr => ?_⟩
      exact (List.pairwise_append.1 hh.1).2.2 (markR b) (List.mem_map_of_mem hr) x hx b rfl hb
    obtain ⟨v, r1, r2⟩ := hres (a := a') (A := A') ⟨k1.1, k1.2.1, fun t => (k1.2.2 t).ext he⟩ hh2 qg
    have hd := Ext.drop (st := s2) (st' := st'') (fun _ h => qs.subset h) w''
    exact ⟨v, r1, v, rfl, d, st'', q3 _ _ _ (r2.ext hd), hh2.sub qs, (k3.trans he).trans hd, q4⟩
  cases ex with
  | normal => exact main k4
  | ret => exact main k4
  | exit id => exact k4.elim
  | goto l => exact k4.elim
  | panic c => exact k4.elim
  | outgrown => exact k4.elim
theorem cell_mk {t : Tmp} {T : TypeId} {ti : TI} {b off : Nat} {ty : TypeId} {cs : List D} {d : D} (hp : A.e t = .ptr b off) (hm : Res.box b ty cs ∈ st) (ht : tinfo P T = some ti) (hd : readD ti (cs.drop off) = some d) : cellA t T P A st d := ⟨b, off, ty, cs, ti, hp, hm, ht, hd⟩
theorem retG_mk {G : AA → St → D → Prop} {ex : Exit} {A : AA} {d X : D} {st st0 s2 : St} {rs : List Nat} (hex : ex = .normal ∨ ex = .ret) (hdf : A.df = rs.map mark) (hp : st.Perm (rs.map markR ++ s2)) (hG : G A s2 d) (hs : st0.Sublist s2) (hl : LE d X) (hR : R X st0) : retG G R ex A st := by
  rcases hex with rfl | rfl <;> exact ⟨rs, d, X, s2, st0, hdf, hp, hG, hs, hl, hR⟩
end
end Go.Proofs.Ytooaagmhgakhgaa
end

section
namespace Go.Proofs.Ytooaagmhgakhgaa
set_option linter.unusedSimpArgs false
attribute [local push_cast] encB encI encC V.cells_mk V.cells_len Nat.mul_one Int.sub_zero List.map_nil beq_self_eq_true List.head?_cons
open Go.RowKit
set_option maxRecDepth 10000
set_option maxHeartbeats 4000000
structure VQ (v : V) : Prop where
  ok : v.Ok
  nodes : v.nodes ≤ 1000
  deep : v.deep ≤ 1000
def CopyR (x : Vr) (st : St) (d : D) (st' : St) : Prop := ∃ gs cS zS gc cC zC, VL cS zS cC zC x ∧ d = .agg [.ar gs 0 x.slots.length cS, .ar gc 0 x.cols.length cC] ∧ st' = .box gc 3 (colC x.cols ++ zC) :: .box gs 26 (slotC x.slots ++ zS) :: st
def Sch.restV (s : Stp) : Bool :=
  if s.kind = 1 then decide (s.order.length = 0) && (s.col == 0)
  else if s.kind = 2 then bare s.slot false false && decide (s.order.length = 0)
  else if s.kind = 3 then bare s.slot true false && decide (s.order.length = 0)
  else if s.kind = 4 then bare s.slot false true && decide (s.order.length = 0)
  else bare s.slot false false && (s.col == 0)
end Go.Proofs.Ytooaagmhgakhgaa
end

section
namespace Go.Proofs.Ytooaagmhgakhgaa
set_option linter.unusedSimpArgs false
attribute [local push_cast] encB encI encC V.cells_mk V.cells_len Nat.mul_one Int.sub_zero List.map_nil beq_self_eq_true List.head?_cons
open Go.RowKit
set_option maxRecDepth 10000
set_option maxHeartbeats 4000000
abbrev RI := Nat × Nat × List D
def RefStepR (x : Vr) (s : Stp) (st : St) (d : D) (st' : St) : Prop :=
  (Sch.stepV x s = none ∧ ∃ X1 X2, d = .tup [.agg [.sl .shared X1, .sl .shared X2], .b false] ∧ st' = st) ∨ ∃ y, Sch.stepV x s = some y ∧ d = .tup [.agg y.cells, .b true] ∧ st' = st
structure RefP (x : Vr) (s : Stp) : Prop where
  vi : Sch.VI 1000 x
  q : VQ s.slot.dv
  ty : -9223372036854775808 ≤ s.slot.types ∧ s.slot.types ≤ 9223372036854775807
  ord : s.order.length ≤ 1000
abbrev retR (o1 o2 : Own) (L1 L2 : List (List D)) (ok : Bool) : LE (.tup [.agg [.sl o1 L1, .sl o2 L2], .b ok]) (.tup [.agg [.sl .shared L1, .sl .shared L2], .b ok]) := LE.tup (l := [.agg [.sl o1 L1, .sl o2 L2], .b ok]) ⟨LE.agg (l := [.sl o1 L1, .sl o2 L2]) ⟨LE.sl _ _, LE.sl _ _, trivial⟩, LE.refl _, trivial⟩
def Raw2 (x : Vr) (s : Stp) (st : St) (d : D) (st' : St) : Prop := ∃ i : (Bool × Vr) × (Nat × Nat × List D) × (Nat × Nat × List D), (Sch.stepV x s = if i.1.1 then some i.1.2 else none) ∧ d = .tup [.agg [.ar i.2.1.1 0 i.1.2.slots.length i.2.1.2.1, .ar i.2.2.1 0 i.1.2.cols.length i.2.2.2.1], .b i.1.1] ∧ st' = .box i.2.1.1 26 ((i.1.2.slots.map Sl.cells).flatten ++ i.2.1.2.2) :: .box i.2.2.1 3 ((i.1.2.cols.map encC).flatten ++ i.2.2.2.2) :: st
end Go.Proofs.Ytooaagmhgakhgaa
end

section
namespace Go.Proofs.Ytooaagmhgakhgaa
set_option linter.unusedSimpArgs false
attribute [local push_cast] encB encI encC V.cells_mk V.cells_len Nat.mul_one Int.sub_zero List.map_nil beq_self_eq_true List.head?_cons
open Go.RowKit
set_option maxRecDepth 10000
set_option maxHeartbeats 4000000
end Go.Proofs.Ytooaagmhgakhgaa
end

section
namespace Go.Proofs.Ytooaagmhgakhgaa
set_option linter.unusedSimpArgs false
attribute [local push_cast] encB encI encC V.cells_mk V.cells_len Nat.mul_one Int.sub_zero List.map_nil beq_self_eq_true List.head?_cons
open Go.RowKit
set_option maxRecDepth 10000
set_option maxHeartbeats 4000000
theorem row_drop {sz o : Nat} {e : List D} (zs : List D) : ∀ (es : List (List D)) (c : Nat), (∀ x ∈ es, x.length = sz) → es[c]? = some e → o ≤ sz → ∃ tl, (es.flatten ++ zs).drop (c * sz + o) = e.drop o ++ tl
  | [], c, _, h, _ => by simp at h
  | x :: es, 0, hs, h, ho => by
    simp only [List.getElem?_cons_zero, Option.some.injEq] at h
    subst h
    have hx := hs x (List.mem_cons_self ..)
    refine ⟨es.flatten ++ zs, ?_⟩
    rw [List.flatten_cons, List.append_assoc, Nat.zero_mul, Nat.zero_add, List.drop_append_of_le_length (by omega)]
  | x :: es, c + 1, hs, h, ho => by
    rw [List.getElem?_cons_succ] at h
    obtain ⟨tl, ht⟩ := row_drop zs es c (fun y hy => hs y (List.mem_cons_of_mem _ hy)) h ho
    have hx := hs x (List.mem_cons_self ..)
    refine ⟨tl, ?_⟩
    rw [List.flatten_cons, List.append_assoc, show (c + 1) * sz + o = sz + (c * sz + o) by rw [Nat.succ_mul]; omega, ← List.drop_drop, List.drop_left' hx, ht]
theorem splice_app {e R ds : List D} {sz o : Nat} (he : e.length = sz) : splice (e ++ R) (sz + o) ds = e ++ splice R o ds := by
  unfold splice
  rw [List.take_append, List.take_of_length_le (l := e) (by omega), show sz + o - e.length = o by omega, show sz + o + ds.length = sz + (o + ds.length) by omega, ← List.drop_drop, List.drop_left' he]
  simp only [List.append_assoc]
theorem row_splice {sz o : Nat} {e ds : List D} (zs : List D) : ∀ (es : List (List D)) (c : Nat), (∀ x ∈ es, x.length = sz) → es[c]? = some e → o + ds.length ≤ sz → splice (es.flatten ++ zs) (c * sz + o) ds = (es.set c (splice e o ds)).flatten ++ zs
  | [], c, _, h, _ => by simp at h
  | x :: es, 0, hs, h, ho => by
    simp only [List.getElem?_cons_zero, Option.some.injEq] at h
    subst h
    have hx := hs x (List.mem_cons_self ..)
    rw [List.set_cons_zero, List.flatten_cons, List.flatten_cons, Nat.zero_mul, Nat.zero_add]
    unfold splice
    rw [show x ++ es.flatten ++ zs = x ++ (es.flatten ++ zs) from List.append_assoc .., List.take_append_of_le_length (by omega), List.drop_append_of_le_length (by omega)]
    simp only [List.append_assoc]
  | x :: es, c + 1, hs, h, ho => by
    rw [List.getElem?_cons_succ] at h
    have := row_splice zs es c (fun y hy => hs y (List.mem_cons_of_mem _ hy)) h ho
    have hx := hs x (List.mem_cons_self ..)
    rw [List.set_cons_succ, List.flatten_cons, List.flatten_cons, List.append_assoc, List.append_assoc, show (c + 1) * sz + o = sz + (c * sz + o) by rw [Nat.succ_mul]; omega, splice_app hx, this]
theorem w_draw_ne3 {P : Program} {N : Nat} {r : Option Nat} {A : AA} {b b' b'' : Nat} {ty ty' ty'' : TypeId} {cs cs' cs'' : List D} {s : St} {Q : Exit → AA → St → Prop} {l : List Oper} {id : Nat} (hm : P.follows .mixedOrders = true) (hB : mixBA .any l.toArray = true) (hok : opsOk N l = true)
    (h : (b' == b) = false → (b'' == b) = false → (b'' == b') = false → W P r (some (roOf (.box b ty cs :: .box b' ty' cs' :: .box b'' ty'' cs'' :: s))) l.toArray (Q .normal) l A (.box b ty cs :: .box b' ty' cs' :: .box b'' ty'' cs'' :: s)) : Tr P N r (.region id l.toArray true) A (.box b ty cs :: .box b' ty' cs' :: .box b'' ty'' cs'' :: s) Q := by
  intro a w ha hh
  have h1 := List.pairwise_cons.1 hh.1
  have h2 := List.pairwise_cons.1 h1.2
  have n1 : b' ≠ b := fun e => h1.1 (.box b' ty' cs') (List.Mem.head _) b rfl (by rw [← e]; rfl)
  have n2 : b'' ≠ b := fun e => h1.1 (.box b'' ty'' cs'') (List.Mem.tail _ (List.Mem.head _)) b rfl (by rw [← e]; rfl)
  have n3 : b'' ≠ b' := fun e => h2.1 (.box b'' ty'' cs'') (List.Mem.head _) b' rfl (by rw [← e]; rfl)
  exact w_draw _ hm hB hok (keeps_roOf _) (h (beq_eq_false_iff_ne.2 n1) (beq_eq_false_iff_ne.2 n2) (beq_eq_false_iff_ne.2 n3)) a w ha hh
theorem lendP {st : St} {bx gs gc m1 m2 cS cC : Nat} {T T1 T2 : TypeId} {R1 R2 zS zC : List D} {L1 L2 : List (List D)} (h1 : Res.box bx T [.ar gs 0 m1 cS, .ar gc 0 m2 cC] ∈ st) (h2 : Res.box gs T1 (R1 ++ zS) ∈ st) (h3 : Res.box gc T2 (R2 ++ zC) ∈ st)
    (f1 : L1.flatten = R1) (e1 : ∀ e ∈ L1, e.length = 7) (l1 : L1.length = m1) (f2 : L2.flatten = R2) (e2 : ∀ e ∈ L2, e.length = 1) (l2 : L2.length = m2) : Lend st (.ptr bx 0) (.ip [.sl .shared L1, .sl .shared L2]) :=
  Lend.ptr h1 ⟨Lend.rowE h2 f1 (by decide) e1 l1, Lend.rowE h3 f2 (by decide) e2 l2, trivial⟩ (by
    intro d hd
    simp only [List.mem_cons, List.not_mem_nil, or_false] at hd
    rcases hd with rfl | rfl <;> rfl)
theorem schLoseF (bx gs cS gc cC : Nat) (zS zC : List D) (x : Vr) (stp : Stp) (hx : VW x) (hs : stp.Ok) (hz : VL cS zS cC zC x) (s : St) : TrF Try.prog 91 [.ptr bx 0, .agg stp.cells] (VB bx gs cS zS gc cC zC x s) (StepR Sch.loseS x stp bx s) := by
  obtain ⟨ls, lc, hcs⟩ := hx
  obtain ⟨hn, hbg, ho⟩ := hs
  obtain ⟨hz1, hz2⟩ := hz
  have hK := schColumnF x stp [] (by omega) (by omega)
  have hB := schBareF stp.slot false false hbg
  have hF : Hid (Sch.loseS x stp = if Sch.column x stp = true ∧ Sch.bare stp.slot false false = true ∧ x.cols.length ≠ 1 then some ⟨x.slots, x.cols.eraseIdx stp.col.toNat⟩ else none) := rfl
  have e1 := Lib.hid (slots_each x.slots)
  have e2 := Lib.hid (cols_each x.cols)
  have f1 := Lib.hid (slotC_flat x)
  have f2 := Lib.hid (colC_flat x)
  have l1 : Hid ((x.slots.map Sl.cells).length = x.slots.length) := List.length_map ..
  have l2 : Hid ((x.cols.map encC).length = x.cols.length) := List.length_map ..
  unfold StepR VL VB Stp.cells
  generalize Sch.loseS x stp = F at *
  cases hcl : Sch.column x stp with
  | false =>
    rw [hcl] at hK hF
    unfold Vr.cells Stp.cells at hK
    clear hcl
    cases stp with
    | mk kd col slot order =>
    cases slot with
    | mk nm ty rq dv =>
    cases dv with
    | mk k n sv l =>
    dsimp only at ho ⊢
    generalize slotC x.slots = R1 at *
    generalize colC x.cols = R2 at *
    generalize x.slots.map Sl.cells = L1 at *
    generalize x.cols.map encC = L2 at *
    rw [Sl.cells_mk] at *
    dsimp only [List.cons_append, List.nil_append] at hK ⊢
    generalize x.slots.length = m1 at *
    generalize x.cols.length = m2 at *
    replace hK := Lib.hid hK
    refine trF_enter (ts := [4]) Try.func91 rfl (by rw [Try.ntmps91]; exact Nat.le_of_ble_eq_true rfl) (fun tmps w => by simp [results, Try.results91, go_sem, resVal]) ?_
    simp only [Try.ntmps91]
    repeat' (first | with_reducible refine Go1.go ?_ | ((with_reducible apply ev_go); (focus ((try simp (disch := omega) only [push_cast, simprocAttr, *]); (try exact rfl); done))) | ((with_reducible refine w_last ?_ ?_ ?_); kernel_rfl; rfl) | with_reducible refine Go2.go ?_ | ((with_reducible first | apply w_stepG | refine s_bi ?_ ?_ | refine blk_ne ?_ ?_); rfl) | ((with_reducible refine al_go ?_); intro b) | ((with_reducible apply (ck_lend Try.call103)); (focus exact hK.out); (focus exact ⟨lendP (by repeat (first | exact mm_h | apply mm_t)) (by repeat (first | exact mm_h | apply mm_t)) (by repeat (first | exact mm_h | apply mm_t)) f1.out e1.out l1.out f2.out e2.out l2.out, Lend.refl _, trivial⟩)) | ((with_reducible first | refine w_region ?_ ?_ | refine w_dra ?_ ?_); kernel_rfl) | ((with_reducible refine Go3.go ?_ ?_); all_goals (intro hb; (try with_reducible intro hb1); (try (exfalso; first | contradiction | omega)))) | fail)
    all_goals ((refine retA_mk (by first | exact .inl rfl | exact .inr rfl) (by first | rfl | assumption) (by (repeat (first | exact List.Sublist.refl _ | apply List.Sublist.cons))) (LE.of_eq ?_) (.inl ⟨?_, rfl, rfl⟩)); (focus simp (disch := omega) only [push_cast, simprocAttr, *]); (focus (rw [hF.out]; refine if_neg ?_; rintro ⟨h1, h2, h3⟩; (first | omega | exact Bool.noConfusion (h1.symm.trans (by assumption) : true = false) | exact Bool.noConfusion (h2.symm.trans (by assumption) : true = false) | exact Bool.noConfusion (h3.symm.trans (by assumption) : true = false) | (exact Bool.noConfusion (h1 : false = true))))))
  | true =>
    obtain ⟨hk1, hk2, hk3⟩ : 0 ≤ stp.col ∧ stp.col < x.cols.length ∧ stp.order.length = 0 := by
      unfold Sch.column at hcl
      simpa [and_assoc] using hcl
    obtain ⟨i, hi⟩ := Int.eq_ofNat_of_zero_le hk1
    have hlt : i < x.cols.length := by omega
    rw [hcl] at hK hF
    unfold Vr.cells Stp.cells at hK
    clear hcl hk1 hk2
    have hD := fun s => deleteF gc cC i x.cols zC hlt hz2 s
    have hcl2 := colC_len (x.cols.eraseIdx i)
    have hcl := colC_len x.cols
    have hel : (x.cols.eraseIdx i).length + 1 = x.cols.length := by rw [List.length_eraseIdx_of_lt hlt]; omega
    obtain ⟨x', hx'⟩ : ∃ x' : Vr, x' = ⟨x.slots, x.cols.eraseIdx stp.col.toNat⟩ := ⟨_, rfl⟩
    rw [← hx'] at hF
    rw [hi, Int.toNat_natCast] at hx'
    have s1 : Hid (x'.slots = x.slots) := Lib.hid (by rw [hx'])
    have s2 : Hid (x'.cols = x.cols.eraseIdx i) := Lib.hid (by rw [hx'])
    clear hx'
    generalize hE : x.cols.eraseIdx i = ec at *
    generalize Sch.bare stp.slot false false = q at *
    generalize hRE : colC ec = RE at *
    generalize hme : ec.length = me at *
    replace hE := Lib.hid hE
    replace hRE := Lib.hid hRE
    replace hme := Lib.hid hme
    replace hel := Lib.hid hel
    replace hcl2 := Lib.hid hcl2
    replace hcl := Lib.hid hcl
    cases stp with
    | mk kd col slot order =>
    cases slot with
    | mk nm ty rq dv =>
    cases dv with
    | mk k n sv l =>
    dsimp only at hB ho hi hF ⊢
    subst hi
    generalize hR1 : slotC x.slots = R1 at *
    generalize hR2 : colC x.cols = R2 at *
    generalize x.slots.map Sl.cells = L1 at *
    generalize x.cols.map encC = L2 at *
    rw [Sl.cells_mk] at *
    dsimp only [List.cons_append, List.nil_append] at hK ⊢
    generalize hm1 : x.slots.length = m1 at *
    generalize hm2 : x.cols.length = m2 at *
    replace hR1 := Lib.hid hR1
    replace hR2 := Lib.hid hR2
    replace hm1 := Lib.hid hm1
    replace hm2 := Lib.hid hm2
    replace hK := Lib.hid hK
    replace hB := Lib.hid hB
    replace hD := Lib.hid hD
    refine trF_enter (ts := [4]) Try.func91 rfl (by rw [Try.ntmps91]; exact Nat.le_of_ble_eq_true rfl) (fun tmps w => by simp [results, Try.results91, go_sem, resVal]) ?_
    simp only [Try.ntmps91]
    repeat' (first | with_reducible refine Go1.go ?_ | ((with_reducible apply ev_go); (focus ((try simp (disch := omega) only [push_cast, simprocAttr, *]); (try exact rfl); done))) | ((with_reducible refine w_draw [(bx, [.ar gs 0 m1 cS, .ar gc 0 m2 cC])] ?_ ?_ ?_ ?_ ?_); (iterate 3 (focus kernel_rfl)); (focus ((repeat (first | exact keep_nil | refine keep_more (by repeat (first | exact mm_h | apply mm_t)) ?_)); done))) | ((with_reducible refine And.intro ?_ ?_); (focus ((repeat (first | exact keep_nil | refine keep_more (by (repeat (first | exact mm_h | apply mm_t)); done) ?_)); done))) | ((with_reducible refine w_last ?_ ?_ ?_); kernel_rfl; rfl) | with_reducible refine Go2.go ?_ | ((with_reducible first | apply w_stepG | refine s_bi ?_ ?_ | refine blk_ne ?_ ?_); rfl) | ((with_reducible refine al_go ?_); intro b) | ((with_reducible apply (ck_lend Try.call103)); (focus exact hK.out); (focus exact ⟨lendP (by repeat (first | exact mm_h | apply mm_t)) (by repeat (first | exact mm_h | apply mm_t)) (by repeat (first | exact mm_h | apply mm_t)) f1.out e1.out l1.out f2.out e2.out l2.out, Lend.refl _, trivial⟩)) | ((with_reducible apply (ck_le Try.call104)); exact LEL.refl _; exact hB.out _) | ((with_reducible apply (ck_at Try.call105)); exact LEL.refl _; exact hD.out; (focus ((repeat (first | exact ra_h | apply ra_t)); done))) | ((with_reducible first | refine w_region ?_ ?_ | refine w_dra ?_ ?_); kernel_rfl) | ((with_reducible refine Go3.go ?_ ?_); all_goals (intro hb; (try with_reducible intro hb1); (try (exfalso; first | contradiction | omega)))) | fail)
    all_goals first
      | ((refine retA_mk (by first | exact .inl rfl | exact .inr rfl) (by first | rfl | assumption) (by (repeat (first | exact List.Sublist.refl _ | apply List.Sublist.cons))) (LE.of_eq ?_) (.inl ⟨?_, rfl, rfl⟩)); (focus simp (disch := omega) only [push_cast, simprocAttr, *]); (focus (rw [hF.out]; refine if_neg ?_; rintro ⟨h1, h2, h3⟩; (first | omega | exact Bool.noConfusion (h1.symm.trans (by assumption) : true = false) | exact Bool.noConfusion (h2.symm.trans (by assumption) : true = false) | exact Bool.noConfusion (h3.symm.trans (by assumption) : true = false) | (exact Bool.noConfusion (h1 : false = true))))))
      | ((refine retA_mk (by first | exact .inl rfl | exact .inr rfl) (by first | rfl | assumption) (List.Sublist.refl _) (LE.of_eq ?_) (.inr ⟨x', gs, cS, zS, gc, cC, D.i 0 :: zC, ?_, ⟨?_, ?_⟩, rfl, ?_⟩)); (focus simp (disch := omega) only [push_cast, simprocAttr, *]); (focus (rw [hF.out]; refine if_pos ⟨rfl, ?_, ?_⟩ <;> first | assumption | omega)); (focus (rw [s1.out, hR1.out]; exact hz1)); (focus (rw [s2.out, hRE.out]; have h1 := hel.out; have h2 := hcl2.out; have h3 := hcl.out; rw [List.length_append] at hz2 ⊢; rw [List.length_cons]; omega)); (focus (rw [s1.out, s2.out, hR1.out, hRE.out, hm1.out, hme.out])))
end Go.Proofs.Ytooaagmhgakhgaa
end

section
namespace Go.Proofs.Ytooaagmhgakhgaa
set_option linter.unusedSimpArgs false
attribute [local push_cast] encB encI encC V.cells_mk V.cells_len Nat.mul_one Int.sub_zero List.map_nil beq_self_eq_true List.head?_cons
open Go.RowKit
set_option maxRecDepth 10000
set_option maxHeartbeats 4000000
theorem modify_set {α : Type} {l : List α} {f : α → α} {i : Nat} {y : α} (h : l[i]? = some y) : l.modify i f = l.set i (f y) := by
  apply List.ext_getElem?
  intro j
  rw [List.getElem?_modify, List.getElem?_set]
  by_cases hj : i = j
  · subst hj
    obtain ⟨hlt, rfl⟩ := List.getElem?_eq_some_iff.1 h
    simp [hlt]
  · simp [hj]
theorem schRenameF (bx gs cS gc cC : Nat) (zS zC : List D) (x : Vr) (stp : Stp) (hx : VW x) (hs : stp.Ok) (hz : VL cS zS cC zC x) (s : St) : TrF Try.prog 92 [.ptr bx 0, .agg stp.cells] (VB bx gs cS zS gc cC zC x s) (StepR Sch.renameS x stp bx s) := by
  obtain ⟨ls, lc, hcs⟩ := hx
  obtain ⟨hn, hbg, ho⟩ := hs
  obtain ⟨hz1, hz2⟩ := hz
  have hK := schColumnF x stp [] (by omega) (by omega)
  have hB := schBareF stp.slot true false hbg
  have hN := valIsNameF stp.slot.name
  have hC := schColF x.slots x.cols stp.slot.name (by omega) (by omega) []
  have hF : Hid (Sch.renameS x stp = if Sch.column x stp = true ∧ Sch.bare stp.slot true false = true ∧ V.isName stp.slot.name.data.toList = true ∧ Sch.colL x.slots stp.slot.name x.cols < 0 then some ⟨x.slots.modify (Sch.at_ x stp) fun y => { y with name := stp.slot.name }, x.cols⟩ else none) := rfl
  have e1 := Lib.hid (slots_each x.slots)
  have e2 := Lib.hid (cols_each x.cols)
  have f1 := Lib.hid (slotC_flat x)
  have f2 := Lib.hid (colC_flat x)
  have l1 : Hid ((x.slots.map Sl.cells).length = x.slots.length) := List.length_map ..
  have l2 : Hid ((x.cols.map encC).length = x.cols.length) := List.length_map ..
  unfold StepR VL VB Stp.cells
  generalize Sch.renameS x stp = F at *
  cases hcl : Sch.column x stp with
  | false =>
    rw [hcl] at hK hF
    unfold Vr.cells Stp.cells at hK
    clear hcl
    cases stp with
    | mk kd col slot order =>
    cases slot with
    | mk nm ty rq dv =>
    cases dv with
    | mk k n sv l =>
    dsimp only at ho ⊢
    generalize slotC x.slots = R1 at *
    generalize colC x.cols = R2 at *
    generalize x.slots.map Sl.cells = L1 at *
    generalize x.cols.map encC = L2 at *
    rw [Sl.cells_mk] at *
    dsimp only [List.cons_append, List.nil_append] at hK ⊢
    generalize x.slots.length = m1 at *
    generalize x.cols.length = m2 at *
    replace hK := Lib.hid hK
    refine trF_enter (ts := [4]) Try.func92 rfl (by rw [Try.ntmps92]; exact Nat.le_of_ble_eq_true rfl) (fun tmps w => by simp [results, Try.results92, go_sem, resVal]) ?_
    simp only [Try.ntmps92]
    repeat' (first | with_reducible refine Go1.go ?_ | ((with_reducible apply ev_go); (focus ((try simp (disch := omega) only [push_cast, simprocAttr, *]); (try exact rfl); done))) | ((with_reducible refine w_last ?_ ?_ ?_); kernel_rfl; rfl) | with_reducible refine Go2.go ?_ | ((with_reducible first | apply w_stepG | refine s_bi ?_ ?_ | refine blk_ne ?_ ?_); rfl) | ((with_reducible refine al_go ?_); intro b) | ((with_reducible apply (ck_lend Try.call103)); (focus exact hK.out); (focus exact ⟨lendP (by repeat (first | exact mm_h | apply mm_t)) (by repeat (first | exact mm_h | apply mm_t)) (by repeat (first | exact mm_h | apply mm_t)) f1.out e1.out l1.out f2.out e2.out l2.out, Lend.refl _, trivial⟩)) | ((with_reducible first | refine w_region ?_ ?_ | refine w_dra ?_ ?_); kernel_rfl) | ((with_reducible refine Go3.go ?_ ?_); all_goals (intro hb; (try with_reducible intro hb1); (try (exfalso; first | contradiction | omega)))) | fail)
    all_goals ((refine retA_mk (by first | exact .inl rfl | exact .inr rfl) (by first | rfl | assumption) (by (repeat (first | exact List.Sublist.refl _ | apply List.Sublist.cons))) (LE.of_eq ?_) (.inl ⟨?_, rfl, rfl⟩)); (focus simp (disch := omega) only [push_cast, simprocAttr, *]); (focus (rw [hF.out]; refine if_neg ?_; rintro ⟨h1, h2, h3, h4⟩; (first | omega | exact Bool.noConfusion (h1.symm.trans (by assumption) : true = false) | exact Bool.noConfusion (h2.symm.trans (by assumption) : true = false) | exact Bool.noConfusion (h3.symm.trans (by assumption) : true = false) | exact Bool.noConfusion (h4.symm.trans (by assumption) : true = false) | (exact Bool.noConfusion (h1 : false = true))))))
  | true =>
    obtain ⟨hk1, hk2, hk3⟩ : 0 ≤ stp.col ∧ stp.col < x.cols.length ∧ stp.order.length = 0 := by
      unfold Sch.column at hcl
      simpa [and_assoc] using hcl
    obtain ⟨i, hi⟩ := Int.eq_ofNat_of_zero_le hk1
    have hlt : i < x.cols.length := by omega
    rw [hcl] at hK hF
    unfold Vr.cells Stp.cells at hK
    clear hcl hk1 hk2
    obtain ⟨c, hc⟩ : ∃ c, x.cols[i]? = some c := ⟨_, List.getElem?_eq_getElem hlt⟩
    have hcm : c < x.slots.length := hcs c (List.mem_of_getElem? hc)
    obtain ⟨y, hy⟩ : ∃ y, x.slots[c]? = some y := ⟨_, List.getElem?_eq_getElem hcm⟩
    have hat : Sch.at_ x stp = c := by
      unfold Sch.at_
      rw [hi, Int.toNat_natCast, List.getD_eq_getElem?_getD, hc]; rfl
    have hL2 : (x.cols.map encC)[i]? = some [D.i c] := by rw [List.getElem?_map, hc]; rfl
    have hL1 : (x.slots.map Sl.cells)[c]? = some y.cells := by rw [List.getElem?_map, hy]; rfl
    obtain ⟨t1, hld⟩ : ∃ tl, List.drop i (colC x.cols ++ zC) = D.i c :: tl := by
      obtain ⟨tl, h⟩ := row_drop (sz := 1) (o := 0) zC _ i (cols_each x.cols) hL2 (by omega)
      rw [Nat.mul_one, Nat.add_zero] at h
      exact ⟨tl, h⟩
    obtain ⟨x', hx'⟩ : ∃ x' : Vr, x' = ⟨x.slots.modify (Sch.at_ x stp) fun y => { y with name := stp.slot.name }, x.cols⟩ := ⟨_, rfl⟩
    rw [← hx'] at hF
    rw [hat, modify_set hy] at hx'
    have s1 : Hid (x'.slots = x.slots.set c { y with name := stp.slot.name }) := Lib.hid (by rw [hx'])
    have s2 : Hid (x'.cols = x.cols) := Lib.hid (by rw [hx'])
    have s3 : Hid ((x.slots.set c { y with name := stp.slot.name }).length = x.slots.length) := List.length_set
    have hsp : List.take (c * 7) (slotC x.slots ++ zS) ++ [D.str stp.slot.name] ++ List.drop (c * 7 + 1) (slotC x.slots ++ zS) = slotC (x.slots.set c { y with name := stp.slot.name }) ++ zS := by
      have h := row_splice (o := 0) (ds := [D.str stp.slot.name]) zS _ c (slots_each x.slots) hL1 (by simp)
      rw [show splice y.cells 0 [D.str stp.slot.name] = Sl.cells { y with name := stp.slot.name } from rfl, show (x.slots.map Sl.cells).set c (Sl.cells { y with name := stp.slot.name }) = (x.slots.set c { y with name := stp.slot.name }).map Sl.cells from (List.map_set ..).symm] at h
      exact h
    have hle : c * 7 + 1 ≤ cS * 7 := by
      have := slotC_len x.slots
      rw [List.length_append] at hz1
      omega
    have hl3 : (slotC (x.slots.set c { y with name := stp.slot.name }) ++ zS).length = cS * 7 := by
      rw [List.length_append] at hz1 ⊢
      rw [slotC_len, List.length_set, ← slotC_len]; exact hz1
    clear hx' hat hL1 hL2 hy hc
    generalize Sch.bare stp.slot true false = q at *
    generalize V.isName stp.slot.name.data.toList = qn at *
    generalize Sch.colL x.slots stp.slot.name x.cols = cv at *
    generalize hRE : slotC (x.slots.set c { y with name := stp.slot.name }) = RE at *
    replace hRE := Lib.hid hRE
    replace hl3 := Lib.hid hl3
    cases stp with
    | mk kd col slot order =>
    cases slot with
    | mk nm ty rq dv =>
    cases dv with
    | mk k n sv l =>
    dsimp only at hB hN hC ho hi hF ⊢
    subst hi
    generalize hR1 : slotC x.slots = R1 at *
    generalize hR2 : colC x.cols = R2 at *
    generalize x.slots.map Sl.cells = L1 at *
    generalize x.cols.map encC = L2 at *
    rw [Sl.cells_mk] at *
    dsimp only [List.cons_append, List.nil_append] at hK ⊢
    generalize hm1 : x.slots.length = m1 at *
    generalize hm2 : x.cols.length = m2 at *
    replace hR1 := Lib.hid hR1
    replace hR2 := Lib.hid hR2
    replace hm1 := Lib.hid hm1
    replace hm2 := Lib.hid hm2
    replace hK := Lib.hid hK
    replace hB := Lib.hid hB
    replace hN := Lib.hid hN
    replace hC := Lib.hid hC
    refine trF_enter (ts := [4]) Try.func92 rfl (by rw [Try.ntmps92]; exact Nat.le_of_ble_eq_true rfl) (fun tmps w => by simp [results, Try.results92, go_sem, resVal]) ?_
    simp only [Try.ntmps92]
    repeat' (first | with_reducible refine Go1.go ?_ | ((with_reducible apply ev_go); (focus ((try simp (disch := omega) only [push_cast, simprocAttr, *]); (try exact rfl); done))) | ((with_reducible refine w_draw_ne3 ?_ ?_ ?_ ?_); (iterate 3 (focus kernel_rfl)); intro hne1 hne2 hne3) | ((with_reducible refine w_last ?_ ?_ ?_); kernel_rfl; rfl) | with_reducible refine Go2.go ?_ | ((with_reducible first | apply w_stepG | refine s_bi ?_ ?_ | refine blk_ne ?_ ?_); rfl) | ((with_reducible refine al_go ?_); intro b) | ((with_reducible apply (ck_lend Try.call103)); (focus exact hK.out); (focus exact ⟨lendP (by repeat (first | exact mm_h | apply mm_t)) (by repeat (first | exact mm_h | apply mm_t)) (by repeat (first | exact mm_h | apply mm_t)) f1.out e1.out l1.out f2.out e2.out l2.out, Lend.refl _, trivial⟩)) | ((with_reducible apply (ck_lend Try.call38)); (focus exact hC.out); (focus exact ⟨Lend.agg ⟨Lend.rowE (by repeat (first | exact mm_h | apply mm_t)) f1.out (by decide) e1.out l1.out, Lend.rowE (by repeat (first | exact mm_h | apply mm_t)) f2.out (by decide) e2.out l2.out, trivial⟩, Lend.refl _, trivial⟩)) | ((with_reducible apply (ck_le Try.call104)); exact LEL.refl _; exact hB.out _) | ((with_reducible apply (ck_le Try.call86)); exact LEL.refl _; exact hN.out _) | ((with_reducible first | refine w_region ?_ ?_ | refine w_dra ?_ ?_); kernel_rfl) | ((with_reducible refine Go3.go ?_ ?_); all_goals (intro hb; (try with_reducible intro hb1); (try (exfalso; first | contradiction | omega)))) | fail)
    all_goals first
      | ((refine retA_mk (by first | exact .inl rfl | exact .inr rfl) (by first | rfl | assumption) (by (repeat (first | exact List.Sublist.refl _ | apply List.Sublist.cons))) (LE.of_eq ?_) (.inl ⟨?_, rfl, rfl⟩)); (focus simp (disch := omega) only [push_cast, simprocAttr, *]); (focus (rw [hF.out]; refine if_neg ?_; rintro ⟨h1, h2, h3, h4⟩; (first | omega | exact Bool.noConfusion (h1.symm.trans (by assumption) : true = false) | exact Bool.noConfusion (h2.symm.trans (by assumption) : true = false) | exact Bool.noConfusion (h3.symm.trans (by assumption) : true = false) | exact Bool.noConfusion (h4.symm.trans (by assumption) : true = false) | (exact Bool.noConfusion (h1 : false = true))))))
      | ((refine retA_mk (by first | exact .inl rfl | exact .inr rfl) (by first | rfl | assumption) (List.Sublist.refl _) (LE.of_eq ?_) (.inr ⟨x', gs, cS, zS, gc, cC, zC, ?_, ⟨?_, ?_⟩, rfl, ?_⟩)); (focus simp (disch := omega) only [push_cast, simprocAttr, *]); (focus (rw [hF.out]; refine if_pos ⟨rfl, ?_, ?_, ?_⟩ <;> first | assumption | omega)); (focus (rw [s1.out, hRE.out]; exact hl3.out)); (focus (rw [s2.out, hR2.out]; exact hz2)); (focus (rw [s1.out, s2.out, s3.out, hRE.out, hR2.out, hm2.out])))
end Go.Proofs.Ytooaagmhgakhgaa
end

section
namespace Go.Proofs.Ytooaagmhgakhgaa
set_option linter.unusedSimpArgs false
attribute [local push_cast] encB encI encC V.cells_mk V.cells_len Nat.mul_one Int.sub_zero List.map_nil beq_self_eq_true List.head?_cons
open Go.RowKit
set_option maxRecDepth 10000
set_option maxHeartbeats 4000000
def CopyS (x : Vr) (st : St) (d : D) (st' : St) : Prop := ∃ gs cS zS, (slotC x.slots ++ zS).length = cS * 7 ∧ d = D.agg [.ar gs 0 x.slots.length cS, .sl .shared (x.cols.map encC)] ∧ st' = Res.box gs 26 (slotC x.slots ++ zS) :: st
def Raw1 (x : Vr) (s : Stp) (st : St) (d : D) (st' : St) : Prop := ∃ i : (Bool × Vr) × RI, (Sch.stepV x s = if i.1.1 then some i.1.2 else none) ∧ d = .tup [.agg [.ar i.2.1 0 i.1.2.slots.length i.2.2.1, .sl .shared (i.1.2.cols.map encC)], .b i.1.1] ∧ st' = .box i.2.1 26 ((i.1.2.slots.map Sl.cells).flatten ++ i.2.2.2) :: st
end Go.Proofs.Ytooaagmhgakhgaa
end

section
namespace Go.Proofs.Ytooaagmhgakhgaa
set_option linter.unusedSimpArgs false
attribute [local push_cast] encB encI encC V.cells_mk V.cells_len Nat.mul_one Int.sub_zero List.map_nil beq_self_eq_true List.head?_cons
open Go.RowKit
set_option maxRecDepth 10000
set_option maxHeartbeats 4000000
def wt (t s : Nat) : Nat → Nat
  | 0 => t
  | k + 1 => if Sch.has s k && !Sch.has (wt t s k) k then wt t s k + 2 ^ k else wt t s k
def wm (t s : Nat) : Nat → Bool
  | 0 => false
  | k + 1 => if Sch.has s k && !Sch.has (wt t s k) k then true else wm t s k
end Go.Proofs.Ytooaagmhgakhgaa
end

section
namespace Go.Proofs.Ytooaagmhgakhgaa
set_option linter.unusedSimpArgs false
open Go.RowKit
namespace Sch
theorem all_len : ∀ (m : Nat) (l : List Int), l.length = m → (∀ k : Nat, k < m → (k : Int) ∈ l) → l.Nodup ∧ ∀ a ∈ l, 0 ≤ a ∧ a < m
  | 0, l, h, _ => by
    obtain rfl := List.eq_nil_of_length_eq_zero h
    exact ⟨List.nodup_nil, fun a h => by cases h⟩
  | m + 1, l, h, hk => by
    have hm := hk m (Nat.lt_succ_self m)
    have hp := List.perm_cons_erase hm
    have hl : (l.erase (m : Int)).length = m := by rw [List.length_erase_of_mem hm]; omega
    obtain ⟨h1, h2⟩ := all_len m _ hl fun k hk' => (List.mem_erase_of_ne (by omega)).2 (hk k (by omega))
    have hn : (m : Int) ∉ l.erase (m : Int) := fun h => by have := (h2 _ h).2; omega
    refine ⟨hp.nodup_iff.2 (List.nodup_cons.2 ⟨hn, h1⟩), fun a ha => ?_⟩
    rcases List.mem_cons.1 (hp.mem_iff.1 ha) with rfl | h
    · omega
    · have := h2 a h; omega
theorem nodup_len : ∀ (m : Nat) (l : List Int), l.Nodup → (∀ a ∈ l, 0 ≤ a ∧ a < m) → l.length ≤ m
  | 0, l, _, h => by
    cases l with
    | nil => exact Nat.le_refl _
    | cons a l => have := h a (List.mem_cons_self ..); omega
  | m + 1, l, hn, h => by
    by_cases hm : (m : Int) ∈ l
    · have hp := List.perm_cons_erase hm
      have hn' := List.nodup_cons.1 (hp.nodup_iff.1 hn)
      have hl : (l.erase (m : Int)).length = l.length - 1 := List.length_erase_of_mem hm
      have := nodup_len m _ hn'.2 fun a ha => by
        have h1 := h a (List.mem_of_mem_erase ha)
        have : a ≠ m := fun e => hn'.1 (e ▸ ha)
        omega
      omega
    · have := nodup_len m l hn fun a ha => by
        have h1 := h a ha
        have : a ≠ m := fun e => hm (e ▸ ha)
        omega
      omega
def put (cols : List Nat) (l : List Int) : List Nat := l.map fun o => cols.getD o.toNat 0
theorem getD_inj {cols : List Nat} (hn : cols.Nodup) {a b : Int} (ha : 0 ≤ a ∧ a < cols.length) (hb : 0 ≤ b ∧ b < cols.length) (h : cols.getD a.toNat 0 = cols.getD b.toNat 0) : a = b := by
  have h1 : a.toNat < cols.length := by omega
  have h2 : b.toNat < cols.length := by omega
  rw [List.getD_eq_getElem?_getD, List.getD_eq_getElem?_getD, List.getElem?_eq_getElem h1, List.getElem?_eq_getElem h2, Option.getD_some, Option.getD_some] at h
  have h3 : a.toNat = b.toNat := (List.getElem?_inj h1 hn).1 (by rw [List.getElem?_eq_getElem h1, List.getElem?_eq_getElem h2, h])
  omega
theorem reo_yes {cols : List Nat} (hn : cols.Nodup) : ∀ (l p : List Int), (p ++ l).Nodup → (∀ a ∈ p ++ l, 0 ≤ a ∧ a < cols.length) → reo cols l (put cols p) = some (put cols (p ++ l))
  | [], p, _, _ => by rw [reo, List.append_nil]
  | k :: l, p, h, hr => by
    have hk := hr k (by simp)
    rw [reo, if_pos]
    · have := reo_yes hn l (p ++ [k]) (by simpa using h) (by simpa using hr)
      rw [show put cols p ++ [cols.getD k.toNat 0] = put cols (p ++ [k]) by unfold put; simp]
      simpa using this
    · refine ⟨hk.1, hk.2, fun hm => ?_⟩
      obtain ⟨a, ha, he⟩ := List.mem_map.1 hm
      have := getD_inj hn (hr a (by simp [ha])) hk he
      subst this
      rw [List.nodup_append] at h
      exact h.2.2 a ha a (by simp) rfl
theorem reo_no {cols : List Nat} : ∀ (l p : List Int) (r : List Nat), reo cols l (put cols p) = some r → p.Nodup → (∀ a ∈ p, 0 ≤ a ∧ a < cols.length) → (p ++ l).Nodup ∧ ∀ a ∈ p ++ l, 0 ≤ a ∧ a < cols.length
  | [], p, _, _, hn, hr => by rw [List.append_nil]; exact ⟨hn, hr⟩
  | k :: l, p, r, h, hn, hr => by
    rw [reo] at h
    split at h
    · rename_i hc
      rw [show put cols p ++ [cols.getD k.toNat 0] = put cols (p ++ [k]) by unfold put; simp] at h
      have := reo_no l (p ++ [k]) r h (by
        rw [List.nodup_append]
        refine ⟨hn, by simp, fun a ha b hb e => ?_⟩
        rw [List.mem_singleton] at hb
        subst hb e
        exact hc.2.2 (List.mem_map.2 ⟨a, ha, rfl⟩)) (fun a ha => by
        rcases List.mem_append.1 ha with h | h
        · exact hr a h
        · rw [List.mem_singleton] at h
          subst h; omega)
      simpa using this
    · cases h
theorem reo_count {cols : List Nat} (hn : cols.Nodup) {l : List Int} (hl : l.length = cols.length) : reo cols l [] = if ∀ k : Nat, k < cols.length → l.count (k : Int) = 1 then some (put cols l) else none := by
  split
  · rename_i h
    obtain ⟨h1, h2⟩ := all_len cols.length l hl fun k hk => List.count_pos_iff.1 (by rw [h k hk]; omega)
    exact reo_yes hn l [] (by simpa using h1) (by simpa using h2)
  · rename_i h
    cases hr : reo cols l [] with
    | none => rfl
    | some r =>
      exfalso
      obtain ⟨h1, h2⟩ := reo_no l [] r hr List.nodup_nil (fun a h => by cases h)
      rw [List.nil_append] at h1 h2
      refine h fun k hk => ?_
      have hm : (k : Int) ∈ l := by
        refine Decidable.by_contra fun hm => ?_
        have := nodup_len cols.length ((k : Int) :: l) (List.nodup_cons.2 ⟨hm, h1⟩) fun a ha => by
          rcases List.mem_cons.1 ha with rfl | h
          · omega
          · exact h2 a h
        rw [List.length_cons] at this
        omega
      rw [h1.count, if_pos hm]
end Sch
end Go.Proofs.Ytooaagmhgakhgaa
end

section
namespace Go.Proofs.Ytooaagmhgakhgaa
set_option linter.unusedSimpArgs false
attribute [local push_cast] encB encI encC V.cells_mk V.cells_len Nat.mul_one Int.sub_zero List.map_nil beq_self_eq_true List.head?_cons
open Go.RowKit
set_option maxRecDepth 10000
set_option maxHeartbeats 4000000
def CopyC (x : Vr) (st : St) (d : D) (st' : St) : Prop := ∃ gc cC zC, (colC x.cols ++ zC).length = cC * 1 ∧ d = D.agg [.sl .shared (x.slots.map Sl.cells), .ar gc 0 x.cols.length cC] ∧ st' = Res.box gc 3 (colC x.cols ++ zC) :: st
def RawC (x : Vr) (s : Stp) (st : St) (d : D) (st' : St) : Prop := ∃ i : (Bool × Vr) × RI, (Sch.stepV x s = if i.1.1 then some i.1.2 else none) ∧ d = .tup [.agg [.sl .shared (i.1.2.slots.map Sl.cells), .ar i.2.1 0 i.1.2.cols.length i.2.2.1], .b i.1.1] ∧ st' = .box i.2.1 3 ((i.1.2.cols.map encC).flatten ++ i.2.2.2) :: st
end Go.Proofs.Ytooaagmhgakhgaa
end

section
namespace Go.Proofs.Ytooaagmhgakhgaa
set_option linter.unusedSimpArgs false
attribute [local push_cast] encB encI encC V.cells_mk V.cells_len Nat.mul_one Int.sub_zero List.map_nil beq_self_eq_true List.head?_cons
open Go.RowKit
set_option maxRecDepth 10000
set_option maxHeartbeats 4000000
namespace Sch
theorem step_nd {x y : Vr} {s : Stp} (hb : ∀ c ∈ x.cols, c < x.slots.length) (hx : x.cols.Nodup) (h : stepV x s = some y) : y.cols.Nodup := by
  unfold stepV at h
  split at h
  · unfold addS at h
    split at h
    · cases h
      show (x.cols ++ [x.slots.length]).Nodup
      rw [List.nodup_append]
      refine ⟨hx, by simp, fun a ha b hb' e => ?_⟩
      rw [List.mem_singleton] at hb'
      subst hb' e
      have := hb _ ha
      omega
    · cases h
  · split at h
    · unfold loseS at h
      split at h
      · cases h; exact hx.eraseIdx _
      · cases h
    · split at h
      · unfold renameS at h
        split at h
        · cases h; exact hx
        · cases h
      · split at h
        · unfold widenS at h
          split at h
          · cases h; exact hx
          · cases h
        · split at h
          · unfold reorderS at h
            split at h
            · rename_i hc
              have hl : s.order.length = x.cols.length := hc.2.2
              rw [reo_count hx hl] at h
              split at h
              · rename_i hq
                cases h
                obtain ⟨h1, h2⟩ := all_len x.cols.length s.order hl fun k hk => List.count_pos_iff.1 (by rw [hq k hk]; omega)
                show (put x.cols s.order).Nodup
                unfold put
                rw [List.nodup_iff_pairwise_ne, List.pairwise_map]
                refine List.Pairwise.imp_of_mem (fun {a b} ha hb hab e => ?_) h1
                exact hab (getD_inj hx (h2 a ha) (h2 b hb) e)
              · cases h
            · cases h
          · cases h
structure VZ (n : Nat) (x : Vr) : Prop where
  vi : VI n x
  nd : x.cols.Nodup
  sl : ∀ z ∈ x.slots, SOk z
theorem firstL_nd : ∀ (l : List Sl) (x y : Vr), (∀ c ∈ x.cols, c < x.slots.length) → x.cols.Nodup → (∀ z ∈ x.slots, SOk z) → firstL l x = some y → y.cols.Nodup ∧ ∀ z ∈ y.slots, SOk z
  | [], x, y, _, h2, h3, h => by cases h; exact ⟨h2, h3⟩
  | s :: l, x, y, h1, h2, h3, h => by
    rw [firstL] at h
    split at h
    · rename_i hc
      refine firstL_nd l _ y (fun c hc => ?_) ?_ (fun z hz => ?_) h
      · rcases List.mem_append.1 hc with h | h
        · have := h1 c h; simp; omega
        · rw [List.mem_singleton] at h
          subst h; simp
      · show (x.cols ++ [x.slots.length]).Nodup
        rw [List.nodup_append]
        refine ⟨h2, by simp, fun a ha b hb' e => ?_⟩
        rw [List.mem_singleton] at hb'
        subst hb' e
        have := h1 _ ha
        omega
      · rcases List.mem_append.1 hz with h | h
        · exact h3 z h
        · rw [List.mem_singleton] at h
          subst h; exact sound_ok hc.1
    · cases h
theorem first_vz {t : Tm} {x : Vr} (h : firstV t = some x) : VZ 8 x := by
  have hv := (first_vi h).1
  unfold firstV at h
  split at h
  · obtain ⟨h1, h2⟩ := firstL_nd _ _ _ (fun c h => by cases h) List.nodup_nil (fun z h => by cases h) h
    exact ⟨hv, h1, h2⟩
  · cases h
theorem step_vz {n : Nat} {x y : Vr} {s : Stp} (hx : VZ n x) (h : stepV x s = some y) : VZ (n + 1) y :=
  ⟨step_vi hx.vi h, step_nd hx.vi.cs hx.nd h, (step_grow hx.sl h).2⟩
end Sch
end Go.Proofs.Ytooaagmhgakhgaa
end

section
namespace Go.Proofs.Ytooaagmhgakhgaa
set_option linter.unusedSimpArgs false
namespace Sch
theorem toList_inj {a b : ByteArray} (h : a.toList = b.toList) : a = b := by
  rw [ByteArray.toList_eq, ByteArray.toList_eq] at h
  cases a; cases b
  simp only [ByteArray.mk.injEq]
  exact Array.toList_inj.1 h
theorem named_iff {slots : List Sl} {name : ByteArray} {i : Nat} {y : Sl} (h : slots[i]? = some y) : named slots name i = true ↔ y.name = name := by
  unfold named
  rw [h]
  simp only [Option.any_some, beq_iff_eq]
  exact ⟨toList_inj, fun h => by rw [h]⟩
def Apart (x : Vr) : Prop := ∀ a ∈ x.cols, ∀ b ∈ x.cols, ∀ y z, x.slots[a]? = some y → x.slots[b]? = some z → y.name = z.name → a = b
theorem colL_neg (slots : List Sl) (name : ByteArray) : ∀ (l : List Nat), colL slots name l < 0 → ∀ c ∈ l, ∀ y, slots[c]? = some y → y.name ≠ name
  | [], _, c, hc, _, _ => by cases hc
  | i :: l, h, c, hc, y, hy => by
    rw [colL] at h
    split at h
    · omega
    · rename_i hn
      rcases List.mem_cons.1 hc with rfl | hc
      · exact fun e => hn ((named_iff hy).2 e)
      · exact colL_neg slots name l h c hc y hy
theorem apart_add {x : Vr} {s : Sl} (hc : ∀ c ∈ x.cols, c < x.slots.length) (h : Apart x) (hn : col x s.name < 0) : Apart ⟨x.slots ++ [s], x.cols ++ [x.slots.length]⟩ := by
  have hneg := colL_neg x.slots s.name x.cols hn
  have hold : ∀ a ∈ x.cols, ∀ y, (x.slots ++ [s])[a]? = some y → x.slots[a]? = some y := fun a ha y hy => by
    rwa [List.getElem?_append_left (hc a ha)] at hy
  have hnew : ∀ y, (x.slots ++ [s])[x.slots.length]? = some y → y = s := fun y hy => by
    rw [List.getElem?_append_right (Nat.le_refl _), Nat.sub_self] at hy
    cases hy; rfl
  intro a ha b hb y z hy hz e
  rcases List.mem_append.1 ha with ha | ha <;> rcases List.mem_append.1 hb with hb | hb
  · exact h a ha b hb y z (hold a ha y hy) (hold b hb z hz) e
  · rw [List.mem_singleton] at hb
    subst hb
    rw [hnew z hz] at e
    exact absurd e (hneg a ha y (hold a ha y hy))
  · rw [List.mem_singleton] at ha
    subst ha
    rw [hnew y hy] at e
    exact absurd e.symm (hneg b hb z (hold b hb z hz))
  · rw [List.mem_singleton] at ha hb
    rw [ha, hb]
theorem modify_inv {α : Type} {l : List α} {f : α → α} {i j : Nat} {y : α} (h : (l.modify i f)[j]? = some y) : ∃ y0, l[j]? = some y0 ∧ y = if i = j then f y0 else y0 := by
  cases hl : l[j]? with
  | none => rw [List.getElem?_modify, hl] at h; simp at h
  | some w =>
    rw [modify_get hl] at h
    cases h
    exact ⟨w, rfl, rfl⟩
theorem step_apart {x y : Vr} {s : Stp} (hc : ∀ c ∈ x.cols, c < x.slots.length) (h : Apart x) (hs : stepV x s = some y) : Apart y := by
  unfold stepV at hs
  split at hs
  · unfold addS at hs
    split at hs
    · rename_i hq
      cases hs
      exact apart_add hc h hq.2.2.2.2.2
    · cases hs
  · split at hs
    · unfold loseS at hs
      split at hs
      · cases hs
        exact fun a ha b hb => h a (List.mem_of_mem_eraseIdx ha) b (List.mem_of_mem_eraseIdx hb)
      · cases hs
    · split at hs
      · unfold renameS at hs
        split at hs
        · rename_i hq
          cases hs
          have hneg := colL_neg x.slots s.slot.name x.cols hq.2.2.2
          intro a ha b hb y z hy hz e
          obtain ⟨y0, hy0, rfl⟩ := modify_inv hy
          obtain ⟨z0, hz0, rfl⟩ := modify_inv hz
          by_cases h1 : at_ x s = a
          · by_cases h2 : at_ x s = b
            · exact h1.symm.trans h2
            · rw [if_pos h1, if_neg h2] at e
              exact absurd e.symm (hneg b hb z0 hz0)
          · by_cases h2 : at_ x s = b
            · rw [if_neg h1, if_pos h2] at e
              exact absurd e (hneg a ha y0 hy0)
            · rw [if_neg h1, if_neg h2] at e
              exact h a ha b hb y0 z0 hy0 hz0 e
        · cases hs
      · split at hs
        · unfold widenS at hs
          split at hs
          · cases hs
            intro a ha b hb y z hy hz e
            obtain ⟨y0, hy0, rfl⟩ := modify_inv hy
            obtain ⟨z0, hz0, rfl⟩ := modify_inv hz
            refine h a ha b hb y0 z0 hy0 hz0 ?_
            have k : ∀ (w : Sl) (c : Nat), (if at_ x s = c then { w with types := bits .or .i64 w.types s.slot.types } else w).name = w.name := fun w c => by split <;> rfl
            rw [k, k] at e
            exact e
          · cases hs
        · split at hs
          · unfold reorderS at hs
            split at hs
            · cases hr : reo x.cols s.order [] with
              | none => rw [hr] at hs; cases hs
              | some r =>
                rw [hr] at hs; cases hs
                have k := (reo_sub _ _ _ hr (fun c h => by cases h)).1
                exact fun a ha b hb => h a (k a ha) b (k b hb)
            · cases hs
          · cases hs
theorem firstL_apart : ∀ (l : List Sl) (x y : Vr), (∀ c ∈ x.cols, c < x.slots.length) → Apart x → firstL l x = some y → Apart y
  | [], x, y, _, h2, h => by cases h; exact h2
  | s :: l, x, y, h1, h2, h => by
    rw [firstL] at h
    split at h
    · rename_i hc
      refine firstL_apart l _ y (fun c hc => ?_) (apart_add h1 h2 hc.2) h
      rcases List.mem_append.1 hc with h | h
      · have := h1 c h; simp; omega
      · rw [List.mem_singleton] at h
        subst h; simp
    · cases h
theorem vers_apart {t : Tm} : ∀ x ∈ vers t, Apart x ∧ x.cols.Nodup ∧ (∀ c ∈ x.cols, c < x.slots.length) ∧ 1 ≤ x.cols.length ∧ x.cols.length ≤ 8 := by
  intro x hx
  unfold vers at hx
  split at hx
  · cases hx
  · rename_i y hy
    have key : ∀ (l : List Stp) (y : Vr) (n : Nat), VZ n y → Apart y → ∀ x ∈ versL y l, Apart x ∧ x.cols.Nodup ∧ (∀ c ∈ x.cols, c < x.slots.length) ∧ 1 ≤ x.cols.length ∧ x.cols.length ≤ 8 := by
      intro l
      induction l with
      | nil => intro y n _ _ x hx; cases hx
      | cons s l ih =>
        intro y n hy ha x hx
        rw [versL] at hx
        cases hs : stepV y s with
        | none => rw [hs] at hx; cases hx
        | some w =>
          rw [hs] at hx
          have hw := step_vz hy hs
          have hwa := step_apart hy.vi.cs ha hs
          rcases List.mem_cons.1 hx with rfl | hx
          · exact ⟨hwa, hw.nd, hw.vi.cs, hw.vi.cp, hw.vi.lc⟩
          · exact ih w _ hw hwa x hx
    have hz := first_vz hy
    have ha : Apart y := by
      unfold firstV at hy
      split at hy
      · exact firstL_apart _ _ _ (fun c h => by cases h) (fun a ha => by cases ha) hy
      · cases hy
    rcases List.mem_cons.1 hx with rfl | hx
    · exact ⟨ha, hz.nd, hz.vi.cs, hz.vi.cp, hz.vi.lc⟩
    · exact key _ _ _ hz ha x hx
end Sch
end Go.Proofs.Ytooaagmhgakhgaa
end

section
namespace Go.Proofs.Ytooaagmhgakhgaa
set_option linter.unusedSimpArgs false
attribute [local push_cast] encB encI encC V.cells_mk V.cells_len Nat.mul_one Int.sub_zero List.map_nil beq_self_eq_true List.head?_cons
open Go.RowKit
set_option maxRecDepth 10000
set_option maxHeartbeats 4000000
def FirstR (t : Tm) (st : St) (d : D) (st' : St) : Prop :=
  (Sch.firstV t = none ∧ (d = .tup [.agg [.sl .tight [], .sl .tight []], .b false] ∨ ∃ gs n cS gc m cC, d = .tup [.agg [.ar gs 0 n cS, .ar gc 0 m cC], .b false]) ∧ st' = st) ∨
    ∃ x gs cS zS gc cC zC, Sch.firstV t = some x ∧ VL cS zS cC zC x ∧ d = .tup [.agg [.ar gs 0 x.slots.length cS, .ar gc 0 x.cols.length cC], .b true] ∧ st' = .box gs 26 (slotC x.slots ++ zS) :: .box gc 3 (colC x.cols ++ zC) :: st
theorem firstL_drop {slots : List Sl} {i : Nat} {s : Sl} {x : Vr} (h : slots[i]? = some s) : Sch.firstL (slots.drop i) x = if Sch.sound s = true ∧ Sch.col x s.name < 0 then Sch.firstL (slots.drop (i + 1)) ⟨x.slots ++ [s], x.cols ++ [x.slots.length]⟩ else none := by
  obtain ⟨h1, rfl⟩ := List.getElem?_eq_some_iff.1 h
  rw [List.drop_eq_getElem_cons h1, Sch.firstL]
theorem schFirstF (t : Tm) (hs : ∀ s ∈ t.slots, s.dv.nodes ≤ 1000) (hl : t.slots.length ≤ 1000) (ht : t.steps.length ≤ 1000) (st : St) : TrF Try.prog 71 [.agg t.cells] st (FirstR t st) := by
  have hN := Lib.hid (valIsNameF t.name)
  have hF : Hid (Sch.firstV t = if V.isName t.name.data.toList = true ∧ 1 ≤ t.slots.length ∧ t.slots.length ≤ 8 ∧ t.steps.length ≤ 8 then Sch.firstL t.slots ⟨[], []⟩ else none) := rfl
  unfold FirstR VL
  generalize Sch.firstV t = F at *
  cases t with
  | mk nm slots steps =>
  unfold Tm.cells
  dsimp only at hN hF hs hl ht ⊢
  generalize V.isName nm.data.toList = qn at *
  generalize hTS : steps.map Stp.cells = TS at *
  have hTSl : TS.length = steps.length := by rw [← hTS, List.length_map]
  generalize steps.length = ms at *
  clear hTS
  refine trF_enterG (G := twoA Try.prog (.cell 2 38) (.tmp 3)) Try.func71 rfl (by rw [Try.ntmps71]; exact Nat.le_of_ble_eq_true rfl) (fun h1 h2 h3 => res_two rfl h1 h2 h3) ?_
  simp only [Try.ntmps71]
  by_cases hc : qn = true ∧ 1 ≤ slots.length ∧ slots.length ≤ 8 ∧ ms ≤ 8
  case neg =>
    have hF2 : Hid (F = none) := Lib.hid (by rw [hF.out, if_neg hc])
    have hno : qn = false ∨ (qn = true ∧ (slots.length : Int) < 1) ∨ (qn = true ∧ 1 ≤ (slots.length : Int) ∧ 8 < (slots.length : Int)) ∨ (qn = true ∧ 1 ≤ (slots.length : Int) ∧ (slots.length : Int) ≤ 8 ∧ 8 < (ms : Int)) := by
      cases qn
      · exact .inl rfl
      · refine .inr ?_
        by_cases h1 : 1 ≤ slots.length
        · by_cases h2 : slots.length ≤ 8
          · by_cases h3 : ms ≤ 8
            · exact absurd ⟨rfl, h1, h2, h3⟩ hc
            · exact .inr (.inr ⟨rfl, by omega, by omega, by omega⟩)
          · exact .inr (.inl ⟨rfl, by omega, by omega⟩)
        · exact .inl ⟨rfl, by omega⟩
    clear hc hF
    rcases hno with rfl | ⟨rfl, h1⟩ | ⟨rfl, h1, h2⟩ | ⟨rfl, h1, h2, h3⟩
    all_goals skip
    all_goals (
      repeat' (first | with_reducible refine Go1.go ?_ | ((with_reducible apply ev_go); (focus ((try simp (disch := omega) only [push_cast, simprocAttr, *]); (try exact rfl); done))) | ((with_reducible refine w_last ?_ ?_ ?_); kernel_rfl; rfl) | with_reducible refine Go2.go ?_ | ((with_reducible first | apply w_stepG | refine s_bi ?_ ?_ | refine blk_ne ?_ ?_); rfl) | ((with_reducible refine al_go ?_); intro b) | ((with_reducible apply (ck_le Try.call86)); exact LEL.refl _; exact hN.out _) | ((with_reducible first | refine w_region ?_ ?_ | refine w_dra ?_ ?_); kernel_rfl) | ((with_reducible refine Go3.go ?_ ?_); all_goals (intro hb; (try with_reducible intro hb1); (try (exfalso; first | contradiction | omega)))) | fail)
      all_goals ((refine retG_mk (rs := []) (by first | exact .inl rfl | exact .inr rfl) (by first | rfl | assumption) (List.Perm.refl _) ⟨_, _, rfl, cell_mk (by simp (disch := omega) only [push_cast, simprocAttr, *]; exact rfl) (by repeat (first | exact mm_h | apply mm_t)) (by simp (disch := omega) only [push_cast, simprocAttr, *]; exact rfl) (by (try simp (disch := omega) only [push_cast, simprocAttr, *]); (try exact rfl); done), (by show _ = _; (try simp (disch := omega) only [push_cast, simprocAttr, *]); (try exact rfl); done)⟩ (by (repeat (first | exact List.Sublist.refl _ | apply List.Sublist.cons))) (LE.refl _) (.inl ⟨hF2.out, (by first | exact .inl rfl | exact .inr ⟨_, _, _, _, _, _, rfl⟩), rfl⟩))))
  case pos =>
    have hF2 : Hid (F = Sch.firstL slots ⟨[], []⟩) := Lib.hid (by rw [hF.out, if_pos hc])
    obtain ⟨rfl, h1, h2, h3⟩ := hc
    clear hF
    obtain ⟨B, hB⟩ : ∃ B, Sch.firstL slots ⟨[], []⟩ = B := ⟨_, rfl⟩
    have HB : Hid (Sch.firstL (slots.drop 0) ⟨[], []⟩ = B) := hB
    rw [hB] at hF2
    clear hB
    have hsN := Lib.hid hs
    clear hs
    repeat' (first | with_reducible refine Go1.go ?_ | ((with_reducible apply ev_go); (focus ((try simp (disch := omega) only [push_cast, simprocAttr, *]); (try exact rfl); done))) | ((with_reducible refine w_last ?_ ?_ ?_); kernel_rfl; rfl) | with_reducible refine Go2.go ?_ | ((with_reducible first | apply w_stepG | refine s_bi ?_ ?_ | refine blk_ne ?_ ?_); rfl) | ((with_reducible refine al_go ?_); intro b) | ((with_reducible apply (ck_le Try.call86)); exact LEL.refl _; exact hN.out _) | ((with_reducible first | refine w_region ?_ ?_ | refine w_dra ?_ ?_); kernel_rfl) | ((with_reducible refine Go3.go ?_ ?_); all_goals (intro hb; (try with_reducible intro hb1); (try (exfalso; first | contradiction | omega)))) | fail)
    rename_i b2 _ _
    revert b
    intro b4
    refine tr_loopd (ι := Nat) (fun i A st' => i ≤ slots.length ∧ A.df = [] ∧ A.e 2 = .ptr b2 0 ∧ A.e 4 = .ptr b4 0 ∧ A.e 32 = .sl .shared (slots.map Sl.cells) ∧ A.e 33 = .i slots.length ∧ A.e 34 = .i i ∧ ∃ x : Vr, x.slots.length = i ∧ x.cols.length = i ∧ Hid (Sch.firstL (slots.drop i) x = B) ∧
      ((i = 0 ∧ x = ⟨[], []⟩ ∧ st' = .box b4 38 [.sl .tight [], .sl .tight []] :: .box b2 38 [.sl .tight [], .sl .tight []] :: st) ∨ (0 < i ∧ ∃ gs cS zS gc cC zC, (slotC x.slots ++ zS).length = cS * 7 ∧ (colC x.cols ++ zC).length = cC * 1 ∧ st' = .box gc 3 (colC x.cols ++ zC) :: .box gs 26 (slotC x.slots ++ zS) :: .box b4 38 [.ar gs 0 i cS, .ar gc 0 i cC] :: .box b2 38 [.sl .tight [], .sl .tight []] :: st))) (fun i => slots.length - i) 0 ⟨Nat.zero_le _, by (first | rfl | assumption | omega | (simp (disch := omega) only [push_cast, simprocAttr, *]; try omega; done)), by (first | rfl | assumption | omega | (simp (disch := omega) only [push_cast, simprocAttr, *]; try omega; done)), by (first | rfl | assumption | omega | (simp (disch := omega) only [push_cast, simprocAttr, *]; try omega; done)), by (first | rfl | assumption | omega | (simp (disch := omega) only [push_cast, simprocAttr, *]; try omega; done)), by (first | rfl | assumption | omega | (simp (disch := omega) only [push_cast, simprocAttr, *]; try omega; done)), by (first | rfl | assumption | omega | (simp (disch := omega) only [push_cast, simprocAttr, *]; try omega; done)), ⟨[], []⟩, rfl, rfl, HB, .inl ⟨rfl, rfl, rfl⟩⟩ ?_
    rintro i A st' ⟨hi, hdf, e2, e4, e32, e33, e34, x, hxs, hxc, HT, hcase⟩
    clear HB
    by_cases hlt : i < slots.length
    · obtain ⟨sl, hsl⟩ : ∃ s, slots[i]? = some s := ⟨_, List.getElem?_eq_getElem hlt⟩
      have HE := HT.out
      rw [firstL_drop hsl] at HE
      clear HT
      have hn := hsN.out sl (List.mem_of_getElem? hsl)
      have hS := schSoundF sl (by omega)
      have hC := schColF x.slots x.cols sl.name (by omega) (by omega) []
      have hcl : (slots.map Sl.cells)[i]? = some sl.cells := by rw [List.getElem?_map, hsl]; rfl
      have hml : (slots.map Sl.cells).length = slots.length := List.length_map ..
      clear hsl
      unfold Sch.col at HE
      have g1 := Lib.hid (slotC_add x.slots sl)
      have g2 := Lib.hid (colC_add x.cols x.slots.length)
      have hF3 : Hid (F = B) := hF2
      cases sl with
      | mk snm sty srq sdv =>
      cases sdv with
      | mk sk sn ss sL =>
      rw [Sl.cells_mk] at hS hcl g1
      dsimp only at hS hC HE hn g1
      generalize Sch.sound _ = q at *
      rcases hcase with ⟨rfl, hx0, rfl⟩ | ⟨hi0, gs, cS, zS, gc, cC, zC, hz1, hz2, rfl⟩
      · have hl1 : x.slots = [] := List.eq_nil_of_length_eq_zero hxs
        have hl2 : x.cols = [] := List.eq_nil_of_length_eq_zero hxc
        rw [hl1, hl2, List.map_nil, List.map_nil] at hC
        rw [hl1, hl2] at HE
        rw [Sch.colL] at hC HE
        generalize slots.map Sl.cells = SL at *
        replace hS := Lib.hid hS
        replace hC := Lib.hid hC
        replace hcl := hcl
        cases q with
        | false =>
          rw [if_neg (fun h => Bool.noConfusion h.1)] at HE
          have hF4 : Hid (F = none) := Lib.hid (hF3.out.trans HE.symm)
          clear HE
          repeat' (first | with_reducible refine Go1.go ?_ | ((with_reducible apply ev_go); (focus ((try simp (disch := omega) only [push_cast, simprocAttr, *]); (try exact rfl); done))) | ((with_reducible refine w_last ?_ ?_ ?_); kernel_rfl; rfl) | with_reducible refine Go2.go ?_ | ((with_reducible first | apply w_stepG | refine s_bi ?_ ?_ | refine blk_ne ?_ ?_); rfl) | ((with_reducible refine al_go ?_); intro b) | ((with_reducible apply (ck_le Try.call87)); exact LEL.refl _; exact hS.out _) | ((with_reducible apply (ck_lend Try.call38)); (focus exact hC.out); (focus exact ⟨Lend.agg ⟨Lend.sl _ _, Lend.sl _ _, trivial⟩, Lend.refl _, trivial⟩)) | ((with_reducible first | refine w_region ?_ ?_ | refine w_dra ?_ ?_); kernel_rfl) | ((with_reducible refine Go3.go ?_ ?_); all_goals (intro hb; (try with_reducible intro hb1); (try (exfalso; first | contradiction | omega)))) | fail)
          all_goals ((refine retG_mk (rs := []) (by first | exact .inl rfl | exact .inr rfl) (by first | rfl | assumption) (List.Perm.refl _) ⟨_, _, rfl, cell_mk (by simp (disch := omega) only [push_cast, simprocAttr, *]; exact rfl) (by repeat (first | exact mm_h | apply mm_t)) (by simp (disch := omega) only [push_cast, simprocAttr, *]; exact rfl) (by (try simp (disch := omega) only [push_cast, simprocAttr, *]); (try exact rfl); done), (by show _ = _; (try simp (disch := omega) only [push_cast, simprocAttr, *]); (try exact rfl); done)⟩ (by (repeat (first | exact List.Sublist.refl _ | apply List.Sublist.cons))) (LE.refl _) (.inl ⟨hF4.out, (by first | exact .inl rfl | exact .inr ⟨_, _, _, _, _, _, rfl⟩), rfl⟩)))
        | true =>
          rw [if_pos ⟨rfl, by decide⟩] at HE
          replace HE := Lib.hid HE
          repeat' (first | with_reducible refine Go1.go ?_ | ((with_reducible apply ev_go); (focus ((try simp (disch := omega) only [push_cast, simprocAttr, *]); (try exact rfl); done))) | ((with_reducible apply (w_drawQ [(b4, [.sl .tight [], .sl .tight []]), (b, [.str snm, .i sty, .b srq, .i sk, .i sn, .str ss, .sl .shared (sL.map V.cells)])] 9)); (iterate 4 (focus kernel_rfl)); (focus (simp only [List.take_succ_cons, List.take_zero]; exact rfl)); (focus (simp only [List.drop_succ_cons, List.drop_zero]; exact rfl)); (focus ((repeat (first | exact keep_nil | refine keep_more (by (repeat (first | exact mm_h | apply mm_t)); done) ?_)); done)); intro hne; simp only [nes, ne1, and_assoc] at hne; repeat (have hq := hne.1; replace hne := hne.2)) | ((with_reducible refine Exists.intro [] ?_); (with_reducible refine And.intro ?_ ?_); (focus ((repeat (first | exact keep_nil | refine keep_more (by (repeat (first | exact mm_h | apply mm_t)); done) ?_)); done))) | ((with_reducible refine And.intro ?_ ?_); (focus ((repeat (first | exact keep_nil | refine keep_more (by (repeat (first | exact mm_h | apply mm_t)); done) ?_)); done))) | with_reducible refine s_appN ?_ | with_reducible refine rn_go ?_ | ((with_reducible apply rn2_go); (focus (simp only [List.length_cons, List.length_nil]; omega)); (focus exact len_one rfl); (focus (simp only [List.length_cons, List.length_nil]; omega)); (focus (simp only [List.length_cons, List.length_nil]; omega)); intro g' c' z' hc' hl') | ((with_reducible refine w_last ?_ ?_ ?_); kernel_rfl; rfl) | with_reducible refine Go2.go ?_ | ((with_reducible first | apply w_stepG | refine s_bi ?_ ?_ | refine blk_ne ?_ ?_); rfl) | ((with_reducible refine al_go ?_); intro b) | ((with_reducible apply (ck_le Try.call87)); exact LEL.refl _; exact hS.out _) | ((with_reducible apply (ck_lend Try.call38)); (focus exact hC.out); (focus exact ⟨Lend.agg ⟨Lend.sl _ _, Lend.sl _ _, trivial⟩, Lend.refl _, trivial⟩)) | ((with_reducible first | refine w_region ?_ ?_ | refine w_dra ?_ ?_); kernel_rfl) | ((with_reducible refine Go3.go ?_ ?_); all_goals (intro hb; (try with_reducible intro hb1); (try (exfalso; first | contradiction | omega)))) | fail)
          rename_i gs' cS' zS' hcs' hls'
          refine ⟨1, .box g' 3 ([[D.i 0]].flatten ++ z') :: .box gs' 26 ([[.str snm, .i sty, .b srq, .i sk, .i sn, .str ss, .sl .shared (sL.map V.cells)]].flatten ++ zS') :: .box b4 38 [.ar gs' 0 1 cS', .ar g' 0 1 c'] :: .box b2 38 [.sl .tight [], .sl .tight []] :: st, ?_, ⟨hlt, ?_, ?_, ?_, ?_, ?_, ?_, ⟨[] ++ [.mk snm sty srq (.mk sk sn ss sL)], [] ++ [([] : List Sl).length]⟩, rfl, rfl, HE, .inr ⟨Nat.zero_lt_one, gs', cS', zS', g', c', z', ?_, ?_, ?_⟩⟩, ?_⟩
          · (repeat (first | exact List.Sublist.refl _ | with_reducible apply List.Sublist.cons_cons | apply List.Sublist.cons))
          iterate 6 (focus (first | rfl | assumption | omega | (simp (disch := omega) only [push_cast, simprocAttr, *]; try omega; done)))
          · rw [show slotC ([] ++ [Sl.mk snm sty srq (.mk sk sn ss sL)]) = [(Sl.mk snm sty srq (.mk sk sn ss sL)).cells].flatten from rfl, Sl.cells_mk]
            exact hls'
          · exact hl'
          · rw [show slotC ([] ++ [Sl.mk snm sty srq (.mk sk sn ss sL)]) = [(Sl.mk snm sty srq (.mk sk sn ss sL)).cells].flatten from rfl, Sl.cells_mk]
            rfl
          · omega
      · have hr1 := slotC_len x.slots
        have hr2 := colC_len x.cols
        have e1 := Lib.hid (slots_each x.slots)
        have e2 := Lib.hid (cols_each x.cols)
        have f1 := Lib.hid (slotC_flat x)
        have f2 := Lib.hid (colC_flat x)
        have l1 : Hid ((x.slots.map Sl.cells).length = i) := Lib.hid (by rw [List.length_map, hxs])
        have l2 : Hid ((x.cols.map encC).length = i) := Lib.hid (by rw [List.length_map, hxc])
        rw [hxs] at hr1 HE g2
        rw [hxc] at hr2
        generalize Sch.colL x.slots snm x.cols = cv at *
        obtain ⟨S1, hS1⟩ : ∃ S1, slotC x.slots = S1 := ⟨_, rfl⟩
        obtain ⟨C1, hC1⟩ : ∃ C1, colC x.cols = C1 := ⟨_, rfl⟩
        rw [hS1] at hz1 hr1 f1 g1
        rw [hC1] at hz2 hr2 f2 g2
        rw [hS1, hC1]
        clear hS1 hC1
        generalize x.slots.map Sl.cells = L1 at *
        generalize x.cols.map encC = L2 at *
        generalize slots.map Sl.cells = SL at *
        replace hS := Lib.hid hS
        replace hC := Lib.hid hC
        by_cases hqc : q = true ∧ cv < 0
        · obtain ⟨rfl, hcv⟩ := hqc
          rw [if_pos ⟨rfl, hcv⟩] at HE
          replace HE := Lib.hid HE
          replace hxs := Lib.hid hxs
          replace hxc := Lib.hid hxc
          repeat' (first | with_reducible refine Go1.go ?_ | ((with_reducible apply ev_go); (focus ((try simp (disch := omega) only [push_cast, simprocAttr, *]); (try exact rfl); done))) | ((with_reducible apply (w_drawQ [(b4, [.ar gs 0 i cS, .ar gc 0 i cC]), (b, [.str snm, .i sty, .b srq, .i sk, .i sn, .str ss, .sl .shared (sL.map V.cells)])] 9)); (iterate 4 (focus kernel_rfl)); (focus (simp only [List.take_succ_cons, List.take_zero]; exact rfl)); (focus (simp only [List.drop_succ_cons, List.drop_zero]; exact rfl)); (focus ((repeat (first | exact keep_nil | refine keep_more (by (repeat (first | exact mm_h | apply mm_t)); done) ?_)); done)); intro hne; simp only [nes, ne1, and_assoc] at hne; repeat (have hq := hne.1; replace hne := hne.2)) | ((with_reducible refine Exists.intro [] ?_); (with_reducible refine And.intro ?_ ?_); (focus ((repeat (first | exact keep_nil | refine keep_more (by (repeat (first | exact mm_h | apply mm_t)); done) ?_)); done))) | ((with_reducible refine And.intro ?_ ?_); (focus ((repeat (first | exact keep_nil | refine keep_more (by (repeat (first | exact mm_h | apply mm_t)); done) ?_)); done))) | with_reducible refine s_appR ?_ | with_reducible refine rk_go ?_ | ((with_reducible apply (r2_go hr1 hz1)); (focus (intro g' cs'; repeat (first | exact ra_h | apply ra_t))); (focus exact len_one rfl); (focus (simp only [List.length_cons, List.length_nil]; omega)); (focus (simp only [List.length_cons, List.length_nil]; omega)); intro gs' cS' zS' hcs hls) | ((with_reducible apply (r2_go hr2 hz2)); (focus (intro g' cs'; repeat (first | exact ra_h | apply ra_t))); (focus exact len_one rfl); (focus (simp only [List.length_cons, List.length_nil]; omega)); (focus (simp only [List.length_cons, List.length_nil]; omega)); intro gc' cC' zC' hcc hlc) | ((with_reducible refine w_last ?_ ?_ ?_); kernel_rfl; rfl) | with_reducible refine Go2.go ?_ | ((with_reducible first | apply w_stepG | refine s_bi ?_ ?_ | refine blk_ne ?_ ?_); rfl) | ((with_reducible refine al_go ?_); intro b) | ((with_reducible apply (ck_le Try.call87)); exact LEL.refl _; exact hS.out _) | ((with_reducible apply (ck_lend Try.call38)); (focus exact hC.out); (focus exact ⟨Lend.agg ⟨Lend.rowE (by repeat (first | exact mm_h | apply mm_t)) f1.out (by decide) e1.out l1.out, Lend.rowE (by repeat (first | exact mm_h | apply mm_t)) f2.out (by decide) e2.out l2.out, trivial⟩, Lend.refl _, trivial⟩)) | ((with_reducible first | refine w_region ?_ ?_ | refine w_dra ?_ ?_); kernel_rfl) | ((with_reducible refine Go3.go ?_ ?_); all_goals (intro hb; (try with_reducible intro hb1); (try (exfalso; first | contradiction | omega)))) | fail)
          refine ⟨i + 1, .box gc' 3 (C1 ++ [[D.i i]].flatten ++ zC') :: .box gs' 26 (S1 ++ [[.str snm, .i sty, .b srq, .i sk, .i sn, .str ss, .sl .shared (sL.map V.cells)]].flatten ++ zS') :: .box b4 38 [.ar gs' 0 (i + 1) cS', .ar gc' 0 (i + 1) cC'] :: .box b2 38 [.sl .tight [], .sl .tight []] :: st, ?_, ⟨hlt, ?_, ?_, ?_, ?_, ?_, ?_, ⟨x.slots ++ [.mk snm sty srq (.mk sk sn ss sL)], x.cols ++ [i]⟩, ?_, ?_, HE, .inr ⟨Nat.succ_pos _, gs', cS', zS', gc', cC', zC', ?_, ?_, ?_⟩⟩, ?_⟩
          · (repeat (first | exact List.Sublist.refl _ | with_reducible apply List.Sublist.cons_cons | apply List.Sublist.cons))
          iterate 6 (focus (first | rfl | assumption | omega | (simp (disch := omega) only [push_cast, simprocAttr, *]; try omega; done)))
          · rw [List.length_append, hxs.out]; rfl
          · rw [List.length_append, hxc.out]; rfl
          · rw [g1.out]; exact hls
          · rw [g2.out]; exact hlc
          · rw [g1.out, g2.out]
          · omega
        · rw [if_neg hqc] at HE
          have hF4 : Hid (F = none) := Lib.hid (hF3.out.trans HE.symm)
          clear HE
          have hno : q = false ∨ (q = true ∧ 0 ≤ cv) := by
            cases q
            · exact .inl rfl
            · exact .inr ⟨rfl, by
                have : ¬ cv < 0 := fun h => hqc ⟨rfl, h⟩
                omega⟩
          clear hqc
          rcases hno with rfl | ⟨rfl, hcv⟩
          all_goals skip
          all_goals (
            repeat' (first | with_reducible refine Go1.go ?_ | ((with_reducible apply ev_go); (focus ((try simp (disch := omega) only [push_cast, simprocAttr, *]); (try exact rfl); done))) | ((with_reducible refine w_last ?_ ?_ ?_); kernel_rfl; rfl) | with_reducible refine Go2.go ?_ | ((with_reducible first | apply w_stepG | refine s_bi ?_ ?_ | refine blk_ne ?_ ?_); rfl) | ((with_reducible refine al_go ?_); intro b) | ((with_reducible apply (ck_le Try.call87)); exact LEL.refl _; exact hS.out _) | ((with_reducible apply (ck_lend Try.call38)); (focus exact hC.out); (focus exact ⟨Lend.agg ⟨Lend.rowE (by repeat (first | exact mm_h | apply mm_t)) f1.out (by decide) e1.out l1.out, Lend.rowE (by repeat (first | exact mm_h | apply mm_t)) f2.out (by decide) e2.out l2.out, trivial⟩, Lend.refl _, trivial⟩)) | ((with_reducible first | refine w_region ?_ ?_ | refine w_dra ?_ ?_); kernel_rfl) | ((with_reducible refine Go3.go ?_ ?_); all_goals (intro hb; (try with_reducible intro hb1); (try (exfalso; first | contradiction | omega)))) | fail)
            all_goals ((refine retG_mk (rs := []) (by first | exact .inl rfl | exact .inr rfl) (by first | rfl | assumption) (List.Perm.refl _) ⟨_, _, rfl, cell_mk (by simp (disch := omega) only [push_cast, simprocAttr, *]; exact rfl) (by repeat (first | exact mm_h | apply mm_t)) (by simp (disch := omega) only [push_cast, simprocAttr, *]; exact rfl) (by (try simp (disch := omega) only [push_cast, simprocAttr, *]); (try exact rfl); done), (by show _ = _; (try simp (disch := omega) only [push_cast, simprocAttr, *]); (try exact rfl); done)⟩ (by (repeat (first | exact List.Sublist.refl _ | apply List.Sublist.cons))) (LE.refl _) (.inl ⟨hF4.out, (by first | exact .inl rfl | exact .inr ⟨_, _, _, _, _, _, rfl⟩), rfl⟩))))
    · have HE := HT.out
      rw [List.drop_of_length_le (by omega), Sch.firstL] at HE
      clear HT
      have hil : Hid (i = slots.length) := Lib.hid (by omega)
      rcases hcase with ⟨rfl, hx0, rfl⟩ | ⟨hi0, gs, cS, zS, gc, cC, zC, hz1, hz2, rfl⟩
      · have := hil.out
        omega
      · obtain ⟨S1, hS1⟩ : ∃ S1, slotC x.slots = S1 := ⟨_, rfl⟩
        obtain ⟨C1, hC1⟩ : ∃ C1, colC x.cols = C1 := ⟨_, rfl⟩
        rw [hS1, hC1]
        generalize slots.map Sl.cells = SL at *
        replace hS1 := Lib.hid hS1
        replace hC1 := Lib.hid hC1
        replace HE := Lib.hid HE
        replace hxs := Lib.hid hxs
        replace hxc := Lib.hid hxc
        repeat' (first | with_reducible refine Go1.go ?_ | ((with_reducible apply ev_go); (focus ((try simp (disch := omega) only [push_cast, simprocAttr, *]); (try exact rfl); done))) | ((with_reducible refine w_last ?_ ?_ ?_); kernel_rfl; rfl) | with_reducible refine Go2.go ?_ | ((with_reducible first | apply w_stepG | refine s_bi ?_ ?_ | refine blk_ne ?_ ?_); rfl) | ((with_reducible refine al_go ?_); intro b) | ((with_reducible first | refine w_region ?_ ?_ | refine w_dra ?_ ?_); kernel_rfl) | ((with_reducible refine Go3.go ?_ ?_); all_goals (intro hb; (try with_reducible intro hb1); (try (exfalso; first | contradiction | omega)))) | fail)
        replace HE := HE.out
        replace hxs := hxs.out
        replace hxc := hxc.out
        all_goals ((refine retG_mk (rs := []) (s2 := .box gs 26 (S1 ++ zS) :: .box gc 3 (C1 ++ zC) :: .box b4 38 [.ar gs 0 i cS, .ar gc 0 i cC] :: .box b2 38 [.ar gs 0 i cS, .ar gc 0 i cC] :: st) (st0 := .box gs 26 (S1 ++ zS) :: .box gc 3 (C1 ++ zC) :: st) (by first | exact .inl rfl | exact .inr rfl) (by first | rfl | assumption) (.swap _ _ _) ⟨_, _, rfl, cell_mk (by simp (disch := omega) only [push_cast, simprocAttr, *]; exact rfl) (by repeat (first | exact mm_h | apply mm_t)) (by simp (disch := omega) only [push_cast, simprocAttr, *]; exact rfl) (by (try simp (disch := omega) only [push_cast, simprocAttr, *]); (try exact rfl); done), (by show _ = _; (try simp (disch := omega) only [push_cast, simprocAttr, *]); (try exact rfl); done)⟩ (((List.Sublist.refl _).cons _).cons _ |>.cons_cons _ |>.cons_cons _) (LE.refl _) (.inr ⟨x, gs, cS, zS, gc, cC, zC, by rw [hF2.out, ← HE], ⟨?_, ?_⟩, by rw [hxs, hxc], ?_⟩)); (focus exact hz1); (focus exact hz2); (focus (rw [hS1.out, hC1.out])))
end Go.Proofs.Ytooaagmhgakhgaa
end

section
namespace Go.Proofs.Ytooaagmhgakhgaa
set_option linter.unusedSimpArgs false
attribute [local push_cast] encB encI encC V.cells_mk V.cells_len Nat.mul_one Int.sub_zero List.map_nil beq_self_eq_true List.head?_cons
open Go.RowKit
set_option maxRecDepth 10000
set_option maxHeartbeats 4000000
structure TQ (t : Tm) : Prop where
  ls : t.slots.length ≤ 1000
  lt : t.steps.length ≤ 1000
  os : ∀ s ∈ t.slots, VQ s.dv ∧ (-9223372036854775808 ≤ s.types ∧ s.types ≤ 9223372036854775807)
  ot : ∀ s ∈ t.steps, VQ s.slot.dv ∧ (-9223372036854775808 ≤ s.slot.types ∧ s.slot.types ≤ 9223372036854775807) ∧ s.order.length ≤ 1000
def Sch.refVers (t : Tm) : List Vr := if 0 < Sch.last t then Sch.vers t else []
theorem Vr.cells_leaf (x : Vr) : ∀ d ∈ x.cells, d.leaf = true := by
  intro d hd
  unfold Vr.cells at hd
  simp only [List.mem_cons, List.not_mem_nil, or_false] at hd
  rcases hd with rfl | rfl <;> rfl
end Go.Proofs.Ytooaagmhgakhgaa
end

section
namespace Go.Proofs.Ytooaagmhgakhgaa
set_option linter.unusedSimpArgs false
attribute [local push_cast] encB encI encC V.cells_mk V.cells_len Nat.mul_one Int.sub_zero List.map_nil beq_self_eq_true List.head?_cons
open Go.RowKit
set_option maxRecDepth 10000
set_option maxHeartbeats 4000000
theorem schWidenF (bx gs cS gc cC : Nat) (zS zC : List D) (x : Vr) (stp : Stp) (hx : VW x) (hs : stp.Ok) (hz : VL cS zS cC zC x) (s : St) : TrF Try.prog 93 [.ptr bx 0, .agg stp.cells] (VB bx gs cS zS gc cC zC x s) (StepR Sch.widenS x stp bx s) := by
  obtain ⟨ls, lc, hcs⟩ := hx
  obtain ⟨hn, hbg, ho⟩ := hs
  obtain ⟨hz1, hz2⟩ := hz
  have hK := schColumnF x stp [] (by omega) (by omega)
  have hB := schBareF stp.slot false true hbg
  have hT := schTakesF stp.slot.types
  have hF : Hid (Sch.widenS x stp = if Sch.column x stp = true ∧ Sch.bare stp.slot false true = true ∧ Sch.takes stp.slot.types = true ∧ (x.slots[Sch.at_ x stp]?).any (fun y => bits .or .i64 y.types stp.slot.types != y.types) = true then some ⟨x.slots.modify (Sch.at_ x stp) fun y => { y with types := bits .or .i64 y.types stp.slot.types }, x.cols⟩ else none) := rfl
  have e1 := Lib.hid (slots_each x.slots)
  have e2 := Lib.hid (cols_each x.cols)
  have f1 := Lib.hid (slotC_flat x)
  have f2 := Lib.hid (colC_flat x)
  have l1 : Hid ((x.slots.map Sl.cells).length = x.slots.length) := List.length_map ..
  have l2 : Hid ((x.cols.map encC).length = x.cols.length) := List.length_map ..
  unfold StepR VL VB Stp.cells
  generalize Sch.widenS x stp = F at *
  cases hcl : Sch.column x stp with
  | false =>
    rw [hcl] at hK hF
    unfold Vr.cells Stp.cells at hK
    clear hcl
    cases stp with
    | mk kd col slot order =>
    cases slot with
    | mk nm ty rq dv =>
    cases dv with
    | mk k n sv l =>
    dsimp only at ho ⊢
    generalize slotC x.slots = R1 at *
    generalize colC x.cols = R2 at *
    generalize x.slots.map Sl.cells = L1 at *
    generalize x.cols.map encC = L2 at *
    rw [Sl.cells_mk] at *
    dsimp only [List.cons_append, List.nil_append] at hK ⊢
    generalize x.slots.length = m1 at *
    generalize x.cols.length = m2 at *
    replace hK := Lib.hid hK
    refine trF_enter (ts := [4]) Try.func93 rfl (by rw [Try.ntmps93]; exact Nat.le_of_ble_eq_true rfl) (fun tmps w => by simp [results, Try.results93, go_sem, resVal]) ?_
    simp only [Try.ntmps93]
    repeat' (first | with_reducible refine Go1.go ?_ | ((with_reducible apply ev_go); (focus ((try simp (disch := omega) only [push_cast, simprocAttr, *]); (try exact rfl); done))) | ((with_reducible refine w_last ?_ ?_ ?_); kernel_rfl; rfl) | with_reducible refine Go2.go ?_ | ((with_reducible first | apply w_stepG | refine s_bi ?_ ?_ | refine blk_ne ?_ ?_); rfl) | ((with_reducible refine al_go ?_); intro b) | ((with_reducible apply (ck_lend Try.call103)); (focus exact hK.out); (focus exact ⟨lendP (by repeat (first | exact mm_h | apply mm_t)) (by repeat (first | exact mm_h | apply mm_t)) (by repeat (first | exact mm_h | apply mm_t)) f1.out e1.out l1.out f2.out e2.out l2.out, Lend.refl _, trivial⟩)) | ((with_reducible first | refine w_region ?_ ?_ | refine w_dra ?_ ?_); kernel_rfl) | ((with_reducible refine Go3.go ?_ ?_); all_goals (intro hb; (try with_reducible intro hb1); (try (exfalso; first | contradiction | omega)))) | fail)
    all_goals ((refine retA_mk (by first | exact .inl rfl | exact .inr rfl) (by first | rfl | assumption) (by (repeat (first | exact List.Sublist.refl _ | apply List.Sublist.cons))) (LE.of_eq ?_) (.inl ⟨?_, rfl, rfl⟩)); (focus simp (disch := omega) only [push_cast, simprocAttr, *]); (focus (rw [hF.out]; refine if_neg ?_; rintro ⟨h1, h2, h3, h4⟩; (first | omega | exact Bool.noConfusion (h1.symm.trans (by assumption) : true = false) | exact Bool.noConfusion (h2.symm.trans (by assumption) : true = false) | exact Bool.noConfusion (h3.symm.trans (by assumption) : true = false) | exact Bool.noConfusion (h4.symm.trans (by assumption) : true = false) | (exact Bool.noConfusion (h1 : false = true))))))
  | true =>
    obtain ⟨hk1, hk2, hk3⟩ : 0 ≤ stp.col ∧ stp.col < x.cols.length ∧ stp.order.length = 0 := by
      unfold Sch.column at hcl
      simpa [and_assoc] using hcl
    obtain ⟨i, hi⟩ := Int.eq_ofNat_of_zero_le hk1
    have hlt : i < x.cols.length := by omega
    rw [hcl] at hK hF
    unfold Vr.cells Stp.cells at hK
    clear hcl hk1 hk2
    obtain ⟨c, hc⟩ : ∃ c, x.cols[i]? = some c := ⟨_, List.getElem?_eq_getElem hlt⟩
    have hcm : c < x.slots.length := hcs c (List.mem_of_getElem? hc)
    obtain ⟨y, hy⟩ : ∃ y, x.slots[c]? = some y := ⟨_, List.getElem?_eq_getElem hcm⟩
    have hat : Sch.at_ x stp = c := by
      unfold Sch.at_
      rw [hi, Int.toNat_natCast, List.getD_eq_getElem?_getD, hc]; rfl
    have hL2 : (x.cols.map encC)[i]? = some [D.i c] := by rw [List.getElem?_map, hc]; rfl
    have hL1 : (x.slots.map Sl.cells)[c]? = some y.cells := by rw [List.getElem?_map, hy]; rfl
    obtain ⟨t1, hld⟩ : ∃ tl, List.drop i (colC x.cols ++ zC) = D.i c :: tl := by
      obtain ⟨tl, h⟩ := row_drop (sz := 1) (o := 0) zC _ i (cols_each x.cols) hL2 (by omega)
      rw [Nat.mul_one, Nat.add_zero] at h
      exact ⟨tl, h⟩
    obtain ⟨w, hw⟩ : ∃ w, bits .or .i64 y.types stp.slot.types = w := ⟨_, rfl⟩
    obtain ⟨wb, hwb⟩ : ∃ wb, (w != y.types) = wb := ⟨_, rfl⟩
    obtain ⟨x', hx'⟩ : ∃ x' : Vr, x' = ⟨x.slots.modify (Sch.at_ x stp) fun y => { y with types := bits .or .i64 y.types stp.slot.types }, x.cols⟩ := ⟨_, rfl⟩
    rw [← hx'] at hF
    rw [hat, hy, Option.any_some, hw, hwb] at hF
    rw [hat, modify_set hy] at hx'
    rw [hw] at hx'
    have s1 : Hid (x'.slots = x.slots.set c { y with types := w }) := Lib.hid (by rw [hx'])
    have s2 : Hid (x'.cols = x.cols) := Lib.hid (by rw [hx'])
    have s3 : Hid ((x.slots.set c { y with types := w }).length = x.slots.length) := List.length_set
    have hsp : List.take (c * 7 + 1) (slotC x.slots ++ zS) ++ [D.i w] ++ List.drop (c * 7 + 1 + 1) (slotC x.slots ++ zS) = slotC (x.slots.set c { y with types := w }) ++ zS := by
      have h := row_splice (o := 1) (ds := [D.i w]) zS _ c (slots_each x.slots) hL1 (by simp)
      rw [show splice y.cells 1 [D.i w] = Sl.cells { y with types := w } from rfl, show (x.slots.map Sl.cells).set c (Sl.cells { y with types := w }) = (x.slots.set c { y with types := w }).map Sl.cells from (List.map_set ..).symm] at h
      exact h
    obtain ⟨t2, hld2⟩ : ∃ tl, List.drop (c * 7 + 1) (slotC x.slots ++ zS) = D.i y.types :: tl := by
      obtain ⟨tl, h⟩ := row_drop (sz := 7) (o := 1) zS _ c (slots_each x.slots) hL1 (by omega)
      exact ⟨_, h⟩
    obtain ⟨t3, hld3⟩ : ∃ tl, List.drop (c * 7 + 1) (slotC (x.slots.set c { y with types := w }) ++ zS) = D.i w :: tl := by
      obtain ⟨tl, h⟩ := row_drop (sz := 7) (o := 1) (e := Sl.cells { y with types := w }) zS _ c (slots_each (x.slots.set c { y with types := w })) (by rw [List.getElem?_map, List.getElem?_set_self hcm]; rfl) (by omega)
      exact ⟨_, h⟩
    have hle : c * 7 + 1 + 1 ≤ cS * 7 := by
      have := slotC_len x.slots
      rw [List.length_append] at hz1
      omega
    have hl3 : (slotC (x.slots.set c { y with types := w }) ++ zS).length = cS * 7 := by
      rw [List.length_append] at hz1 ⊢
      rw [slotC_len, List.length_set, ← slotC_len]; exact hz1
    clear hx' hat hL1 hL2 hy hc
    generalize Sch.bare stp.slot false true = q at *
    generalize Sch.takes stp.slot.types = qt at *
    generalize hRE : slotC (x.slots.set c { y with types := w }) = RE at *
    replace hRE := Lib.hid hRE
    replace hl3 := Lib.hid hl3
    generalize y.types = yt at *
    cases stp with
    | mk kd col slot order =>
    cases slot with
    | mk nm ty rq dv =>
    cases dv with
    | mk k n sv l =>
    dsimp only at hB hT ho hi hF ⊢
    subst hi
    generalize hR1 : slotC x.slots = R1 at *
    generalize hR2 : colC x.cols = R2 at *
    generalize x.slots.map Sl.cells = L1 at *
    generalize x.cols.map encC = L2 at *
    rw [Sl.cells_mk] at *
    dsimp only [List.cons_append, List.nil_append] at hK ⊢
    generalize hm1 : x.slots.length = m1 at *
    generalize hm2 : x.cols.length = m2 at *
    replace hR1 := Lib.hid hR1
    replace hR2 := Lib.hid hR2
    replace hm1 := Lib.hid hm1
    replace hm2 := Lib.hid hm2
    replace hK := Lib.hid hK
    replace hB := Lib.hid hB
    replace hT := Lib.hid hT
    cases wb
    all_goals skip
    all_goals (
      refine trF_enter (ts := [4]) Try.func93 rfl (by rw [Try.ntmps93]; exact Nat.le_of_ble_eq_true rfl) (fun tmps w => by simp [results, Try.results93, go_sem, resVal]) ?_
      simp only [Try.ntmps93]
      repeat' (first | with_reducible refine Go1.go ?_ | ((with_reducible apply ev_go); (focus ((try simp (disch := omega) only [push_cast, simprocAttr, *]); (try exact rfl); done))) | ((with_reducible refine w_draw_ne3 ?_ ?_ ?_ ?_); (iterate 3 (focus kernel_rfl)); intro hne1 hne2 hne3) | ((with_reducible refine w_last ?_ ?_ ?_); kernel_rfl; rfl) | with_reducible refine Go2.go ?_ | ((with_reducible first | apply w_stepG | refine s_bi ?_ ?_ | refine blk_ne ?_ ?_); rfl) | ((with_reducible refine al_go ?_); intro b) | ((with_reducible apply (ck_lend Try.call103)); (focus exact hK.out); (focus exact ⟨lendP (by repeat (first | exact mm_h | apply mm_t)) (by repeat (first | exact mm_h | apply mm_t)) (by repeat (first | exact mm_h | apply mm_t)) f1.out e1.out l1.out f2.out e2.out l2.out, Lend.refl _, trivial⟩)) | ((with_reducible apply (ck_le Try.call104)); exact LEL.refl _; exact hB.out _) | ((with_reducible apply (ck_le Try.call102)); exact LEL.refl _; exact hT.out _) | ((with_reducible first | refine w_region ?_ ?_ | refine w_dra ?_ ?_); kernel_rfl) | ((with_reducible refine Go3.go ?_ ?_); all_goals (intro hb; (try with_reducible intro hb1); (try (exfalso; first | contradiction | omega)))) | fail)
      all_goals first
        | ((refine retA_mk (by first | exact .inl rfl | exact .inr rfl) (by first | rfl | assumption) (by (repeat (first | exact List.Sublist.refl _ | apply List.Sublist.cons))) (LE.of_eq ?_) (.inl ⟨?_, rfl, rfl⟩)); (focus simp (disch := omega) only [push_cast, simprocAttr, *]); (focus (rw [hF.out]; refine if_neg ?_; rintro ⟨h1, h2, h3, h4⟩; (first | omega | exact Bool.noConfusion (h1.symm.trans (by assumption) : true = false) | exact Bool.noConfusion (h2.symm.trans (by assumption) : true = false) | exact Bool.noConfusion (h3.symm.trans (by assumption) : true = false) | exact Bool.noConfusion (h4.symm.trans (by assumption) : true = false) | (exact Bool.noConfusion (h1 : false = true))))))
        | ((refine retA_mk (by first | exact .inl rfl | exact .inr rfl) (by first | rfl | assumption) (by (repeat (first | exact List.Sublist.refl _ | apply List.Sublist.cons))) (LE.of_eq ?_) (.inl ⟨?_, rfl, rfl⟩)); (focus (simp (disch := omega) only [push_cast, simprocAttr, *]; done)); (focus (rw [hF.out]; refine if_neg ?_; rintro ⟨h1, h2, h3, h4⟩; exact Bool.noConfusion h4)))
        | ((refine retA_mk (by first | exact .inl rfl | exact .inr rfl) (by first | rfl | assumption) (List.Sublist.refl _) (LE.of_eq ?_) (.inr ⟨x', gs, cS, zS, gc, cC, zC, ?_, ⟨?_, ?_⟩, rfl, ?_⟩)); (focus simp (disch := omega) only [push_cast, simprocAttr, *]); (focus (rw [hF.out]; refine if_pos ⟨rfl, ?_, ?_, ?_⟩ <;> first | assumption | omega | rfl)); (focus (rw [s1.out, hRE.out]; exact hl3.out)); (focus (rw [s2.out, hR2.out]; exact hz2)); (focus (rw [s1.out, s2.out, s3.out, hRE.out, hR2.out, hm2.out]))))
end Go.Proofs.Ytooaagmhgakhgaa
end

section
namespace Go.Proofs.Ytooaagmhgakhgaa
set_option linter.unusedSimpArgs false
attribute [local push_cast] encB encI encC V.cells_mk V.cells_len Nat.mul_one Int.sub_zero List.map_nil beq_self_eq_true List.head?_cons
open Go.RowKit
set_option maxRecDepth 10000
set_option maxHeartbeats 4000000
theorem retA_perm {ts : List Tmp} {R : D → St → Prop} {ex : Exit} {A : AA} {X : D} {st st0 s2 : St} (hex : ex = .normal ∨ ex = .ret) (hdf : A.df = []) (hp : st.Perm s2) (hs : st0.Sublist s2) (hd : LE (resD ts A.e) X) (hR : R X st0) : retA ts R ex A st := by
  rcases hex with rfl | rfl <;> exact ⟨[], X, s2, st0, hdf, hp, hs, hd, hR⟩
theorem reo_drop {cols : List Nat} {order : List Int} {j : Nat} {k : Int} {out : List Nat} (h : order[j]? = some k) : Sch.reo cols (order.drop j) out = if 0 ≤ k ∧ k < cols.length ∧ cols.getD k.toNat 0 ∉ out then Sch.reo cols (order.drop (j + 1)) (out ++ [cols.getD k.toNat 0]) else none := by
  obtain ⟨h1, rfl⟩ := List.getElem?_eq_some_iff.1 h
  rw [List.drop_eq_getElem_cons h1, Sch.reo]
theorem schReorderF (bx gs cS gc cC : Nat) (zS zC : List D) (x : Vr) (stp : Stp) (hx : VW x) (hc1 : 1 ≤ x.cols.length) (hs : stp.Ok) (hz : VL cS zS cC zC x) (s : St) : TrF Try.prog 94 [.ptr bx 0, .agg stp.cells] (VB bx gs cS zS gc cC zC x s) (StepR Sch.reorderS x stp bx s) := by
  obtain ⟨ls, lc, hcs⟩ := hx
  obtain ⟨hn, hbg, ho⟩ := hs
  obtain ⟨hz1, hz2⟩ := hz
  have hB := schBareF stp.slot false false hbg
  have e2 := Lib.hid (cols_each x.cols)
  have f2 := Lib.hid (colC_flat x)
  have l2 : Hid ((x.cols.map encC).length = x.cols.length) := List.length_map ..
  have hF : Hid (Sch.reorderS x stp = if stp.col = 0 ∧ Sch.bare stp.slot false false = true ∧ stp.order.length = x.cols.length then (Sch.reo x.cols stp.order []).map fun c => ⟨x.slots, c⟩ else none) := rfl
  by_cases hno : ¬ (stp.col = 0 ∧ Sch.bare stp.slot false false = true ∧ stp.order.length = x.cols.length)
  · have hF2 : Hid (Sch.reorderS x stp = none) := Lib.hid (by rw [hF.out, if_neg hno])
    unfold StepR VL VB Stp.cells
    generalize Sch.reorderS x stp = F at *
    clear hF
    cases stp with
    | mk kd col slot order =>
    cases slot with
    | mk nm ty rq dv =>
    cases dv with
    | mk k n sv l =>
    dsimp only at hB ho hno ⊢
    generalize Sch.bare _ false false = q at *
    generalize slotC x.slots = R1 at *
    generalize colC x.cols = R2 at *
    rw [Sl.cells_mk] at *
    dsimp only [List.cons_append, List.nil_append] at ⊢
    generalize x.slots.length = m1 at *
    generalize x.cols.length = m2 at *
    replace hB := Lib.hid hB
    have hno' : col ≠ 0 ∨ (col = 0 ∧ q = false) ∨ (col = 0 ∧ q = true ∧ (order.length : Int) ≠ m2) := by
      by_cases h1 : col = 0
      · cases q
        · exact .inr (.inl ⟨h1, rfl⟩)
        · refine .inr (.inr ⟨h1, rfl, fun h => hno ⟨h1, rfl, by omega⟩⟩)
      · exact .inl h1
    clear hno
    rcases hno' with h0 | ⟨rfl, rfl⟩ | ⟨rfl, rfl, h0⟩
    all_goals skip
    all_goals (
      refine trF_enter (ts := [4]) Try.func94 rfl (by rw [Try.ntmps94]; exact Nat.le_of_ble_eq_true rfl) (fun tmps w => by simp [results, Try.results94, go_sem, resVal]) ?_
      simp only [Try.ntmps94]
      repeat' (first | with_reducible refine Go1.go ?_ | ((with_reducible apply ev_go); (focus ((try simp (disch := omega) only [push_cast, simprocAttr, *]); (try exact rfl); done))) | ((with_reducible refine w_draw [(bx, [.ar gs 0 m1 cS, .ar gc 0 m2 cC])] ?_ ?_ ?_ ?_ ?_); (iterate 3 (focus kernel_rfl)); (focus ((repeat (first | exact keep_nil | refine keep_more (by repeat (first | exact mm_h | apply mm_t)) ?_)); done))) | ((with_reducible refine And.intro ?_ ?_); (focus ((repeat (first | exact keep_nil | refine keep_more (by (repeat (first | exact mm_h | apply mm_t)); done) ?_)); done))) | ((with_reducible refine w_last ?_ ?_ ?_); kernel_rfl; rfl) | with_reducible refine Go2.go ?_ | ((with_reducible first | apply w_stepG | refine s_bi ?_ ?_ | refine blk_ne ?_ ?_); rfl) | ((with_reducible refine al_go ?_); intro b) | ((with_reducible apply (ck_le Try.call104)); exact LEL.refl _; exact hB.out _) | ((with_reducible first | refine w_region ?_ ?_ | refine w_dra ?_ ?_); kernel_rfl) | ((with_reducible refine Go3.go ?_ ?_); all_goals (intro hb; (try with_reducible intro hb1); (try (exfalso; first | contradiction | omega)))) | fail)
      all_goals ((refine retA_mk (by first | exact .inl rfl | exact .inr rfl) (by first | rfl | assumption) (by (repeat (first | exact List.Sublist.refl _ | apply List.Sublist.cons))) (LE.of_eq ?_) (.inl ⟨hF2.out, rfl, rfl⟩)); simp (disch := omega) only [push_cast, simprocAttr, *]))
  have hyes := Decidable.of_not_not hno
  obtain ⟨h1, h2, h3⟩ := hyes
  have hF2 : Hid (Sch.reorderS x stp = (Sch.reo x.cols stp.order []).map fun c => ⟨x.slots, c⟩) := Lib.hid (by rw [hF.out, if_pos ⟨h1, h2, h3⟩])
  clear hF hno
  rw [h2] at hB
  clear h2
  have hcl := colC_len x.cols
  have hle2 : x.cols.length ≤ cC := by rw [List.length_append] at hz2; omega
  have hcell : Hid (∀ (i c : Nat), x.cols[i]? = some c → ∃ tl, List.drop i (colC x.cols ++ zC) = D.i c :: tl) := fun i c hc => by
    have hL2 : (x.cols.map encC)[i]? = some [D.i c] := by rw [List.getElem?_map, hc]; rfl
    obtain ⟨tl, h⟩ := row_drop (sz := 1) (o := 0) zC _ i (cols_each x.cols) hL2 (by omega)
    rw [Nat.mul_one, Nat.add_zero] at h
    exact ⟨tl, h⟩
  unfold StepR VL VB Stp.cells
  generalize Sch.reorderS x stp = F at *
  cases stp with
  | mk kd col slot order =>
  cases slot with
  | mk nm ty rq dv =>
  cases dv with
  | mk k n sv l =>
  dsimp only at hB ho h1 h3 hF2 ⊢
  subst h1
  rw [Sl.cells_mk] at *
  dsimp only [List.cons_append, List.nil_append] at ⊢
  obtain ⟨R1, hR1⟩ : ∃ R1, slotC x.slots = R1 := ⟨_, rfl⟩
  obtain ⟨R2, hR2⟩ : ∃ R2, colC x.cols = R2 := ⟨_, rfl⟩
  obtain ⟨m1, hm1⟩ : ∃ m1, x.slots.length = m1 := ⟨_, rfl⟩
  obtain ⟨m2, hm2⟩ : ∃ m2, x.cols.length = m2 := ⟨_, rfl⟩
  simp only [hR1, hR2, hm1, hm2] at hz1 hz2 hcl hle2 h3 hc1 hcell lc ls ⊢
  replace hR1 := Lib.hid hR1
  replace hR2 := Lib.hid hR2
  replace hm1 := Lib.hid hm1
  replace hm2 := Lib.hid hm2
  replace hB := Lib.hid hB
  obtain ⟨B, hBr⟩ : ∃ B, Sch.reo x.cols order [] = B := ⟨_, rfl⟩
  have HB : Hid (Sch.reo x.cols (order.drop 0) [] = B) := hBr
  rw [hBr] at hF2
  clear hBr
  refine trF_enter (ts := [4]) Try.func94 rfl (by rw [Try.ntmps94]; exact Nat.le_of_ble_eq_true rfl) (fun tmps w => by simp [results, Try.results94, go_sem, resVal]) ?_
  simp only [Try.ntmps94]
  repeat' (first | with_reducible refine Go1.go ?_ | ((with_reducible apply ev_go); (focus ((try simp (disch := omega) only [push_cast, simprocAttr, *]); (try exact rfl); done))) | ((with_reducible refine w_draw [(bx, [.ar gs 0 m1 cS, .ar gc 0 m2 cC])] ?_ ?_ ?_ ?_ ?_); (iterate 3 (focus kernel_rfl)); (focus ((repeat (first | exact keep_nil | refine keep_more (by repeat (first | exact mm_h | apply mm_t)) ?_)); done))) | ((with_reducible refine And.intro ?_ ?_); (focus ((repeat (first | exact keep_nil | refine keep_more (by (repeat (first | exact mm_h | apply mm_t)); done) ?_)); done))) | ((with_reducible refine w_last ?_ ?_ ?_); kernel_rfl; rfl) | with_reducible refine Go2.go ?_ | ((with_reducible first | apply w_stepG | refine s_bi ?_ ?_ | refine blk_ne ?_ ?_); rfl) | ((with_reducible refine al_go ?_); intro b) | ((with_reducible apply (ck_le Try.call104)); exact LEL.refl _; exact hB.out _) | ((with_reducible first | refine w_region ?_ ?_ | refine w_dra ?_ ?_); kernel_rfl) | ((with_reducible refine Go3.go ?_ ?_); all_goals (intro hb; (try with_reducible intro hb1); (try (exfalso; first | contradiction | omega)))) | fail)
  refine tr_loopd (ι := Nat) (fun j A st' => j ≤ order.length ∧ A.df = [] ∧ A.e 0 = .ptr bx 0 ∧ A.e 29 = .sl .shared (order.map encI) ∧ A.e 30 = .i order.length ∧ A.e 31 = .i j ∧ ∃ out : List Nat, out.length = j ∧ Hid (Sch.reo x.cols (order.drop j) out = B) ∧ ((j = 0 ∧ A.e 5 = .sl .tight [] ∧ st' = .box bx 38 [.ar gs 0 m1 cS, .ar gc 0 m2 cC] :: .box gs 26 (R1 ++ zS) :: .box gc 3 (R2 ++ zC) :: s) ∨
    (0 < j ∧ ∃ go co zo, A.e 5 = .ar go 0 j co ∧ (colC out ++ zo).length = co * 1 ∧ st' = .box go 3 (colC out ++ zo) :: .box bx 38 [.ar gs 0 m1 cS, .ar gc 0 m2 cC] :: .box gs 26 (R1 ++ zS) :: .box gc 3 (R2 ++ zC) :: s))) (fun j => order.length - j) 0 ⟨Nat.zero_le _, by (first | rfl | assumption | omega | (simp (disch := omega) only [push_cast, simprocAttr, *]; try omega; done)), by (first | rfl | assumption | omega | (simp (disch := omega) only [push_cast, simprocAttr, *]; try omega; done)), by (first | rfl | assumption | omega | (simp (disch := omega) only [push_cast, simprocAttr, *]; try omega; done)), by (first | rfl | assumption | omega | (simp (disch := omega) only [push_cast, simprocAttr, *]; try omega; done)), by (first | rfl | assumption | omega | (simp (disch := omega) only [push_cast, simprocAttr, *]; try omega; done)), [], rfl, HB, .inl ⟨rfl, by (first | rfl | assumption | omega | (simp (disch := omega) only [push_cast, simprocAttr, *]; try omega; done)), rfl⟩⟩ ?_
  rintro j A st' ⟨hj, hdf, e0, e29, e30, e31, out, hol, HT, hcase⟩
  clear HB
  by_cases hlt : j < order.length
  · obtain ⟨k, hk⟩ : ∃ k, order[j]? = some k := ⟨_, List.getElem?_eq_getElem hlt⟩
    have HE := HT.out
    rw [reo_drop hk, hm2.out] at HE
    clear HT
    by_cases hkr : 0 ≤ k ∧ k < (m2 : Int)
    · obtain ⟨hk0, hk1⟩ := hkr
      obtain ⟨kn, rfl⟩ := Int.eq_ofNat_of_zero_le hk0
      obtain ⟨c, hc⟩ : ∃ c, x.cols[kn]? = some c := ⟨_, List.getElem?_eq_getElem (by rw [hm2.out]; omega)⟩
      obtain ⟨t1, hld⟩ := hcell.out kn c hc
      have hgd : x.cols.getD kn 0 = c := by rw [List.getD_eq_getElem?_getD, hc]; rfl
      rw [Int.toNat_natCast, hgd] at HE
      have hCt := containsF .shared out c []
      have f3 : Hid ((out.map encC).flatten = colC out) := rfl
      have e3 := Lib.hid (cols_each out)
      have l3 : Hid ((out.map encC).length = j) := Lib.hid (by rw [List.length_map, hol])
      have g3 := Lib.hid (colC_add out c)
      have hro : (colC out).length = j * 1 := by rw [colC_len, hol]
      clear hgd hc
      by_cases hmem : c ∈ out
      · rw [if_neg (fun h => h.2.2 hmem)] at HE
        replace HE := Lib.hid HE
        rw [decide_eq_true hmem] at hCt
        replace hCt := Lib.hid hCt
        rcases hcase with ⟨rfl, e5, rfl⟩ | ⟨hj0, go, co, zo, e5, hlo, rfl⟩
        · rw [List.eq_nil_of_length_eq_zero hol] at hmem; cases hmem
        · generalize colC out = Ro at *
          generalize out.map encC = Lo at *
          repeat' (first | with_reducible refine Go1.go ?_ | ((with_reducible apply ev_go); (focus ((try simp (disch := omega) only [push_cast, simprocAttr, *]); (try exact rfl); done))) | ((with_reducible refine w_last ?_ ?_ ?_); kernel_rfl; rfl) | with_reducible refine Go2.go ?_ | ((with_reducible first | apply w_stepG | refine s_bi ?_ ?_ | refine blk_ne ?_ ?_); rfl) | ((with_reducible refine al_go ?_); intro b) | ((with_reducible apply (ck_lend Try.call106)); (focus exact hCt.out); (focus exact ⟨Lend.rowE (by repeat (first | exact mm_h | apply mm_t)) f3.out (by decide) e3.out l3.out, Lend.refl _, trivial⟩)) | ((with_reducible first | refine w_region ?_ ?_ | refine w_dra ?_ ?_); kernel_rfl) | ((with_reducible refine Go3.go ?_ ?_); all_goals (intro hb; (try with_reducible intro hb1); (try (exfalso; first | contradiction | omega)))) | fail)
          all_goals ((refine retA_mk (by first | exact .inl rfl | exact .inr rfl) (by first | rfl | assumption) (by (repeat (first | exact List.Sublist.refl _ | apply List.Sublist.cons))) (LE.of_eq ?_) (.inl ⟨by rw [hF2.out, ← HE.out]; rfl, rfl, rfl⟩)); simp (disch := omega) only [push_cast, simprocAttr, *])
      · rw [if_pos ⟨hk0, hk1, hmem⟩] at HE
        replace HE := Lib.hid HE
        rw [decide_eq_false hmem] at hCt
        replace hCt := Lib.hid hCt
        rcases hcase with ⟨rfl, e5, rfl⟩ | ⟨hj0, go, co, zo, e5, hlo, rfl⟩
        · have hno := List.eq_nil_of_length_eq_zero hol
          subst hno
          rw [List.map_nil] at hCt
          repeat' (first | with_reducible refine Go1.go ?_ | ((with_reducible apply ev_go); (focus ((try simp (disch := omega) only [push_cast, simprocAttr, *]); (try exact rfl); done))) | with_reducible refine s_appN ?_ | with_reducible refine rn_go ?_ | ((with_reducible apply rn2_go); (focus (simp only [List.length_cons, List.length_nil]; omega)); (focus exact len_one rfl); (focus (simp only [List.length_cons, List.length_nil]; omega)); (focus (simp only [List.length_cons, List.length_nil]; omega)); intro go' co' zo' hco hlo') | ((with_reducible refine w_last ?_ ?_ ?_); kernel_rfl; rfl) | with_reducible refine Go2.go ?_ | ((with_reducible first | apply w_stepG | refine s_bi ?_ ?_ | refine blk_ne ?_ ?_); rfl) | ((with_reducible refine al_go ?_); intro b) | ((with_reducible apply (ck_lend Try.call106)); (focus exact hCt.out); (focus exact ⟨Lend.sl _ _, Lend.refl _, trivial⟩)) | ((with_reducible first | refine w_region ?_ ?_ | refine w_dra ?_ ?_); kernel_rfl) | ((with_reducible refine Go3.go ?_ ?_); all_goals (intro hb; (try with_reducible intro hb1); (try (exfalso; first | contradiction | omega)))) | fail)
          refine ⟨1, .box go' 3 ([[.i c]].flatten ++ zo') :: .box bx 38 [.ar gs 0 m1 cS, .ar gc 0 m2 cC] :: .box gs 26 (R1 ++ zS) :: .box gc 3 (R2 ++ zC) :: s, (by (repeat (first | exact List.Sublist.refl _ | apply List.Sublist.cons))), ⟨hlt, ?_, ?_, ?_, ?_, ?_, [c], rfl, HE, .inr ⟨Nat.zero_lt_one, go', co', zo', ?_, ?_, ?_⟩⟩, ?_⟩
          · (first | rfl | assumption | omega | (simp (disch := omega) only [push_cast, simprocAttr, *]; try omega; done))
          · (first | rfl | assumption | omega | (simp (disch := omega) only [push_cast, simprocAttr, *]; try omega; done))
          · (first | rfl | assumption | omega | (simp (disch := omega) only [push_cast, simprocAttr, *]; try omega; done))
          · (first | rfl | assumption | omega | (simp (disch := omega) only [push_cast, simprocAttr, *]; try omega; done))
          · (first | rfl | assumption | omega | (simp (disch := omega) only [push_cast, simprocAttr, *]; try omega; done))
          · (first | rfl | assumption | omega | (simp (disch := omega) only [push_cast, simprocAttr, *]; try omega; done))
          · exact hlo'
          · rfl
          · omega
        · generalize colC out = Ro at *
          generalize out.map encC = Lo at *
          repeat' (first | with_reducible refine Go1.go ?_ | ((with_reducible apply ev_go); (focus ((try simp (disch := omega) only [push_cast, simprocAttr, *]); (try exact rfl); done))) | with_reducible refine s_appR ?_ | with_reducible refine rk_go ?_ | ((with_reducible apply (r2_go hro hlo)); (focus (intro g' cs'; repeat (first | exact ra_h | apply ra_t))); (focus exact len_one rfl); (focus (simp only [List.length_cons, List.length_nil]; omega)); (focus (simp only [List.length_cons, List.length_nil]; omega)); intro go' co' zo' hco hlo') | ((with_reducible refine w_last ?_ ?_ ?_); kernel_rfl; rfl) | with_reducible refine Go2.go ?_ | ((with_reducible first | apply w_stepG | refine s_bi ?_ ?_ | refine blk_ne ?_ ?_); rfl) | ((with_reducible refine al_go ?_); intro b) | ((with_reducible apply (ck_lend Try.call106)); (focus exact hCt.out); (focus exact ⟨Lend.rowE (by repeat (first | exact mm_h | apply mm_t)) f3.out (by decide) e3.out l3.out, Lend.refl _, trivial⟩)) | ((with_reducible first | refine w_region ?_ ?_ | refine w_dra ?_ ?_); kernel_rfl) | ((with_reducible refine Go3.go ?_ ?_); all_goals (intro hb; (try with_reducible intro hb1); (try (exfalso; first | contradiction | omega)))) | fail)
          refine ⟨j + 1, .box go' 3 (Ro ++ [[.i c]].flatten ++ zo') :: .box bx 38 [.ar gs 0 m1 cS, .ar gc 0 m2 cC] :: .box gs 26 (R1 ++ zS) :: .box gc 3 (R2 ++ zC) :: s, (by (repeat (first | exact List.Sublist.refl _ | apply List.Sublist.cons))), ⟨hlt, ?_, ?_, ?_, ?_, ?_, out ++ [c], by rw [List.length_append, hol]; rfl, HE, .inr ⟨Nat.succ_pos _, go', co', zo', ?_, ?_, ?_⟩⟩, ?_⟩
          · (first | rfl | assumption | omega | (simp (disch := omega) only [push_cast, simprocAttr, *]; try omega; done))
          · (first | rfl | assumption | omega | (simp (disch := omega) only [push_cast, simprocAttr, *]; try omega; done))
          · (first | rfl | assumption | omega | (simp (disch := omega) only [push_cast, simprocAttr, *]; try omega; done))
          · (first | rfl | assumption | omega | (simp (disch := omega) only [push_cast, simprocAttr, *]; try omega; done))
          · (first | rfl | assumption | omega | (simp (disch := omega) only [push_cast, simprocAttr, *]; try omega; done))
          · (first | rfl | assumption | omega | (simp (disch := omega) only [push_cast, simprocAttr, *]; try omega; done))
          · rw [g3.out]; exact hlo'
          · rw [g3.out]
          · omega
    · rw [if_neg (fun h => hkr ⟨h.1, h.2.1⟩)] at HE
      replace HE := Lib.hid HE
      have hkr' : k < 0 ∨ (0 ≤ k ∧ (m2 : Int) ≤ k) := by omega
      clear hkr
      rcases hkr' with hk0 | ⟨hk0, hk1⟩ <;> rcases hcase with ⟨rfl, e5, rfl⟩ | ⟨hj0, go, co, zo, e5, hlo, rfl⟩
      all_goals skip
      all_goals (
        repeat' (first | with_reducible refine Go1.go ?_ | ((with_reducible apply ev_go); (focus ((try simp (disch := omega) only [push_cast, simprocAttr, *]); (try exact rfl); done))) | ((with_reducible refine w_last ?_ ?_ ?_); kernel_rfl; rfl) | with_reducible refine Go2.go ?_ | ((with_reducible first | apply w_stepG | refine s_bi ?_ ?_ | refine blk_ne ?_ ?_); rfl) | ((with_reducible refine al_go ?_); intro b) | ((with_reducible first | refine w_region ?_ ?_ | refine w_dra ?_ ?_); kernel_rfl) | ((with_reducible refine Go3.go ?_ ?_); all_goals (intro hb; (try with_reducible intro hb1); (try (exfalso; first | contradiction | omega)))) | fail)
        all_goals ((refine retA_mk (by first | exact .inl rfl | exact .inr rfl) (by first | rfl | assumption) (by (repeat (first | exact List.Sublist.refl _ | apply List.Sublist.cons))) (LE.of_eq ?_) (.inl ⟨by rw [hF2.out, ← HE.out]; rfl, rfl, rfl⟩)); simp (disch := omega) only [push_cast, simprocAttr, *]))
  · have HE := HT.out
    rw [List.drop_of_length_le (by omega), Sch.reo] at HE
    have hjm : j = m2 := by omega
    subst hjm
    rcases hcase with ⟨rfl, e5, rfl⟩ | ⟨hj0, go, co, zo, e5, hlo, rfl⟩
    · omega
    · have hco : Hid (colC out = colC out) := rfl
      generalize hRo : colC out = Ro at *
      replace hRo := Lib.hid hRo
      replace HE := Lib.hid HE
      clear HT
      repeat' (first | with_reducible refine Go1.go ?_ | ((with_reducible apply ev_go); (focus ((try simp (disch := omega) only [push_cast, simprocAttr, *]); (try exact rfl); done))) | ((with_reducible refine w_last ?_ ?_ ?_); kernel_rfl; rfl) | with_reducible refine Go2.go ?_ | ((with_reducible first | apply w_stepG | refine s_bi ?_ ?_ | refine blk_ne ?_ ?_); rfl) | ((with_reducible refine al_go ?_); intro b) | ((with_reducible first | refine w_region ?_ ?_ | refine w_dra ?_ ?_); kernel_rfl) | ((with_reducible refine Go3.go ?_ ?_); all_goals (intro hb; (try with_reducible intro hb1); (try (exfalso; first | contradiction | omega)))) | fail)
      all_goals ((refine retA_perm (s2 := .box bx 38 [.ar gs 0 m1 cS, .ar go 0 j co] :: .box gs 26 (R1 ++ zS) :: .box go 3 (Ro ++ zo) :: .box gc 3 (R2 ++ zC) :: s) (st0 := .box bx 38 [.ar gs 0 m1 cS, .ar go 0 j co] :: .box gs 26 (R1 ++ zS) :: .box go 3 (Ro ++ zo) :: s) (by first | exact .inl rfl | exact .inr rfl) (by first | rfl | assumption) ?_ (((List.sublist_cons_self _ _).cons₂ _).cons₂ _ |>.cons₂ _) (LE.of_eq ?_) (.inr ⟨⟨x.slots, out⟩, gs, cS, zS, go, co, zo, ?_, ⟨?_, ?_⟩, rfl, ?_⟩)); (focus exact (List.Perm.swap _ _ _).trans (.cons _ (.swap _ _ _))); (focus simp (disch := omega) only [push_cast, simprocAttr, *]); (focus (rw [hF2.out, ← HE.out]; rfl)); (focus (rw [hR1.out]; exact hz1)); (focus (rw [hRo.out]; exact hlo)); (focus (rw [hR1.out, hRo.out, hm1.out, hol])))
end Go.Proofs.Ytooaagmhgakhgaa
end

section
namespace Go.Proofs.Ytooaagmhgakhgaa
set_option linter.unusedSimpArgs false
attribute [local push_cast] encB encI encC V.cells_mk V.cells_len Nat.mul_one Int.sub_zero List.map_nil beq_self_eq_true List.head?_cons
open Go.RowKit
set_option maxRecDepth 10000
set_option maxHeartbeats 4000000
theorem schCopiedF (gs cS gc cC : Nat) (zS zC : List D) (x : Vr) (h1 : x.slots ≠ []) (h2 : x.cols ≠ []) (hx : VW x) (st : St) (m1 : Res.box gs 26 (slotC x.slots ++ zS) ∈ st) (m2 : Res.box gc 3 (colC x.cols ++ zC) ∈ st) : TrF Try.prog 72 [.agg [.ar gs 0 x.slots.length cS, .ar gc 0 x.cols.length cC]] st fun d st' => d = .agg x.cells ∧ st' = st := by
  have hA := Lib.hid fun b cs => cloneSF gs cS x.slots zS h1 (by have := hx.ls; omega) (.box b 38 cs :: st) (List.mem_cons_of_mem _ m1)
  have hB := Lib.hid fun b cs => cloneIF gc cC x.cols zC h2 (by have := hx.lc; omega) (.box b 38 cs :: st) (List.mem_cons_of_mem _ m2)
  unfold Vr.cells
  refine trF_enterC (G := cellA 2 38 Try.prog) Try.func72 rfl (by rw [Try.ntmps72]; exact Nat.le_of_ble_eq_true rfl) (fun h1 h2 h3 => res_cell rfl h1 h2 h3) ?_
  simp only [Try.ntmps72]
  repeat' (first | with_reducible refine Go1.go ?_ | ((with_reducible apply ev_go); (focus ((try simp (disch := omega) only [push_cast, simprocAttr, *]); (try exact rfl); done))) | ((with_reducible refine w_last ?_ ?_ ?_); kernel_rfl; rfl) | with_reducible refine Go2.go ?_ | ((with_reducible first | apply w_stepG | refine s_bi ?_ ?_ | refine blk_ne ?_ ?_); rfl) | ((with_reducible refine al_go ?_); intro b) | ((with_reducible apply (ck_le Try.call88)); exact LEL.refl _; exact hA.out _ _) | ((with_reducible apply (ck_le Try.call89)); exact LEL.refl _; exact hB.out _ _) | ((with_reducible first | refine w_region ?_ ?_ | refine w_dra ?_ ?_); kernel_rfl) | ((with_reducible refine Go3.go ?_ ?_); all_goals (intro hb; (try with_reducible intro hb1); (try (exfalso; first | contradiction | omega)))) | fail)
  all_goals (refine retC_cell (by simp) (by first | rfl | assumption) (by simp (disch := omega) only [push_cast, simprocAttr, *]; exact rfl) (by repeat (first | exact mm_h | apply mm_t)) (by simp (disch := omega) only [push_cast, simprocAttr, *]; exact rfl) (by (try simp (disch := omega) only [push_cast, simprocAttr, *]); (try exact rfl); done) (by (repeat (first | exact List.Sublist.refl _ | apply List.Sublist.cons))) ?_ ⟨rfl, rfl⟩; (try simp (disch := omega) only [push_cast, simprocAttr, *]); try (first | exact LE.refl _ | exact LE.sl _ _ | ((first | refine LE.tup ?_ | refine LE.agg ?_); (repeat' (first | exact LEL.nil | refine LEL.cons ?_ ?_ | exact LE.refl _ | exact LE.sl _ _ | refine LE.agg ?_)); done) | refine LE.of_eq ?_))
theorem schDoersF (st : St) : TrF Try.prog 73 [] st fun d st' => d = .agg [.s .nilFunc, .fn (.func 90) [] [], .fn (.func 91) [] [], .fn (.func 92) [] [], .fn (.func 93) [] [], .fn (.func 94) [] []] ∧ st' = st := by
  refine trF_enterC (G := cellA 0 97 Try.prog) Try.func73 rfl (by rw [Try.ntmps73]; exact Nat.le_of_ble_eq_true rfl) (fun h1 h2 h3 => res_cell rfl h1 h2 h3) ?_
  simp only [Try.ntmps73]
  repeat' (first | with_reducible refine Go1.go ?_ | ((with_reducible apply ev_go); (focus ((try simp (disch := omega) only [push_cast, simprocAttr, *]); (try exact rfl); done))) | ((with_reducible refine w_last ?_ ?_ ?_); kernel_rfl; rfl) | with_reducible refine Go2.go ?_ | ((with_reducible first | apply w_stepG | refine s_bi ?_ ?_ | refine blk_ne ?_ ?_); rfl) | ((with_reducible refine al_go ?_); intro b) | ((with_reducible first | refine w_region ?_ ?_ | refine w_dra ?_ ?_); kernel_rfl) | ((with_reducible refine Go3.go ?_ ?_); all_goals (intro hb; (try with_reducible intro hb1); (try (exfalso; first | contradiction | omega)))) | fail)
  all_goals (refine retC_cell (by simp) (by first | rfl | assumption) (by simp (disch := omega) only [push_cast, simprocAttr, *]; exact rfl) (by repeat (first | exact mm_h | apply mm_t)) (by simp (disch := omega) only [push_cast, simprocAttr, *]; exact rfl) (by (try simp (disch := omega) only [push_cast, simprocAttr, *]); (try exact rfl); done) (by (repeat (first | exact List.Sublist.refl _ | apply List.Sublist.cons))) ?_ ⟨rfl, rfl⟩; (try simp (disch := omega) only [push_cast, simprocAttr, *]); try (first | exact LE.refl _ | exact LE.sl _ _ | ((first | refine LE.tup ?_ | refine LE.agg ?_); (repeat' (first | exact LEL.nil | refine LEL.cons ?_ ?_ | exact LE.refl _ | exact LE.sl _ _ | refine LE.agg ?_)); done) | refine LE.of_eq ?_))
end Go.Proofs.Ytooaagmhgakhgaa
end

section
namespace Go.Proofs.Ytooaagmhgakhgaa
set_option linter.unusedSimpArgs false
attribute [local push_cast] encB encI encC V.cells_mk V.cells_len Nat.mul_one Int.sub_zero List.map_nil beq_self_eq_true List.head?_cons
open Go.RowKit
set_option maxRecDepth 10000
set_option maxHeartbeats 4000000
def doTab : List D := [.s .nilFunc, .fn (.func 90) [] [], .fn (.func 91) [] [], .fn (.func 92) [] [], .fn (.func 93) [] [], .fn (.func 94) [] []]
theorem stepR_of {F G : Vr → Stp → Option Vr} {x : Vr} {stp : Stp} {bx : Nat} {s : St} (h : F x stp = G x stp) : StepR F x stp bx s = StepR G x stp bx s := by
  unfold StepR; rw [h]
theorem doTabF (x : Vr) (stp : Stp) (hx : VW x) (hc1 : 1 ≤ x.cols.length) (hs : stp.Ok) (hk : 1 ≤ stp.kind ∧ stp.kind ≤ 5) : ∃ (n : Nat) (f : FuncId), stp.kind = n ∧ n ≤ 5 ∧ (∃ tl, doTab.drop n = .fn (.func f) [] [] :: tl) ∧ (∀ args w, (callFunc f args).run Try.prog w = .ok (.enter f args) w) ∧
    ∀ (bx gs cS gc cC : Nat) (zS zC : List D), VL cS zS cC zC x → ∀ s, TrF Try.prog f [.ptr bx 0, .agg stp.cells] (VB bx gs cS zS gc cC zC x s) (StepR Sch.stepV x stp bx s) := by
  have hk' : stp.kind = 1 ∨ stp.kind = 2 ∨ stp.kind = 3 ∨ stp.kind = 4 ∨ stp.kind = 5 := by omega
  rcases hk' with h | h | h | h | h
  · exact ⟨1, _, h, by decide, ⟨_, rfl⟩, Try.call90, fun bx gs cS gc cC zS zC hz s => stepR_of (G := Sch.stepV) (by unfold Sch.stepV; rw [if_pos h]) ▸ schAddF bx gs cS gc cC zS zC x stp hx hs hz s⟩
  · exact ⟨2, _, h, by decide, ⟨_, rfl⟩, Try.call91, fun bx gs cS gc cC zS zC hz s => stepR_of (G := Sch.stepV) (by unfold Sch.stepV; rw [if_neg (show ¬ stp.kind = 1 by omega), if_pos h]) ▸ schLoseF bx gs cS gc cC zS zC x stp hx hs hz s⟩
  · exact ⟨3, _, h, by decide, ⟨_, rfl⟩, Try.call92, fun bx gs cS gc cC zS zC hz s => stepR_of (G := Sch.stepV) (by unfold Sch.stepV; rw [if_neg (show ¬ stp.kind = 1 by omega), if_neg (show ¬ stp.kind = 2 by omega), if_pos h]) ▸ schRenameF bx gs cS gc cC zS zC x stp hx hs hz s⟩
  · exact ⟨4, _, h, by decide, ⟨_, rfl⟩, Try.call93, fun bx gs cS gc cC zS zC hz s => stepR_of (G := Sch.stepV) (by unfold Sch.stepV; rw [if_neg (show ¬ stp.kind = 1 by omega), if_neg (show ¬ stp.kind = 2 by omega), if_neg (show ¬ stp.kind = 3 by omega), if_pos h]) ▸ schWidenF bx gs cS gc cC zS zC x stp hx hs hz s⟩
  · exact ⟨5, _, h, by decide, ⟨_, rfl⟩, Try.call94, fun bx gs cS gc cC zS zC hz s => stepR_of (G := Sch.stepV) (by unfold Sch.stepV; rw [if_neg (show ¬ stp.kind = 1 by omega), if_neg (show ¬ stp.kind = 2 by omega), if_neg (show ¬ stp.kind = 3 by omega), if_neg (show ¬ stp.kind = 4 by omega), if_pos h]) ▸ schReorderF bx gs cS gc cC zS zC x stp hx hc1 hs hz s⟩
theorem firstR_ex (t : Tm) (st : St) : ∃ d st', FirstR t st d st' := by
  unfold FirstR
  cases h : Sch.firstV t with
  | none => exact ⟨_, _, .inl ⟨rfl, .inl rfl, rfl⟩⟩
  | some x => exact ⟨_, _, .inr ⟨x, 0, x.slots.length, [], 0, x.cols.length, [], rfl, ⟨by rw [List.append_nil, slotC_len], by rw [List.append_nil, colC_len]⟩, rfl, rfl⟩⟩
theorem stepR_ex (x : Vr) (stp : Stp) (bx : Nat) (s : St) : ∃ d st', StepR Sch.stepV x stp bx s d st' := by
  unfold StepR
  cases h : Sch.stepV x stp with
  | none => exact ⟨_, _, .inl ⟨rfl, rfl, rfl⟩⟩
  | some y => exact ⟨_, _, .inr ⟨y, 0, y.slots.length, [], 0, y.cols.length, [], rfl, ⟨by rw [List.append_nil, slotC_len], by rw [List.append_nil, colC_len]⟩, rfl, rfl⟩⟩
def verD (p : Vr × Nat) : List D := [.i p.2, .agg p.1.cells]
theorem versF (t : Tm) (st : St) : TrF Try.prog 45 [.agg t.cells] st fun d st' => ∃ tb, d = .fn (.func 70) [] [.ptr tb 0] ∧ st' = .box tb 33 t.cells :: st := by
  unfold Tm.cells
  generalize t.slots.map Sl.cells = SL
  generalize t.steps.map Stp.cells = TL
  refine trF_enter (ts := [2]) Try.func45 rfl (by rw [Try.ntmps45]; exact Nat.le_of_ble_eq_true rfl) (fun tmps w => by simp [results, Try.results45, go_sem, resVal]) ?_
  simp only [Try.ntmps45]
  repeat' (first | with_reducible refine Go1.go ?_ | ((with_reducible apply ev_go); (focus ((try simp (disch := omega) only [push_cast, simprocAttr, *]); (try exact rfl); done))) | with_reducible refine s_boxP ?_ | ((with_reducible refine w_last ?_ ?_ ?_); kernel_rfl; rfl) | with_reducible refine Go2.go ?_ | ((with_reducible first | apply w_stepG | refine s_bi ?_ ?_ | refine blk_ne ?_ ?_); rfl) | ((with_reducible refine al_go ?_); intro b) | ((with_reducible first | refine w_region ?_ ?_ | refine w_dra ?_ ?_); kernel_rfl) | ((with_reducible refine Go3.go ?_ ?_); all_goals (intro hb; (try with_reducible intro hb1); (try (exfalso; first | contradiction | omega)))) | fail)
  all_goals exact retA_mk (by first | exact .inl rfl | exact .inr rfl) rfl (by (repeat (first | exact List.Sublist.refl _ | apply List.Sublist.cons))) (LE.of_eq (by (try simp (disch := omega) only [push_cast, simprocAttr, *]); (try exact rfl); done)) ⟨_, rfl, rfl⟩
theorem versIter (tb : Nat) (t : Tm) (ht : TOk t) : IterC Try.prog 70 [.ptr tb 0] verD ((Sch.vers t).zipIdx 1) [.box tb 33 t.cells] (fun K => K = [.box tb 33 t.cells]) (fun _ K => K = [.box tb 33 t.cells]) := by
  intro l C J Jx hY hJ
  have HY := Lib.hid hY
  have HJ := Lib.hid hJ
  clear hY hJ
  have hFi := Lib.hid (schFirstF t ht.os ht.ls ht.lt)
  have hot := Lib.hid ht.ot
  have hcells : Hid (t.cells = [.str t.name, .sl .shared (t.slots.map Sl.cells), .sl .shared (t.steps.map Stp.cells)]) := rfl
  obtain ⟨Vs, hVs⟩ : ∃ Vs, Sch.vers t = Vs := ⟨_, rfl⟩
  have hV : Hid (Vs = match Sch.firstV t with | none => [] | some x => x :: Sch.versL x t.steps) := hVs.symm
  have hvi : Hid (∀ y ∈ Vs, Sch.VI 16 y) := Lib.hid (by rw [← hVs]; exact fun y => Sch.vers_vi)
  rw [hVs] at HY ⊢
  clear hVs
  have hLl : (Vs.zipIdx 1).length = Vs.length := List.length_zipIdx
  have hget : Hid (∀ i x, Vs[i]? = some x → (Vs.zipIdx 1)[i]? = some (x, 1 + i)) := fun i x h => by rw [List.getElem?_zipIdx, h]; rfl
  generalize Vs.zipIdx 1 = L at *
  unfold FirstR at hFi
  have hex := Lib.hid (firstR_ex t)
  unfold FirstR at hex
  generalize hTC : t.cells = TC at *
  have hTC2 := hcells.out
  subst hTC2
  generalize t.slots.map Sl.cells = SL at *
  generalize hSt : t.steps.map Stp.cells = TL at *
  replace hSt := Lib.hid hSt
  replace hTC := Lib.hid hTC
  refine trF_enter (ts := []) Try.func70 rfl (by rw [Try.ntmps70]; exact Nat.le_of_ble_eq_true rfl) (fun tmps w => by simp [results, Try.results70, go_sem, resVal]) ?_
  simp only [Try.ntmps70]
  refine tr_perm (st' := .box tb 33 [.str t.name, .sl .shared SL, .sl .shared TL] :: C) (.refl _) ?_
  repeat' (first | with_reducible refine Go1.go ?_ | ((with_reducible apply ev_go); (focus ((try simp (disch := omega) only [push_cast, simprocAttr, *]); (try exact rfl); done))) | ((with_reducible refine w_last ?_ ?_ ?_); kernel_rfl; rfl) | with_reducible refine Go2.go ?_ | ((with_reducible first | apply w_stepG | refine s_bi ?_ ?_ | refine blk_ne ?_ ?_); rfl) | ((with_reducible refine al_go ?_); intro b) | ((with_reducible apply (ck_gen Try.call71)); (focus exact List.Perm.refl _); (focus exact hFi.out _); (focus exact LEL.refl _); (focus exact hex.out _); (rintro d st' (⟨hn, rfl | ⟨gs, n1, cS, gc, n2, cC, rfl⟩, rfl⟩ | ⟨x, gs, cS, zS, gc, cC, zC, hx, hz, rfl, rfl⟩))) | ((with_reducible first | refine w_region ?_ ?_ | refine w_dra ?_ ?_); kernel_rfl) | ((with_reducible refine Go3.go ?_ ?_); all_goals (intro hb; (try with_reducible intro hb1); (try (exfalso; first | contradiction | omega)))) | fail)
  · have hL0 : L.length = 0 := by rw [hLl, hV.out, hn]; rfl
    exact retA_mk (by first | exact .inl rfl | exact .inr rfl) rfl (by (repeat (first | exact List.Sublist.refl _ | apply List.Sublist.cons))) (LE.refl _) ⟨[_], C, rfl, .inl ⟨rfl, by rw [hL0]; exact HJ.out⟩⟩
  · have hL0 : L.length = 0 := by rw [hLl, hV.out, hn]; rfl
    exact retA_mk (by first | exact .inl rfl | exact .inr rfl) rfl (by (repeat (first | exact List.Sublist.refl _ | apply List.Sublist.cons))) (LE.refl _) ⟨[_], C, rfl, .inl ⟨rfl, by rw [hL0]; exact HJ.out⟩⟩
  have hV1 : Vs = x :: Sch.versL x t.steps := by rw [hV.out, hx]
  have hx0 : Vs[0]? = some x := by rw [hV1]; rfl
  have hT0 : Hid (Sch.versL x (t.steps.drop 0) = Vs.drop 1) := Lib.hid (by rw [hV1]; rfl)
  have hVx := hvi.out x (List.mem_of_getElem? hx0)
  have hg0 := hget.out 0 x hx0
  replace hx0 := Lib.hid hx0
  have hdoF := schDoersF
  have hLl2 := Lib.hid hLl
  clear hV hV1 hex hFi hx hLl
  obtain ⟨b3, rfl⟩ : ∃ q, q = b := ⟨_, rfl⟩
  have hcp := Lib.hid (schCopiedF gs cS gc cC zS zC x (fun h => by have := hVx.lp; rw [h] at this; simp at this) (fun h => by have := hVx.cp; rw [h] at this; simp at this) (hVx.vw (by omega)))
  obtain ⟨TB, hTB⟩ : ∃ TB, TB = doTab := ⟨_, rfl⟩
  have hdo : Hid (∀ st, TrF Try.prog 73 [] st fun d st' => d = .agg TB ∧ st' = st) := by rw [hTB]; exact hdoF
  have hTBl : TB.length = 6 := by rw [hTB]; rfl
  have hTBa : TB.all D.leaf = true := by rw [hTB]; rfl
  replace hTB := Lib.hid hTB
  clear hdoF
  repeat' (first | with_reducible refine Go1.go ?_ | ((with_reducible apply ev_go); (focus ((try simp (disch := omega) only [push_cast, simprocAttr, *]); (try exact rfl); done))) | ((with_reducible apply (s_yield HY.out HJ.out hg0)); (focus ((try simp (disch := omega) only [push_cast, simprocAttr, *]); (try exact rfl); done)); (focus ((try simp (disch := omega) only [push_cast, simprocAttr, *]); (try exact rfl); done)); (focus first | exact LEL.refl _ | ((repeat' (first | exact LEL.nil | refine LEL.cons ?_ ?_ | exact LE.refl _ | exact LE.sl _ _ | refine LE.agg ?_)); done)); (focus (repeat (first | exact tl_nil | apply tl_cons)); done); all_goals (intro C' hC')) | ((with_reducible refine w_last ?_ ?_ ?_); kernel_rfl; rfl) | with_reducible refine Go2.go ?_ | ((with_reducible first | apply w_stepG | refine s_bi ?_ ?_ | refine blk_ne ?_ ?_); rfl) | ((with_reducible refine al_go ?_); intro b) | ((with_reducible apply (ck_le Try.call72)); exact LEL.refl _; exact hcp.out _ (by repeat (first | exact mm_h | apply mm_t)) (by repeat (first | exact mm_h | apply mm_t))) | ((with_reducible apply (ck_le Try.call73)); exact LEL.refl _; exact hdo.out _) | ((with_reducible first | refine w_region ?_ ?_ | refine w_dra ?_ ?_); kernel_rfl) | ((with_reducible refine Go3.go ?_ ?_); all_goals (intro hb; (try with_reducible intro hb1); (try (exfalso; first | contradiction | omega)))) | fail)
  rotate_left
  · exact retA_mk (by first | exact .inl rfl | exact .inr rfl) (by first | rfl | assumption) (by (repeat (first | exact List.Sublist.refl _ | apply List.Sublist.cons))) (LE.refl _) ⟨[_], C', rfl, .inr ⟨_, rfl, hC'⟩⟩
  obtain ⟨b5, rfl⟩ : ∃ q, q = b := ⟨_, rfl⟩
  refine tr_perm (st' := .box b3 38 [.ar gs 0 x.slots.length cS, .ar gc 0 x.cols.length cC] :: .box gs 26 (slotC x.slots ++ zS) :: .box gc 3 (colC x.cols ++ zC) :: .box b5 97 TB :: .box tb 33 [.str t.name, .sl .shared SL, .sl .shared TL] :: C') (by (repeat (first | exact List.Perm.refl _ | refine perm_cons_out (by repeat (first | exact out_here | apply out_there)) ?_))) ?_
  have hJ0 := Lib.hid hC'
  have hTl : TL.length = t.steps.length := by rw [← hSt.out, List.length_map]
  have hms := ht.lt
  clear hg0 hcp
  refine tr_loopd (ι := Nat) (fun i A st' => ∃ x gs cS zS gc cC zC C', i ≤ TL.length ∧ VL cS zS cC zC x ∧ Hid (Vs[i]? = some x) ∧ Hid (Sch.versL x (t.steps.drop i) = Vs.drop (i + 1)) ∧ Hid (J (i + 1) C') ∧ A.df = [] ∧ A.e 0 = .fn (.yield l) [] [] ∧ A.e 1 = .ptr tb 0 ∧ A.e 3 = .ptr b3 0 ∧ A.e 5 = .ptr b5 0 ∧ A.e 24 = .sl .shared TL ∧ A.e 25 = .i TL.length ∧ A.e 26 = .i i ∧
    st' = .box b3 38 [.ar gs 0 x.slots.length cS, .ar gc 0 x.cols.length cC] :: .box gs 26 (slotC x.slots ++ zS) :: .box gc 3 (colC x.cols ++ zC) :: .box b5 97 TB :: .box tb 33 [.str t.name, .sl .shared SL, .sl .shared TL] :: C') (fun i => TL.length - i) 0 ⟨x, gs, cS, zS, gc, cC, zC, C', Nat.zero_le _, hz, hx0, hT0, hJ0, by (first | rfl | assumption | omega | (simp (disch := omega) only [push_cast, simprocAttr, *]; try omega; done)), by (first | rfl | assumption | omega | (simp (disch := omega) only [push_cast, simprocAttr, *]; try omega; done)), by (first | rfl | assumption | omega | (simp (disch := omega) only [push_cast, simprocAttr, *]; try omega; done)), by (first | rfl | assumption | omega | (simp (disch := omega) only [push_cast, simprocAttr, *]; try omega; done)), by (first | rfl | assumption | omega | (simp (disch := omega) only [push_cast, simprocAttr, *]; try omega; done)), by (first | rfl | assumption | omega | (simp (disch := omega) only [push_cast, simprocAttr, *]; try omega; done)), by (first | rfl | assumption | omega | (simp (disch := omega) only [push_cast, simprocAttr, *]; try omega; done)), by (first | rfl | assumption | omega | (simp (disch := omega) only [push_cast, simprocAttr, *]; try omega; done)), rfl⟩ ?_
  clear hx0 hT0 hJ0 hz hVx hC' HJ
  rintro i A st' ⟨x, gs, cS, zS, gc, cC, zC, C', hi, hz, hxi, hTi, hJi, hdf, e0, e1, e3, e5, e24, e25, e26, rfl⟩
  have hVx := hvi.out x (List.mem_of_getElem? hxi.out)
  by_cases hlt : i < TL.length
  · obtain ⟨stp, hstp⟩ : ∃ s, t.steps[i]? = some s := ⟨_, List.getElem?_eq_getElem (by omega)⟩
    have hso := hot.out stp (List.mem_of_getElem? hstp)
    have hTd := hTi.out
    rw [Sch.versL_drop hstp] at hTd
    have hcl : TL[i]? = some stp.cells := by rw [← hSt.out, List.getElem?_map, hstp]; rfl
    have hin : i < Vs.length := (List.getElem?_eq_some_iff.1 hxi.out).1
    by_cases hk : 1 ≤ stp.kind ∧ stp.kind ≤ 5
    · obtain ⟨nk, f, hkn, hn5, ⟨tl, htl⟩, hent, hTr⟩ := doTabF x stp (hVx.vw (by omega)) hVx.cp hso hk
      have hTr2 := Lib.hid (hTr b3 gs cS gc cC zS zC hz)
      have hSR := Lib.hid (stepR_ex x stp b3)
      obtain ⟨hk1, hk2⟩ := hk
      clear hTr hTi
      rw [← hTB.out] at htl
      unfold StepR VB at hTr2 hSR
      have hvw : Hid (∀ y, Sch.stepV x stp = some y → Vs[i + 1]? = some y ∧ Sch.versL y (t.steps.drop (i + 1)) = Vs.drop (i + 1 + 1)) := fun y hy => by
        rw [hy] at hTd
        have h1 : Vs[i + 1]? = some y := by
          have : (Vs.drop (i + 1))[0]? = some y := by rw [← hTd]; rfl
          rwa [List.getElem?_drop, Nat.add_zero] at this
        refine ⟨h1, ?_⟩
        rw [V.drop_cons h1] at hTd
        exact (List.cons.inj hTd).2
      have hvn : Hid (Sch.stepV x stp = none → Vs.length = i + 1) := fun h => by
        rw [h] at hTd
        have := congrArg List.length hTd
        rw [List.length_drop, List.length_nil] at this
        omega
      obtain ⟨n2, hn2⟩ : ∃ n2 : Nat, 1 + (i + 1) = n2 := ⟨_, rfl⟩
      have hn3 : (i : Int) + 2 = (n2 : Int) := by omega
      have hgY : Hid (∀ y, Sch.stepV x stp = some y → L[i + 1]? = some (y, n2)) := fun y hy => by rw [← hn2]; exact hget.out _ _ (hvw.out y hy).1
      have hcp : Hid (∀ y, Sch.stepV x stp = some y → ∀ (gs cS gc cC : Nat) (zS zC : List D) (st : St), Res.box gs 26 (slotC y.slots ++ zS) ∈ st → Res.box gc 3 (colC y.cols ++ zC) ∈ st → TrF Try.prog 72 [.agg [.ar gs 0 y.slots.length cS, .ar gc 0 y.cols.length cC]] st fun d st' => d = .agg y.cells ∧ st' = st) := fun y hy gs cS gc cC zS zC st m1 m2 => by
        have hVy := hvi.out y (List.mem_of_getElem? (hvw.out y hy).1)
        exact schCopiedF gs cS gc cC zS zC y (fun h => by have := hVy.lp; rw [h] at this; simp at this) (fun h => by have := hVy.cp; rw [h] at this; simp at this) (hVy.vw (by omega)) st m1 m2
      have hn2b : n2 ≤ 2000 ∧ i ≤ 2000 ∧ TL.length ≤ 2000 := by omega
      obtain ⟨hb1, hb2, hb3⟩ := hn2b
      replace hn2 := Lib.hid hn2
      clear hTd hstp hxi hVx
      generalize Sch.stepV x stp = F at *
      cases stp with
      | mk kd col slot order =>
      cases slot with
      | mk nm ty rq dv =>
      cases dv with
      | mk k n sv lv =>
      unfold Stp.cells at hcl hTr2
      rw [Sl.cells_mk] at hcl hTr2
      dsimp only [List.cons_append, List.nil_append] at hcl hTr2 hkn hk1 hk2
      subst hkn
      replace hcl := hcl
      have hentH := Lib.hid hent
      clear hent
      replace hin := Lib.hid hin
      replace hLl2 := Lib.hid hLl2
      replace hTl := Lib.hid hTl
      repeat' (first | with_reducible refine Go1.go ?_ | ((with_reducible apply ev_go); (focus ((try simp (disch := omega) only [push_cast, simprocAttr, *]); (try exact rfl); done))) | ((with_reducible apply (s_yield HY.out hJi.out hgy.out)); (focus ((try simp (disch := omega) only [push_cast, simprocAttr, *]); (try exact rfl); done)); (focus ((try simp (disch := omega) only [push_cast, simprocAttr, *]); (try exact rfl); done)); (focus first | exact LEL.refl _ | ((repeat' (first | exact LEL.nil | refine LEL.cons ?_ ?_ | exact LE.refl _ | exact LE.sl _ _ | refine LE.agg ?_)); done)); (focus (repeat (first | exact tl_nil | apply tl_cons)); done); all_goals (intro C' hC')) | ((with_reducible apply (w_drawQ [(b5, TB), (b, [.i nk, .i col, .str nm, .i ty, .b rq, .i k, .i n, .str sv, .sl .shared (lv.map V.cells), .sl .shared (order.map encI)])] 14)); (iterate 4 (focus kernel_rfl)); (focus (simp only [List.take_succ_cons, List.take_zero]; exact rfl)); (focus (simp only [List.drop_succ_cons, List.drop_zero]; exact rfl)); (focus ((repeat (first | exact keep_nil | refine keep_more (by (repeat (first | exact mm_h | apply mm_t)); done) ?_)); done)); intro hne; simp only [nes, ne1, and_assoc] at hne; repeat (have hq := hne.1; replace hne := hne.2)) | ((with_reducible refine Exists.intro [(b3, [.ar gs1 0 y.slots.length cS1, .ar gc1 0 y.cols.length cC1])] ?_); (with_reducible refine And.intro ?_ ?_); (focus ((repeat (first | exact keep_nil | refine keep_more (by (repeat (first | exact mm_h | apply mm_t)); done) ?_)); done))) | ((with_reducible refine And.intro ?_ ?_); (focus ((repeat (first | exact keep_nil | refine keep_more (by (repeat (first | exact mm_h | apply mm_t)); done) ?_)); done))) | ((with_reducible refine Exists.intro [] ?_); (with_reducible refine And.intro ?_ ?_); (focus exact keep_nil)) | ((with_reducible refine w_last ?_ ?_ ?_); kernel_rfl; rfl) | with_reducible refine Go2.go ?_ | ((with_reducible first | apply w_stepG | refine s_bi ?_ ?_ | refine blk_ne ?_ ?_); rfl) | ((with_reducible refine al_go ?_); intro b) | ((with_reducible apply (ck_gen hentH.out)); (focus (show List.Perm _ (VB b3 gs cS zS gc cC zC x (.box b 74 [.i nk, .i col, .str nm, .i ty, .b rq, .i k, .i n, .str sv, .sl .shared (lv.map V.cells), .sl .shared (order.map encI)] :: .box b5 97 TB :: .box tb 33 [.str t.name, .sl .shared SL, .sl .shared TL] :: C')); (repeat (first | exact List.Perm.refl _ | refine perm_cons_out (by repeat (first | exact out_here | apply out_there)) ?_)); done)); (focus exact hTr2.out _); (focus exact LEL.refl _); (focus exact hSR.out _); (rintro d st' (⟨hn1, rfl, rfl⟩ | ⟨y, gs1, cS1, zS1, gc1, cC1, zC1, hy, hz1, rfl, rfl⟩) <;> (try (have hgy := Lib.hid (hgY.out y hy); have hcy := Lib.hid (hcp.out y hy gs1 cS1 gc1 cC1 zS1 zC1); replace hy := Lib.hid hy)))) | ((with_reducible apply (ck_le Try.call72)); exact LEL.refl _; exact hcy.out _ (by repeat (first | exact mm_h | apply mm_t)) (by repeat (first | exact mm_h | apply mm_t))) | ((with_reducible first | refine w_region ?_ ?_ | refine w_dra ?_ ?_); kernel_rfl) | ((with_reducible refine Go3.go ?_ ?_); all_goals (intro hb; (try with_reducible intro hb1); (try (exfalso; first | contradiction | omega)))) | fail)
      · have hL1 : L.length = i + 1 := by rw [hLl2.out.out, hvn.out hn1]
        exact retA_mk (by first | exact .inl rfl | exact .inr rfl) (by first | rfl | assumption) (by (repeat (first | exact List.Sublist.refl _ | with_reducible apply List.Sublist.cons_cons | apply List.Sublist.cons))) (LE.refl _) ⟨[_], C', rfl, .inl ⟨rfl, by rw [hL1]; exact hJi.out⟩⟩
      · obtain ⟨q1, q2⟩ := hvw.out y hy.out
        refine ⟨i + 1, .box b3 38 [.ar gs1 0 y.slots.length cS1, .ar gc1 0 y.cols.length cC1] :: .box gs1 26 (slotC y.slots ++ zS1) :: .box gc1 3 (colC y.cols ++ zC1) :: .box b5 97 TB :: .box tb 33 [.str t.name, .sl .shared SL, .sl .shared TL] :: C', ?_, ⟨y, gs1, cS1, zS1, gc1, cC1, zC1, C', hlt, hz1, q1, q2, hC', ?_, ?_, ?_, ?_, ?_, ?_, ?_, ?_, rfl⟩, ?_⟩
        · (repeat (first | exact List.Sublist.refl _ | with_reducible apply List.Sublist.cons_cons | apply List.Sublist.cons))
        iterate 8 (focus (first | rfl | assumption | omega | (simp (disch := omega) only [push_cast, simprocAttr, *]; try omega; done)))
        · omega
      · exact retA_mk (by first | exact .inl rfl | exact .inr rfl) (by first | rfl | assumption) (by (repeat (first | exact List.Sublist.refl _ | with_reducible apply List.Sublist.cons_cons | apply List.Sublist.cons))) (LE.refl _) ⟨[_], C', rfl, .inr ⟨_, rfl, hC'⟩⟩
    · have hn1 : Sch.stepV x stp = none := by
        unfold Sch.stepV
        rw [if_neg (by omega), if_neg (by omega), if_neg (by omega), if_neg (by omega), if_neg (by omega)]
      rw [hn1] at hTd
      have hL1 : L.length = i + 1 := by
        rw [hLl2.out]
        have := congrArg List.length hTd
        rw [List.length_drop, List.length_nil] at this
        omega
      have hk' : stp.kind < 1 ∨ (1 ≤ stp.kind ∧ 5 < stp.kind) := by omega
      clear hTd hstp hk hn1 hTi hxi
      replace hL1 := Lib.hid hL1
      cases stp with
      | mk kd col slot order =>
      cases slot with
      | mk nm ty rq dv =>
      cases dv with
      | mk k n sv lv =>
      unfold Stp.cells at hcl
      rw [Sl.cells_mk] at hcl
      dsimp only [List.cons_append, List.nil_append] at hcl hk'
      have hb3 : TL.length ≤ 2000 ∧ i ≤ 2000 := by omega
      obtain ⟨hb3, hb4⟩ := hb3
      replace hTl := Lib.hid hTl
      replace hLl2 := Lib.hid hLl2
      replace hin := Lib.hid hin
      rcases hk' with hk1 | ⟨hk1, hk2⟩
      all_goals skip
      all_goals (
        repeat' (first | with_reducible refine Go1.go ?_ | ((with_reducible apply ev_go); (focus ((try simp (disch := omega) only [push_cast, simprocAttr, *]); (try exact rfl); done))) | ((with_reducible apply (w_drawN [(b, [.i kd, .i col, .str nm, .i ty, .b rq, .i k, .i n, .str sv, .sl .shared (lv.map V.cells), .sl .shared (order.map encI)])])); (iterate 3 (focus kernel_rfl)); (focus ((repeat (first | exact keep_nil | refine keep_more (by (repeat (first | exact mm_h | apply mm_t)); done) ?_)); done)); intro hne; simp only [nes, ne1, and_assoc] at hne; repeat (have hq := hne.1; replace hne := hne.2)) | ((with_reducible refine And.intro ?_ ?_); (focus ((repeat (first | exact keep_nil | refine keep_more (by (repeat (first | exact mm_h | apply mm_t)); done) ?_)); done))) | ((with_reducible refine w_last ?_ ?_ ?_); kernel_rfl; rfl) | with_reducible refine Go2.go ?_ | ((with_reducible first | apply w_stepG | refine s_bi ?_ ?_ | refine blk_ne ?_ ?_); rfl) | ((with_reducible refine al_go ?_); intro b) | ((with_reducible first | refine w_region ?_ ?_ | refine w_dra ?_ ?_); kernel_rfl) | ((with_reducible refine Go3.go ?_ ?_); all_goals (intro hb; (try with_reducible intro hb1); (try (exfalso; first | contradiction | omega)))) | fail)
        all_goals exact retA_mk (by first | exact .inl rfl | exact .inr rfl) (by first | rfl | assumption) (by (repeat (first | exact List.Sublist.refl _ | with_reducible apply List.Sublist.cons_cons | apply List.Sublist.cons))) (LE.refl _) ⟨[_], C', rfl, .inl ⟨rfl, by rw [hL1.out]; exact hJi.out⟩⟩)
  · have hL1 : L.length = i + 1 := by
      have h1 := hTi.out
      rw [List.drop_of_length_le (by omega), Sch.versL] at h1
      have := congrArg List.length h1
      rw [List.length_drop, List.length_nil] at this
      have hin : i < Vs.length := (List.getElem?_eq_some_iff.1 hxi.out).1
      rw [hLl2.out]; omega
    replace hL1 := Lib.hid hL1
    replace hTl := Lib.hid hTl
    replace hLl2 := Lib.hid hLl2
    repeat' (first | with_reducible refine Go1.go ?_ | ((with_reducible apply ev_go); (focus ((try simp (disch := omega) only [push_cast, simprocAttr, *]); (try exact rfl); done))) | ((with_reducible refine w_last ?_ ?_ ?_); kernel_rfl; rfl) | with_reducible refine Go2.go ?_ | ((with_reducible first | apply w_stepG | refine s_bi ?_ ?_ | refine blk_ne ?_ ?_); rfl) | ((with_reducible refine al_go ?_); intro b) | ((with_reducible first | refine w_region ?_ ?_ | refine w_dra ?_ ?_); kernel_rfl) | ((with_reducible refine Go3.go ?_ ?_); all_goals (intro hb; (try with_reducible intro hb1); (try (exfalso; first | contradiction | omega)))) | fail)
    all_goals exact retA_mk (by first | exact .inl rfl | exact .inr rfl) (by first | rfl | assumption) (by (repeat (first | exact List.Sublist.refl _ | with_reducible apply List.Sublist.cons_cons | apply List.Sublist.cons))) (LE.refl _) ⟨[_], C', rfl, .inl ⟨rfl, by rw [hL1.out]; exact hJi.out⟩⟩
end Go.Proofs.Ytooaagmhgakhgaa
end

section
namespace Go.Proofs.Ytooaagmhgakhgaa
set_option linter.unusedSimpArgs false
attribute [local push_cast] encB encI encC V.cells_mk V.cells_len Nat.mul_one Int.sub_zero List.map_nil beq_self_eq_true List.head?_cons
open Go.RowKit
set_option maxRecDepth 10000
set_option maxHeartbeats 4000000
theorem versF' (t : Tm) (st : St) : TrF Try.prog 45 [.agg t.cells] st fun d st' => ∃ tb : Nat, True ∧ d = .fn (.func 70) [] [.ptr tb 0] ∧ st' = .box tb 33 t.cells :: st :=
  (versF t st).mono fun _ _ ⟨tb, h1, h2⟩ => ⟨tb, trivial, h1, h2⟩
theorem schLastF (t : Tm) (ht : TOk t) (st : St) : TrF Try.prog 17 [.agg t.cells] st fun d st' => d = .i (Sch.last t) ∧ st' = st := by
  have hVF := Lib.hid (versF' t)
  have hIt := Lib.hid fun tb => versIter tb t ht
  have hLl : Hid (((Sch.vers t).zipIdx 1).length = (Sch.vers t).length) := Lib.hid List.length_zipIdx
  have hget : Hid (∀ i x, ((Sch.vers t).zipIdx 1)[i]? = some x → x.2 = i + 1) := fun i x h => by
    rw [List.getElem?_zipIdx] at h
    cases hv : (Sch.vers t)[i]? with
    | none => rw [hv] at h; cases h
    | some y => rw [hv] at h; cases h; exact Nat.add_comm 1 i
  have hlast : Hid (Sch.last t = if (Sch.vers t).length = t.steps.length + 1 then t.steps.length + 1 else 0) := rfl
  have hvl := (Sch.vers_len t).1
  have hms := ht.lt
  generalize Sch.last t = LT at *
  generalize (Sch.vers t).zipIdx 1 = L at *
  generalize (Sch.vers t).length = vl at *
  have hTL : (t.steps.map Stp.cells).length = t.steps.length := List.length_map ..
  unfold Tm.cells at hVF hIt ⊢
  generalize t.slots.map Sl.cells = SL at *
  generalize t.steps.map Stp.cells = TL at *
  generalize t.steps.length = ms at *
  generalize t.name = nm at *
  refine trF_enter (ts := [2]) Try.func17 rfl (by rw [Try.ntmps17]; exact Nat.le_of_ble_eq_true rfl) (fun tmps w => by simp [results, Try.results17, go_sem, resVal]) ?_
  simp only [Try.ntmps17]
  repeat' (first | with_reducible refine Go1.go ?_ | ((with_reducible apply ev_go); (focus ((try simp (disch := omega) only [push_cast, simprocAttr, *]); (try exact rfl); done))) | with_reducible refine s_boxP ?_ | ((with_reducible refine w_last ?_ ?_ ?_); kernel_rfl; rfl) | with_reducible refine Go2.go ?_ | ((with_reducible first | apply w_stepG | refine s_bi ?_ ?_ | refine blk_ne ?_ ?_); rfl) | ((with_reducible refine al_go ?_); intro b) | ((with_reducible apply (ck_ex Try.call45)); (focus exact LEL.refl _); (focus exact hVF.out _); (focus exact ⟨0, trivial⟩); intro tb htb) | ((with_reducible first | refine w_region ?_ ?_ | refine w_dra ?_ ?_); kernel_rfl) | ((with_reducible refine Go3.go ?_ ?_); all_goals (intro hb; (try with_reducible intro hb1); (try (exfalso; first | contradiction | omega)))) | fail)
  rename_i b1
  refine tr_perm (st' := [.box tb 33 [.str nm, .sl .shared SL, .sl .shared TL]] ++ (.box b 3 [.i 0] :: .box b1 33 [.str nm, .sl .shared SL, .sl .shared TL] :: st)) (.refl _) ?_
  refine tr_range (hIt.out tb) Try.call70 (by (try simp (disch := omega) only [push_cast, simprocAttr, *]); (try exact rfl); done) (fun _ => rfl) rfl (fun i C => C = .box b 3 [.i i] :: .box b1 33 [.str nm, .sl .shared SL, .sl .shared TL] :: st) (fun _ _ _ => False) rfl (fun i _ => ⟨_, rfl⟩) ?_ ?_ (fun _ _ _ _ _ _ h => h.elim)
  · rintro l i ⟨y, v⟩ C K hx rfl
    have hv : v = i + 1 := hget.out i _ hx
    subst hv
    have hil : i < L.length := (List.getElem?_eq_some_iff.1 hx).1
    have hib : i ≤ 2000 := by have := hLl.out; omega
    clear hx hil
    refine (?_ : Tr _ _ _ _ (AA.put (AA.put ⟨_, []⟩ (some 7) (.i ((i + 1 : Nat) : Int))) (some 8) (.agg y.cells)) (.box b 3 [.i i] :: .box b1 33 [.str nm, .sl .shared SL, .sl .shared TL] :: (st ++ K)) _)
    repeat' (first | with_reducible refine Go1.go ?_ | ((with_reducible apply ev_go); (focus ((try simp (disch := omega) only [push_cast, simprocAttr, *]); (try exact rfl); done))) | ((with_reducible refine w_last ?_ ?_ ?_); kernel_rfl; rfl) | with_reducible refine Go2.go ?_ | ((with_reducible first | apply w_stepG | refine s_bi ?_ ?_ | refine blk_ne ?_ ?_); rfl) | ((with_reducible refine al_go ?_); intro b) | ((with_reducible first | refine w_region ?_ ?_ | refine w_dra ?_ ?_); kernel_rfl) | ((with_reducible refine Go3.go ?_ ?_); all_goals (intro hb; (try with_reducible intro hb1); (try (exfalso; first | contradiction | omega)))) | fail)
    refine ⟨.box b 3 [.i i] :: .box b1 33 [.str nm, .sl .shared SL, .sl .shared TL] :: st, List.Sublist.refl _, fun K' => ?_⟩
    refine (?_ : Tr _ _ _ _ _ (.box b 3 [.i i] :: .box b1 33 [.str nm, .sl .shared SL, .sl .shared TL] :: (st ++ K')) _)
    repeat' (first | with_reducible refine Go1.go ?_ | ((with_reducible apply ev_go); (focus ((try simp (disch := omega) only [push_cast, simprocAttr, *]); (try exact rfl); done))) | ((with_reducible refine w_last ?_ ?_ ?_); kernel_rfl; rfl) | with_reducible refine Go2.go ?_ | ((with_reducible first | apply w_stepG | refine s_bi ?_ ?_ | refine blk_ne ?_ ?_); rfl) | ((with_reducible refine al_go ?_); intro b) | ((with_reducible first | refine w_region ?_ ?_ | refine w_dra ?_ ?_); kernel_rfl) | ((with_reducible refine Go3.go ?_ ?_); all_goals (intro hb; (try with_reducible intro hb1); (try (exfalso; first | contradiction | omega)))) | fail)
    exact ⟨_, List.Sublist.refl _, rfl⟩
  · rintro d K1 C' rfl rfl
    rw [hLl.out]
    clear hIt
    change Tr _ _ _ _ _ _ _
    by_cases hc : vl = ms + 1
    · have hL2 : LT = vl := by rw [hlast.out, if_pos hc, hc]
      clear hlast
      have hc2 : (vl : Int) = (ms : Int) + 1 := by omega
      clear hc
      refine tr_perm (st' := .box b 3 [.i vl] :: .box b1 33 [.str nm, .sl .shared SL, .sl .shared TL] :: markR d :: .box tb 33 [.str nm, .sl .shared SL, .sl .shared TL] :: st) (by show List.Perm (markR d :: .box tb 33 [.str nm, .sl .shared SL, .sl .shared TL] :: .box b 3 [.i vl] :: .box b1 33 [.str nm, .sl .shared SL, .sl .shared TL] :: st) _; (repeat (first | exact List.Perm.refl _ | refine perm_cons_out (by repeat (first | exact out_here | apply out_there)) ?_))) ?_
      repeat' (first | with_reducible refine Go1.go ?_ | ((with_reducible apply ev_go); (focus ((try simp (disch := omega) only [push_cast, simprocAttr, *]); (try exact rfl); done))) | ((with_reducible refine w_last ?_ ?_ ?_); kernel_rfl; rfl) | with_reducible refine Go2.go ?_ | ((with_reducible first | apply w_stepG | refine s_bi ?_ ?_ | refine blk_ne ?_ ?_); rfl) | ((with_reducible refine al_go ?_); intro b) | ((with_reducible first | refine w_region ?_ ?_ | refine w_dra ?_ ?_); kernel_rfl) | ((with_reducible refine Go3.go ?_ ?_); all_goals (intro hb; (try with_reducible intro hb1); (try (exfalso; first | contradiction | omega)))) | fail)
      all_goals (refine retA_mark (by simp) (by first | rfl | assumption) (by repeat (first | exact out_here | apply out_there)) (by (repeat (first | exact List.Sublist.refl _ | apply List.Sublist.cons))) ?_ ⟨rfl, rfl⟩; (try simp (disch := omega) only [push_cast, simprocAttr, *]); try (first | exact LE.refl _ | exact LE.sl _ _ | ((first | refine LE.tup ?_ | refine LE.agg ?_); (repeat' (first | exact LEL.nil | refine LEL.cons ?_ ?_ | exact LE.refl _ | exact LE.sl _ _ | refine LE.agg ?_)); done) | refine LE.of_eq ?_))
    · have hL2 : LT = 0 := by rw [hlast.out, if_neg hc]
      clear hlast
      have hc2 : ¬ (vl : Int) = (ms : Int) + 1 := by omega
      clear hc
      refine tr_perm (st' := .box b 3 [.i vl] :: .box b1 33 [.str nm, .sl .shared SL, .sl .shared TL] :: markR d :: .box tb 33 [.str nm, .sl .shared SL, .sl .shared TL] :: st) (by show List.Perm (markR d :: .box tb 33 [.str nm, .sl .shared SL, .sl .shared TL] :: .box b 3 [.i vl] :: .box b1 33 [.str nm, .sl .shared SL, .sl .shared TL] :: st) _; (repeat (first | exact List.Perm.refl _ | refine perm_cons_out (by repeat (first | exact out_here | apply out_there)) ?_))) ?_
      repeat' (first | with_reducible refine Go1.go ?_ | ((with_reducible apply ev_go); (focus ((try simp (disch := omega) only [push_cast, simprocAttr, *]); (try exact rfl); done))) | ((with_reducible refine w_last ?_ ?_ ?_); kernel_rfl; rfl) | with_reducible refine Go2.go ?_ | ((with_reducible first | apply w_stepG | refine s_bi ?_ ?_ | refine blk_ne ?_ ?_); rfl) | ((with_reducible refine al_go ?_); intro b) | ((with_reducible first | refine w_region ?_ ?_ | refine w_dra ?_ ?_); kernel_rfl) | ((with_reducible refine Go3.go ?_ ?_); all_goals (intro hb; (try with_reducible intro hb1); (try (exfalso; first | contradiction | omega)))) | fail)
      all_goals (refine retA_mark (by simp) (by first | rfl | assumption) (by repeat (first | exact out_here | apply out_there)) (by (repeat (first | exact List.Sublist.refl _ | apply List.Sublist.cons))) ?_ ⟨rfl, rfl⟩; (try simp (disch := omega) only [push_cast, simprocAttr, *]); try (first | exact LE.refl _ | exact LE.sl _ _ | ((first | refine LE.tup ?_ | refine LE.agg ?_); (repeat' (first | exact LEL.nil | refine LEL.cons ?_ ?_ | exact LE.refl _ | exact LE.sl _ _ | refine LE.agg ?_)); done) | refine LE.of_eq ?_))
theorem schRightF (t : Tm) (ht : TOk t) (st : St) : TrF Try.prog 16 [.agg t.cells] st fun d st' => d = .b (decide (0 < Sch.last t)) ∧ st' = st := by
  have hL := Lib.hid (schLastF t ht)
  generalize Sch.last t = n at *
  unfold Tm.cells at *
  generalize t.slots.map Sl.cells = SL at *
  generalize t.steps.map Stp.cells = TL at *
  refine trF_enter (ts := [2]) Try.func16 rfl (by rw [Try.ntmps16]; exact Nat.le_of_ble_eq_true rfl) (fun tmps w => by simp [results, Try.results16, go_sem, resVal]) ?_
  simp only [Try.ntmps16]
  repeat' (first | with_reducible refine Go1.go ?_ | ((with_reducible apply ev_go); (focus ((try simp (disch := omega) only [push_cast, simprocAttr, *]); (try exact rfl); done))) | with_reducible refine s_boxP ?_ | ((with_reducible refine w_last ?_ ?_ ?_); kernel_rfl; rfl) | with_reducible refine Go2.go ?_ | ((with_reducible first | apply w_stepG | refine s_bi ?_ ?_ | refine blk_ne ?_ ?_); rfl) | ((with_reducible refine al_go ?_); intro b) | ((with_reducible apply (ck_le Try.call17)); exact LEL.refl _; exact hL.out _) | ((with_reducible first | refine w_region ?_ ?_ | refine w_dra ?_ ?_); kernel_rfl) | ((with_reducible refine Go3.go ?_ ?_); all_goals (intro hb; (try with_reducible intro hb1); (try (exfalso; first | contradiction | omega)))) | fail)
  all_goals (refine ret_eq (by simp) (by first | rfl | assumption) (by (repeat (first | exact List.Sublist.refl _ | apply List.Sublist.cons))) ?_; (try simp (disch := omega) only [push_cast, simprocAttr, *]); try (first | exact LE.refl _ | exact LE.sl _ _ | ((first | refine LE.tup ?_ | refine LE.agg ?_); (repeat' (first | exact LEL.nil | refine LEL.cons ?_ ?_ | exact LE.refl _ | exact LE.sl _ _ | refine LE.agg ?_)); done) | refine LE.of_eq ?_))
  all_goals (refine congrArg D.b (decide_eq_decide.2 ?_); omega)
def Sch.verX (t : Tm) (v : Int) : Vr := (Sch.ver t v).getD ⟨[], []⟩
def Sch.verB (t : Tm) (v : Int) : Bool := (Sch.ver t v).isSome
theorem schAtF (t : Tm) (ht : TOk t) (v : Int) (st : St) : TrF Try.prog 18 [.agg t.cells, .i v] st fun d st' => d = .tup [.agg (Sch.verX t v).cells, .b (Sch.verB t v)] ∧ st' = st := by
  have hVF := Lib.hid (versF' t)
  have hRi := schRightF t ht
  have hIt := Lib.hid fun tb => versIter tb t ht
  have hLl : Hid (((Sch.vers t).zipIdx 1).length = (Sch.vers t).length) := Lib.hid List.length_zipIdx
  have hget : Hid (∀ i x, ((Sch.vers t).zipIdx 1)[i]? = some x → x.2 = i + 1 ∧ (Sch.vers t)[i]? = some x.1) := fun i x h => by
    rw [List.getElem?_zipIdx] at h
    cases hv : (Sch.vers t)[i]? with
    | none => rw [hv] at h; cases h
    | some y => rw [hv] at h; cases h; exact ⟨Nat.add_comm 1 i, rfl⟩
  have hver : Hid (Sch.ver t v = if 0 < Sch.last t ∧ 1 ≤ v then (Sch.vers t)[(v - 1).toNat]? else none) := rfl
  have hvl := (Sch.vers_len t).1
  have hms := ht.lt
  have hvl2 : Hid ((Sch.vers t).length ≤ 2000) := Lib.hid (by omega)
  unfold Sch.verX Sch.verB
  generalize Sch.ver t v = VT at *
  generalize (Sch.vers t).zipIdx 1 = L at *
  generalize Sch.vers t = Vs at *
  clear hvl hms
  unfold Tm.cells at hVF hIt hRi ⊢
  generalize t.slots.map Sl.cells = SL at *
  generalize t.steps.map Stp.cells = TL at *
  generalize t.name = nm at *
  refine trF_enterG (G := twoA Try.prog (.cell 4 38) (.cell 5 4)) Try.func18 rfl (by rw [Try.ntmps18]; exact Nat.le_of_ble_eq_true rfl) (fun h1 h2 h3 => res_two rfl h1 h2 h3) ?_
  simp only [Try.ntmps18]
  by_cases hr : 0 < Sch.last t
  · rw [decide_eq_true hr] at hRi
    replace hRi := Lib.hid hRi
    have hver2 : Hid (VT = if 1 ≤ v then Vs[(v - 1).toNat]? else none) := Lib.hid (by rw [hver.out]; simp [hr])
    clear hver
    repeat' (first | with_reducible refine Go1.go ?_ | ((with_reducible apply ev_go); (focus ((try simp (disch := omega) only [push_cast, simprocAttr, *]); (try exact rfl); done))) | with_reducible refine s_boxP ?_ | ((with_reducible refine w_last ?_ ?_ ?_); kernel_rfl; rfl) | with_reducible refine Go2.go ?_ | ((with_reducible first | apply w_stepG | refine s_bi ?_ ?_ | refine blk_ne ?_ ?_); rfl) | ((with_reducible refine al_go ?_); intro b) | ((with_reducible apply (ck_le Try.call16)); exact LEL.refl _; exact hRi.out _) | ((with_reducible apply (ck_ex Try.call45)); (focus exact LEL.refl _); (focus exact hVF.out _); (focus exact ⟨0, trivial⟩); intro tb htb) | ((with_reducible first | refine w_region ?_ ?_ | refine w_dra ?_ ?_); kernel_rfl) | ((with_reducible refine Go3.go ?_ ?_); all_goals (intro hb; (try with_reducible intro hb1); (try (exfalso; first | contradiction | omega)))) | fail)
    rename_i b2 b3 b4
    obtain ⟨b5, rfl⟩ : ∃ q, q = b := ⟨_, rfl⟩
    clear hRi
    refine tr_perm (st' := [.box tb 33 [.str nm, .sl .shared SL, .sl .shared TL]] ++ (.box b5 4 [.s (.bool false)] :: .box b4 38 [.sl .tight [], .sl .tight []] :: .box b3 3 [.i v] :: .box b2 33 [.str nm, .sl .shared SL, .sl .shared TL] :: st)) (.refl _) ?_
    refine tr_rangeS (hIt.out tb) Try.call70 (by (try simp (disch := omega) only [push_cast, simprocAttr, *]); (try exact rfl); done) (fun _ => rfl) rfl (fun i C => Hid (∀ j, j < i → (j : Int) + 1 ≠ v) ∧ C = .box b5 4 [.s (.bool false)] :: .box b4 38 [.sl .tight [], .sl .tight []] :: .box b3 3 [.i v] :: .box b2 33 [.str nm, .sl .shared SL, .sl .shared TL] :: st) (fun c i C => ∃ x : Vr, c = .ret ∧ Hid (VT = some x) ∧ C = .box b5 4 [.s (.bool true)] :: .box b4 38 x.cells :: .box b3 3 [.i v] :: .box b2 33 [.str nm, .sl .shared SL, .sl .shared TL] :: st)
      ⟨fun j hj => absurd hj (Nat.not_lt_zero _), rfl⟩ ?_ ?_ ?_ ?_
    · rintro i ⟨x, k⟩ C hx ⟨hj, rfl⟩
      obtain ⟨h1, h2⟩ := hget.out i _ hx
      by_cases hv : (i : Int) + 1 = v
      · exact .inr ⟨.ret, _, x, rfl, by rw [hver2.out, if_pos (by omega), show (v - 1).toNat = i by omega]; exact h2, rfl⟩
      · refine .inl ⟨_, fun j hj' => ?_, rfl⟩
        by_cases hji : j = i
        · subst hji; exact hv
        · exact hj.out j (by omega)
    · rintro l i ⟨x, k⟩ C K hx ⟨hj, rfl⟩
      obtain ⟨h1, h2⟩ := hget.out i _ hx
      dsimp only at h1 h2
      subst h1
      have hib : i ≤ 2000 := by
        have := (List.getElem?_eq_some_iff.1 hx).1
        have := hLl.out
        have := hvl2.out
        omega
      have hvx : Hid ((i : Int) + 1 = v → VT = some x) := fun hv => by rw [hver2.out, if_pos (by omega), show (v - 1).toNat = i by omega]; exact h2
      have hnx : Hid ((i : Int) + 1 ≠ v → ∀ j, j < i + 1 → (j : Int) + 1 ≠ v) := fun hv j hj' => by
        by_cases hji : j = i
        · subst hji; exact hv
        · exact hj.out j (by omega)
      clear hx h2 hj hIt
      dsimp only [verD, Vr.cells]
      generalize hX1 : x.slots.map Sl.cells = X1 at *
      generalize hX2 : x.cols.map encC = X2 at *
      replace hX1 := Lib.hid hX1
      replace hX2 := Lib.hid hX2
      refine (?_ : Tr _ _ _ _ (AA.put (AA.put ⟨_, []⟩ (some 14) (.i ((i + 1 : Nat) : Int))) (some 15) (.agg [.sl .shared X1, .sl .shared X2])) (.box b5 4 [.s (.bool false)] :: .box b4 38 [.sl .tight [], .sl .tight []] :: .box b3 3 [.i v] :: .box b2 33 [.str nm, .sl .shared SL, .sl .shared TL] :: (st ++ K)) _)
      repeat' (first | with_reducible refine Go1.go ?_ | ((with_reducible apply ev_go); (focus ((try simp (disch := omega) only [push_cast, simprocAttr, *]); (try exact rfl); done))) | ((with_reducible refine w_last ?_ ?_ ?_); kernel_rfl; rfl) | with_reducible refine Go2.go ?_ | ((with_reducible first | apply w_stepG | refine s_bi ?_ ?_ | refine blk_ne ?_ ?_); rfl) | ((with_reducible refine al_go ?_); intro b) | ((with_reducible first | refine w_region ?_ ?_ | refine w_dra ?_ ?_); kernel_rfl) | ((with_reducible refine Go3.go ?_ ?_); all_goals (intro hb; (try with_reducible intro hb1); (try (exfalso; first | contradiction | omega)))) | fail)
      obtain ⟨b7, rfl⟩ : ∃ q, q = b := ⟨_, rfl⟩
      refine ⟨.box b7 38 [.sl .shared X1, .sl .shared X2] :: .box b5 4 [.s (.bool false)] :: .box b4 38 [.sl .tight [], .sl .tight []] :: .box b3 3 [.i v] :: .box b2 33 [.str nm, .sl .shared SL, .sl .shared TL] :: st, List.Sublist.refl _, fun K' => ?_⟩
      refine (?_ : Tr _ _ _ _ _ (.box b7 38 [.sl .shared X1, .sl .shared X2] :: .box b5 4 [.s (.bool false)] :: .box b4 38 [.sl .tight [], .sl .tight []] :: .box b3 3 [.i v] :: .box b2 33 [.str nm, .sl .shared SL, .sl .shared TL] :: (st ++ K')) _)
      repeat' (first | with_reducible refine Go1.go ?_ | ((with_reducible apply ev_go); (focus ((try simp (disch := omega) only [push_cast, simprocAttr, *]); (try exact rfl); done))) | ((with_reducible refine w_last ?_ ?_ ?_); kernel_rfl; rfl) | with_reducible refine Go2.go ?_ | ((with_reducible first | apply w_stepG | refine s_bi ?_ ?_ | refine blk_ne ?_ ?_); rfl) | ((with_reducible refine al_go ?_); intro b) | ((with_reducible first | refine w_region ?_ ?_ | refine w_dra ?_ ?_); kernel_rfl) | ((with_reducible refine Go3.go ?_ ?_); all_goals (intro hb; (try with_reducible intro hb1); (try (exfalso; first | contradiction | omega)))) | fail)
      · exact ⟨.box b5 4 [.s (.bool true)] :: .box b4 38 [.sl .shared X1, .sl .shared X2] :: .box b3 3 [.i v] :: .box b2 33 [.str nm, .sl .shared SL, .sl .shared TL] :: st, .cons _ (.refl _), ⟨x, rfl, hvx.out hb, by rw [hX1.out, hX2.out]⟩⟩
      · exact ⟨.box b5 4 [.s (.bool false)] :: .box b4 38 [.sl .tight [], .sl .tight []] :: .box b3 3 [.i v] :: .box b2 33 [.str nm, .sl .shared SL, .sl .shared TL] :: st, .cons _ (.refl _), hnx.out hb, rfl⟩
    · rintro d K1 C' rfl ⟨hj, rfl⟩
      have hVN : VT = none := by
        rw [hver2.out]
        split
        · rename_i h1
          refine List.getElem?_eq_none ?_
          have hl := hLl.out
          refine Nat.le_of_not_lt fun hlt => ?_
          exact hj.out (v - 1).toNat (by omega) (by omega)
        · rfl
      subst hVN
      clear hIt hj hver2
      change Tr _ _ _ _ _ _ _
      repeat' (first | with_reducible refine Go1.go ?_ | ((with_reducible apply ev_go); (focus ((try simp (disch := omega) only [push_cast, simprocAttr, *]); (try exact rfl); done))) | ((with_reducible refine w_last ?_ ?_ ?_); kernel_rfl; rfl) | with_reducible refine Go2.go ?_ | ((with_reducible first | apply w_stepG | refine s_bi ?_ ?_ | refine blk_ne ?_ ?_); rfl) | ((with_reducible refine al_go ?_); intro b) | ((with_reducible first | refine w_region ?_ ?_ | refine w_dra ?_ ?_); kernel_rfl) | ((with_reducible refine Go3.go ?_ ?_); all_goals (intro hb; (try with_reducible intro hb1); (try (exfalso; first | contradiction | omega)))) | fail)
      all_goals exact retG_mk (rs := [d]) (s2 := .box tb 33 [.str nm, .sl .shared SL, .sl .shared TL] :: .box b5 4 [.s (.bool false)] :: .box b4 38 [.sl .tight [], .sl .tight []] :: .box b3 3 [.i v] :: .box b2 33 [.str nm, .sl .shared SL, .sl .shared TL] :: st) (by first | exact .inl rfl | exact .inr rfl) rfl (List.Perm.refl _) ⟨_, _, rfl, cell_mk (by simp (disch := omega) only [push_cast, simprocAttr, *]; exact rfl) (by repeat (first | exact mm_h | apply mm_t)) (by simp (disch := omega) only [push_cast, simprocAttr, *]; exact rfl) (by (try simp (disch := omega) only [push_cast, simprocAttr, *]); (try exact rfl); done), cell_mk (by simp (disch := omega) only [push_cast, simprocAttr, *]; exact rfl) (by repeat (first | exact mm_h | apply mm_t)) (by simp (disch := omega) only [push_cast, simprocAttr, *]; exact rfl) (by (try simp (disch := omega) only [push_cast, simprocAttr, *]); (try exact rfl); done)⟩ (by (repeat (first | exact List.Sublist.refl _ | with_reducible apply List.Sublist.cons_cons | apply List.Sublist.cons))) (LE.tup (l' := [.agg [.sl .shared [], .sl .shared []], .b false]) ⟨LE.agg (l := [.sl .tight [], .sl .tight []]) ⟨LE.sl _ _, LE.sl _ _, trivial⟩, LE.refl _, trivial⟩) ⟨rfl, rfl⟩
    · rintro c d i K1 C' rfl ⟨x, rfl, hx, rfl⟩
      have hVS := hx.out
      subst hVS
      clear hIt hver2
      repeat' (first | with_reducible refine Go1.go ?_ | ((with_reducible apply ev_go); (focus ((try simp (disch := omega) only [push_cast, simprocAttr, *]); (try exact rfl); done))) | ((with_reducible refine w_last ?_ ?_ ?_); kernel_rfl; rfl) | with_reducible refine Go2.go ?_ | ((with_reducible first | apply w_stepG | refine s_bi ?_ ?_ | refine blk_ne ?_ ?_); rfl) | ((with_reducible refine al_go ?_); intro b) | ((with_reducible first | refine w_region ?_ ?_ | refine w_dra ?_ ?_); kernel_rfl) | ((with_reducible refine Go3.go ?_ ?_); all_goals (intro hb; (try with_reducible intro hb1); (try (exfalso; first | contradiction | omega)))) | fail)
      all_goals exact retG_mk (rs := [d]) (s2 := .box tb 33 [.str nm, .sl .shared SL, .sl .shared TL] :: .box b5 4 [.s (.bool true)] :: .box b4 38 x.cells :: .box b3 3 [.i v] :: .box b2 33 [.str nm, .sl .shared SL, .sl .shared TL] :: st) (by first | exact .inl rfl | exact .inr rfl) rfl (List.Perm.refl _) ⟨_, _, rfl, cell_mk (by simp (disch := omega) only [push_cast, simprocAttr, *]; exact rfl) (by repeat (first | exact mm_h | apply mm_t)) (by simp (disch := omega) only [push_cast, simprocAttr, *]; exact rfl) (by (try simp (disch := omega) only [push_cast, simprocAttr, *]); (try exact rfl); done), cell_mk (by simp (disch := omega) only [push_cast, simprocAttr, *]; exact rfl) (by repeat (first | exact mm_h | apply mm_t)) (by simp (disch := omega) only [push_cast, simprocAttr, *]; exact rfl) (by (try simp (disch := omega) only [push_cast, simprocAttr, *]); (try exact rfl); done)⟩ (by (repeat (first | exact List.Sublist.refl _ | with_reducible apply List.Sublist.cons_cons | apply List.Sublist.cons))) (LE.refl _) ⟨rfl, rfl⟩
  · rw [decide_eq_false hr] at hRi
    replace hRi := Lib.hid hRi
    have hver2 : VT = none := by rw [hver.out]; simp [hr]
    subst hver2
    repeat' (first | with_reducible refine Go1.go ?_ | ((with_reducible apply ev_go); (focus ((try simp (disch := omega) only [push_cast, simprocAttr, *]); (try exact rfl); done))) | with_reducible refine s_boxP ?_ | ((with_reducible refine w_last ?_ ?_ ?_); kernel_rfl; rfl) | with_reducible refine Go2.go ?_ | ((with_reducible first | apply w_stepG | refine s_bi ?_ ?_ | refine blk_ne ?_ ?_); rfl) | ((with_reducible refine al_go ?_); intro b) | ((with_reducible apply (ck_le Try.call16)); exact LEL.refl _; exact hRi.out _) | ((with_reducible apply (ck_ex Try.call45)); (focus exact LEL.refl _); (focus exact hVF.out _); (focus exact ⟨0, trivial⟩); intro tb htb) | ((with_reducible first | refine w_region ?_ ?_ | refine w_dra ?_ ?_); kernel_rfl) | ((with_reducible refine Go3.go ?_ ?_); all_goals (intro hb; (try with_reducible intro hb1); (try (exfalso; first | contradiction | omega)))) | fail)
    all_goals exact retG_mk (rs := []) (by first | exact .inl rfl | exact .inr rfl) (by first | rfl | assumption) (List.Perm.refl _) ⟨_, _, rfl, cell_mk (by simp (disch := omega) only [push_cast, simprocAttr, *]; exact rfl) (by repeat (first | exact mm_h | apply mm_t)) (by simp (disch := omega) only [push_cast, simprocAttr, *]; exact rfl) (by (try simp (disch := omega) only [push_cast, simprocAttr, *]); (try exact rfl); done), cell_mk (by simp (disch := omega) only [push_cast, simprocAttr, *]; exact rfl) (by repeat (first | exact mm_h | apply mm_t)) (by simp (disch := omega) only [push_cast, simprocAttr, *]; exact rfl) (by (try simp (disch := omega) only [push_cast, simprocAttr, *]); (try exact rfl); done)⟩ (by (repeat (first | exact List.Sublist.refl _ | with_reducible apply List.Sublist.cons_cons | apply List.Sublist.cons))) (LE.tup (l' := [.agg [.sl .shared [], .sl .shared []], .b false]) ⟨LE.agg (l := [.sl .tight [], .sl .tight []]) ⟨LE.sl _ _, LE.sl _ _, trivial⟩, LE.refl _, trivial⟩) ⟨rfl, rfl⟩
end Go.Proofs.Ytooaagmhgakhgaa
end
