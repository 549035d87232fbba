/- All operations that turn nothing do what the function of their slots says; and those that turn memory: boxes, stores, append. No statement is proved here. -/
import Derived.Test.YthlidbddeclnaaaAmOps4
namespace Go.Proofs.Ythlidbddeclnaaa
open Go.RowKit
section
variable {P : Program} {st : St} {w : World}
theorem evP_rep {O : Nat → Nat → Prop} {e : Nat → D} {ρ : Operand → Value} {S : Array Operand} (h : RepE e O w ρ S) : ∀ {l : List (Nat × Operand)} {ds : List (Nat × D)}, (∀ x ∈ l, x.2 ∈ S) → evP e l = some ds → (l.map fun p => (p.1, ρ p.2)).map (·.1) = ds.map (·.1) ∧ RepL O w ((l.map fun p => (p.1, ρ p.2)).map (·.2)) (ds.map (·.2))
  | [], ds, _, hl => by cases hl; exact ⟨rfl, .nil⟩
  | (i, x) :: l, ds, hS, hl => by
    unfold evP at hl
    split at hl
    · rename_i d ds' h1 h2
      cases hl
      obtain ⟨k1, k2⟩ := evP_rep h (fun y hy => hS y (List.mem_cons_of_mem _ hy)) h2
      exact ⟨by simp only [List.map_cons, List.cons.injEq, true_and]; exact k1, .cons (h x (hS _ (List.mem_cons_self ..)) _ h1) k2⟩
    · cases hl
theorem optInt_rep {O : Nat → Nat → Prop} {e : Nat → D} {ρ : Operand → Value} {S : Array Operand} (h : RepE e O w ρ S) {x : Option Operand} {n : Option Int} (hS : ∀ y, x = some y → y ∈ S) (hx : optInt e x = some n) : VInt (x.map ρ) n := by
  unfold optInt at hx
  split at hx
  · cases hx; rfl
  · rename_i x
    split at hx
    · rename_i k n hv
      cases hx
      exact ⟨k, by rw [Option.map_some, rep_s (h x (hS x rfl) _ hv)]⟩
    · cases hx
theorem intOf_rep {O : Nat → Nat → Prop} {e : Nat → D} {ρ : Operand → Value} {S : Array Operand} (h : RepE e O w ρ S) {x : Operand} {n : Int} (hS : x ∈ S) (hx : intOfD (ev e x) = some n) : ∃ k, ρ x = .int k n := by
  unfold intOfD at hx
  split at hx
  · rename_i k n hv
    cases hx
    exact ⟨k, rep_s (h x hS _ hv)⟩
  · cases hx
theorem out_v {s : Sem Value} {d : D} (h : Out st w d P s) : ∃ v w', ((do pure (.value (← s)) : Sem Next)).run P w = .ok (.value v) w' ∧ Rep (OwnS st) w' v d ∧ Holds st w' ∧ Ext (OwnS st) w (OwnS st) w' := by
  obtain ⟨v, w', h1, h2, h3, h4⟩ := h
  exact ⟨v, w', by simp only [Sem.run_bind, h1, Result.andThen_ok, Sem.run_pure], h2, h3, h4⟩
theorem aOp_sound {o : Oper} {e : Nat → D} {d : D} (h : aOp P o e = some d) : OpY P o e st d := by
  intro ρ w hr hh
  have same : ∀ {v : Value}, Rep (OwnS st) w v d → (∃ u w', ((pure (.value v) : Sem Next)).run P w = .ok (.value u) w' ∧ Rep (OwnS st) w' u d ∧ Holds st w' ∧ Ext (OwnS st) w (OwnS st) w') := fun hv => ⟨_, w, rfl, hv, hh, Ext.refl _ _⟩
  unfold aOp at h
  unfold execOp
  cases hop : o.op <;> rw [hop] at h hr <;> simp only at h ⊢
  all_goals have ok : ∀ {x : Operand} {d : D}, x ∈ (Op.operands _) → ev e x = some d → Rep (OwnS st) w (ρ x) d := fun hS hx => hr _ hS _ hx
  case move x => exact same (ok (by simp [Op.operands]) h)
  case assign x => exact same (ok (by simp [Op.operands]) h)
  case pick c x y =>
    split at h
    · rename_i t hc
      have hcv := rep_s (ok (by simp [Op.operands]) hc)
      rw [hcv]
      refine ⟨if t then ρ x else ρ y, w, by simp [asBool], ?_, hh, Ext.refl _ _⟩
      cases t
      · exact ok (by simp [Op.operands]) h
      · exact ok (by simp [Op.operands]) h
    · cases h
  case nilCheck x =>
    split at h
    · rename_i b off hx
      cases h
      have hv := ok (by simp [Op.operands]) hx
      generalize ρ x = v at hv
      cases hv
      exact same (.ptr _ _)
    · rename_i c hx
      cases h
      have hv := ok (by simp [Op.operands]) hx
      generalize ρ x = v at hv
      cases hv with
      | ip b off us _ h1 h2 h3 h4 => exact same (.ip b off us _ h1 h2 h3 h4)
    · rename_i f p q hx
      cases h
      have hv := ok (by simp [Op.operands]) hx
      generalize ρ x = v at hv
      cases hv with
      | fn _ us1 us2 _ _ l1 l2 r1 r2 => exact same (.fn _ us1 us2 _ _ l1 l2 r1 r2)
    · rename_i f p q hx
      cases h
      have hv := ok (by simp [Op.operands]) hx
      generalize ρ x = v at hv
      cases hv with
      | fn _ us1 us2 _ _ l1 l2 r1 r2 => exact same (.fn _ us1 us2 _ _ l1 l2 r1 r2)
    · cases h
  case binOp op t x y t' =>
    split at h
    · rename_i da db hx hy
      exact out_v (out_bin hh (ok (by simp [Op.operands]) hx) (ok (by simp [Op.operands]) hy) h)
    · cases h
  case unOp op t x =>
    cases hx : ev e x with
    | none => rw [hx] at h; cases h
    | some da => rw [hx] at h; exact out_v (out_un hh (ok (by simp [Op.operands]) hx) h)
  case convert src dst x =>
    cases hx : ev e x with
    | none => rw [hx] at h; cases h
    | some da => rw [hx] at h; exact out_v (out_conv hh (ok (by simp [Op.operands]) hx) h)
  case makeFunc fn first caps =>
    split at h
    · rename_i p q h1 h2
      cases h
      have r1 := evL_rep hr (fun x hx => by simp [Op.operands]; exact .inl (by simpa using hx)) h1
      have r2 := evL_rep hr (fun x hx => by simp [Op.operands]; exact .inr (by simpa using hx)) h2
      refine out_v (Out.same hh (v := .func fn (first.map ρ) (caps.map ρ)) rfl ?_)
      have := Rep.fn fn (first.toList.map ρ) (caps.toList.map ρ) p q r1.1 r2.1 r1.2 r2.2
      have h1 : ∀ xs : Array Operand, xs.map ρ = (xs.toList.map ρ).toArray := fun xs => by apply Array.ext'; simp
      rw [h1 first, h1 caps]
      exact this
    · cases h
  case extract t i =>
    split at h
    · rename_i ds ht
      have hv := ok (by simp [Op.operands]) ht
      generalize ρ t = v at hv
      cases hv with
      | tup us _ l1 l2 =>
        obtain ⟨u, hu1, hu2⟩ := RepL.get? ⟨l1, l2⟩ h
        refine out_v (Out.same hh (v := u) ?_ hu2)
        simp [Instr.extract, hu1]
    · cases h
  case field t x f =>
    cases hx : ev e x with
    | none => rw [hx] at h; cases h
    | some da => rw [hx] at h; exact out_v (out_field hh (ok (by simp [Op.operands]) hx) h)
  case fieldAddr t x f =>
    cases hx : ev e x with
    | none => rw [hx] at h; cases h
    | some da => rw [hx] at h; exact out_v (out_fieldAddr hh (ok (by simp [Op.operands]) hx) h)
  case indexAddr t x i =>
    split at h
    · rename_i da n hx hi
      obtain ⟨k, hk⟩ := intOf_rep hr (by simp [Op.operands]) hi
      exact out_v (out_indexAddr hh (ok (by simp [Op.operands]) hx) hk h)
    · cases h
  case index t x i =>
    split at h
    · rename_i da n hx hi
      obtain ⟨k, hk⟩ := intOf_rep hr (by simp [Op.operands]) hi
      exact out_v (out_index hh (ok (by simp [Op.operands]) hx) hk h)
    · cases h
  case load t x =>
    split at h
    · rename_i cs ti hx ht
      exact out_v (out_load ht hh (ok (by simp [Op.operands]) hx) h)
    · cases h
  case slice t x lo hi mx =>
    split at h
    · rename_i da l hh' m hx hl hhi hm
      exact out_v (out_slice (optInt_rep hr (fun y hy => by subst hy; simp [Op.operands]) hl) (optInt_rep hr (fun y hy => by subst hy; simp [Op.operands]) hhi) (optInt_rep hr (fun y hy => by subst hy; simp [Op.operands]) hm) hh (ok (by simp [Op.operands]) hx) h)
    · cases h
  case build t ps =>
    cases hp : evP e ps.toList with
    | none => rw [hp] at h; cases h
    | some ds =>
      rw [hp] at h
      obtain ⟨k1, k2⟩ := evP_rep hr (fun x hx => by simp only [Op.operands, List.mem_toArray, List.mem_map]; exact ⟨x, hx, rfl⟩) hp
      have := out_v (out_build hh k1 k2 h)
      have he : ps.map (fun p => (p.1, ρ p.2)) = (ps.toList.map fun p => (p.1, ρ p.2)).toArray := by apply Array.ext'; simp
      rw [he]
      exact this
  case buildSlice t n ps =>
    cases hp : evP e ps.toList with
    | none => rw [hp] at h; cases h
    | some ds =>
      rw [hp] at h
      obtain ⟨k1, k2⟩ := evP_rep hr (fun x hx => by simp only [Op.operands, List.mem_toArray, List.mem_map]; exact ⟨x, hx, rfl⟩) hp
      have := out_v (out_buildSlice hh k1 k2 h)
      have he : ps.map (fun p => (p.1, ρ p.2)) = (ps.toList.map fun p => (p.1, ρ p.2)).toArray := by apply Array.ext'; simp
      rw [he]
      exact this
  case box t x =>
    split at h
    · rename_i da hx
      split at h
      · rename_i hl
        cases h
        exact out_v (out_box hh (ok (by simp [Op.operands]) hx) hl)
      · cases h
    · cases h
  case call c =>
    split at h
    · rename_i bi hb
      cases hds : evL e c.args.toList with
      | none => rw [hds] at h; cases h
      | some ds =>
        rw [hds] at h
        have r1 := evL_rep hr (fun x hx => by simp only [Op.operands, Call.operands, Array.mem_append]; exact .inr (by simpa using hx)) hds
        simp only [resolve, hb, Sem.run_bind, Sem.run_pure, Result.andThen_ok, invoke]
        exact out_builtin hh (by simpa using r1) h
    · cases h
  all_goals cases h

/-! ### those that turn memory -/
theorem opC_pure {r : Option Nat} {o : Oper} {e : Nat → D} {d : D} {K : D → St → Prop} (h : aOp P o e = some d) (hk : K d st) : OpC P r o e st K := (aOp_sound h).opC hk
theorem opC_val {r : Option Nat} {o : Oper} {e : Nat → D} {K : D → St → Prop} (hnd : ∀ c, o.op ≠ .defer c) (h : ∀ ρ w, RepE e (OwnS st) w ρ o.op.operands → Holds st w → (∃ v w', (execOp ρ o).run P w = .ok (.value v) w' ∧ PostV st w K v w') ∨ (∃ w', (execOp ρ o).run P w = .ok .skip w' ∧ PostV st w K undef w')) : OpC P r o e st K := by
  intro ρ w h1 h2
  rw [Oper.semAt_eq r ρ o hnd]
  rcases h ρ w h1 h2 with ⟨v, w', k1, k2⟩ | ⟨w', k1, k2⟩
  · rw [k1]; exact k2
  · rw [k1]; exact k2
/-- A variable, boxed. -/
theorem opC_box {r : Option Nat} {o : Oper} {e : Nat → D} {t : TypeId} {x : Operand} {d : D} {K : D → St → Prop} (ho : o.op = .box t x) (hx : ev e x = some d) (hl : d.cells.all D.leaf = true) (hk : ∀ b, K (.ptr b 0) (.box b t d.cells :: st)) : OpC P r o e st K := by
  refine opC_val (by rw [ho]; intro c hc; cases hc) fun ρ w hr hh => .inl ?_
  have hv := hr _ (by simp [ho, Op.operands, Call.operands]) _ hx
  obtain ⟨k1, k2⟩ := new_box hh t hv.cells (List.all_eq_true.1 hl)
  unfold execOp
  rw [ho]
  exact ⟨.pointer (some ⟨w.heap.size, 0, none⟩), _, rfl, .ptr w.heap.size 0, _, .ptr _ _, k1, k2, hk _⟩
/-- A variable of a type, its zero. -/
theorem opC_alloc {r : Option Nat} {o : Oper} {e : Nat → D} {t : TypeId} {ti : TI} {K : D → St → Prop} (ho : o.op = .alloc t) (ht : tinfo P t = some ti) (hz : ti.zero.all (fun v => noAgg v && (leafD v).leaf) = true) (hk : ∀ b, K (.ptr b 0) (.box b t (ti.zero.map leafD) :: st)) : OpC P r o e st K := by
  refine opC_val (by rw [ho]; intro c hc; cases hc) fun ρ w hr hh => .inl ?_
  obtain ⟨zv, hzl, hzr⟩ := run_zeroValue ht w
  have hz1 : ti.zero.all noAgg = true := List.all_eq_true.2 fun v hv => by
    have := List.all_eq_true.1 hz v hv
    simp only [Bool.and_eq_true] at this
    exact this.1
  have hz2 : ∀ d ∈ ti.zero.map leafD, d.leaf = true := fun d hd => by
    obtain ⟨v, hv, rfl⟩ := List.mem_map.1 hd
    have := List.all_eq_true.1 hz v hv
    simp only [Bool.and_eq_true] at this
    exact this.2
  obtain ⟨k1, k2⟩ := new_box hh t (us := zv.cells.toList) (by rw [hzl]; exact zero_rep hz1) hz2
  unfold execOp
  rw [ho]
  simp only [Instr.alloc, Sem.run_bind, hzr, Result.andThen_ok]
  exact ⟨.pointer (some ⟨w.heap.size, 0, none⟩), _, rfl, .ptr w.heap.size 0, _, .ptr _ _, k1, k2, hk _⟩
theorem opC_store {r : Option Nat} {o : Oper} {e : Nat → D} {t : TypeId} {ti : TI} {x y : Operand} {b off : Nat} {ty : TypeId} {cs : List D} {d : D} {st' : St} {K : D → St → Prop} (ho : o.op = .store t x y) (hx : ev e x = some (.ptr b off)) (hy : ev e y = some d) (ht : tinfo P t = some ti)
    (hsz : d.cells.length = ti.sz) (hl : d.cells.all D.leaf = true) (hat : ResAt (.box b ty cs) (.box b ty (splice cs off d.cells)) st st') (hoff : off + d.cells.length ≤ cs.length) (hk : K D.un st') : OpC P r o e st K := by
  refine opC_val (by rw [ho]; intro c hc; cases hc) fun ρ w hr hh => .inr ?_
  have hp := hr _ (by simp [ho, Op.operands, Call.operands]) _ hx
  have hv := hr _ (by simp [ho, Op.operands, Call.operands]) _ hy
  unfold execOp
  rw [ho]
  simp only
  generalize ρ x = p at hp
  cases hp
  obtain ⟨w', k1, k2, k3⟩ := run_store hh hat ht hv hsz hl hoff
  refine ⟨w', ?_, _, st', .s undef rfl, k2, k3, hk⟩
  simp only [Sem.run_bind, k1, Result.andThen_ok, Sem.run_pure]
theorem opC_loadBox {r : Option Nat} {o : Oper} {e : Nat → D} {t : TypeId} {ti : TI} {x : Operand} {b off : Nat} {ty : TypeId} {cs : List D} {d : D} {K : D → St → Prop} (ho : o.op = .load t x) (hx : ev e x = some (.ptr b off)) (ht : tinfo P t = some ti)
    (hm : Res.box b ty cs ∈ st) (hd : readD ti (cs.drop off) = some d) (hk : K d st) : OpC P r o e st K := by
  refine opC_val (by rw [ho]; intro c hc; cases hc) fun ρ w hr hh => .inl ?_
  have hp := hr _ (by simp [ho, Op.operands, Call.operands]) _ hx
  unfold execOp
  rw [ho]
  simp only
  generalize ρ x = p at hp
  cases hp
  obtain ⟨v, k1, k2⟩ := run_loadBox hh hm ht hd
  exact ⟨v, w, by simp only [Sem.run_bind, k1, Result.andThen_ok, Sem.run_pure], d, st, k2, hh, Ext.refl _ _, hk⟩
/-- append onto a slice whose room is one's own. -/
theorem opC_append {r : Option Nat} {o : Oper} {e : Nat → D} {t : TypeId} {ti : TI} {x y : Operand} {el : TypeId} {sz bytes : Nat} {z : List Value} {ow oy : Own} {es ys : List (List D)} {s1 : Own → St} {K : D → St → Prop} (ho : o.op = .call { callee := .builtin .append, args := #[x, y], argTypes := #[t, t] })
    (hx : ev e x = some (.sl ow es)) (hy : ev e y = some (.sl oy ys)) (ht : tinfo P t = some ti) (hk : ti.k = .slice el sz bytes z) (hne : ow ≠ .shared) (hat : ∀ o', ResAt (.room ow el sz es.length) (.room o' el sz (es ++ ys).length) st (s1 o'))
    (hes : ∀ a ∈ es, a.length = sz) (hys : ∀ a ∈ ys, a.length = sz) (hb : (es.length + ys.length) * bytes ≤ 140737488355328) (hm : es.length + ys.length ≤ 140737488355328) (hK : ∀ o', o' ≠ .shared → K (.sl o' (es ++ ys)) (s1 o')) : OpC P r o e st K := by
  refine opC_val (by rw [ho]; intro c hc; cases hc) fun ρ w hr hh => .inl ?_
  have h1 := hr _ (by simp [ho, Op.operands, Call.operands]) _ hx
  have h2 := hr _ (by simp [ho, Op.operands, Call.operands]) _ hy
  obtain ⟨s0, p1, -⟩ := (hat .shared).perm
  have hown := OwnS.perm p1
  rw [hown] at h1 h2
  obtain ⟨v', w', o', q1, q2, q3, q4, q5⟩ := run_append t o.type ht hk (hh.perm p1) h1 h2 hne hes hys hb hm
  obtain ⟨s0', p1', p2'⟩ := (hat o').perm
  have hs : s0.Perm s0' := (List.perm_cons _).1 (p1.symm.trans p1')
  have p3 : (Res.room o' el sz (es ++ ys).length :: s0).Perm (s1 o') := (hs.cons _).trans p2'.symm
  refine ⟨v', w', ?_, .sl o' (es ++ ys), s1 o', ?_, q4.perm p3, ?_, hK o' q1⟩
  · unfold execOp
    rw [ho]
    simp only [resolve, invoke, builtin, Sem.run_bind, Sem.run_pure, Result.andThen_ok, List.map_toArray, List.map_cons, List.map_nil, q2]
  · rw [← OwnS.perm p3]; exact q3
  · rw [hown, ← OwnS.perm p3]; exact q5
end
end Go.Proofs.Ythlidbddeclnaaa
