/- Operations that turn nothing: the rest of them, and all of them together. No statement is proved here. -/
import Derived.Test.YthlidbddeclnaaaAmOps2
namespace Go.Proofs.Ythlidbddeclnaaa
open Go.RowKit
section
variable {P : Program} {st : St} {w : World}
theorem run_bound {k : IntKind} {n : Int} {y : Nat} (code : BoundsCode) (h : 0 ≤ n ∧ n ≤ y) : (Instr.sliceBound (.int k n) y code).run P w = .ok n.toNat w := by
  simp only [Instr.sliceBound, Sem.run_bind, asIntOf, Sem.run_pure, Result.andThen_ok]
  rw [if_pos h]; rfl
/-- The values of bounds. -/
def VInt (o : Option Value) (n : Option Int) : Prop := match n with | none => o = none | some n => ∃ k, o = some (.int k n)
theorem run_bounds {isS : Bool} {len cap l h : Nat} {lo hi mx : Option Int} {vl vh vm : Option Value} (hl : VInt vl lo) (hh : VInt vh hi) (hm : VInt vm mx) (hb : aBounds len lo hi = some (l, h)) (hlc : len ≤ cap) (hmx : mx = none ∨ (mx = hi ∧ hi ≠ none)) :
    (Instr.sliceBounds isS len cap vl vh vm).run P w = .ok (l, h, if mx = none then cap else h) w := by
  unfold aBounds at hb
  unfold Instr.sliceBounds
  rcases hmx with rfl | ⟨rfl, hne⟩
  · subst hm
    cases hi with
    | none =>
      subst hh
      cases lo with
      | none =>
        subst hl
        simp only [Option.some.injEq, Prod.mk.injEq] at hb
        obtain ⟨rfl, rfl⟩ := hb
        simp [Sem.run_bind]
      | some lo =>
        obtain ⟨k, rfl⟩ := hl
        simp only at hb
        split at hb
        · rename_i hlo
          simp only [Option.some.injEq, Prod.mk.injEq] at hb
          obtain ⟨rfl, rfl⟩ := hb
          simp only [Sem.run_bind, Sem.run_pure, Result.andThen_ok, run_bound _ hlo, if_true]
        · cases hb
    | some hi =>
      obtain ⟨kh, rfl⟩ := hh
      simp only at hb
      split at hb
      · rename_i x hx
        split at hx
        · rename_i hhi
          cases hx
          have hhi' : 0 ≤ hi ∧ hi ≤ (cap : Int) := by omega
          cases lo with
          | none =>
            subst hl
            simp only [Option.some.injEq, Prod.mk.injEq] at hb
            obtain ⟨rfl, rfl⟩ := hb
            simp only [Sem.run_bind, Sem.run_pure, Result.andThen_ok, run_bound _ hhi', if_true]
          | some lo =>
            obtain ⟨k, rfl⟩ := hl
            simp only at hb
            split at hb
            · rename_i hlo
              simp only [Option.some.injEq, Prod.mk.injEq] at hb
              obtain ⟨rfl, rfl⟩ := hb
              simp only [Sem.run_bind, Sem.run_pure, Result.andThen_ok, run_bound _ hhi', run_bound _ hlo, if_true]
            · cases hb
        · cases hx
      · cases hb
  · cases mx with
    | none => exact absurd rfl hne
    | some hi =>
      obtain ⟨kh, rfl⟩ := hh
      obtain ⟨km, rfl⟩ := hm
      simp only at hb
      split at hb
      · rename_i x hx
        split at hx
        · rename_i hhi
          cases hx
          have hhi' : 0 ≤ hi ∧ hi ≤ (cap : Int) := by omega
          have hhi2 : 0 ≤ hi ∧ hi ≤ (hi.toNat : Int) := by omega
          cases lo with
          | none =>
            subst hl
            simp only [Option.some.injEq, Prod.mk.injEq] at hb
            obtain ⟨rfl, rfl⟩ := hb
            simp only [Sem.run_bind, Sem.run_pure, Result.andThen_ok, run_bound _ hhi', run_bound _ hhi2, reduceCtorEq, if_false]
          | some lo =>
            obtain ⟨k, rfl⟩ := hl
            simp only at hb
            split at hb
            · rename_i hlo
              simp only [Option.some.injEq, Prod.mk.injEq] at hb
              obtain ⟨rfl, rfl⟩ := hb
              simp only [Sem.run_bind, Sem.run_pure, Result.andThen_ok, run_bound _ hhi', run_bound _ hhi2, run_bound _ hlo, reduceCtorEq, if_false]
            · cases hb
        · cases hx
      · cases hb
theorem bounds_le {len l h : Nat} {lo hi : Option Int} (hb : aBounds len lo hi = some (l, h)) : l ≤ h ∧ h ≤ len := by
  unfold aBounds at hb
  cases hi with
  | none =>
    cases lo with
    | none => simp only [Option.some.injEq, Prod.mk.injEq] at hb; omega
    | some lo =>
      simp only at hb
      split at hb
      · simp only [Option.some.injEq, Prod.mk.injEq] at hb; omega
      · cases hb
  | some hi =>
    simp only at hb
    split at hb
    · rename_i x hx
      split at hx
      · cases hx
        cases lo with
        | none => simp only [Option.some.injEq, Prod.mk.injEq] at hb; omega
        | some lo =>
          simp only at hb
          split at hb
          · simp only [Option.some.injEq, Prod.mk.injEq] at hb; omega
          · cases hb
      · cases hx
    · cases hb
theorem flat_range {sz : Nat} {es : List (List D)} (he : ∀ e ∈ es, e.length = sz) (l n : Nat) : ((es.drop l).take n).flatten = (es.flatten.drop (l * sz)).take (n * sz) := by
  induction es generalizing l n with
  | nil => simp
  | cons e es ih =>
    have hl := he e (List.mem_cons_self ..)
    have ih' := ih (fun x hx => he x (List.mem_cons_of_mem _ hx))
    cases l with
    | zero =>
      rw [Nat.zero_mul, List.drop_zero, List.drop_zero]
      cases n with
      | zero => simp
      | succ n =>
        rw [List.take_succ_cons, List.flatten_cons, List.flatten_cons]
        have := ih' 0 n
        rw [Nat.zero_mul, List.drop_zero, List.drop_zero] at this
        rw [this, Nat.succ_mul, Nat.add_comm, ← hl, List.take_append]
        congr 1
        · rw [List.take_of_length_le (by omega)]
        · congr 1; omega
    | succ l =>
      rw [List.drop_succ_cons, List.flatten_cons, ih' l n, Nat.succ_mul, Nat.add_comm (l * sz) sz, ← List.drop_drop, ← hl, List.drop_left]
theorem out_slice {t : TypeId} {a : Value} {da d : D} {lo hi mx : Option Int} {vl vh vm : Option Value} (hl : VInt vl lo) (hhi : VInt vh hi) (hm : VInt vm mx) (hh : Holds st w) (ha : Rep (OwnS st) w a da) (h : aSlice P t da lo hi mx = some d) : Out st w d P (Instr.sliceAt t a vl vh vm) := by
  unfold aSlice at h
  split at h
  · rename_i s hk
    obtain ⟨ti, h1, h2⟩ := kT_spec hk (by simp)
    have hu := (und_of_k h1).2.2.1 h2
    cases rep_s ha
    split at h
    · split at h
      · rename_i l hx hb
        cases h
        subst hm
        refine Out.same hh ?_ (.s _ rfl)
        simp only [Instr.sliceAt, Sem.run_bind, run_underlying hu, Result.andThen_ok, Instr.slice, Option.isSome_none, Bool.false_eq_true, if_false, Sem.run_pure, run_bounds (isS := false) hl hhi (mx := none) rfl hb (Nat.le_refl _) (.inl rfl)]
      · cases h
    · cases h
  · rename_i e sz by_ z o es hk
    obtain ⟨ti, h1, h2⟩ := kT_spec hk (by simp)
    obtain ⟨hu, ii, zv, q1, q2, q3, q4, q5, q6, q7⟩ := (und_of_k h1).2.2.2.2.1 _ _ _ _ h2
    obtain ⟨ad, cap, uv, sz1, rfl, c1, c2, c3, c4, c5, c6, c7, c8, c9, -⟩ := calm_src ha
    split at h
    · rename_i l hx hb
      obtain ⟨b1, b2⟩ := bounds_le hb
      split at h
      · rename_i hall
        have hes : ∀ e ∈ es, e.length = sz := fun e he => by simpa using List.all_eq_true.1 hall e he
        have hmx : mx = none ∨ (mx = hi ∧ hi ≠ none) := by
          cases mx with
          | none => exact .inl rfl
          | some m =>
            simp only at h
            split at h
            · rename_i e; exact .inr ⟨e.symm, by rw [e]; simp⟩
            · cases h
        have hd : ∃ o', d = .sl o' ((es.drop l).take (hx - l)) ∧ (o' = .shared ∨ (o' = .tight ∧ mx ≠ none)) := by
          cases mx with
          | none => cases h; exact ⟨_, rfl, .inl rfl⟩
          | some m =>
            simp only at h
            split at h
            · cases h; exact ⟨_, rfl, .inr ⟨rfl, by simp⟩⟩
            · cases h
        obtain ⟨o', rfl, ho'⟩ := hd
        have hrun : (Instr.sliceAt t (.slice ad es.length cap) vl vh vm).run P w = .ok (.slice (if (if mx = none then cap else hx) = l then ad else ad.map (·.add (l * sz))) (hx - l) ((if mx = none then cap else hx) - l)) w := by
          simp only [Instr.sliceAt, Sem.run_bind, run_underlying hu, Result.andThen_ok, Instr.slice, run_bounds (isS := true) hl hhi hm hb c1 hmx, sizeOf, typeInfo, run_program, q1, Sem.run_pure, q4]
        have hlen : ((es.drop l).take (hx - l)).length = hx - l := by rw [List.length_take, List.length_drop]; omega
        have hsz1 : ∀ e ∈ (es.drop l).take (hx - l), e.length = sz1 := fun e he => c4 e (List.mem_of_mem_drop (List.mem_of_mem_take he))
        have hrl : RepL (OwnS st) w ((uv.drop (l * sz1)).take ((hx - l) * sz1)) ((es.drop l).take (hx - l)).flatten := by
          rw [flat_range c4]; exact (c6.drop _).take _
        have hcm : (if mx = none then cap else hx) ≤ cap := by split <;> omega
        have hcm2 : hx ≤ (if mx = none then cap else hx) := by split <;> omega
        generalize hM : (if mx = none then cap else hx) = M at *
        refine Out.same hh hrun ?_
        have hflr := flat_range c4 l (hx - l)
        generalize (es.drop l).take (hx - l) = L at *
        rw [← hlen]
        refine .sl o' L _ (M - l) ((uv.drop (l * sz1)).take ((hx - l) * sz1)) sz1 (by omega) (by omega) (fun hn => ?_) c3 hsz1 hrl.1 (fun x hx' => ?_) (fun j hj => ?_) hrl.2 ?_
        · split at hn
          · omega
          · cases ad with
            | none => have := c8 rfl; omega
            | some ad => cases hn
        · rw [hflr] at hx'
          exact c7 x (List.mem_of_mem_drop (List.mem_of_mem_take hx'))
        · simp only [List.length_take, List.length_drop] at hj
          have hlt : l < hx := by
            rcases Nat.lt_or_ge l hx with h | h
            · exact h
            · have : hx - l = 0 := by omega
              rw [this, Nat.zero_mul] at hj; omega
          have hmul : l * sz1 + (hx - l) * sz1 ≤ es.length * sz1 := by
            rw [← Nat.add_mul]; exact Nat.mul_le_mul_right _ (by omega)
          obtain ⟨b, off, rfl, hcalm⟩ := c9 (l * sz1 + j) (by omega)
          have hszeq : sz1 = sz := by
            have hne : 0 < es.length := by omega
            rw [← c4 es[0] (List.getElem_mem hne), hes es[0] (List.getElem_mem hne)]
          rw [if_neg (by omega)]
          refine ⟨b, off + l * sz1, by rw [Option.map_some, add_lit, hszeq], ?_⟩
          rw [List.getElem_take, List.getElem_drop, Nat.add_assoc]
          exact hcalm
        · rcases ho' with rfl | ⟨rfl, hne⟩
          · trivial
          · rw [if_neg hne] at hM
            show M - l = _
            omega
      · cases h
    · cases h
  · cases h
theorem out_load {t : TypeId} {ti : TI} {a : Value} {cs : List D} {d : D} (ht : tinfo P t = some ti) (hh : Holds st w) (ha : Rep (OwnS st) w a (.ip cs)) (h : readD ti cs = some d) : Out st w d P (Instr.loadAt t a) := by
  cases ha with
  | ip b off us _ h1 h2 h3 h4 =>
    obtain ⟨v, k1, k2⟩ := run_load_cells ht (fun i hi => (h3 i hi).2.2) ⟨h1, h4⟩ h
    exact Out.same hh k1 k2
theorem out_box {t : TypeId} {a : Value} {da : D} (hh : Holds st w) (ha : Rep (OwnS st) w a da) (hl : da.cells.all D.leaf = true) : Out st w (.ip da.cells) P (Instr.box t a) := by
  have hc := ha.cells
  have he := Ext.alloc (OwnS st) w (.cells a.cells t)
  refine ⟨.pointer (some ⟨w.heap.size, 0, none⟩), w.alloc (.cells a.cells t), ?_, ?_, hh.alloc _, he⟩
  · rfl
  · refine .ip w.heap.size 0 a.cells.toList _ hc.1 (List.all_eq_true.1 hl) (fun i hi => ?_) (hc.ext he).2
    rw [Nat.zero_add]
    exact new_calm hh a.cells.toList t (0, 0) hi
theorem out_len {t ty : TypeId} {a : Value} {da : D} {n : Int} (hh : Holds st w) (ha : Rep (OwnS st) w a da) (h : aLen P t da = some n) : Out st w (.i n) P (Builtin.len_ #[t] ty #[a]) := by
  unfold aLen at h
  split at h
  · split at h
    · rename_i hk
      obtain ⟨ti, h1, h2⟩ := kT_spec hk (by simp)
      obtain ⟨hu, -⟩ := (und_of_k h1).2.2.2.2.1 _ _ _ _ h2
      cases h
      obtain ⟨ad, cap, uv, sz1, rfl, -⟩ := calm_src ha
      refine Out.same hh ?_ (.s _ rfl)
      simp [Builtin.len_, run_underlying hu, goInt]
    · cases h
  · split at h
    · rename_i hk
      obtain ⟨ti, h1, h2⟩ := kT_spec hk (by simp)
      obtain ⟨hu, -⟩ := (und_of_k h1).2.2.2.2.1 _ _ _ _ h2
      cases h
      cases ha
      refine Out.same hh ?_ (.s _ rfl)
      simp [Builtin.len_, run_underlying hu, goInt]
    · cases h
  · split at h
    · rename_i hk
      obtain ⟨ti, h1, h2⟩ := kT_spec hk (by simp)
      have hu := (und_of_k h1).2.2.1 h2
      cases h
      cases rep_s ha
      refine Out.same hh ?_ (.s _ rfl)
      simp [Builtin.len_, run_underlying hu, goInt]
    · cases h
  · cases h
theorem RepL.one {O : Nat → Nat → Prop} {us : List Value} {d : D} (h : RepL O w us [d]) : ∃ u, us = [u] ∧ Rep O w u d := by
  obtain ⟨u, t, rfl, h1, h2⟩ := h.inv_cons
  rw [h2.inv_nil]; exact ⟨u, rfl, h1⟩
theorem RepL.two {O : Nat → Nat → Prop} {us : List Value} {d d' : D} (h : RepL O w us [d, d']) : ∃ u u', us = [u, u'] ∧ Rep O w u d ∧ Rep O w u' d' := by
  obtain ⟨u, t, rfl, h1, h2⟩ := h.inv_cons
  obtain ⟨u', rfl, h3⟩ := h2.one
  exact ⟨u, u', rfl, h1, h3⟩
theorem out_builtin {bi : Builtin} {ts : Array TypeId} {ty : TypeId} {cc : Array Bool} {vs : Array Value} {ds : List D} {d : D} (hh : Holds st w) (ha : RepL (OwnS st) w vs.toList ds) (h : aBi P bi ts.toList ds = some d) :
    ∃ v w', (builtin bi ts ty cc vs).run P w = .ok (.value v) w' ∧ Rep (OwnS st) w' v d ∧ Holds st w' ∧ Ext (OwnS st) w (OwnS st) w' := by
  obtain ⟨tl⟩ := ts
  obtain ⟨vl⟩ := vs
  dsimp only at h ha
  have lift : ∀ {s : Sem Value}, Out st w d P s → (∀ w', (builtin bi tl.toArray ty cc vl.toArray).run P w' = (s.run P w').andThen fun v w'' => .ok (.value v) w'') → ∃ v w', (builtin bi tl.toArray ty cc vl.toArray).run P w = .ok (.value v) w' ∧ Rep (OwnS st) w' v d ∧ Holds st w' ∧ Ext (OwnS st) w (OwnS st) w' := by
    rintro s ⟨v, w', k1, k2, k3, k4⟩ hs
    exact ⟨v, w', by rw [hs, k1]; rfl, k2, k3, k4⟩
  unfold aBi at h
  split at h
  · rename_i t da
    obtain ⟨u, rfl, hu⟩ := ha.one
    cases hl : aLen P t da with
    | none => rw [hl] at h; cases h
    | some n =>
      rw [hl] at h; cases h
      exact lift (out_len (ty := ty) hh hu hl) fun w' => by simp [builtin, Sem.run_bind]
  · rename_i t es
    obtain ⟨u, rfl, hu⟩ := ha.one
    split at h
    · rename_i hk
      obtain ⟨ti, h1, h2⟩ := kT_spec hk (by simp)
      obtain ⟨hun, -⟩ := (und_of_k h1).2.2.2.2.1 _ _ _ _ h2
      cases h
      obtain ⟨ad, cap, uv, sz1, rfl, _, _, _, _, _, _, _, _, _, hc⟩ := calm_src hu
      have hc' : cap = es.length := hc
      subst hc'
      refine ⟨.int .i64 es.length, w, ?_, .s _ rfl, hh, Ext.refl _ _⟩
      simp [builtin, Builtin.cap_, run_underlying hun, goInt]
    · cases h
  · rename_i k x k' y
    obtain ⟨u, u', rfl, hu, hu'⟩ := ha.two
    cases rep_s hu; cases rep_s hu'
    cases h
    refine ⟨.int k (if y < x then y else x), w, ?_, .s _ rfl, hh, Ext.refl _ _⟩
    simp [builtin, Builtin.min_, Builtin.min2]
  · rename_i k x k' y
    obtain ⟨u, u', rfl, hu, hu'⟩ := ha.two
    cases rep_s hu; cases rep_s hu'
    cases h
    refine ⟨.int k (if y > x then y else x), w, ?_, .s _ rfl, hh, Ext.refl _ _⟩
    simp [builtin, Builtin.max_, Builtin.max2]
  · cases h
end
end Go.Proofs.Ythlidbddeclnaaa
