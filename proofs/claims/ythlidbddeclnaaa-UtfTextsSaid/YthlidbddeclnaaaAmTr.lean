/- What code does to data: triples over what slots read as, and what memory somebody may still write. No statement is proved here. -/
import Derived.Test.YthlidbddeclnaaaAmMem
import Derived.OrdersIn
import Derived.RangeFuncIn
import Derived.RangeFuncLeaves
namespace Go.Proofs.Ythlidbddeclnaaa
open Go.RowKit

abbrev FR (r : Option Nat) : Fence := { fn := fun _ => True, depth := none, alive := false, round := r }
structure AA where
  e : Nat → D
  df : List Deferred
def upd (e : Nat → D) (dst : Option Tmp) (d : D) : Nat → D :=
  match dst with
  | none => e
  | some t => fun i => if i = t then d else e i
def AA.put (A : AA) (dst : Option Tmp) (d : D) : AA := { A with e := upd A.e dst d }
def RelA (N : Nat) (O : Nat → Nat → Prop) (w : World) (a : Act) (A : AA) : Prop := a.tmps.size = N ∧ a.defers = A.df ∧ ∀ t, Rep O w (a.tmps.getD t undef) (A.e t)
def dstOk (N : Nat) (dst : Option Tmp) : Bool := match dst with | none => true | some t => decide (t < N)
section
variable {N : Nat} {O O' : Nat → Nat → Prop} {w w' : World} {a : Act} {A : AA}
theorem RelA.ext (h : RelA N O w a A) (he : Ext O w O' w') : RelA N O' w' a A := ⟨h.1, h.2.1, fun t => (h.2.2 t).ext he⟩
theorem RelA.put (h : RelA N O w a A) {dst : Option Tmp} (hd : dstOk N dst = true) {v : Value} {d : D} (hr : Rep O w v d) : RelA N O w (a.put dst v) (A.put dst d) := by
  cases dst with
  | none => exact h
  | some t =>
    have ht : t < N := by simpa [dstOk] using hd
    refine ⟨by simpa [Act.put] using h.1, h.2.1, fun i => ?_⟩
    show Rep O w ((a.tmps.setIfInBounds t v).getD i undef) (if i = t then d else A.e i)
    by_cases hi : i = t
    · subst hi
      rw [if_pos rfl]
      simp [Array.getD, h.1, ht]
      exact hr
    · rw [if_neg hi]
      have : (a.tmps.setIfInBounds t v).getD i undef = a.tmps.getD i undef := by
        simp only [Array.getD_eq_getD_getElem?]
        rw [Array.getElem?_setIfInBounds_ne (Ne.symm hi)]
      rw [this]
      exact h.2.2 i
end
/-- A constant's data. -/
def leafD : Value → D
  | .slice none 0 0 => .sl .tight []
  | v => .s v
def constD : Value → Option D
  | .agg cs => if cs.all noAgg then some (.agg (cs.toList.map leafD)) else none
  | .tuple cs => if cs = #[] then some D.un else none
  | v => some (leafD v)
def ev (e : Nat → D) : Operand → Option D
  | .tmp t => some (e t)
  | .const v => constD v
  | .func f => some (.fn (.func f) [] [])
  | .global _ => none
theorem leafD_rep {O : Nat → Nat → Prop} {w : World} {v : Value} (h : noAgg v = true) : Rep O w v (leafD v) := by
  unfold leafD
  split
  · exact .sl .tight [] none 0 [] 1 (Nat.le_refl _) (Nat.zero_le _) (fun _ => rfl) (Nat.lt_succ_self _) (fun e h => by cases h) rfl (fun d h => by simp at h) (fun i h => absurd h (Nat.not_lt_zero _)) (fun i h => absurd h (Nat.not_lt_zero _)) rfl
  · exact .s v h
theorem constD_rep {O : Nat → Nat → Prop} {w : World} {v : Value} {d : D} (h : constD v = some d) : Rep O w v d := by
  unfold constD at h
  split at h
  · rename_i cs
    split at h
    · rename_i hall
      cases h
      have := Array.all_eq_true_iff_forall_mem.1 hall
      have hr := RepL.map (O := O) (w := w) (l := cs.toList) (f := id) (g := leafD) (fun x hx => leafD_rep (this x (by simpa using hx)))
      rw [List.map_id] at hr
      have := Rep.agg (O := O) (w := w) cs.toList (cs.toList.map leafD) hr.1 hr.2
      simpa using this
    · cases h
  · rename_i cs
    split at h
    · rename_i hc
      cases h
      subst hc
      exact .s undef rfl
    · cases h
  · cases h
    refine leafD_rep ?_
    cases v <;> first | rfl | simp_all
theorem ev_rep {N : Nat} {O : Nat → Nat → Prop} {w : World} {a : Act} {A : AA} (h : RelA N O w a A) {x : Operand} {d : D} (hx : ev A.e x = some d) : Rep O w (a.eval x) d := by
  cases x with
  | tmp t => cases hx; exact h.2.2 t
  | const v => exact constD_rep hx
  | func f => cases hx; exact .fn (.func f) [] [] [] [] rfl rfl (fun i h => absurd h (Nat.not_lt_zero _)) (fun i h => absurd h (Nat.not_lt_zero _))
  | global g => cases hx

/-! ### one operation -/
/-- Operands' values read as their data. -/
def RepE (e : Nat → D) (O : Nat → Nat → Prop) (w : World) (ρ : Operand → Value) (S : Array Operand) : Prop := ∀ x ∈ S, ∀ d, ev e x = some d → Rep O w (ρ x) d
theorem RelA.repE {N : Nat} {O : Nat → Nat → Prop} {w : World} {a : Act} {A : AA} (h : RelA N O w a A) (S : Array Operand) : RepE A.e O w a.eval S := fun _ _ _ hx => ev_rep h hx
/-- An operation hands back what reads as d, and turns nothing. -/
def OpY (P : Program) (o : Oper) (e : Nat → D) (st : St) (d : D) : Prop :=
  ∀ ρ w, RepE e (OwnS st) w ρ o.op.operands → Holds st w → ∃ v w', (execOp ρ o).run P w = .ok (.value v) w' ∧ Rep (OwnS st) w' v d ∧ Holds st w' ∧ Ext (OwnS st) w (OwnS st) w'
def PostV (st : St) (w : World) (K : D → St → Prop) (v : Value) (w' : World) : Prop := ∃ d st', Rep (OwnS st') w' v d ∧ Holds st' w' ∧ Ext (OwnS st) w (OwnS st') w' ∧ K d st'
def ResC (F : Fence) (P : Program) (K : Value → World → Prop) : Result Next → Prop
  | .ok (.value v) w' => K v w'
  | .ok .skip w' => K undef w'
  | .ok (.enter f args) w' => CallsIn F 0 P f args w' fun e w'' => ∃ v, e = .returned v ∧ K v w''
  | .ok (.round l f tmps assign body) w' => RoundIn F 0 P l f tmps assign body w' fun e w'' => ∃ v, e = .returned v ∧ K v w''
  | _ => False
theorem ResC.mono {F : Fence} {P : Program} {K K' : Value → World → Prop} (h : ∀ v w, K v w → K' v w) : ∀ {r : Result Next}, ResC F P K r → ResC F P K' r
  | .ok n w', hh => by
    cases n <;> simp only [ResC] at hh ⊢
    case value v => exact h _ _ hh
    case skip => exact h _ _ hh
    case enter f args => exact hh.mono fun e w'' ⟨v, he, hk⟩ => ⟨v, he, h _ _ hk⟩
    case round l f tmps assign body => exact hh.mono fun e w'' ⟨v, he, hk⟩ => ⟨v, he, h _ _ hk⟩
  | .halt x w', hh => by simp only [ResC] at hh
/-- What an operation does. -/
def OpC (P : Program) (r : Option Nat) (o : Oper) (e : Nat → D) (st : St) (K : D → St → Prop) : Prop :=
  ∀ ρ w, RepE e (OwnS st) w ρ o.op.operands → Holds st w → ResC (FR r) P (PostV st w K) ((o.semAt r ρ).run P w)
theorem PostV.mono {st : St} {w : World} {K K' : D → St → Prop} (h : ∀ d st', K d st' → K' d st') {v : Value} {w' : World} : PostV st w K v w' → PostV st w K' v w'
  | ⟨d, st', h1, h2, h3, h4⟩ => ⟨d, st', h1, h2, h3, h _ _ h4⟩
theorem OpC.mono {P : Program} {r : Option Nat} {o : Oper} {e : Nat → D} {st : St} {K K' : D → St → Prop} (h : OpC P r o e st K) (hk : ∀ d st', K d st' → K' d st') : OpC P r o e st K' :=
  fun ρ w h1 h2 => (h ρ w h1 h2).mono fun _ _ => PostV.mono hk
theorem semAt_of_value {P : Program} {r : Option Nat} {o : Oper} {ρ : Operand → Value} {w w' : World} {v : Value} (h : (execOp ρ o).run P w = .ok (.value v) w') : (o.semAt r ρ).run P w = .ok (.value v) w' := by
  rw [Oper.semAt_eq]
  · exact h
  · intro c hc
    unfold execOp at h
    rw [hc] at h
    simp only [Sem.run_bind] at h
    generalize (resolve ρ c o.type).run P w = x at h
    cases x <;> simp at h
theorem OpY.opC {P : Program} {r : Option Nat} {o : Oper} {e : Nat → D} {st : St} {d : D} {K : D → St → Prop} (h : OpY P o e st d) (hk : K d st) : OpC P r o e st K := by
  intro ρ w h1 h2
  obtain ⟨v, w', hr, h3, h4, h5⟩ := h ρ w h1 h2
  rw [semAt_of_value hr]
  exact ⟨d, st, h3, h4, h5, hk⟩

/-! ### lists of operations -/
def wantedA (ops : Array Oper) (o : Oper) (e : Nat → D) : Bool :=
  match o.guard with
  | none => true
  | some (j, want) => match (ops[j]?).bind (·.dst) with
    | some t => match e t with
      | .s (.bool b) => b == want
      | _ => false
    | none => false
theorem wantedA_eq {N : Nat} {O : Nat → Nat → Prop} {w : World} {a : Act} {A : AA} (h : RelA N O w a A) (ops : Array Oper) (o : Oper) (hg : ∀ j b, o.guard = some (j, b) → ∀ t, (ops[j]?).bind (·.dst) = some t → t < N) :
    Region.wanted o (yielded ops a.tmps) = wantedA ops o A.e := by
  unfold Region.wanted wantedA
  cases hgd : o.guard with
  | none => rfl
  | some q =>
    obtain ⟨j, want⟩ := q
    dsimp only
    unfold yielded
    cases ht : (ops[j]?).bind (·.dst) with
    | none => simp
    | some t =>
      have htN := hg j want hgd t ht
      have hr := h.2.2 t
      simp only [Option.bind_some]
      have hget : a.tmps[t]? = some (a.tmps.getD t undef) := by
        rw [Array.getD_eq_getD_getElem?, Array.getElem?_eq_getElem (by rw [h.1]; exact htN)]; rfl
      rw [hget]
      generalize a.tmps.getD t undef = v at *
      generalize A.e t = d at *
      cases hr <;> first | rfl | skip
      all_goals (cases v <;> first | rfl | skip)
      all_goals (cases ‹Bool› <;> cases want <;> rfl)
def guardOk (N : Nat) (ops : Array Oper) (o : Oper) : Bool :=
  match o.guard with
  | none => true
  | some (j, _) => match (ops[j]?).bind (·.dst) with
    | some t => decide (t < N)
    | none => true
theorem guardOk_spec {N : Nat} {ops : Array Oper} {o : Oper} (h : guardOk N ops o = true) : ∀ j b, o.guard = some (j, b) → ∀ t, (ops[j]?).bind (·.dst) = some t → t < N := by
  intro j b hg t ht
  unfold guardOk at h
  rw [hg] at h
  dsimp only at h
  rw [ht] at h
  simpa using h
def TrOps (P : Program) (r : Option Nat) (ops : Array Oper) : List Oper → AA → St → (AA → St → Prop) → Prop
  | [], A, st, K => K A st
  | o :: l, A, st, K => if wantedA ops o A.e then OpC P r o A.e st fun d st' => TrOps P r ops l (A.put o.dst d) st' K else TrOps P r ops l (A.put o.dst D.un) st K
def PostA (N : Nat) (st : St) (w : World) (Q : Exit → AA → St → Prop) : Exit → Act → World → Prop := fun ex a' w' => ∃ A' st', RelA N (OwnS st') w' a' A' ∧ Holds st' w' ∧ Ext (OwnS st) w (OwnS st') w' ∧ Q ex A' st'
def Tr (P : Program) (N : Nat) (r : Option Nat) (c : Code) (A : AA) (st : St) (Q : Exit → AA → St → Prop) : Prop :=
  ∀ a w, RelA N (OwnS st) w a A → Holds st w → c.wpIn (FR r) 0 P (PostA N st w Q) a w
def opsOk (N : Nat) (l : List Oper) : Bool := l.all fun o => dstOk N o.dst && guardOk N l.toArray o
section
variable {P : Program} {N : Nat} {r : Option Nat} {A : AA} {st : St} {Q : Exit → AA → St → Prop}
theorem PostA.ext {st st1 : St} {w w1 : World} (he : Ext (OwnS st) w (OwnS st1) w1) {ex : Exit} {a : Act} {w' : World} (h : PostA N st1 w1 Q ex a w') : PostA N st w Q ex a w' := by
  obtain ⟨A', st', h1, h2, h3, h4⟩ := h
  exact ⟨A', st', h1, h2, he.trans h3, h4⟩
theorem Tr.mono {c : Code} {Q' : Exit → AA → St → Prop} (h : Tr P N r c A st Q) (hq : ∀ e A st, Q e A st → Q' e A st) : Tr P N r c A st Q' :=
  fun a w h1 h2 => wpIn_mono (h a w h1 h2) fun _ _ _ ⟨A', st', k1, k2, k3, k4⟩ => ⟨A', st', k1, k2, k3, hq _ _ _ k4⟩
theorem wpIn_of_ResC {o : Oper} {a : Act} {w : World} {K : Act → World → Prop} {Q : Exit → Act → World → Prop} (h : ResC (FR r) P (fun v w' => K (a.put o.dst v) w') ((o.semAt r a.eval).run P w)) : o.wpIn (FR r) 0 P a w K Q := by
  refine ⟨fun f _ => trivial, ?_⟩
  show o.uponIn (FR r) 0 P a K Q ((o.semAt r a.eval).run P w)
  generalize (o.semAt r a.eval).run P w = x at *
  cases x with
  | halt x w' => exact h.elim
  | ok n w' =>
    cases n <;> simp only [ResC] at h <;> simp only [Oper.uponIn]
    case value v => exact h
    case skip => exact h
    case enter f args => exact ⟨(fun h => by cases h), h.mono fun e w'' ⟨v, he, hk⟩ => by subst he; exact hk⟩
    case round l f tmps assign body => exact ⟨(fun h => by cases h), h.mono fun e w'' ⟨v, he, hk⟩ => by subst he; exact hk⟩
theorem TrOps.sound {ops : Array Oper} {K : AA → St → Prop} : ∀ (l : List Oper) (A : AA) (st : St) (a : Act) (w : World) (Q : Exit → Act → World → Prop), (∀ o ∈ l, dstOk N o.dst = true ∧ guardOk N ops o = true) → RelA N (OwnS st) w a A → Holds st w → TrOps P r ops l A st K →
    (∀ A' st' a' w', RelA N (OwnS st') w' a' A' → Holds st' w' → Ext (OwnS st) w (OwnS st') w' → K A' st' → Q .normal a' w') → wpListIn (FR r) 0 P ops Q l a w
  | [], A, st, a, w, Q, _, hr, hh, h, hQ => hQ A st a w hr hh (Ext.refl _ _) h
  | o :: l, A, st, a, w, Q, hok, hr, hh, h, hQ => by
    obtain ⟨hd, hg⟩ := hok o (List.mem_cons_self ..)
    unfold TrOps at h
    unfold wpListIn
    rw [wantedA_eq hr ops o (guardOk_spec hg)]
    split
    · rename_i hw
      rw [if_pos hw] at h
      refine wpIn_of_ResC ((h a.eval w (hr.repE _) hh).mono fun v w' ⟨d, st', k1, k2, k3, k4⟩ => ?_)
      exact TrOps.sound l _ st' _ w' Q (fun o ho => hok o (List.mem_cons_of_mem _ ho)) ((hr.ext k3).put hd k1) k2 k4 fun A' st'' a' w'' q1 q2 q3 q4 => hQ A' st'' a' w'' q1 q2 (k3.trans q3) q4
    · rename_i hw
      rw [if_neg hw] at h
      exact ⟨fun f _ => trivial, TrOps.sound l _ st _ w Q (fun o ho => hok o (List.mem_cons_of_mem _ ho)) (hr.put hd (.s undef rfl)) hh h hQ⟩

/-! ### code -/
def thenA (K : AA → St → Prop) (Q : Exit → AA → St → Prop) : Exit → AA → St → Prop
  | .normal, A, st => K A st
  | e, A, st => Q e A st
def blockA (id : Nat) (Q : Exit → AA → St → Prop) : Exit → AA → St → Prop
  | .exit id', A, st => if id' = id then Q .normal A st else Q (.exit id') A st
  | e, A, st => Q e A st
theorem tr_skip (h : Q .normal A st) : Tr P N r .skip A st Q := fun _ w h1 h2 => wpIn_skip ⟨A, st, h1, h2, Ext.refl _ w, h⟩
theorem tr_label {l : Nat} (h : Q .normal A st) : Tr P N r (.label l) A st Q := fun _ w h1 h2 => wpIn_label ⟨A, st, h1, h2, Ext.refl _ w, h⟩
theorem tr_exit {id : Nat} (h : Q (.exit id) A st) : Tr P N r (.exit id) A st Q := fun _ w h1 h2 => wpIn_exit ⟨A, st, h1, h2, Ext.refl _ w, h⟩
theorem tr_ret (h : Q .ret A st) : Tr P N r .ret A st Q := fun _ w h1 h2 => wpIn_ret ⟨A, st, h1, h2, Ext.refl _ w, h⟩
theorem tr_seq {x y : Code} (h : Tr P N r x A st (thenA (fun A' st' => Tr P N r y A' st' Q) Q)) : Tr P N r (.seq x y) A st Q := by
  intro a w h1 h2
  refine wpIn_seq (wpIn_mono (h a w h1 h2) fun e a' w' ⟨A', st', k1, k2, k3, k4⟩ => ?_)
  cases e with
  | normal => exact wpIn_mono (k4 a' w' k1 k2) fun _ _ _ => PostA.ext k3
  | exit id => exact ⟨A', st', k1, k2, k3, k4⟩
  | goto l => exact ⟨A', st', k1, k2, k3, k4⟩
  | ret => exact ⟨A', st', k1, k2, k3, k4⟩
  | panic c => exact ⟨A', st', k1, k2, k3, k4⟩
  | outgrown => exact ⟨A', st', k1, k2, k3, k4⟩
theorem tr_cond {c : Operand} {x y : Code} {t : Bool} (hc : ev A.e c = some (.s (.bool t))) (h : Tr P N r (if t then x else y) A st Q) : Tr P N r (.cond c x y) A st Q := by
  intro a w h1 h2
  have : a.eval c = .bool t := by
    have := ev_rep h1 hc
    generalize a.eval c = v at this
    cases this; rfl
  exact wpIn_cond this (h a w h1 h2)
theorem tr_true {c : Operand} {x y : Code} (hc : ev A.e c = some (.s (.bool true))) (h : Tr P N r x A st Q) : Tr P N r (.cond c x y) A st Q := tr_cond hc h
theorem tr_false {c : Operand} {x y : Code} (hc : ev A.e c = some (.s (.bool false))) (h : Tr P N r y A st Q) : Tr P N r (.cond c x y) A st Q := tr_cond hc h
theorem tr_block {id : Nat} {c : Code} (h : Tr P N r c A st (blockA id Q)) : Tr P N r (.block id c) A st Q := by
  intro a w h1 h2
  refine wpIn_block (wpIn_mono (h a w h1 h2) fun e a' w' ⟨A', st', k1, k2, k3, k4⟩ => ?_)
  cases e with
  | exit id' =>
    show if id' = id then _ else _
    replace k4 : if id' = id then Q .normal A' st' else Q (.exit id') A' st' := k4
    by_cases e : id' = id
    · rw [if_pos e] at k4 ⊢; exact ⟨A', st', k1, k2, k3, k4⟩
    · rw [if_neg e] at k4 ⊢; exact ⟨A', st', k1, k2, k3, k4⟩
  | normal => exact ⟨A', st', k1, k2, k3, k4⟩
  | goto l => exact ⟨A', st', k1, k2, k3, k4⟩
  | ret => exact ⟨A', st', k1, k2, k3, k4⟩
  | panic c => exact ⟨A', st', k1, k2, k3, k4⟩
  | outgrown => exact ⟨A', st', k1, k2, k3, k4⟩
theorem tr_region {id : Nat} {l : List Oper} (hok : opsOk N l = true) (h : TrOps P r l.toArray l A st (Q .normal)) : Tr P N r (.region id l.toArray false) A st Q := by
  intro a w h1 h2
  have hok' : ∀ o ∈ l, dstOk N o.dst = true ∧ guardOk N l.toArray o = true := fun o ho => by
    have := List.all_eq_true.1 hok o ho
    simpa using this
  exact wpIn_region_lit (TrOps.sound l A st a w _ hok' h1 h2 h fun A' st' a' w' q1 q2 q3 q4 => ⟨A', st', q1, q2, q3, q4⟩)
/-- Something is forgotten. -/
theorem tr_drop {c : Code} {st' : St} (hs : st'.Sublist st) (h : Tr P N r c A st' Q) : Tr P N r c A st Q := by
  intro a w h1 h2
  have he := Ext.drop (fun _ h => hs.subset h) w
  exact wpIn_mono (h a w (h1.ext he) (h2.sub hs)) fun _ _ _ => PostA.ext he
theorem tr_perm {c : Code} {st' : St} (hs : st.Perm st') (h : Tr P N r c A st' Q) : Tr P N r c A st Q := by
  intro a w h1 h2
  have he : Ext (OwnS st) w (OwnS st') w := by rw [OwnS.perm hs]; exact Ext.refl _ _
  exact wpIn_mono (h a w (h1.ext he) (h2.perm hs)) fun _ _ _ => PostA.ext he
/-- A room that is none. -/
theorem Holds.room {st : St} {w : World} (h : Holds st w) {o : Own} (ho : ∀ g c, o ≠ .row g c) (ty : TypeId) (sz n : Nat) : Holds (.room o ty sz n :: st) w ∧ Ext (OwnS st) w (OwnS (.room o ty sz n :: st)) w := by
  have hb : (Res.room o ty sz n).blk = none := by cases o <;> first | rfl | exact absurd rfl (ho _ _)
  have he : Ext (OwnS st) w (OwnS (.room o ty sz n :: st)) w := (Ext.refl _ w).less fun b off ho => (OwnS.cons_iff.1 ho).elim (fun x => by have := x.1; rw [hb] at this; cases this) id
  refine ⟨h.push he (fun _ _ _ _ => rfl) ?_ (fun x _ b e => by rw [hb] at e; cases e), he⟩
  cases o <;> first | exact trivial | exact absurd rfl (ho _ _)
theorem tr_room {c : Code} (ty : TypeId) (sz n : Nat) (h : Tr P N r c A (.room .tight ty sz n :: st) Q) : Tr P N r c A st Q := by
  intro a w h1 h2
  obtain ⟨k1, k2⟩ := h2.room (o := .tight) (fun _ _ => by simp) ty sz n
  exact wpIn_mono (h a w (h1.ext k2) k1) fun _ _ _ => PostA.ext k2
theorem exists_min {p : Nat → Prop} (h : ∃ n, p n) : ∃ n, p n ∧ ∀ m, p m → n ≤ m := by
  obtain ⟨n, hn⟩ := h
  induction n using Nat.strongRecOn with
  | _ n ih =>
    by_cases hm : ∃ m, m < n ∧ p m
    · obtain ⟨m, h1, h2⟩ := hm; exact ih m h1 h2
    · exact ⟨n, hn, fun m hp => Nat.le_of_not_lt fun hl => hm ⟨m, hl, hp⟩⟩
/-- A loop: an invariant, and what lowers. -/
theorem tr_loop {c : Code} {ι : Type} (I : ι → AA → St → Prop) (μ : ι → Nat) (i0 : ι) (h0 : I i0 A st) (hr : ∀ i A st, I i A st → Tr P N r c A st (thenA (fun A' st' => ∃ j, I j A' st' ∧ μ j < μ i) Q)) : Tr P N r (.loop c) A st Q := by
  intro a w h1 h2
  obtain ⟨p, hp⟩ : ∃ p : Act → World → Nat → Prop, p = fun a' w' n => ∃ j A' st', I j A' st' ∧ RelA N (OwnS st') w' a' A' ∧ Holds st' w' ∧ Ext (OwnS st) w (OwnS st') w' ∧ μ j = n := ⟨_, rfl⟩
  obtain ⟨f, hf⟩ : ∃ f : Act → World → Nat, ∀ a' w', (∃ n, p a' w' n) → p a' w' (f a' w') ∧ ∀ m, p a' w' m → f a' w' ≤ m := by
    refine ⟨fun a' w' => open Classical in if h : ∃ n, p a' w' n then Classical.choose (exists_min h) else 0, fun a' w' h => ?_⟩
    simp only [h, dif_pos]
    exact Classical.choose_spec (exists_min h)
  refine wpIn_loop (fun a' w' => ∃ n, p a' w' n) f ⟨μ i0, by rw [hp]; exact ⟨i0, A, st, h0, h1, h2, Ext.refl _ _, rfl⟩⟩ fun a1 w1 hI => ?_
  have hmin := (hf a1 w1 hI).1
  rw [hp] at hmin
  obtain ⟨j, A1, st1, k1, k2, k3, k4, k5⟩ := hmin
  refine wpIn_mono (hr j A1 st1 k1 a1 w1 k2 k3) fun e a2 w2 ⟨A2, st2, q1, q2, q3, q4⟩ => ?_
  cases e with
  | normal =>
    obtain ⟨i, hi, hlt⟩ := q4
    have hp2 : p a2 w2 (μ i) := by rw [hp]; exact ⟨i, A2, st2, hi, q1, q2, k4.trans q3, rfl⟩
    exact ⟨⟨_, hp2⟩, by have := (hf a2 w2 ⟨_, hp2⟩).2 _ hp2; omega⟩
  | exit id => exact ⟨A2, st2, q1, q2, k4.trans q3, q4⟩
  | goto l => exact ⟨A2, st2, q1, q2, k4.trans q3, q4⟩
  | ret => exact ⟨A2, st2, q1, q2, k4.trans q3, q4⟩
  | panic c => exact ⟨A2, st2, q1, q2, k4.trans q3, q4⟩
  | outgrown => exact ⟨A2, st2, q1, q2, k4.trans q3, q4⟩
end
end Go.Proofs.Ythlidbddeclnaaa
