/- Texts put together: AmTr, AmFn, AmOps, AmOps2, AmOps3, AmOps4, AmSound, Mix, AmDraw, AmStep, AmBridge, AmState, AmCut, AmGo, AmQ. No statement is proved here. -/
import Derived.OrdersIn
import Derived.RangeFuncIn
import Derived.RangeFuncLeaves
import Derived.Laws.IdiomStrings
import Derived.Laws.Small
import Derived.Laws.Cover3
import Derived.Still
import Derived.Deep.Quiet
import Derived.IntWalk
import Derived.Lib.AppendStr
import Derived.Test.YtgcienlfpnpbgaaGreatZ1
set_option linter.all false
section
namespace Go.Proofs.YtgcienlfpnpbgaaGreat
open Go.RowKit
abbrev FR (r : Option Nat) : Fence := { fn := fun _ => True, depth := none, alive := false, round := r }
structure AA where
 e : Nat → D
 df : List Deferred
def upd (e : Nat → D) (dst : Option Tmp) (d : D) : Nat → D :=
 match dst with
 | none => e
 | some t => fun i => if i = t then d else e i
def AA.put (A : AA) (dst : Option Tmp) (d : D) : AA := { A with e := upd A.e dst d }
def RelA (N : Nat) (O : Nat → Nat → Prop) (w : World) (a : Act) (A : AA) : Prop := a.tmps.size = N ∧ a.defers = A.df ∧ ∀ t, Rep O w (a.tmps.getD t undef) (A.e t)
def dstOk (N : Nat) (dst : Option Tmp) : Bool := match dst with | none => true | some t => decide (t < N)
section
variable {N : Nat} {O O' : Nat → Nat → Prop} {w w' : World} {a : Act} {A : AA}
theorem RelA.ext (h : RelA N O w a A) (he : Ext O w O' w') : RelA N O' w' a A := ⟨h.1, h.2.1, fun t => (h.2.2 t).ext he⟩
theorem RelA.put (h : RelA N O w a A) {dst : Option Tmp} (hd : dstOk N dst = true) {v : Value} {d : D} (hr : Rep O w v d) : RelA N O w (a.put dst v) (A.put dst d) := by
 cases dst with
 | none => exact h
 | some t =>
  have ht : t < N := by simpa [dstOk] using hd
  refine ⟨by simpa [Act.put] using h.1, h.2.1, fun i => ?_⟩
  show Rep O w ((a.tmps.setIfInBounds t v).getD i undef) (if i = t then d else A.e i)
  by_cases hi : i = t
  · subst hi
    rw [if_pos rfl]
    simp [Array.getD, h.1, ht]
    exact hr
  · rw [if_neg hi]
    have : (a.tmps.setIfInBounds t v).getD i undef = a.tmps.getD i undef := by
     simp only [Array.getD_eq_getD_getElem?]
     rw [Array.getElem?_setIfInBounds_ne (Ne.symm hi)]
    rw [this]
    exact h.2.2 i
end
def leafD : Value → D
 | .slice none 0 0 => .sl .tight []
 | v => .s v
def constD : Value → Option D
 | .agg cs => if cs.all noAgg then some (.agg (cs.toList.map leafD)) else none
 | .tuple cs => if cs = #[] then some D.un else none
 | v => some (leafD v)
def ev (e : Nat → D) : Operand → Option D
 | .tmp t => some (e t)
 | .const v => constD v
 | .func f => some (.fn (.func f) [] [])
 | .global _ => none
theorem leafD_rep {O : Nat → Nat → Prop} {w : World} {v : Value} (h : noAgg v = true) : Rep O w v (leafD v) := by
 unfold leafD
 split
 · exact .sl .tight [] none 0 [] 1 (Nat.le_refl _) (Nat.zero_le _) (fun _ => rfl) (Nat.lt_succ_self _) (fun e h => by cases h) rfl (fun d h => by simp at h) (fun i h => absurd h (Nat.not_lt_zero _)) (fun i h => absurd h (Nat.not_lt_zero _)) rfl
 · exact .s v h
theorem constD_rep {O : Nat → Nat → Prop} {w : World} {v : Value} {d : D} (h : constD v = some d) : Rep O w v d := by
 unfold constD at h
 split at h
 · rename_i cs
   split at h
   · rename_i hall
     cases h
     have := Array.all_eq_true_iff_forall_mem.1 hall
     have hr := RepL.map (O := O) (w := w) (l := cs.toList) (f := id) (g := leafD) (fun x hx => leafD_rep (this x (by simpa using hx)))
     rw [List.map_id] at hr
     have := Rep.agg (O := O) (w := w) cs.toList (cs.toList.map leafD) hr.1 hr.2
     simpa using this
   · cases h
 · rename_i cs
   split at h
   · rename_i hc
     cases h
     subst hc
     exact .s undef rfl
   · cases h
 · cases h
   refine leafD_rep ?_
   cases v <;> first | rfl | simp_all
theorem ev_rep {N : Nat} {O : Nat → Nat → Prop} {w : World} {a : Act} {A : AA} (h : RelA N O w a A) {x : Operand} {d : D} (hx : ev A.e x = some d) : Rep O w (a.eval x) d := by
 cases x with
 | tmp t => cases hx; exact h.2.2 t
 | const v => exact constD_rep hx
 | func f => cases hx; exact .fn (.func f) [] [] [] [] rfl rfl (fun i h => absurd h (Nat.not_lt_zero _)) (fun i h => absurd h (Nat.not_lt_zero _))
 | global g => cases hx
structure RepE (e : Nat → D) (O : Nat → Nat → Prop) (w : World) (ρ : Operand → Value) (S : Array Operand) : Prop where
 rep : ∀ x ∈ S, ∀ d, ev e x = some d → Rep O w (ρ x) d
 cst : ∀ v, ρ (.const v) = v
instance {e : Nat → D} {O : Nat → Nat → Prop} {w : World} {ρ : Operand → Value} {S : Array Operand} : CoeFun (RepE e O w ρ S) fun _ => ∀ x ∈ S, ∀ d, ev e x = some d → Rep O w (ρ x) d := ⟨RepE.rep⟩
theorem RelA.repE {N : Nat} {O : Nat → Nat → Prop} {w : World} {a : Act} {A : AA} (h : RelA N O w a A) (S : Array Operand) : RepE A.e O w a.eval S := ⟨fun _ _ _ hx => ev_rep h hx, fun _ => rfl⟩
def OpY (P : Program) (o : Oper) (e : Nat → D) (st : St) (d : D) : Prop :=
 ∀ ρ w, RepE e (OwnS st) w ρ o.op.operands → Holds st w → ∃ v w', (execOp ρ o).run P w = .ok (.value v) w' ∧ Rep (OwnS st) w' v d ∧ Holds st w' ∧ Ext (OwnS st) w (OwnS st) w'
def PostV (st : St) (w : World) (K : D → St → Prop) (v : Value) (w' : World) : Prop := ∃ d st', Rep (OwnS st') w' v d ∧ Holds st' w' ∧ Ext (OwnS st) w (OwnS st') w' ∧ K d st'
def ResC (F : Fence) (P : Program) (K : Value → World → Prop) : Result Next → Prop
 | .ok (.value v) w' => K v w'
 | .ok .skip w' => K undef w'
 | .ok (.enter f args) w' => CallsIn F 0 P f args w' fun e w'' => ∃ v, e = .returned v ∧ K v w''
 | .ok (.round l f tmps assign body) w' => RoundIn F 0 P l f tmps assign body w' fun e w'' => ∃ v, e = .returned v ∧ K v w''
 | _ => False
theorem ResC.mono {F : Fence} {P : Program} {K K' : Value → World → Prop} (h : ∀ v w, K v w → K' v w) : ∀ {r : Result Next}, ResC F P K r → ResC F P K' r
 | .ok n w', hh => by
  cases n <;> simp only [ResC] at hh ⊢
  case value v => exact h _ _ hh
  case skip => exact h _ _ hh
  case enter f args => exact hh.mono fun e w'' ⟨v, he, hk⟩ => ⟨v, he, h _ _ hk⟩
  case round l f tmps assign body => exact hh.mono fun e w'' ⟨v, he, hk⟩ => ⟨v, he, h _ _ hk⟩
 | .halt x w', hh => by simp only [ResC] at hh
def OpC (P : Program) (r : Option Nat) (o : Oper) (e : Nat → D) (st : St) (K : D → St → Prop) : Prop :=
 ∀ ρ w, RepE e (OwnS st) w ρ o.op.operands → Holds st w → ResC (FR r) P (PostV st w K) ((o.semAt r ρ).run P w)
theorem PostV.mono {st : St} {w : World} {K K' : D → St → Prop} (h : ∀ d st', K d st' → K' d st') {v : Value} {w' : World} : PostV st w K v w' → PostV st w K' v w'
 | ⟨d, st', h1, h2, h3, h4⟩ => ⟨d, st', h1, h2, h3, h _ _ h4⟩
theorem OpC.mono {P : Program} {r : Option Nat} {o : Oper} {e : Nat → D} {st : St} {K K' : D → St → Prop} (h : OpC P r o e st K) (hk : ∀ d st', K d st' → K' d st') : OpC P r o e st K' :=
 fun ρ w h1 h2 => (h ρ w h1 h2).mono fun _ _ => PostV.mono hk
theorem semAt_of_value {P : Program} {r : Option Nat} {o : Oper} {ρ : Operand → Value} {w w' : World} {v : Value} (h : (execOp ρ o).run P w = .ok (.value v) w') : (o.semAt r ρ).run P w = .ok (.value v) w' := by
 rw [Oper.semAt_eq]
 · exact h
 · intro c hc
   unfold execOp at h
   rw [hc] at h
   simp only [Sem.run_bind] at h
   generalize (resolve ρ c o.type).run P w = x at h
   cases x <;> simp at h
theorem OpY.opC {P : Program} {r : Option Nat} {o : Oper} {e : Nat → D} {st : St} {d : D} {K : D → St → Prop} (h : OpY P o e st d) (hk : K d st) : OpC P r o e st K := by
 intro ρ w h1 h2
 obtain ⟨v, w', hr, h3, h4, h5⟩ := h ρ w h1 h2
 rw [semAt_of_value hr]
 exact ⟨d, st, h3, h4, h5, hk⟩
def wantedA (ops : Array Oper) (o : Oper) (e : Nat → D) : Bool :=
 match o.guard with
 | none => true
 | some (j, want) => match (ops[j]?).bind (·.dst) with
  | some t => match e t with
   | .s (.bool b) => b == want
   | _ => false
  | none => false
theorem wantedA_eq {N : Nat} {O : Nat → Nat → Prop} {w : World} {a : Act} {A : AA} (h : RelA N O w a A) (ops : Array Oper) (o : Oper) (hg : ∀ j b, o.guard = some (j, b) → ∀ t, (ops[j]?).bind (·.dst) = some t → t < N) :
 Region.wanted o (yielded ops a.tmps) = wantedA ops o A.e := by
 unfold Region.wanted wantedA
 cases hgd : o.guard with
 | none => rfl
 | some q =>
  obtain ⟨j, want⟩ := q
  dsimp only
  unfold yielded
  cases ht : (ops[j]?).bind (·.dst) with
  | none => simp
  | some t =>
   have htN := hg j want hgd t ht
   have hr := h.2.2 t
   simp only [Option.bind_some]
   have hget : a.tmps[t]? = some (a.tmps.getD t undef) := by
    rw [Array.getD_eq_getD_getElem?, Array.getElem?_eq_getElem (by rw [h.1]; exact htN)]; rfl
   rw [hget]
   generalize a.tmps.getD t undef = v at *
   generalize A.e t = d at *
   cases hr <;> first | rfl | skip
   all_goals (cases v <;> first | rfl | skip)
   all_goals (cases ‹Bool› <;> cases want <;> rfl)
def guardOk (N : Nat) (ops : Array Oper) (o : Oper) : Bool :=
 match o.guard with
 | none => true
 | some (j, _) => match (ops[j]?).bind (·.dst) with
  | some t => decide (t < N)
  | none => true
theorem guardOk_spec {N : Nat} {ops : Array Oper} {o : Oper} (h : guardOk N ops o = true) : ∀ j b, o.guard = some (j, b) → ∀ t, (ops[j]?).bind (·.dst) = some t → t < N := by
 intro j b hg t ht
 unfold guardOk at h
 rw [hg] at h
 dsimp only at h
 rw [ht] at h
 simpa using h
def TrOps (P : Program) (r : Option Nat) (ops : Array Oper) : List Oper → AA → St → (AA → St → Prop) → Prop
 | [], A, st, K => K A st
 | o :: l, A, st, K => if wantedA ops o A.e then OpC P r o A.e st fun d st' => TrOps P r ops l (A.put o.dst d) st' K else TrOps P r ops l (A.put o.dst D.un) st K
def PostA (N : Nat) (st : St) (w : World) (Q : Exit → AA → St → Prop) : Exit → Act → World → Prop := fun ex a' w' => ∃ A' st', RelA N (OwnS st') w' a' A' ∧ Holds st' w' ∧ Ext (OwnS st) w (OwnS st') w' ∧ Q ex A' st'
def Tr (P : Program) (N : Nat) (r : Option Nat) (c : Code) (A : AA) (st : St) (Q : Exit → AA → St → Prop) : Prop :=
 ∀ a w, RelA N (OwnS st) w a A → Holds st w → c.wpIn (FR r) 0 P (PostA N st w Q) a w
def opsOk (N : Nat) (l : List Oper) : Bool := l.all fun o => dstOk N o.dst && guardOk N l.toArray o
section
variable {P : Program} {N : Nat} {r : Option Nat} {A : AA} {st : St} {Q : Exit → AA → St → Prop}
theorem PostA.ext {st st1 : St} {w w1 : World} (he : Ext (OwnS st) w (OwnS st1) w1) {ex : Exit} {a : Act} {w' : World} (h : PostA N st1 w1 Q ex a w') : PostA N st w Q ex a w' := by
 obtain ⟨A', st', h1, h2, h3, h4⟩ := h
 exact ⟨A', st', h1, h2, he.trans h3, h4⟩
theorem Tr.mono {c : Code} {Q' : Exit → AA → St → Prop} (h : Tr P N r c A st Q) (hq : ∀ e A st, Q e A st → Q' e A st) : Tr P N r c A st Q' :=
 fun a w h1 h2 => wpIn_mono (h a w h1 h2) fun _ _ _ ⟨A', st', k1, k2, k3, k4⟩ => ⟨A', st', k1, k2, k3, hq _ _ _ k4⟩
theorem wpIn_of_ResC {o : Oper} {a : Act} {w : World} {K : Act → World → Prop} {Q : Exit → Act → World → Prop} (h : ResC (FR r) P (fun v w' => K (a.put o.dst v) w') ((o.semAt r a.eval).run P w)) : o.wpIn (FR r) 0 P a w K Q := by
 refine ⟨fun f _ => trivial, ?_⟩
 show o.uponIn (FR r) 0 P a K Q ((o.semAt r a.eval).run P w)
 generalize (o.semAt r a.eval).run P w = x at *
 cases x with
 | halt x w' => exact h.elim
 | ok n w' =>
  cases n <;> simp only [ResC] at h <;> simp only [Oper.uponIn]
  case value v => exact h
  case skip => exact h
  case enter f args => exact ⟨(fun h => by cases h), h.mono fun e w'' ⟨v, he, hk⟩ => by subst he; exact hk⟩
  case round l f tmps assign body => exact ⟨(fun h => by cases h), h.mono fun e w'' ⟨v, he, hk⟩ => by subst he; exact hk⟩
theorem TrOps.sound {ops : Array Oper} {K : AA → St → Prop} : ∀ (l : List Oper) (A : AA) (st : St) (a : Act) (w : World) (Q : Exit → Act → World → Prop), (∀ o ∈ l, dstOk N o.dst = true ∧ guardOk N ops o = true) → RelA N (OwnS st) w a A → Holds st w → TrOps P r ops l A st K →
 (∀ A' st' a' w', RelA N (OwnS st') w' a' A' → Holds st' w' → Ext (OwnS st) w (OwnS st') w' → K A' st' → Q .normal a' w') → wpListIn (FR r) 0 P ops Q l a w
 | [], A, st, a, w, Q, _, hr, hh, h, hQ => hQ A st a w hr hh (Ext.refl _ _) h
 | o :: l, A, st, a, w, Q, hok, hr, hh, h, hQ => by
  obtain ⟨hd, hg⟩ := hok o (List.mem_cons_self ..)
  unfold TrOps at h
  unfold wpListIn
  rw [wantedA_eq hr ops o (guardOk_spec hg)]
  split
  · rename_i hw
    rw [if_pos hw] at h
    refine wpIn_of_ResC ((h a.eval w (hr.repE _) hh).mono fun v w' ⟨d, st', k1, k2, k3, k4⟩ => ?_)
    exact TrOps.sound l _ st' _ w' Q (fun o ho => hok o (List.mem_cons_of_mem _ ho)) ((hr.ext k3).put hd k1) k2 k4 fun A' st'' a' w'' q1 q2 q3 q4 => hQ A' st'' a' w'' q1 q2 (k3.trans q3) q4
  · rename_i hw
    rw [if_neg hw] at h
    exact ⟨fun f _ => trivial, TrOps.sound l _ st _ w Q (fun o ho => hok o (List.mem_cons_of_mem _ ho)) (hr.put hd (.s undef rfl)) hh h hQ⟩
def thenA (K : AA → St → Prop) (Q : Exit → AA → St → Prop) : Exit → AA → St → Prop
 | .normal, A, st => K A st
 | e, A, st => Q e A st
def blockA (id : Nat) (Q : Exit → AA → St → Prop) : Exit → AA → St → Prop
 | .exit id', A, st => if id' = id then Q .normal A st else Q (.exit id') A st
 | e, A, st => Q e A st
theorem tr_skip (h : Q .normal A st) : Tr P N r .skip A st Q := fun _ w h1 h2 => wpIn_skip ⟨A, st, h1, h2, Ext.refl _ w, h⟩
theorem tr_label {l : Nat} (h : Q .normal A st) : Tr P N r (.label l) A st Q := fun _ w h1 h2 => wpIn_label ⟨A, st, h1, h2, Ext.refl _ w, h⟩
theorem tr_exit {id : Nat} (h : Q (.exit id) A st) : Tr P N r (.exit id) A st Q := fun _ w h1 h2 => wpIn_exit ⟨A, st, h1, h2, Ext.refl _ w, h⟩
theorem tr_ret (h : Q .ret A st) : Tr P N r .ret A st Q := fun _ w h1 h2 => wpIn_ret ⟨A, st, h1, h2, Ext.refl _ w, h⟩
theorem tr_seq {x y : Code} (h : Tr P N r x A st (thenA (fun A' st' => Tr P N r y A' st' Q) Q)) : Tr P N r (.seq x y) A st Q := by
 intro a w h1 h2
 refine wpIn_seq (wpIn_mono (h a w h1 h2) fun e a' w' ⟨A', st', k1, k2, k3, k4⟩ => ?_)
 cases e with
 | normal => exact wpIn_mono (k4 a' w' k1 k2) fun _ _ _ => PostA.ext k3
 | exit id => exact ⟨A', st', k1, k2, k3, k4⟩
 | goto l => exact ⟨A', st', k1, k2, k3, k4⟩
 | ret => exact ⟨A', st', k1, k2, k3, k4⟩
 | panic c => exact ⟨A', st', k1, k2, k3, k4⟩
 | outgrown => exact ⟨A', st', k1, k2, k3, k4⟩
theorem tr_cond {c : Operand} {x y : Code} {t : Bool} (hc : ev A.e c = some (.s (.bool t))) (h : Tr P N r (if t then x else y) A st Q) : Tr P N r (.cond c x y) A st Q := by
 intro a w h1 h2
 have : a.eval c = .bool t := by
  have := ev_rep h1 hc
  generalize a.eval c = v at this
  cases this; rfl
 exact wpIn_cond this (h a w h1 h2)
theorem tr_true {c : Operand} {x y : Code} (hc : ev A.e c = some (.s (.bool true))) (h : Tr P N r x A st Q) : Tr P N r (.cond c x y) A st Q := tr_cond hc h
theorem tr_false {c : Operand} {x y : Code} (hc : ev A.e c = some (.s (.bool false))) (h : Tr P N r y A st Q) : Tr P N r (.cond c x y) A st Q := tr_cond hc h
theorem tr_block {id : Nat} {c : Code} (h : Tr P N r c A st (blockA id Q)) : Tr P N r (.block id c) A st Q := by
 intro a w h1 h2
 refine wpIn_block (wpIn_mono (h a w h1 h2) fun e a' w' ⟨A', st', k1, k2, k3, k4⟩ => ?_)
 cases e with
 | exit id' =>
  show if id' = id then _ else _
  replace k4 : if id' = id then Q .normal A' st' else Q (.exit id') A' st' := k4
  by_cases e : id' = id
  · rw [if_pos e] at k4 ⊢; exact ⟨A', st', k1, k2, k3, k4⟩
  · rw [if_neg e] at k4 ⊢; exact ⟨A', st', k1, k2, k3, k4⟩
 | normal => exact ⟨A', st', k1, k2, k3, k4⟩
 | goto l => exact ⟨A', st', k1, k2, k3, k4⟩
 | ret => exact ⟨A', st', k1, k2, k3, k4⟩
 | panic c => exact ⟨A', st', k1, k2, k3, k4⟩
 | outgrown => exact ⟨A', st', k1, k2, k3, k4⟩
theorem tr_region {id : Nat} {l : List Oper} (hok : opsOk N l = true) (h : TrOps P r l.toArray l A st (Q .normal)) : Tr P N r (.region id l.toArray false) A st Q := by
 intro a w h1 h2
 have hok' : ∀ o ∈ l, dstOk N o.dst = true ∧ guardOk N l.toArray o = true := fun o ho => by
  have := List.all_eq_true.1 hok o ho
  simpa using this
 exact wpIn_region_lit (TrOps.sound l A st a w _ hok' h1 h2 h fun A' st' a' w' q1 q2 q3 q4 => ⟨A', st', q1, q2, q3, q4⟩)
theorem tr_perm {c : Code} {st' : St} (hs : st.Perm st') (h : Tr P N r c A st' Q) : Tr P N r c A st Q := by
 intro a w h1 h2
 have he : Ext (OwnS st) w (OwnS st') w := by rw [OwnS.perm hs]; exact Ext.refl _ _
 exact wpIn_mono (h a w (h1.ext he) (h2.perm hs)) fun _ _ _ => PostA.ext he
theorem Holds.room {st : St} {w : World} (h : Holds st w) {o : Own} (ho : ∀ g c, o ≠ .row g c) (ty : TypeId) (sz n : Nat) : Holds (.room o ty sz n :: st) w ∧ Ext (OwnS st) w (OwnS (.room o ty sz n :: st)) w := by
 have hb : (Res.room o ty sz n).blk = none := by cases o <;> first | rfl | exact absurd rfl (ho _ _)
 have he : Ext (OwnS st) w (OwnS (.room o ty sz n :: st)) w := (Ext.refl _ w).less fun b off ho => (OwnS.cons_iff.1 ho).elim (fun x => by have := x.1; rw [hb] at this; cases this) id
 refine ⟨h.push he (fun _ _ _ _ => rfl) ?_ (fun x _ b e => by rw [hb] at e; cases e), he⟩
 cases o <;> first | exact trivial | exact absurd rfl (ho _ _)
theorem tr_room {c : Code} (ty : TypeId) (sz n : Nat) (h : Tr P N r c A (.room .tight ty sz n :: st) Q) : Tr P N r c A st Q := by
 intro a w h1 h2
 obtain ⟨k1, k2⟩ := h2.room (o := .tight) (fun _ _ => by simp) ty sz n
 exact wpIn_mono (h a w (h1.ext k2) k1) fun _ _ _ => PostA.ext k2
theorem exists_min {p : Nat → Prop} (h : ∃ n, p n) : ∃ n, p n ∧ ∀ m, p m → n ≤ m := by
 obtain ⟨n, hn⟩ := h
 induction n using Nat.strongRecOn with
 | _ n ih =>
  by_cases hm : ∃ m, m < n ∧ p m
  · obtain ⟨m, h1, h2⟩ := hm; exact ih m h1 h2
  · exact ⟨n, hn, fun m hp => Nat.le_of_not_lt fun hl => hm ⟨m, hl, hp⟩⟩
theorem tr_loop {c : Code} {ι : Type} (I : ι → AA → St → Prop) (μ : ι → Nat) (i0 : ι) (h0 : I i0 A st) (hr : ∀ i A st, I i A st → Tr P N r c A st (thenA (fun A' st' => ∃ j, I j A' st' ∧ μ j < μ i) Q)) : Tr P N r (.loop c) A st Q := by
 intro a w h1 h2
 obtain ⟨p, hp⟩ : ∃ p : Act → World → Nat → Prop, p = fun a' w' n => ∃ j A' st', I j A' st' ∧ RelA N (OwnS st') w' a' A' ∧ Holds st' w' ∧ Ext (OwnS st) w (OwnS st') w' ∧ μ j = n := ⟨_, rfl⟩
 obtain ⟨f, hf⟩ : ∃ f : Act → World → Nat, ∀ a' w', (∃ n, p a' w' n) → p a' w' (f a' w') ∧ ∀ m, p a' w' m → f a' w' ≤ m := by
  refine ⟨fun a' w' => open Classical in if h : ∃ n, p a' w' n then Classical.choose (exists_min h) else 0, fun a' w' h => ?_⟩
  simp only [h, dif_pos]
  exact Classical.choose_spec (exists_min h)
 refine wpIn_loop (fun a' w' => ∃ n, p a' w' n) f ⟨μ i0, by rw [hp]; exact ⟨i0, A, st, h0, h1, h2, Ext.refl _ _, rfl⟩⟩ fun a1 w1 hI => ?_
 have hmin := (hf a1 w1 hI).1
 rw [hp] at hmin
 obtain ⟨j, A1, st1, k1, k2, k3, k4, k5⟩ := hmin
 refine wpIn_mono (hr j A1 st1 k1 a1 w1 k2 k3) fun e a2 w2 ⟨A2, st2, q1, q2, q3, q4⟩ => ?_
 cases e with
 | normal =>
  obtain ⟨i, hi, hlt⟩ := q4
  have hp2 : p a2 w2 (μ i) := by rw [hp]; exact ⟨i, A2, st2, hi, q1, q2, k4.trans q3, rfl⟩
  exact ⟨⟨_, hp2⟩, by have := (hf a2 w2 ⟨_, hp2⟩).2 _ hp2; omega⟩
 | exit id => exact ⟨A2, st2, q1, q2, k4.trans q3, q4⟩
 | goto l => exact ⟨A2, st2, q1, q2, k4.trans q3, q4⟩
 | ret => exact ⟨A2, st2, q1, q2, k4.trans q3, q4⟩
 | panic c => exact ⟨A2, st2, q1, q2, k4.trans q3, q4⟩
 | outgrown => exact ⟨A2, st2, q1, q2, k4.trans q3, q4⟩
end
end Go.Proofs.YtgcienlfpnpbgaaGreat
end
section
namespace Go.Proofs.YtgcienlfpnpbgaaGreat
open Go.RowKit
def LE (d d' : D) : Prop := ∀ O w v, Rep O w v d → Rep O w v d'
def LEL : List D → List D → Prop
 | [], [] => True
 | d :: l, d' :: l' => LE d d' ∧ LEL l l'
 | _, _ => False
theorem LE.refl (d : D) : LE d d := fun _ _ _ h => h
theorem LE.of_eq {d d' : D} (h : d = d') : LE d d' := h ▸ LE.refl d
theorem LE.trans {a b c : D} (h : LE a b) (k : LE b c) : LE a c := fun O w v x => k O w v (h O w v x)
theorem LE.sl (o : Own) (es : List (List D)) : LE (.sl o es) (.sl .shared es) := fun _ _ _ h => h.share
theorem LEL.refl : ∀ l, LEL l l
 | [] => trivial
 | d :: l => ⟨LE.refl d, LEL.refl l⟩
theorem LEL.repL {O : Nat → Nat → Prop} {w : World} : ∀ {l l' : List D}, LEL l l' → ∀ {us : List Value}, RepL O w us l → RepL O w us l'
 | [], [], _, _, h => h
 | d :: l, d' :: l', ⟨h1, h2⟩, us, h => by
  obtain ⟨u, t, rfl, k1, k2⟩ := h.inv_cons
  exact .cons (h1 O w u k1) (h2.repL k2)
 | [], _ :: _, h, _, _ => h.elim
 | _ :: _, [], h, _, _ => h.elim
theorem LE.agg {l l' : List D} (h : LEL l l') : LE (.agg l) (.agg l') := fun O w v x => by
 cases x with
 | agg us cs h1 h2 => obtain ⟨k1, k2⟩ := h.repL (us := us) ⟨h1, h2⟩; exact .agg us l' k1 k2
theorem LE.tup {l l' : List D} (h : LEL l l') : LE (.tup l) (.tup l') := fun O w v x => by
 cases x with
 | tup us cs h1 h2 => obtain ⟨k1, k2⟩ := h.repL (us := us) ⟨h1, h2⟩; exact .tup us l' k1 k2
theorem LEL.length : ∀ {l l' : List D}, LEL l l' → l.length = l'.length
 | [], [], _ => rfl
 | _ :: _, _ :: _, ⟨_, h⟩ => by simp [h.length]
 | [], _ :: _, h => h.elim
 | _ :: _, [], h => h.elim
def TrF (P : Program) (f : FuncId) (args : List D) (st : St) (R : D → St → Prop) : Prop :=
 ∀ (vs : Array Value) w, RepL (OwnS st) w vs.toList args → Holds st w → Calls P f vs w fun e w' => ∃ v, e = .returned v ∧ PostV st w R v w'
section
variable {P : Program} {f : FuncId} {args : List D} {st : St} {R R' : D → St → Prop}
theorem PostV.weak {w w' : World} {v : Value} (h : PostV st w R v w') (hR : ∀ d st', R d st' → ∃ d1 st1, LE d d1 ∧ st1.Sublist st' ∧ R' d1 st1) : PostV st w R' v w' := by
 obtain ⟨d, st', h1, h2, h3, h4⟩ := h
 obtain ⟨d1, st1, k1, k2, k3⟩ := hR d st' h4
 have he := Ext.drop (st := st') (st' := st1) (fun _ h => k2.subset h) w'
 exact ⟨d1, st1, (k1 _ _ _ h1).ext he, h2.sub k2, h3.trans he, k3⟩
theorem TrF.weak (h : TrF P f args st R) (hR : ∀ d st', R d st' → ∃ d1 st1, LE d d1 ∧ st1.Sublist st' ∧ R' d1 st1) : TrF P f args st R' :=
 fun vs w h1 h2 => (h vs w h1 h2).mono fun _ _ ⟨v, e, hp⟩ => ⟨v, e, hp.weak hR⟩
theorem TrF.mono (h : TrF P f args st R) (hR : ∀ d st', R d st' → R' d st') : TrF P f args st R' :=
 h.weak fun d st' hr => ⟨d, st', LE.refl d, .refl _, hR d st' hr⟩
theorem TrF.le {args' : List D} (h : TrF P f args' st R) (hl : LEL args args') : TrF P f args st R :=
 fun vs w h1 h2 => h vs w (hl.repL h1) h2
theorem TrF.perm {st' : St} (hp : st.Perm st') (h : TrF P f args st' R) : TrF P f args st R := by
 intro vs w h1 h2
 have e := OwnS.perm hp
 refine (h vs w (by rw [← e]; exact h1) (h2.perm hp)).mono fun _ _ ⟨v, ev, d, s, k1, k2, k3, k4⟩ => ⟨v, ev, d, s, k1, k2, by rw [e]; exact k3, k4⟩
theorem TrF.drop {st' : St} (hs : st'.Sublist st) (h : TrF P f args st' R) : TrF P f args st R := by
 intro vs w h1 h2
 have he := Ext.drop (st := st) (st' := st') (fun _ h => hs.subset h) w
 refine (h vs w (h1.ext he) (h2.sub hs)).mono fun _ _ ⟨v, ev, d, s, k1, k2, k3, k4⟩ => ⟨v, ev, d, s, k1, k2, he.trans k3, k4⟩
def initE (args : List D) : Nat → D := fun i => args.getD i D.un
def resVal (ts : List Tmp) (tmps : Array Value) : Value := match ts with | [t] => tmps.getD t undef | ts => .tuple (ts.map fun t => tmps.getD t undef).toArray
def resD (ts : List Tmp) (e : Nat → D) : D := match ts with | [t] => e t | ts => .tup (ts.map e)
theorem resD_rep {N : Nat} {O : Nat → Nat → Prop} {w : World} {a : Act} {A : AA} (h : RelA N O w a A) (ts : List Tmp) : Rep O w (resVal ts a.tmps) (resD ts A.e) := by
 have hm : RepL O w (ts.map fun t => a.tmps.getD t undef) (ts.map A.e) := RepL.map fun t _ => h.2.2 t
 unfold resVal resD
 split
 · exact h.2.2 _
 · exact .tup _ _ hm.1 hm.2
def mark (r : Nat) : Deferred := { target := .collected r, args := #[] }
def markR (r : Nat) : Res := .raw r (.deferred (some []))
def retA (ts : List Tmp) (R : D → St → Prop) : Exit → AA → St → Prop
 | .normal, A, st | .ret, A, st => ∃ (rs : List Nat) (d : D) (s2 st' : St), A.df = rs.map mark ∧ st.Perm (rs.map markR ++ s2) ∧ st'.Sublist s2 ∧ LE (resD ts A.e) d ∧ R d st'
 | _, _, _ => False
theorem retA_mk {ts : List Tmp} {ex : Exit} {A : AA} {d : D} {st' : St} (hex : ex = .normal ∨ ex = .ret) (hdf : A.df = []) (hs : st'.Sublist st) (hd : LE (resD ts A.e) d) (hR : R d st') : retA ts R ex A st := by
 rcases hex with rfl | rfl
 · exact ⟨[], d, st, st', hdf, .refl _, hs, hd, hR⟩
 · exact ⟨[], d, st, st', hdf, .refl _, hs, hd, hR⟩
theorem leaves_marks {fn : Func} {tmps : Array Value} {u : FrameMode} {Rw : Ending → World → Prop} {v : Value} (hu : u = .returning) (hres : ∀ w, (results fn tmps).run P w = .ok v w) : ∀ (rs : List Nat) (w : World), rs.Nodup → (∀ r ∈ rs, w.heap[r]? = some (.deferred (some []))) →
 (∀ w', w'.os = w.os → w'.tape = w.tape → w'.output = w.output → w'.heap.size = w.heap.size → (∀ b, b ∉ rs → w'.heap[b]? = w.heap[b]?) → Rw (.returned v) w') → LeavesInM Fence.wide 0 P fn tmps Rw (rs.map mark) u w
 | [], w, _, _, hw => by
  subst hu
  show LeavesIn Fence.wide 0 P fn tmps Rw [] .returning w
  exact ⟨v, hres w, hw w rfl rfl rfl rfl fun _ _ => rfl⟩
 | r :: rs, w, hn, hb, hw => by
  have hr := hb r (List.mem_cons_self ..)
  have hlt := (Array.getElem?_eq_some_iff.1 hr).1
  refine ⟨(by rw [hu]; intro h; cases h), .inl ⟨r, _, rfl, run_takeDeferred hr, leaves_marks hu hres rs _ (List.nodup_cons.1 hn).2 (fun x hx => ?_) fun w' h1 h2 h3 h4 h5 => ?_⟩⟩
  · rw [World.putObj_heap_other (by intro e; subst e; exact (List.nodup_cons.1 hn).1 hx)]
    exact hb x (List.mem_cons_of_mem _ hx)
  · refine hw w' h1 h2 h3 (by rw [h4]; simp) fun b hb => ?_
    rw [h5 b fun h => hb (List.mem_cons_of_mem _ h)]
    exact World.putObj_heap_other fun e => hb (e ▸ List.mem_cons_self ..)
theorem trF_enter {fn : Func} {c : Code} {ts : List Tmp} (hf : P.funcs[f]? = some fn) (hb : fn.body = some c) (hn : args.length ≤ fn.ntmps) (hres : ∀ tmps w, (results fn tmps).run P w = .ok (resVal ts tmps) w)
 (h : Tr P fn.ntmps none c ⟨initE args, []⟩ st (retA ts R)) : TrF P f args st R := by
 intro vs w hv hw
 refine (callsIn_wide (n := 0)).1 (callsIn_of_wp_marks hf hb trivial ?_ rfl)
 have hvl : vs.size = args.length := by rw [← Array.length_toList]; exact hv.1
 have hrel : RelA fn.ntmps (OwnS st) w { tmps := vs ++ Array.replicate (fn.ntmps - vs.size) undef, defers := [] } ⟨initE args, []⟩ := by
  refine ⟨by simp [hvl]; omega, rfl, fun t => ?_⟩
  show Rep _ _ _ (args.getD t D.un)
  simp only [Array.getD_eq_getD_getElem?, List.getD_eq_getElem?_getD]
  rcases Nat.lt_or_ge t args.length with ht | ht
  · have h1 : t < vs.toList.length := by simp; omega
    have := hv.2 t h1 ht
    rw [Array.getElem?_append_left (by omega), List.getElem?_eq_getElem ht, Array.getElem?_eq_getElem (by omega)]
    simpa using this
  · rw [Array.getElem?_append_right (by omega), List.getElem?_eq_none ht]
    simp only [Option.getD_none]
    by_cases h2 : t - vs.size < fn.ntmps - vs.size
    · rw [Array.getElem?_replicate, if_pos h2]
      exact .s undef rfl
    · rw [Array.getElem?_replicate, if_neg h2]
      exact .s undef rfl
 refine wpIn_mono (h _ w hrel hw) fun ex a' w' ⟨A', st', k1, k2, k3, k4⟩ => ?_
 have main : (∃ (rs : List Nat) (d : D) (s2 st'' : St), A'.df = rs.map mark ∧ st'.Perm (rs.map markR ++ s2) ∧ st''.Sublist s2 ∧ LE (resD ts A'.e) d ∧ R d st'') → LeavesInM (FR none) 0 P fn a'.tmps (fun e w' => ∃ v, e = .returned v ∧ PostV st w R v w') a'.defers .returning w' := by
  rintro ⟨rs, d, s2, st'', q1, q2, qs, q3, q4⟩
  rw [k1.2.1, q1]
  have hh := k2.perm q2
  have hnd : rs.Nodup := by
   have := List.Pairwise.sublist (List.sublist_append_left _ _) hh.1
   rw [List.pairwise_map] at this
   exact this.imp fun {a b} hab e => hab a rfl (by rw [e]; rfl)
  have hblk : ∀ r ∈ rs, w'.heap[r]? = some (.deferred (some [])) := fun r hr => hh.2 (markR r) (List.mem_append_left _ (List.mem_map_of_mem hr))
  refine leaves_marks rfl (hres a'.tmps) rs w' hnd hblk fun w'' e1 e2 e3 e4 e5 => ⟨_, rfl, d, st'', ?_, ?_, ?_, q4⟩
  all_goals
   have hown : ∀ b off, OwnS st'' b off → OwnS st' b off := fun b off ⟨x, hx, ho⟩ => ⟨x, q2.mem_iff.2 (List.mem_append_right _ (qs.subset hx)), ho⟩
   have hmk : ∀ r ∈ rs, ∀ off, OwnS st' r off := fun r hr off => ⟨markR r, q2.mem_iff.2 (List.mem_append_left _ (List.mem_map_of_mem hr)), rfl, Nat.zero_le _⟩
   have he : Ext (OwnS st') w' (OwnS st'') w'' := by
    refine ⟨e1, e2, e3, by omega, fun b off _ ho => hown b off ho, fun b hb hno => e5 b fun hr => hno 0 (hmk b hr 0), fun b c E fr hc => ⟨c, fr, ?_, rfl, fun _ _ => rfl⟩⟩
    rw [e5 b fun hr => by rw [hblk b hr] at hc; cases hc]
    exact hc
  · exact q3 _ _ _ ((resD_rep k1 ts).ext he)
  · refine ⟨(List.pairwise_append.1 hh.1).2.1.sublist qs, fun x hx => (k2.2 x (q2.mem_iff.2 (List.mem_append_right _ (qs.subset hx)))).ext he fun b hb => e5 b fun hr => ?_⟩
    exact (List.pairwise_append.1 hh.1).2.2 (markR b) (List.mem_map_of_mem hr) x (qs.subset hx) b rfl hb
  · exact k3.trans he
 cases ex with
 | normal => exact main k4
 | ret => exact main k4
 | exit id => exact k4.elim
 | goto l => exact k4.elim
 | panic c => exact k4.elim
 | outgrown => exact k4.elim
def evL (e : Nat → D) : List Operand → Option (List D)
 | [] => some []
 | x :: l => match ev e x, evL e l with
  | some d, some ds => some (d :: ds)
  | _, _ => none
theorem evL_rep {O : Nat → Nat → Prop} {w : World} {e : Nat → D} {ρ : Operand → Value} {S : Array Operand} (h : RepE e O w ρ S) : ∀ {l : List Operand} {ds : List D}, (∀ x ∈ l, x ∈ S) → evL e l = some ds → RepL O w (l.map ρ) ds
 | [], ds, _, hl => by cases hl; exact .nil
 | x :: l, ds, hS, hl => by
  unfold evL at hl
  split at hl
  · rename_i d ds' h1 h2
    cases hl
    exact .cons (h x (hS x (List.mem_cons_self ..)) _ h1) (evL_rep h (fun y hy => hS y (List.mem_cons_of_mem _ hy)) h2)
  · cases hl
theorem opC_call {r : Option Nat} {o : Oper} {c : Call} {e : Nat → D} {g : Operand} {first caps ds : List D} {K : D → St → Prop} (ho : o.op = .call c) (hc : c.callee = .value g) (hg : ev e g = some (.fn (.func f) first caps))
 (hargs : evL e c.args.toList = some ds) (henter : ∀ args w, (callFunc f args).run P w = .ok (.enter f args) w) (h : TrF P f (first ++ ds ++ caps) st K) : OpC P r o e st K := by
 intro ρ w h1 h2
 rw [ho] at h1
 have hfn := h1 g (by simp [Op.operands, Call.operands, hc]) _ hg
 have hds := evL_rep h1 (fun x hx => by simp only [Op.operands, Call.operands, Array.mem_append]; exact .inr (by simpa using hx)) hargs
 rw [Oper.semAt_eq r ρ o (by rw [ho]; intro c hc; cases hc)]
 unfold execOp
 rw [ho]
 simp only [resolve, hc]
 generalize ρ g = gv at hfn
 cases hfn with
 | fn _ us1 us2 _ _ l1 l2 r1 r2 =>
  simp only [Deferred.ofValue, Sem.run_bind, Sem.run_pure, Result.andThen_ok, invoke, henter]
  have := h (us1.toArray ++ c.args.map ρ ++ us2.toArray) w (by
   simp only [Array.toList_append, Array.toList_map]
   exact ((RepL.append ⟨l1, r1⟩ hds).append ⟨l2, r2⟩)) h2
  exact (callsIn_wide.2 this).mono fun ev w' ⟨v, e, hp⟩ => ⟨v, e, hp⟩
end
end Go.Proofs.YtgcienlfpnpbgaaGreat
end
section
namespace Go.Proofs.YtgcienlfpnpbgaaGreat
open Go.RowKit
abbrev D.i (n : Int) : D := .s (.int .i64 n)
abbrev D.b (t : Bool) : D := .s (.bool t)
abbrev D.y (b : UInt8) : D := .s (.int .u8 (b.toNat : Int))
abbrev D.str (s : ByteArray) : D := .s (.string s)
def encB (b : UInt8) : List D := [.y b]
def encI (n : Int) : List D := [.i n]
def kT (P : Program) (t : TypeId) : TK :=
 match tinfo P t with
 | some ti => ti.k
 | none => .other
def pureV : Sem Value → Option Value
 | .pure v => some v
 | _ => none
theorem pureV_run {s : Sem Value} {v : Value} (h : pureV s = some v) (P : Program) (w : World) : s.run P w = .ok v w := by
 cases s <;> simp [pureV] at h
 subst h; rfl
def scal : Value → Bool
 | .int _ _ | .string _ => true
 | _ => false
def aBin (P : Program) (op : BinOp) (t : TypeId) : D → D → Option D
 | .s (.int k a), .s (.int k' b) => (pureV (binOp op 0 (.int k a) (.int k' b))).map .s
 | .s (.string a), .s (.string b) => (pureV (binOp op 0 (.string a) (.string b))).map .s
 | .s (.bool a), .s (.bool b) => match kT P t, op with
  | .bool, .eql => some (.b (a == b))
  | .bool, .neq => some (.b (!(a == b)))
  | _, _ => none
 | .ptr _ _, .s (.pointer none) => match kT P t, op with
  | .pointer, .eql => some (.b false)
  | .pointer, .neq => some (.b true)
  | _, _ => none
 | .s (.pointer none), .s (.pointer none) => match kT P t, op with
  | .pointer, .eql => some (.b true)
  | .pointer, .neq => some (.b false)
  | _, _ => none
 | _, _ => none
def aUn (op : UnOp) : D → Option D
 | .s v => match v with
  | .bool _ | .int _ _ => (pureV (Op.unary op v)).map .s
  | _ => none
 | _ => none
def bytesOf : List (List D) → Option (List UInt8)
 | [] => some []
 | [.s (.int .u8 n)] :: l => match bytesOf l with
  | some t => if 0 ≤ n ∧ n ≤ 255 then some (UInt8.ofNat n.toNat :: t) else none
  | none => none
 | _ :: _ => none
theorem bytesOf_map (l : List UInt8) : bytesOf (l.map encB) = some l := by
 induction l with
 | nil => rfl
 | cons b l ih =>
  have h1 := b.toNat_lt
  rw [List.map_cons]
  show (match bytesOf (l.map encB) with | some t => if 0 ≤ (b.toNat : Int) ∧ (b.toNat : Int) ≤ 255 then some (UInt8.ofNat (b.toNat : Int).toNat :: t) else none | none => none) = _
  rw [ih]
  simp only
  rw [if_pos (by omega)]
  simp
theorem bytesOf_rep {O : Nat → Nat → Prop} {w : World} : ∀ {es : List (List D)} {l : List UInt8} {us : List Value}, bytesOf es = some l → RepL O w us es.flatten → us = l.map bv ∧ es.length = l.length
 | [], l, us, h, hr => by
  cases h
  exact ⟨hr.inv_nil, rfl⟩
 | e :: es, l, us, h, hr => by
  unfold bytesOf at h
  split at h
  · rename_i heq; cases heq
  · rename_i n l' heq
    cases heq
    split at h
    · rename_i t ht
      split at h
      · rename_i hn
        cases h
        rw [List.flatten_cons] at hr
        obtain ⟨u, us', rfl, h1, h2⟩ := RepL.inv_cons hr
        obtain ⟨k1, k2⟩ := bytesOf_rep ht h2
        subst k1
        refine ⟨?_, by simp [k2]⟩
        rw [List.map_cons]
        congr 1
        cases h1
        unfold bv
        rw [UInt8.toNat_ofNat', Nat.mod_eq_of_lt (by omega)]
        congr 1
        omega
      · cases h
    · cases h
  · cases h
def aConv (P : Program) (src dst : TypeId) (d : D) : Option D :=
 match tinfo P src, tinfo P dst with
 | some ts, some td => match ts.k, td.k, d with
  | _, .int k, .s (.int _ n) => some (.s (.int k (k.wrap n)))
  | _, .string, .s (.string s) => some (.str s)
  | .slice e _ _ _, .string, .sl _ es => match kT P e with
   | .int .u8 => (bytesOf es).map fun l => .str ⟨l.toArray⟩
   | _ => none
  | .string, .slice e _ _ _, .s (.string s) => match kT P e with
   | .int .u8 => if s.size ≤ 9223372036854775807 then some (.sl .shared (s.data.toList.map encB)) else none
   | _ => none
  | _, _, _ => none
 | _, _ => none
def aField (P : Program) (t : TypeId) (f : Nat) : D → Option D
 | .agg cs => match tinfo P t with
  | some ti => match ti.k with
   | .struct fs => match fs[f]? with
    | some (off, sz, true) => if off + sz ≤ cs.length then some (.agg ((cs.drop off).take sz)) else none
    | some (off, _, false) => cs[off]?
    | none => none
   | _ => none
  | none => none
 | _ => none
def aFieldAddr (P : Program) (t : TypeId) (f : Nat) (d : D) : Option D :=
 match tinfo P t with
 | some ti => match ti.k with
  | .struct fs => match fs[f]? with
   | some (off, sz, _) => if 0 < sz then match d with
    | .ptr b o => some (.ptr b (o + off))
    | .ip cs => if off < cs.length then some (.ip (cs.drop off)) else none
    | _ => none
    else none
   | none => none
  | _ => none
 | none => none
def aIndexAddr (P : Program) (t : TypeId) (d : D) (n : Int) : Option D :=
 match tinfo P t with
 | some ti => match ti.k, d with
  | .slice _ sz _ _, .sl _ es => if 0 ≤ n ∧ n < es.length then match es[n.toNat]? with
   | some c => if c.length = sz then some (.ip c) else none
   | none => none
   else none
  | .slice _ sz _ _, .ar g off len _ => if 0 ≤ n ∧ n < len then some (.ptr g (off + n.toNat * sz)) else none
  | .array len sz _, .ptr b off => if 0 ≤ n ∧ n < len then some (.ptr b (off + n.toNat * sz)) else none
  | .array len sz _, .ip cs => if 0 ≤ n ∧ n < len ∧ n.toNat * sz < cs.length then some (.ip (cs.drop (n.toNat * sz))) else none
  | _, _ => none
 | none => none
def aIndex (P : Program) (t : TypeId) (d : D) (n : Int) : Option D :=
 match tinfo P t with
 | some ti => match ti.k, d with
  | .string, .s (.string s) => if 0 ≤ n then (s.data.toList[n.toNat]?).map D.y else none
  | .array len sz ag, .agg cs => if 0 ≤ n ∧ n < len then (if ag then (if n.toNat * sz + sz ≤ cs.length then some (.agg ((cs.drop (n.toNat * sz)).take sz)) else none) else cs[n.toNat * sz]?) else none
  | _, _ => none
 | none => none
def intOfD : Option D → Option Int
 | some (.s (.int _ n)) => some n
 | _ => none
def aBounds (len : Nat) (lo hi : Option Int) : Option (Nat × Nat) :=
 let h := match hi with
  | some h => if 0 ≤ h ∧ h ≤ len then some h.toNat else none
  | none => some len
 match h with
 | some h => match lo with
  | some l => if 0 ≤ l ∧ l ≤ h then some (l.toNat, h) else none
  | none => some (0, h)
 | none => none
def optInt (e : Nat → D) : Option Operand → Option (Option Int)
 | none => some none
 | some x => match ev e x with
  | some (.s (.int _ n)) => some (some n)
  | _ => none
def aSlice (P : Program) (t : TypeId) (d : D) (lo hi mx : Option Int) : Option D :=
 match kT P t, d with
 | .string, .s (.string s) => match mx with
  | none => match aBounds s.size lo hi with
   | some (l, h) => some (.str (s.extract l h))
   | none => none
  | some _ => none
 | .slice _ sz _ _, .sl _ es => match aBounds es.length lo hi with
  | some (l, h) => if es.all (fun e => e.length == sz) then (match mx with
   | none => some (.sl .shared ((es.drop l).take (h - l)))
   | some m => if hi = some m then some (.sl .tight ((es.drop l).take (h - l))) else none) else none
  | none => none
 | .slice _ sz _ _, .ar g off n cap => match aBounds n lo hi, mx with
  | some (l, h), none => if l = 0 ∨ l < cap then some (.ar g (off + l * sz) (h - l) (cap - l)) else none
  | _, _ => none
 | _, _ => none
def aFill (place : Nat → Option (Nat × Nat)) : List D → List (Nat × D) → Option (List D)
 | cs, [] => some cs
 | cs, (i, d) :: rest => match place i with
  | some (off, sz) => if d.cells.length = sz ∧ off + sz ≤ cs.length then aFill place (splice cs off (d.cells.map D.sh)) rest else none
  | none => none
def evP (e : Nat → D) : List (Nat × Operand) → Option (List (Nat × D))
 | [] => some []
 | (i, x) :: l => match ev e x, evP e l with
  | some d, some ds => some ((i, d) :: ds)
  | _, _ => none
def aBuild (P : Program) (t : TypeId) (ps : List (Nat × D)) : Option D :=
 match tinfo P t with
 | some ti => if ti.zero.all noAgg then match ti.k with
  | .struct fs => (aFill (fun i => (fs[i]?).map fun f => (f.1, f.2.1)) (ti.zero.map leafD) ps).map .agg
  | .array _ sz _ => (aFill (fun i => some (i * sz, sz)) (ti.zero.map leafD) ps).map .agg
  | _ => none
  else none
 | none => none
def chop (sz : Nat) : Nat → List D → List (List D)
 | 0, _ => []
 | n + 1, l => l.take sz :: chop sz n (l.drop sz)
def aBuildSlice (P : Program) (t : TypeId) (n : Nat) (ps : List (Nat × D)) : Option D :=
 match tinfo P t with
 | some ti => match ti.k with
  | .slice _ sz _ z => if z.all noAgg ∧ n ≤ 1000 ∧ sz ≤ 100 then match aFill (fun i => some (i * sz, sz)) ((List.replicate n (z.map leafD)).flatten.map D.sh) ps with
   | some cs => if cs.all D.leaf then some (.sl .tight (chop sz n cs)) else none
   | none => none
   else none
  | _ => none
 | none => none
def aLen (P : Program) (t : TypeId) : D → Option Int
 | .sl _ es => match kT P t with
  | .slice .. => some es.length
  | _ => none
 | .ar _ _ n _ => match kT P t with
  | .slice .. => some n
  | _ => none
 | .s (.string s) => match kT P t with
  | .string => some s.size
  | _ => none
 | _ => none
def aBi (P : Program) (bi : Builtin) (ts : List TypeId) (ds : List D) : Option D :=
 match bi, ts, ds with
 | .len, [t], [d] => (aLen P t d).map .i
 | .cap, [t], [.sl .tight es] => match kT P t with
  | .slice .. => some (.i es.length)
  | _ => none
 | .min, _, [.s (.int k a), .s (.int _ b)] => some (.s (.int k (if b < a then b else a)))
 | .max, _, [.s (.int k a), .s (.int _ b)] => some (.s (.int k (if b > a then b else a)))
 | _, _, _ => none
def aOp (P : Program) (o : Oper) (e : Nat → D) : Option D :=
 match o.op with
 | .move x => ev e x
 | .assign x => ev e x
 | .pick c a b => match ev e c with
  | some (.s (.bool t)) => if t then ev e a else ev e b
  | _ => none
 | .nilCheck x => match ev e x with
  | some (.ptr b o) => some (.ptr b o)
  | some (.ip c) => some (.ip c)
  | some (.fn (.func f) a b) => some (.fn (.func f) a b)
  | some (.fn (.yield f) a b) => some (.fn (.yield f) a b)
  | _ => none
 | .binOp op t x y _ => match ev e x, ev e y with
  | some a, some b => aBin P op t a b
  | _, _ => none
 | .unOp op _ x => (ev e x).bind (aUn op)
 | .convert src dst x => (ev e x).bind (aConv P src dst)
 | .makeFunc fn first caps => match evL e first.toList, evL e caps.toList with
  | some a, some b => some (.fn fn a b)
  | _, _ => none
 | .extract t i => match ev e t with
  | some (.tup ds) => ds[i]?
  | _ => none
 | .field t x f => (ev e x).bind (aField P t f)
 | .fieldAddr t x f => (ev e x).bind (aFieldAddr P t f)
 | .indexAddr t x i => match ev e x, intOfD (ev e i) with
  | some d, some n => aIndexAddr P t d n
  | _, _ => none
 | .index t x i => match ev e x, intOfD (ev e i) with
  | some d, some n => aIndex P t d n
  | _, _ => none
 | .load t x => match ev e x, tinfo P t with
  | some (.ip cs), some ti => readD ti cs
  | _, _ => none
 | .slice t x lo hi mx => match ev e x, optInt e lo, optInt e hi, optInt e mx with
  | some d, some l, some h, some m => aSlice P t d l h m
  | _, _, _, _ => none
 | .build t ps => (evP e ps.toList).bind (aBuild P t)
 | .buildSlice t n ps => (evP e ps.toList).bind (aBuildSlice P t n)
 | .box _ x => match ev e x with
  | some d => if d.cells.all D.leaf then some (.ip d.cells) else none
  | none => none
 | .call c => match c.callee with
  | .builtin bi => (evL e c.args.toList).bind (aBi P bi c.argTypes.toList)
  | _ => none
 | _ => none
section
variable {P : Program} {N : Nat} {st : St} {w : World} {a : Act} {A : AA}
def Out (st : St) (w : World) (d : D) (P : Program) (s : Sem Value) : Prop := ∃ v w', s.run P w = .ok v w' ∧ Rep (OwnS st) w' v d ∧ Holds st w' ∧ Ext (OwnS st) w (OwnS st) w'
theorem Out.same {d : D} {s : Sem Value} {v : Value} (hh : Holds st w) (h : s.run P w = .ok v w) (hr : Rep (OwnS st) w v d) : Out st w d P s := ⟨v, w, h, hr, hh, Ext.refl _ _⟩
theorem rep_s {O : Nat → Nat → Prop} {v u : Value} (h : Rep O w v (.s u)) : v = u := by cases h; rfl
theorem kT_spec {t : TypeId} {k : TK} (h : kT P t = k) (hk : k ≠ .other) : ∃ ti, tinfo P t = some ti ∧ ti.k = k := by
 unfold kT at h
 split at h
 · rename_i ti hti; exact ⟨ti, hti, h⟩
 · exact absurd h.symm hk
theorem und_of_k {t : TypeId} {ti : TI} (h : tinfo P t = some ti) :
 (ti.k = .bool → P.underlying t = some .bool) ∧ (∀ k, ti.k = .int k → P.underlying t = some (.int k)) ∧ (ti.k = .string → P.underlying t = some .string) ∧ (ti.k = .pointer → ∃ e, P.underlying t = some (.pointer e)) ∧
 (∀ e sz by_ z, ti.k = .slice e sz by_ z → P.underlying t = some (.slice e) ∧ ∃ i zv, P.info? e = some i ∧ i.zero = some zv ∧ zv.cells.toList = z ∧ i.size = sz ∧ i.bytes = by_ ∧ 0 < sz ∧ zv.cells.size = sz) ∧
 (∀ fs, ti.k = .struct fs → ∃ fields, P.underlying t = some (.struct fields) ∧ (∀ f ∈ fields.toList, (P.info? f.type).isSome ∧ (P.underlying f.type).isSome) ∧ fs = fields.toList.map fun f => (f.offset, szT P f.type, aggT P f.type)) ∧
 (∀ n sz ag, ti.k = .array n sz ag → ∃ e, P.underlying t = some (.array n e) ∧ (P.info? e).isSome ∧ (P.underlying e).isSome ∧ sz = szT P e ∧ ag = aggT P e) := by
 obtain ⟨d, hd, -, hk⟩ := run_und_of h
 rw [hk]
 unfold kindT
 rw [hd]
 cases d <;> simp only [reduceCtorEq, false_implies, implies_true, and_true, true_and, forall_const, TK.int.injEq, Option.some.injEq, TypeDesc.int.injEq, imp_self, TypeDesc.pointer.injEq, exists_eq', and_self]
 case slice e =>
  cases hi : P.info? e with
  | none => simp
  | some i =>
   simp only
   cases hz : i.zero with
   | none => simp
   | some zv =>
    simp only
    split
    · rename_i hq
      simp only [reduceCtorEq, false_implies, implies_true, and_true, true_and, TK.slice.injEq]
      rintro e' sz b z ⟨rfl, rfl, rfl, rfl⟩
      exact ⟨rfl, i, zv, hi, hz, rfl, rfl, rfl, hq.2, hq.1⟩
    · simp
 case struct fields =>
  split
  · rename_i hq
    simp only [reduceCtorEq, false_implies, implies_true, and_true, true_and, TK.struct.injEq]
    rintro fs rfl
    refine ⟨fields, rfl, fun f hf => ?_, rfl⟩
    have := Array.all_eq_true_iff_forall_mem.1 hq f (by simpa using hf)
    simpa using this
  · simp
 case array n e =>
  split
  · rename_i hq
    simp only [reduceCtorEq, false_implies, implies_true, and_true, true_and, TK.array.injEq]
    rintro n' sz ag ⟨rfl, rfl, rfl⟩
    exact ⟨e, rfl, hq.1, hq.2, rfl, rfl⟩
  · simp
theorem run_sizeOf' {t : TypeId} (h : (P.info? t).isSome) (w : World) : (sizeOf t).run P w = .ok (szT P t) w := by
 obtain ⟨i, hi⟩ := Option.isSome_iff_exists.1 h
 simp [sizeOf, typeInfo, hi, szT]
theorem run_isAgg' {t : TypeId} (h : (P.underlying t).isSome) (w : World) : (isAgg t).run P w = .ok (aggT P t) w := by
 obtain ⟨d, hd⟩ := Option.isSome_iff_exists.1 h
 simp only [isAgg, Sem.run_bind, run_underlying hd, Result.andThen_ok, aggT, hd]
 cases d <;> rfl
end
end Go.Proofs.YtgcienlfpnpbgaaGreat
end
section
namespace Go.Proofs.YtgcienlfpnpbgaaGreat
open Go.RowKit
section
variable {P : Program} {st : St} {w : World}
theorem binOp_int (op : BinOp) (t : TypeId) (k k' : IntKind) (x y : Int) : binOp op t (.int k x) (.int k' y) = binOp op 0 (.int k x) (.int k' y) := by cases op <;> rfl
theorem binOp_str (op : BinOp) (t : TypeId) (x y : ByteArray) : binOp op t (.string x) (.string y) = binOp op 0 (.string x) (.string y) := by cases op <;> rfl
theorem noAgg_int {op : BinOp} {k k' : IntKind} {x y : Int} {v : Value} (h : pureV (binOp op 0 (.int k x) (.int k' y)) = some v) : noAgg v = true := by
 cases op <;> simp only [binOp, Op.shift, Op.intArith, Op.intDiv, Op.intBits, Op.intCmp] at h <;> (repeat' split at h) <;> (first | (cases h; rfl) | cases h | skip)
theorem noAgg_str {op : BinOp} {x y : ByteArray} {v : Value} (h : pureV (binOp op 0 (.string x) (.string y)) = some v) : noAgg v = true := by
 cases op <;> simp only [binOp, Op.stringOp] at h <;> (repeat' split at h) <;> (first | (cases h; rfl) | cases h | skip)
theorem guard_plain (op : BinOp) (t : TypeId) (x y : Operand) (a b : Value) (h : ∀ u, (a, b) ≠ (.nilIface, u)) (h2 : ∀ u v, (a, b) ≠ (.agg u, v)) : (eqGuard op t x y a b).run P w = .ok () w := by
 unfold eqGuard
 cases op <;> first | rfl | skip
 all_goals
  simp only [Bool.not_true, Bool.false_eq_true, if_false]
  cases a <;> first | rfl | (exact absurd rfl (h _)) | (exact absurd rfl (h2 _ _)) | (cases b <;> rfl)
theorem eql_nil (t e : TypeId) (p : Option Addr) (h : P.underlying t = some (.pointer e)) : (Op.equal t (.pointer p) (.pointer none)).run P w = .ok p.isNone w := by
 have key : ∀ d, (Op.equalIn (d + 1) t (.pointer p) (.pointer none)).run P w = .ok p.isNone w := fun d => by cases p <;> simp [Op.equalIn, run_underlying h]
 exact key 9999
theorem out_bin {op : BinOp} {t : TypeId} {x y : Operand} {a b : Value} {da db d : D} (hh : Holds st w) (ha : Rep (OwnS st) w a da) (hb : Rep (OwnS st) w b db) (h : aBin P op t da db = some d) :
 Out st w d P (do eqGuard op t x y a b; binOp op t a b) := by
 unfold aBin at h
 split at h
 · cases rep_s ha; cases rep_s hb
   cases hp : pureV (binOp op 0 (.int _ _) (.int _ _)) with
   | none => rw [hp] at h; cases h
   | some v =>
    rw [hp] at h; cases h
    refine Out.same hh (v := v) ?_ (.s v (noAgg_int hp))
    rw [Sem.run_bind, guard_plain _ _ _ _ _ _ (fun u e => by cases e) (fun u v e => by cases e), Result.andThen_ok, binOp_int]
    exact pureV_run hp P w
 · cases rep_s ha; cases rep_s hb
   cases hp : pureV (binOp op 0 (.string _) (.string _)) with
   | none => rw [hp] at h; cases h
   | some v =>
    rw [hp] at h; cases h
    refine Out.same hh (v := v) ?_ (.s v (noAgg_str hp))
    rw [Sem.run_bind, guard_plain _ _ _ _ _ _ (fun u e => by cases e) (fun u v e => by cases e), Result.andThen_ok, binOp_str]
    exact pureV_run hp P w
 · cases rep_s ha; cases rep_s hb
   split at h
   · rename_i hk
     obtain ⟨ti, h1, h2⟩ := kT_spec hk (by simp)
     have hu := (und_of_k h1).1 h2
     cases h
     refine Out.same hh ?_ (.s _ rfl)
     rw [Sem.run_bind, guard_plain _ _ _ _ _ _ (fun u e => by cases e) (fun u v e => by cases e), Result.andThen_ok]
     simp only [binOp, Sem.run_bind, run_equal_bool w t _ _ hu, Result.andThen_ok, Sem.run_pure]
   · rename_i hk
     obtain ⟨ti, h1, h2⟩ := kT_spec hk (by simp)
     have hu := (und_of_k h1).1 h2
     cases h
     refine Out.same hh ?_ (.s _ rfl)
     rw [Sem.run_bind, guard_plain _ _ _ _ _ _ (fun u e => by cases e) (fun u v e => by cases e), Result.andThen_ok]
     simp only [binOp, Sem.run_bind, run_equal_bool w t _ _ hu, Result.andThen_ok, Sem.run_pure]
   · cases h
 · cases ha; cases rep_s hb
   split at h
   · rename_i hk
     obtain ⟨ti, h1, h2⟩ := kT_spec hk (by simp)
     obtain ⟨e, hu⟩ := (und_of_k h1).2.2.2.1 h2
     cases h
     refine Out.same hh ?_ (.s _ rfl)
     rw [Sem.run_bind, guard_plain _ _ _ _ _ _ (fun u e => by cases e) (fun u v e => by cases e), Result.andThen_ok]
     simp only [binOp, Sem.run_bind, eql_nil t e _ hu, Result.andThen_ok, Sem.run_pure]; rfl
   · rename_i hk
     obtain ⟨ti, h1, h2⟩ := kT_spec hk (by simp)
     obtain ⟨e, hu⟩ := (und_of_k h1).2.2.2.1 h2
     cases h
     refine Out.same hh ?_ (.s _ rfl)
     rw [Sem.run_bind, guard_plain _ _ _ _ _ _ (fun u e => by cases e) (fun u v e => by cases e), Result.andThen_ok]
     simp only [binOp, Sem.run_bind, eql_nil t e _ hu, Result.andThen_ok, Sem.run_pure]; rfl
   · cases h
 · cases rep_s ha; cases rep_s hb
   split at h
   · rename_i hk
     obtain ⟨ti, h1, h2⟩ := kT_spec hk (by simp)
     obtain ⟨e, hu⟩ := (und_of_k h1).2.2.2.1 h2
     cases h
     refine Out.same hh ?_ (.s _ rfl)
     rw [Sem.run_bind, guard_plain _ _ _ _ _ _ (fun u e => by cases e) (fun u v e => by cases e), Result.andThen_ok]
     simp only [binOp, Sem.run_bind, eql_nil t e _ hu, Result.andThen_ok, Sem.run_pure]; rfl
   · rename_i hk
     obtain ⟨ti, h1, h2⟩ := kT_spec hk (by simp)
     obtain ⟨e, hu⟩ := (und_of_k h1).2.2.2.1 h2
     cases h
     refine Out.same hh ?_ (.s _ rfl)
     rw [Sem.run_bind, guard_plain _ _ _ _ _ _ (fun u e => by cases e) (fun u v e => by cases e), Result.andThen_ok]
     simp only [binOp, Sem.run_bind, eql_nil t e _ hu, Result.andThen_ok, Sem.run_pure]; rfl
   · cases h
 · cases h
theorem noAgg_un {op : UnOp} {x v : Value} (h : pureV (Op.unary op x) = some v) : noAgg v = true := by
 unfold Op.unary at h
 split at h <;> first | (cases h; rfl) | cases h
theorem out_un {op : UnOp} {a : Value} {da d : D} (hh : Holds st w) (ha : Rep (OwnS st) w a da) (h : aUn op da = some d) : Out st w d P (Op.unary op a) := by
 unfold aUn at h
 split at h
 · cases rep_s ha
   have key : ∀ v, (pureV (Op.unary op v)).map D.s = some d → Out st w d P (Op.unary op v) := fun v h => by
    cases hp : pureV (Op.unary op v) with
    | none => rw [hp] at h; cases h
    | some u => rw [hp] at h; cases h; exact Out.same hh (pureV_run hp P w) (.s u (noAgg_un hp))
   split at h
   · exact key _ h
   · exact key _ h
   · cases h
 · cases h
theorem out_conv {src dst : TypeId} {a : Value} {da d : D} (hh : Holds st w) (ha : Rep (OwnS st) w a da) (h : aConv P src dst da = some d) : Out st w d P (convert src dst a) := by
 unfold aConv at h
 split at h
 · rename_i ts td h1 h2
   obtain ⟨-, -, us, -⟩ := und_of_k h1
   obtain ⟨-, ui, ud, -⟩ := und_of_k h2
   obtain ⟨ds, hds, -, -⟩ := run_und_of h1
   split at h
   · have hu := ui _ ‹td.k = .int _›
     cases rep_s ha
     cases h
     refine Out.same hh ?_ (.s _ rfl)
     simp only [convert, Sem.run_bind, run_underlying hds, run_underlying hu, Result.andThen_ok, Conv.intToInt, Sem.run_pure]
   · have hu := ud ‹td.k = .string›
     cases rep_s ha
     cases h
     refine Out.same hh ?_ (.s _ rfl)
     simp only [convert, Sem.run_bind, run_underlying hds, run_underlying hu, Result.andThen_ok, Sem.run_pure]
   · rename_i e sz by_ z o es hk1 hk2
     split at h
     · rename_i hke
       obtain ⟨te, h3, h4⟩ := kT_spec hke (by simp)
       have hue := (und_of_k h3).2.1 _ h4
       obtain ⟨hus, -⟩ := (und_of_k h1).2.2.2.2.1 _ _ _ _ hk1
       cases hb : bytesOf es with
       | none => rw [hb] at h; cases h
       | some l =>
        rw [hb] at h; cases h
        obtain ⟨ad, cap, uv, sz1, rfl, c1, c2, c3, c4, c5, c6, c7, c8, c9, -⟩ := calm_src ha
        obtain ⟨rfl, hlen⟩ := bytesOf_rep hb c6
        refine Out.same hh (v := .string ⟨l.toArray⟩) ?_ (.s _ rfl)
        cases ad with
        | none =>
         have h0 := c8 rfl
         have hl0 : l = [] := List.eq_nil_of_length_eq_zero (by omega)
         subst hl0
         rw [run_convert_bytes_string w _ _ e _ _ _ hus hue (ud hk2)]
         rfl
        | some ad =>
         rw [hlen]
         refine run_convert_bytes_back w _ _ e ad cap l hus hue (ud hk2) (fun j hj => ?_)
         have := calm_own c9 rfl j (bv l[j]) (by simp [hj])
         exact this
     · cases h
   · rename_i e sz by_ z s hk1 hk2
     split at h
     · rename_i hke
       obtain ⟨te, h3, h4⟩ := kT_spec hke (by simp)
       have hue := (und_of_k h3).2.1 _ h4
       obtain ⟨hud, -⟩ := (und_of_k h2).2.2.2.2.1 _ _ _ _ hk2
       split at h
       · rename_i hs
         cases h
         cases rep_s ha
         have hcap1 := grownCap_ge w s.size 0 e
         have hcap2 := grownCap_le_maxLen w s.size 0 e (by unfold maxLen; omega)
         have hrun := run_bytes_of_string (P := P) w src dst e s (us hk1) hud hue
         generalize grownCap w s.size 0 e = cap at *
         have he : Ext (OwnS st) w (OwnS st) (w.drew.alloc (.cells (bytesRow s cap) e ((bytesRow s cap).size, (bytesRow s cap).size + 1))) :=
          (Ext.drewN (OwnS st) w 1).trans (Ext.alloc (OwnS st) w.drew _)
         have hh' : Holds st (w.drew.alloc (.cells (bytesRow s cap) e ((bytesRow s cap).size, (bytesRow s cap).size + 1))) := (hh.drewN 1).alloc _
         refine ⟨_, _, hrun, ?_, hh', he⟩
         have hn : w.drew.heap.size = w.heap.size := rfl
         have hlen : (s.data.toList.map encB).length = s.size := by simp
         have hsz : (s.data.toList.map encB).flatten.length = s.size := by rw [flat_len (sz := 1) (fun e he => by obtain ⟨b, -, rfl⟩ := List.mem_map.1 he; rfl), hlen, Nat.mul_one]
         have hfl : (s.data.toList.map encB).flatten = s.data.toList.map D.y := by
          generalize s.data.toList = l
          induction l with
          | nil => rfl
          | cons b l ih => rw [List.map_cons, List.flatten_cons, ih]; rfl
         have := Rep.sl (O := OwnS st) (w := w.drew.alloc (.cells (bytesRow s cap) e ((bytesRow s cap).size, (bytesRow s cap).size + 1))) .shared (s.data.toList.map encB) (some ⟨w.heap.size, 0, none⟩) cap (s.data.toList.map bv) 1 (by omega) hcap2 (fun e => by cases e) (Nat.lt_succ_self _)
          (fun e he => by obtain ⟨b, -, rfl⟩ := List.mem_map.1 he; rfl) (by rw [hsz]; simp) (fun d hd => by rw [hfl] at hd; obtain ⟨b, -, rfl⟩ := List.mem_map.1 hd; rfl)
          (fun i hi => ⟨w.heap.size, 0, rfl, by
           refine ⟨by rw [World.size_alloc]; exact Nat.lt_succ_self _, fun ho => by have := hh.lt ho; omega, ?_⟩
           rw [Nat.zero_add, cell_of_row _ w.heap.size i _ e _ (heap_alloc_new w.drew _)]
           rw [bytesRow, Array.getElem?_append_left (by simpa using hi)]
           simp at hi
           simp [hi, bv]⟩)
          (fun i hi hi' => by
           rw [List.getElem_map]
           have : (s.data.toList.map encB).flatten[i] = D.y (s.data.toList[i]'(by simpa using hi)) := by
            simp only [hfl, List.getElem_map]
           rw [this]
           exact .s _ rfl) trivial
         rwa [hlen] at this
       · cases h
     · cases h
   · cases h
 · cases h
theorem out_field {t : TypeId} {f : Nat} {a : Value} {da d : D} (hh : Holds st w) (ha : Rep (OwnS st) w a da) (h : aField P t f da = some d) : Out st w d P (Instr.field t a f) := by
 unfold aField at h
 split at h
 · rename_i cs
   split at h
   · rename_i ti hti
     split at h
     · rename_i fs hfs
       obtain ⟨fields, hu, hff, rfl⟩ := (und_of_k hti).2.2.2.2.2.1 _ hfs
       have hget : ∀ q, (fields.toList.map fun f => (f.offset, szT P f.type, aggT P f.type))[f]? = some q → ∃ fl, fields[f]? = some fl ∧ q = (fl.offset, szT P fl.type, aggT P fl.type) ∧ (P.info? fl.type).isSome ∧ (P.underlying fl.type).isSome := fun q hq => by
        rw [List.getElem?_map] at hq
        cases hfl : fields.toList[f]? with
        | none => rw [hfl] at hq; cases hq
        | some fl =>
         rw [hfl] at hq
         cases hq
         exact ⟨fl, by simpa using hfl, rfl, hff fl (List.mem_of_getElem? hfl)⟩
       cases ha with
       | agg uv _ l1 l2 =>
        split at h
        · rename_i off sz hq
          obtain ⟨fl, k1, k2, k3, k4⟩ := hget _ hq
          simp only [Prod.mk.injEq] at k2
          obtain ⟨rfl, rfl, hag⟩ := k2
          split at h
          · rename_i hle
            cases h
            have hr : RepL (OwnS st) w ((uv.drop fl.offset).take (szT P fl.type)) ((cs.drop fl.offset).take (szT P fl.type)) := (RepL.drop ⟨l1, l2⟩ _).take _
            refine Out.same hh (v := .agg ((uv.drop fl.offset).take (szT P fl.type)).toArray) ?_ (.agg _ _ hr.1 hr.2)
            simp only [Instr.field, Sem.run_bind, run_underlying hu, Result.andThen_ok, k1, asAgg, Sem.run_pure, part, run_isAgg' k4, ← hag, if_true, run_sizeOf' k3]
            congr 2
            apply Array.ext'
            simp [List.extract_eq_take_drop]
          · cases h
        · rename_i off sz hq
          obtain ⟨fl, k1, k2, k3, k4⟩ := hget _ hq
          simp only [Prod.mk.injEq] at k2
          obtain ⟨rfl, rfl, hag⟩ := k2
          obtain ⟨u, hu1, hu2⟩ := RepL.get? ⟨l1, l2⟩ h
          refine Out.same hh (v := u) ?_ hu2
          simp only [Instr.field, Sem.run_bind, run_underlying hu, Result.andThen_ok, k1, asAgg, Sem.run_pure, part, run_isAgg' k4, ← hag, Bool.false_eq_true, if_false]
          simp [hu1]
        · cases h
     · cases h
   · cases h
 · cases h
theorem ip_drop {O : Nat → Nat → Prop} {w : World} {cs : List D} {a : Value} (h : Rep O w a (.ip cs)) (n : Nat) : ∃ b off, a = .pointer (some ⟨b, off, none⟩) ∧ Rep O w (.pointer (some ⟨b, off + n, none⟩)) (.ip (cs.drop n)) := by
 cases h with
 | ip b off us cs h1 h2 h3 h4 =>
  refine ⟨b, off, rfl, ?_⟩
  have hr : RepL O w (us.drop n) (cs.drop n) := RepL.drop ⟨h1, h4⟩ n
  refine .ip b (off + n) (us.drop n) (cs.drop n) hr.1 (fun d hd => h2 d (List.mem_of_mem_drop hd)) (fun i hi => ?_) hr.2
  rw [List.getElem_drop, Nat.add_assoc]
  exact h3 (n + i) (by simp at hi; omega)
theorem out_fieldAddr {t : TypeId} {f : Nat} {a : Value} {da d : D} (hh : Holds st w) (ha : Rep (OwnS st) w a da) (h : aFieldAddr P t f da = some d) : Out st w d P (Instr.fieldAt t a f) := by
 unfold aFieldAddr at h
 split at h
 · rename_i ti hti
   split at h
   · rename_i fs hfs
     obtain ⟨fields, hu, hff, rfl⟩ := (und_of_k hti).2.2.2.2.2.1 _ hfs
     split at h
     · rename_i off sz ag hq
       rw [List.getElem?_map] at hq
       cases hfl : fields.toList[f]? with
       | none => rw [hfl] at hq; cases hq
       | some fl =>
        rw [hfl] at hq
        cases hq
        have k1 : fields[f]? = some fl := by simpa using hfl
        obtain ⟨k3, k4⟩ := hff fl (List.mem_of_getElem? hfl)
        split at h
        · rename_i hpos
          have hne : ¬ (szT P fl.type = 0) := by omega
          have run : ∀ b off, (Instr.fieldAt t (.pointer (some ⟨b, off, none⟩)) f).run P w = .ok (.pointer (some ⟨b, off + fl.offset, none⟩)) w := fun b off => by
           simp only [Instr.fieldAt, Sem.run_bind, run_underlying hu, Result.andThen_ok, k1, Instr.sureAddr, Sem.run_pure, fieldPlace, run_sizeOf' k3, if_neg hne, add_lit]
          split at h
          · cases h
            cases ha
            exact Out.same hh (run _ _) (.ptr _ _)
          · split at h
            · cases h
              obtain ⟨b, o, rfl, hr⟩ := ip_drop ha fl.offset
              exact Out.same hh (run _ _) hr
            · cases h
          · cases h
        · cases h
     · cases h
   · cases h
 · cases h
theorem flat_drop {sz : Nat} : ∀ {es : List (List D)} {n : Nat} {c : List D}, (∀ e ∈ es, e.length = sz) → es[n]? = some c → (es.flatten.drop (n * sz)).take sz = c
 | [], n, c, _, h => by cases h
 | e :: es, 0, c, he, h => by
  cases h
  rw [Nat.zero_mul, List.drop_zero, List.flatten_cons, ← he e (List.mem_cons_self ..), List.take_left]
 | e :: es, n + 1, c, he, h => by
  rw [List.flatten_cons, Nat.succ_mul, Nat.add_comm, ← List.drop_drop]
  have hl := he e (List.mem_cons_self ..)
  rw [show (e ++ es.flatten).drop sz = es.flatten by rw [← hl, List.drop_left]]
  exact flat_drop (fun x hx => he x (List.mem_cons_of_mem _ hx)) h
theorem out_indexAddr {t : TypeId} {a i : Value} {da d : D} {k : IntKind} {n : Int} (hh : Holds st w) (ha : Rep (OwnS st) w a da) (hi : i = .int k n) (h : aIndexAddr P t da n = some d) : Out st w d P (Instr.indexAt t a i) := by
 subst hi
 unfold aIndexAddr at h
 split at h
 · rename_i ti hti
   split at h
   · rename_i e sz by_ z o es hk
     obtain ⟨hu, ii, zv, q1, q2, q3, q4, q5, q6, q7⟩ := (und_of_k hti).2.2.2.2.1 _ _ _ _ hk
     split at h
     · rename_i hn
       split at h
       · rename_i c hc
         split at h
         · rename_i hcl
           cases h
           obtain ⟨ad, cap, uv, sz1, rfl, c1, c2, c3, c4, c5, c6, c7, c8, c9, -⟩ := calm_src ha
           have hsz : sz1 = sz := by rw [← c4 c (List.mem_of_getElem? hc), hcl]
           subst hsz
           have hnl : n.toNat < es.length := (List.getElem?_eq_some_iff.1 hc).1
           have hlt : n.toNat * sz1 < uv.length := by rw [c5]; exact Nat.mul_lt_mul_of_pos_right hnl c3
           obtain ⟨b, off, rfl, -⟩ := c9 _ hlt
           have hr : RepL (OwnS st) w ((uv.drop (n.toNat * sz1)).take sz1) c := by
            have := (c6.drop (n.toNat * sz1)).take sz1
            rwa [flat_drop c4 hc] at this
           refine Out.same hh (v := .pointer (some ⟨b, off + n.toNat * sz1, none⟩)) ?_ (.ip b _ _ c hr.1 (fun x hx => c7 x ?_) (fun j hj => ?_) hr.2)
           · simp only [Instr.indexAt, Sem.run_bind, asIntOf, Sem.run_pure, Result.andThen_ok, run_underlying hu]
             simp only [hn, and_self, if_true, Sem.run_bind, sizeOf, typeInfo, run_program, Result.andThen_ok, q1, Sem.run_pure, q4, add_lit]
           · rw [List.mem_flatten]; exact ⟨c, List.mem_of_getElem? hc, hx⟩
           · simp only [List.length_take, List.length_drop] at hj
             rw [List.getElem_take, List.getElem_drop, Nat.add_assoc]
             obtain ⟨b', off', e', hcalm⟩ := c9 (n.toNat * sz1 + j) (by omega)
             cases e'
             exact hcalm
         · cases h
       · cases h
     · cases h
   · rename_i e sz by_ z g off len cap hk
     obtain ⟨hu, ii, zv, q1, q2, q3, q4, q5, q6, q7⟩ := (und_of_k hti).2.2.2.2.1 _ _ _ _ hk
     split at h
     · rename_i hn
       cases h
       cases ha
       refine Out.same hh (v := .pointer (some ⟨g, off + n.toNat * sz, none⟩)) ?_ (.ptr _ _)
       simp only [Instr.indexAt, Sem.run_bind, asIntOf, Sem.run_pure, Result.andThen_ok, run_underlying hu]
       simp only [hn, and_self, if_true, Sem.run_bind, sizeOf, typeInfo, run_program, Result.andThen_ok, q1, Sem.run_pure, q4, add_lit]
     · cases h
   · rename_i len sz ag b off hk
     obtain ⟨e, hu, q1, q2, rfl, -⟩ := (und_of_k hti).2.2.2.2.2.2 _ _ _ hk
     split at h
     · rename_i hn
       cases h
       cases ha
       refine Out.same hh (v := .pointer (some ⟨b, off + n.toNat * szT P e, none⟩)) ?_ (.ptr _ _)
       simp only [Instr.indexAt, Sem.run_bind, asIntOf, Sem.run_pure, Result.andThen_ok, run_underlying hu, Instr.sureAddr]
       simp only [hn, and_self, if_true, Sem.run_bind, run_sizeOf' q1, Result.andThen_ok, Sem.run_pure, add_lit]
     · cases h
   · rename_i len sz ag cs hk
     obtain ⟨e, hu, q1, q2, rfl, -⟩ := (und_of_k hti).2.2.2.2.2.2 _ _ _ hk
     split at h
     · rename_i hn
       cases h
       obtain ⟨b, off, rfl, hr⟩ := ip_drop ha (n.toNat * szT P e)
       refine Out.same hh (v := .pointer (some ⟨b, off + n.toNat * szT P e, none⟩)) ?_ hr
       simp only [Instr.indexAt, Sem.run_bind, asIntOf, Sem.run_pure, Result.andThen_ok, run_underlying hu, Instr.sureAddr]
       simp only [hn, and_self, if_true, Sem.run_bind, run_sizeOf' q1, Result.andThen_ok, Sem.run_pure, add_lit]
     · cases h
   · cases h
 · cases h
theorem out_index {t : TypeId} {a i : Value} {da d : D} {k : IntKind} {n : Int} (hh : Holds st w) (ha : Rep (OwnS st) w a da) (hi : i = .int k n) (h : aIndex P t da n = some d) : Out st w d P (Instr.index t a i) := by
 subst hi
 unfold aIndex at h
 split at h
 · rename_i ti hti
   split at h
   · rename_i s hk
     have hu := (und_of_k hti).2.2.1 hk
     cases rep_s ha
     split at h
     · rename_i hn
       cases hb : s.data.toList[n.toNat]? with
       | none => rw [hb] at h; cases h
       | some b =>
        rw [hb] at h; cases h
        refine Out.same hh (v := .int .u8 (b.toNat : Int)) ?_ (.s _ rfl)
        have hs : s[n.toNat]? = some b := by
         obtain ⟨h1, h2⟩ := List.getElem?_eq_some_iff.1 hb
         have h3 : n.toNat < s.size := by simpa using h1
         rw [getElem?_pos s n.toNat h3]
         congr 1
        simp only [Instr.index, Sem.run_bind, asIntOf, Sem.run_pure, Result.andThen_ok, run_underlying hu, hn, if_true, hs]
     · cases h
   · rename_i len sz ag cs hk
     obtain ⟨e, hu, q1, q2, rfl, rfl⟩ := (und_of_k hti).2.2.2.2.2.2 _ _ _ hk
     cases ha with
     | agg uv _ l1 l2 =>
      split at h
      · rename_i hn
        split at h
        · rename_i hag
          split at h
          · cases h
            have hr : RepL (OwnS st) w ((uv.drop (n.toNat * szT P e)).take (szT P e)) ((cs.drop (n.toNat * szT P e)).take (szT P e)) := (RepL.drop ⟨l1, l2⟩ _).take _
            refine Out.same hh (v := .agg ((uv.drop (n.toNat * szT P e)).take (szT P e)).toArray) ?_ (.agg _ _ hr.1 hr.2)
            simp only [Instr.index, Sem.run_bind, asIntOf, Sem.run_pure, Result.andThen_ok, run_underlying hu]
            simp only [hn, and_self, if_true, Sem.run_bind, run_sizeOf' q1, Result.andThen_ok, part, run_isAgg' q2, hag, Sem.run_pure]
            congr 2
            apply Array.ext'
            simp [List.extract_eq_take_drop]
          · cases h
        · rename_i hag
          obtain ⟨u, hu1, hu2⟩ := RepL.get? ⟨l1, l2⟩ h
          refine Out.same hh (v := u) ?_ hu2
          simp only [Instr.index, Sem.run_bind, asIntOf, Sem.run_pure, Result.andThen_ok, run_underlying hu]
          simp only [hn, and_self, if_true, Sem.run_bind, run_sizeOf' q1, Result.andThen_ok, part, run_isAgg' q2, hag, Bool.false_eq_true, if_false]
          simp [hu1]
      · cases h
   · cases h
 · cases h
end
end Go.Proofs.YtgcienlfpnpbgaaGreat
end
section
namespace Go.Proofs.YtgcienlfpnpbgaaGreat
open Go.RowKit
section
variable {P : Program} {st : St} {w : World}
theorem run_bound {k : IntKind} {n : Int} {y : Nat} (code : BoundsCode) (h : 0 ≤ n ∧ n ≤ y) : (Instr.sliceBound (.int k n) y code).run P w = .ok n.toNat w := by
 simp only [Instr.sliceBound, Sem.run_bind, asIntOf, Sem.run_pure, Result.andThen_ok]
 rw [if_pos h]; rfl
def VInt (o : Option Value) (n : Option Int) : Prop := match n with | none => o = none | some n => ∃ k, o = some (.int k n)
theorem run_bounds {isS : Bool} {len cap l h : Nat} {lo hi mx : Option Int} {vl vh vm : Option Value} (hl : VInt vl lo) (hh : VInt vh hi) (hm : VInt vm mx) (hb : aBounds len lo hi = some (l, h)) (hlc : len ≤ cap) (hmx : mx = none ∨ (mx = hi ∧ hi ≠ none)) :
 (Instr.sliceBounds isS len cap vl vh vm).run P w = .ok (l, h, if mx = none then cap else h) w := by
 unfold aBounds at hb
 unfold Instr.sliceBounds
 rcases hmx with rfl | ⟨rfl, hne⟩
 · subst hm
   cases hi with
   | none =>
    subst hh
    cases lo with
    | none =>
     subst hl
     simp only [Option.some.injEq, Prod.mk.injEq] at hb
     obtain ⟨rfl, rfl⟩ := hb
     simp [Sem.run_bind]
    | some lo =>
     obtain ⟨k, rfl⟩ := hl
     simp only at hb
     split at hb
     · rename_i hlo
       simp only [Option.some.injEq, Prod.mk.injEq] at hb
       obtain ⟨rfl, rfl⟩ := hb
       simp only [Sem.run_bind, Sem.run_pure, Result.andThen_ok, run_bound _ hlo, if_true]
     · cases hb
   | some hi =>
    obtain ⟨kh, rfl⟩ := hh
    simp only at hb
    split at hb
    · rename_i x hx
      split at hx
      · rename_i hhi
        cases hx
        have hhi' : 0 ≤ hi ∧ hi ≤ (cap : Int) := by omega
        cases lo with
        | none =>
         subst hl
         simp only [Option.some.injEq, Prod.mk.injEq] at hb
         obtain ⟨rfl, rfl⟩ := hb
         simp only [Sem.run_bind, Sem.run_pure, Result.andThen_ok, run_bound _ hhi', if_true]
        | some lo =>
         obtain ⟨k, rfl⟩ := hl
         simp only at hb
         split at hb
         · rename_i hlo
           simp only [Option.some.injEq, Prod.mk.injEq] at hb
           obtain ⟨rfl, rfl⟩ := hb
           simp only [Sem.run_bind, Sem.run_pure, Result.andThen_ok, run_bound _ hhi', run_bound _ hlo, if_true]
         · cases hb
      · cases hx
    · cases hb
 · cases mx with
   | none => exact absurd rfl hne
   | some hi =>
    obtain ⟨kh, rfl⟩ := hh
    obtain ⟨km, rfl⟩ := hm
    simp only at hb
    split at hb
    · rename_i x hx
      split at hx
      · rename_i hhi
        cases hx
        have hhi' : 0 ≤ hi ∧ hi ≤ (cap : Int) := by omega
        have hhi2 : 0 ≤ hi ∧ hi ≤ (hi.toNat : Int) := by omega
        cases lo with
        | none =>
         subst hl
         simp only [Option.some.injEq, Prod.mk.injEq] at hb
         obtain ⟨rfl, rfl⟩ := hb
         simp only [Sem.run_bind, Sem.run_pure, Result.andThen_ok, run_bound _ hhi', run_bound _ hhi2, reduceCtorEq, if_false]
        | some lo =>
         obtain ⟨k, rfl⟩ := hl
         simp only at hb
         split at hb
         · rename_i hlo
           simp only [Option.some.injEq, Prod.mk.injEq] at hb
           obtain ⟨rfl, rfl⟩ := hb
           simp only [Sem.run_bind, Sem.run_pure, Result.andThen_ok, run_bound _ hhi', run_bound _ hhi2, run_bound _ hlo, reduceCtorEq, if_false]
         · cases hb
      · cases hx
    · cases hb
theorem bounds_le {len l h : Nat} {lo hi : Option Int} (hb : aBounds len lo hi = some (l, h)) : l ≤ h ∧ h ≤ len := by
 unfold aBounds at hb
 cases hi with
 | none =>
  cases lo with
  | none => simp only [Option.some.injEq, Prod.mk.injEq] at hb; omega
  | some lo =>
   simp only at hb
   split at hb
   · simp only [Option.some.injEq, Prod.mk.injEq] at hb; omega
   · cases hb
 | some hi =>
  simp only at hb
  split at hb
  · rename_i x hx
    split at hx
    · cases hx
      cases lo with
      | none => simp only [Option.some.injEq, Prod.mk.injEq] at hb; omega
      | some lo =>
       simp only at hb
       split at hb
       · simp only [Option.some.injEq, Prod.mk.injEq] at hb; omega
       · cases hb
    · cases hx
  · cases hb
theorem flat_range {sz : Nat} {es : List (List D)} (he : ∀ e ∈ es, e.length = sz) (l n : Nat) : ((es.drop l).take n).flatten = (es.flatten.drop (l * sz)).take (n * sz) := by
 induction es generalizing l n with
 | nil => simp
 | cons e es ih =>
  have hl := he e (List.mem_cons_self ..)
  have ih' := ih (fun x hx => he x (List.mem_cons_of_mem _ hx))
  cases l with
  | zero =>
   rw [Nat.zero_mul, List.drop_zero, List.drop_zero]
   cases n with
   | zero => simp
   | succ n =>
    rw [List.take_succ_cons, List.flatten_cons, List.flatten_cons]
    have := ih' 0 n
    rw [Nat.zero_mul, List.drop_zero, List.drop_zero] at this
    rw [this, Nat.succ_mul, Nat.add_comm, ← hl, List.take_append]
    congr 1
    · rw [List.take_of_length_le (by omega)]
    · congr 1; omega
  | succ l =>
   rw [List.drop_succ_cons, List.flatten_cons, ih' l n, Nat.succ_mul, Nat.add_comm (l * sz) sz, ← List.drop_drop, ← hl, List.drop_left]
theorem out_slice {t : TypeId} {a : Value} {da d : D} {lo hi mx : Option Int} {vl vh vm : Option Value} (hl : VInt vl lo) (hhi : VInt vh hi) (hm : VInt vm mx) (hh : Holds st w) (ha : Rep (OwnS st) w a da) (h : aSlice P t da lo hi mx = some d) : Out st w d P (Instr.sliceAt t a vl vh vm) := by
 unfold aSlice at h
 split at h
 · rename_i s hk
   obtain ⟨ti, h1, h2⟩ := kT_spec hk (by simp)
   have hu := (und_of_k h1).2.2.1 h2
   cases rep_s ha
   split at h
   · split at h
     · rename_i l hx hb
       cases h
       subst hm
       refine Out.same hh ?_ (.s _ rfl)
       simp only [Instr.sliceAt, Sem.run_bind, run_underlying hu, Result.andThen_ok, Instr.slice, Option.isSome_none, Bool.false_eq_true, if_false, Sem.run_pure, run_bounds (isS := false) hl hhi (mx := none) rfl hb (Nat.le_refl _) (.inl rfl)]
     · cases h
   · cases h
 · rename_i e sz by_ z o es hk
   obtain ⟨ti, h1, h2⟩ := kT_spec hk (by simp)
   obtain ⟨hu, ii, zv, q1, q2, q3, q4, q5, q6, q7⟩ := (und_of_k h1).2.2.2.2.1 _ _ _ _ h2
   obtain ⟨ad, cap, uv, sz1, rfl, c1, c2, c3, c4, c5, c6, c7, c8, c9, -⟩ := calm_src ha
   split at h
   · rename_i l hx hb
     obtain ⟨b1, b2⟩ := bounds_le hb
     split at h
     · rename_i hall
       have hes : ∀ e ∈ es, e.length = sz := fun e he => by simpa using List.all_eq_true.1 hall e he
       have hmx : mx = none ∨ (mx = hi ∧ hi ≠ none) := by
        cases mx with
        | none => exact .inl rfl
        | some m =>
         simp only at h
         split at h
         · rename_i e; exact .inr ⟨e.symm, by rw [e]; simp⟩
         · cases h
       have hd : ∃ o', d = .sl o' ((es.drop l).take (hx - l)) ∧ (o' = .shared ∨ (o' = .tight ∧ mx ≠ none)) := by
        cases mx with
        | none => cases h; exact ⟨_, rfl, .inl rfl⟩
        | some m =>
         simp only at h
         split at h
         · cases h; exact ⟨_, rfl, .inr ⟨rfl, by simp⟩⟩
         · cases h
       obtain ⟨o', rfl, ho'⟩ := hd
       have hrun : (Instr.sliceAt t (.slice ad es.length cap) vl vh vm).run P w = .ok (.slice (if (if mx = none then cap else hx) = l then ad else ad.map (·.add (l * sz))) (hx - l) ((if mx = none then cap else hx) - l)) w := by
        simp only [Instr.sliceAt, Sem.run_bind, run_underlying hu, Result.andThen_ok, Instr.slice, run_bounds (isS := true) hl hhi hm hb c1 hmx, sizeOf, typeInfo, run_program, q1, Sem.run_pure, q4]
       have hlen : ((es.drop l).take (hx - l)).length = hx - l := by rw [List.length_take, List.length_drop]; omega
       have hsz1 : ∀ e ∈ (es.drop l).take (hx - l), e.length = sz1 := fun e he => c4 e (List.mem_of_mem_drop (List.mem_of_mem_take he))
       have hrl : RepL (OwnS st) w ((uv.drop (l * sz1)).take ((hx - l) * sz1)) ((es.drop l).take (hx - l)).flatten := by
        rw [flat_range c4]; exact (c6.drop _).take _
       have hcm : (if mx = none then cap else hx) ≤ cap := by split <;> omega
       have hcm2 : hx ≤ (if mx = none then cap else hx) := by split <;> omega
       generalize hM : (if mx = none then cap else hx) = M at *
       refine Out.same hh hrun ?_
       have hflr := flat_range c4 l (hx - l)
       generalize (es.drop l).take (hx - l) = L at *
       rw [← hlen]
       refine .sl o' L _ (M - l) ((uv.drop (l * sz1)).take ((hx - l) * sz1)) sz1 (by omega) (by omega) (fun hn => ?_) c3 hsz1 hrl.1 (fun x hx' => ?_) (fun j hj => ?_) hrl.2 ?_
       · split at hn
         · omega
         · cases ad with
           | none => have := c8 rfl; omega
           | some ad => cases hn
       · rw [hflr] at hx'
         exact c7 x (List.mem_of_mem_drop (List.mem_of_mem_take hx'))
       · simp only [List.length_take, List.length_drop] at hj
         have hlt : l < hx := by
          rcases Nat.lt_or_ge l hx with h | h
          · exact h
          · have : hx - l = 0 := by omega
            rw [this, Nat.zero_mul] at hj; omega
         have hmul : l * sz1 + (hx - l) * sz1 ≤ es.length * sz1 := by
          rw [← Nat.add_mul]; exact Nat.mul_le_mul_right _ (by omega)
         obtain ⟨b, off, rfl, hcalm⟩ := c9 (l * sz1 + j) (by omega)
         have hszeq : sz1 = sz := by
          have hne : 0 < es.length := by omega
          rw [← c4 es[0] (List.getElem_mem hne), hes es[0] (List.getElem_mem hne)]
         rw [if_neg (by omega)]
         refine ⟨b, off + l * sz1, by rw [Option.map_some, add_lit, hszeq], ?_⟩
         rw [List.getElem_take, List.getElem_drop, Nat.add_assoc]
         exact hcalm
       · rcases ho' with rfl | ⟨rfl, hne⟩
         · trivial
         · rw [if_neg hne] at hM
           show M - l = _
           omega
     · cases h
   · cases h
 · rename_i e sz by_ z g off n cap hk
   obtain ⟨ti, h1, h2⟩ := kT_spec hk (by simp)
   obtain ⟨hu, ii, zv, q1, q2, q3, q4, q5, q6, q7⟩ := (und_of_k h1).2.2.2.2.1 _ _ _ _ h2
   cases ha with
   | ar _ _ _ _ c1 c2 =>
   split at h
   · rename_i l hx hb
     obtain ⟨b1, b2⟩ := bounds_le hb
     split at h
     · rename_i hc
       cases h
       have hrun : (Instr.sliceAt t (.slice (some ⟨g, off, none⟩) n cap) vl vh vm).run P w = .ok (.slice (if cap = l then some ⟨g, off, none⟩ else (some (⟨g, off, none⟩ : Addr)).map (·.add (l * sz))) (hx - l) (cap - l)) w := by
        simp only [Instr.sliceAt, Sem.run_bind, run_underlying hu, Result.andThen_ok, Instr.slice, run_bounds (isS := true) hl hhi hm hb c1 (.inl rfl), sizeOf, typeInfo, run_program, q1, Sem.run_pure, q4, if_true]
       have hif : (if cap = l then some (⟨g, off, none⟩ : Addr) else (some (⟨g, off, none⟩ : Addr)).map (·.add (l * sz))) = some ⟨g, off + l * sz, none⟩ := by
        split
        · have : l = 0 := by omega
          subst this; simp
        · rw [Option.map_some, add_lit]
       rw [hif] at hrun
       exact Out.same hh hrun (.ar _ _ _ _ (by omega) (by omega))
     · cases h
   · cases h
 · cases h
theorem out_load {t : TypeId} {ti : TI} {a : Value} {cs : List D} {d : D} (ht : tinfo P t = some ti) (hh : Holds st w) (ha : Rep (OwnS st) w a (.ip cs)) (h : readD ti cs = some d) : Out st w d P (Instr.loadAt t a) := by
 cases ha with
 | ip b off us _ h1 h2 h3 h4 =>
  obtain ⟨v, k1, k2⟩ := run_load_cells ht (fun i hi => (h3 i hi).2.2) ⟨h1, h4⟩ h
  exact Out.same hh k1 k2
theorem out_box {t : TypeId} {a : Value} {da : D} (hh : Holds st w) (ha : Rep (OwnS st) w a da) (hl : da.cells.all D.leaf = true) : Out st w (.ip da.cells) P (Instr.box t a) := by
 have hc := ha.cells
 have he := Ext.alloc (OwnS st) w (.cells a.cells t)
 refine ⟨.pointer (some ⟨w.heap.size, 0, none⟩), w.alloc (.cells a.cells t), ?_, ?_, hh.alloc _, he⟩
 · rfl
 · refine .ip w.heap.size 0 a.cells.toList _ hc.1 (List.all_eq_true.1 hl) (fun i hi => ?_) (hc.ext he).2
   rw [Nat.zero_add]
   exact new_calm hh a.cells.toList t (0, 0) hi
theorem out_len {t ty : TypeId} {a : Value} {da : D} {n : Int} (hh : Holds st w) (ha : Rep (OwnS st) w a da) (h : aLen P t da = some n) : Out st w (.i n) P (Builtin.len_ #[t] ty #[a]) := by
 unfold aLen at h
 split at h
 · split at h
   · rename_i hk
     obtain ⟨ti, h1, h2⟩ := kT_spec hk (by simp)
     obtain ⟨hu, -⟩ := (und_of_k h1).2.2.2.2.1 _ _ _ _ h2
     cases h
     obtain ⟨ad, cap, uv, sz1, rfl, -⟩ := calm_src ha
     refine Out.same hh ?_ (.s _ rfl)
     simp [Builtin.len_, run_underlying hu, goInt]
   · cases h
 · split at h
   · rename_i hk
     obtain ⟨ti, h1, h2⟩ := kT_spec hk (by simp)
     obtain ⟨hu, -⟩ := (und_of_k h1).2.2.2.2.1 _ _ _ _ h2
     cases h
     cases ha
     refine Out.same hh ?_ (.s _ rfl)
     simp [Builtin.len_, run_underlying hu, goInt]
   · cases h
 · split at h
   · rename_i hk
     obtain ⟨ti, h1, h2⟩ := kT_spec hk (by simp)
     have hu := (und_of_k h1).2.2.1 h2
     cases h
     cases rep_s ha
     refine Out.same hh ?_ (.s _ rfl)
     simp [Builtin.len_, run_underlying hu, goInt]
   · cases h
 · cases h
theorem RepL.one {O : Nat → Nat → Prop} {us : List Value} {d : D} (h : RepL O w us [d]) : ∃ u, us = [u] ∧ Rep O w u d := by
 obtain ⟨u, t, rfl, h1, h2⟩ := h.inv_cons
 rw [h2.inv_nil]; exact ⟨u, rfl, h1⟩
theorem RepL.two {O : Nat → Nat → Prop} {us : List Value} {d d' : D} (h : RepL O w us [d, d']) : ∃ u u', us = [u, u'] ∧ Rep O w u d ∧ Rep O w u' d' := by
 obtain ⟨u, t, rfl, h1, h2⟩ := h.inv_cons
 obtain ⟨u', rfl, h3⟩ := h2.one
 exact ⟨u, u', rfl, h1, h3⟩
theorem out_builtin {bi : Builtin} {ts : Array TypeId} {ty : TypeId} {cc : Array Bool} {vs : Array Value} {ds : List D} {d : D} (hh : Holds st w) (ha : RepL (OwnS st) w vs.toList ds) (h : aBi P bi ts.toList ds = some d) :
 ∃ v w', (builtin bi ts ty cc vs).run P w = .ok (.value v) w' ∧ Rep (OwnS st) w' v d ∧ Holds st w' ∧ Ext (OwnS st) w (OwnS st) w' := by
 obtain ⟨tl⟩ := ts
 obtain ⟨vl⟩ := vs
 dsimp only at h ha
 have lift : ∀ {s : Sem Value}, Out st w d P s → (∀ w', (builtin bi tl.toArray ty cc vl.toArray).run P w' = (s.run P w').andThen fun v w'' => .ok (.value v) w'') → ∃ v w', (builtin bi tl.toArray ty cc vl.toArray).run P w = .ok (.value v) w' ∧ Rep (OwnS st) w' v d ∧ Holds st w' ∧ Ext (OwnS st) w (OwnS st) w' := by
  rintro s ⟨v, w', k1, k2, k3, k4⟩ hs
  exact ⟨v, w', by rw [hs, k1]; rfl, k2, k3, k4⟩
 unfold aBi at h
 split at h
 · rename_i t da
   obtain ⟨u, rfl, hu⟩ := ha.one
   cases hl : aLen P t da with
   | none => rw [hl] at h; cases h
   | some n =>
    rw [hl] at h; cases h
    exact lift (out_len (ty := ty) hh hu hl) fun w' => by simp [builtin, Sem.run_bind]
 · rename_i t es
   obtain ⟨u, rfl, hu⟩ := ha.one
   split at h
   · rename_i hk
     obtain ⟨ti, h1, h2⟩ := kT_spec hk (by simp)
     obtain ⟨hun, -⟩ := (und_of_k h1).2.2.2.2.1 _ _ _ _ h2
     cases h
     obtain ⟨ad, cap, uv, sz1, rfl, _, _, _, _, _, _, _, _, _, hc⟩ := calm_src hu
     have hc' : cap = es.length := hc
     subst hc'
     refine ⟨.int .i64 es.length, w, ?_, .s _ rfl, hh, Ext.refl _ _⟩
     simp [builtin, Builtin.cap_, run_underlying hun, goInt]
   · cases h
 · rename_i k x k' y
   obtain ⟨u, u', rfl, hu, hu'⟩ := ha.two
   cases rep_s hu; cases rep_s hu'
   cases h
   refine ⟨.int k (if y < x then y else x), w, ?_, .s _ rfl, hh, Ext.refl _ _⟩
   simp [builtin, Builtin.min_, Builtin.min2]
 · rename_i k x k' y
   obtain ⟨u, u', rfl, hu, hu'⟩ := ha.two
   cases rep_s hu; cases rep_s hu'
   cases h
   refine ⟨.int k (if y > x then y else x), w, ?_, .s _ rfl, hh, Ext.refl _ _⟩
   simp [builtin, Builtin.max_, Builtin.max2]
 · cases h
end
end Go.Proofs.YtgcienlfpnpbgaaGreat
end
section
namespace Go.Proofs.YtgcienlfpnpbgaaGreat
open Go.RowKit
section
variable {P : Program} {st : St} {w : World}
theorem run_mapM {α β : Type} (f : α → Sem β) (g : α → β) (xs : Array α) (h : ∀ x ∈ xs, (f x).run P w = .ok (g x) w) : (xs.mapM f).run P w = .ok (xs.map g) w := by
 obtain ⟨l⟩ := xs
 rw [List.mapM_toArray]
 have key : ∀ l : List α, (∀ x ∈ l, (f x).run P w = .ok (g x) w) → (l.mapM f).run P w = .ok (l.map g) w := by
  intro l
  induction l with
  | nil => intro _; simp
  | cons x l ih =>
   intro h
   rw [List.mapM_cons]
   simp only [Sem.run_bind, h x (List.mem_cons_self ..), Result.andThen_ok, ih fun y hy => h y (List.mem_cons_of_mem _ hy), Sem.run_pure, List.map_cons]
 have hk := key l fun x hx => h x (by simpa using hx)
 rw [← bind_pure_comp]
 simp only [Sem.run_bind, hk, Result.andThen_ok, Sem.run_pure, List.map_toArray]
theorem fold_set (off : Nat) : ∀ (vs : List Value) (j : Nat) (cells : Array Value), off + j + vs.length ≤ cells.size →
 ((vs.zipIdx j).foldl (fun cs (x : Value × Nat) => cs.setIfInBounds (off + x.2) x.1) cells).toList = cells.toList.take (off + j) ++ vs ++ cells.toList.drop (off + j + vs.length)
 | [], j, cells, _ => by simp
 | v :: vs, j, cells, h => by
  simp only [List.length_cons] at h
  rw [List.zipIdx_cons, List.foldl_cons, fold_set off vs (j + 1) _ (by simp; omega)]
  simp only [Array.toList_setIfInBounds]
  apply List.ext_getElem?
  intro k
  simp only [List.append_assoc, List.length_cons]
  rw [List.getElem?_append, List.getElem?_append, List.getElem?_append, List.getElem?_append]
  simp only [List.length_take, List.length_set, Array.length_toList, List.length_cons, List.getElem?_take, List.getElem?_drop, List.getElem?_set]
  have e1 : min (off + (j + 1)) cells.size = off + j + 1 := by omega
  have e2 : min (off + j) cells.size = off + j := by omega
  rw [e1, e2]
  by_cases h1 : k < off + j
  · rw [if_pos (by omega), if_pos (by omega), if_pos h1, if_pos h1, if_neg (by omega)]
  · by_cases h2 : k = off + j
    · subst h2
      rw [if_pos (by omega), if_pos (by omega), if_pos rfl, if_pos (by omega), if_neg (by omega), if_pos (by omega), Nat.sub_self]
      rfl
    · rw [if_neg (by omega), if_neg h1]
      by_cases h3 : k - (off + j + 1) < vs.length
      · rw [if_pos h3, if_pos (by omega), show k - (off + j) = (k - (off + j + 1)) + 1 by omega, List.getElem?_cons_succ]
      · rw [if_neg h3, if_neg (by omega), if_neg (by omega)]
        congr 1
        omega
theorem fill_rep {O : Nat → Nat → Prop} {place : Nat → Option (Nat × Nat)} : ∀ {ps : List (Nat × D)} {vs : List (Nat × Value)} {cs cs' : List D} {cells : Array Value}, vs.map (·.1) = ps.map (·.1) → RepL O w (vs.map (·.2)) (ps.map (·.2)) → RepL O w cells.toList cs → aFill place cs ps = some cs' →
 ∃ cells', Instr.fill place cells vs = some cells' ∧ RepL O w cells'.toList cs'
 | [], [], cs, cs', cells, _, _, hc, h => by cases h; exact ⟨cells, rfl, hc⟩
 | (i, d) :: ps, (i', v) :: vs, cs, cs', cells, h1, h2, hc, h => by
  simp only [List.map_cons, List.cons.injEq] at h1
  obtain ⟨rfl, h1⟩ := h1
  obtain ⟨u, t, e, hd, h2'⟩ := RepL.inv_cons h2
  rw [List.map_cons] at e
  cases e
  unfold aFill at h
  unfold Instr.fill
  cases hp : place i' with
  | none => rw [hp] at h; cases h
  | some q =>
   obtain ⟨off, sz⟩ := q
   rw [hp] at h
   simp only at h ⊢
   split at h
   · rename_i hq
     have hcl := hd.cells
     have hvs : v.cells.size = sz := by rw [← Array.length_toList, hcl.1]; exact hq.1
     have hcs : cells.size = cs.length := by rw [← Array.length_toList]; exact hc.1
     have hcond : (decide (v.cells.size ≠ sz) || decide (off + v.cells.size > cells.size)) = false := by
      simp only [Bool.or_eq_false_iff, decide_eq_false_iff_not]
      omega
     have hcond' : ¬ ((v.cells.size ≠ sz || off + v.cells.size > cells.size) = true) := by rw [hcond]; exact Bool.false_ne_true
     rw [if_neg hcond']
     have hfold := fold_set off v.cells.toList 0 cells (by rw [Array.length_toList]; omega)
     simp only [Nat.add_zero] at hfold
     have harr : (v.cells.zipIdx.foldl (fun cs (x : Value × Nat) => cs.setIfInBounds (off + x.2) x.1) cells) = (v.cells.toList.zipIdx.foldl (fun cs (x : Value × Nat) => cs.setIfInBounds (off + x.2) x.1) cells) := by
      rw [← Array.foldl_toList, Array.toList_zipIdx]
     refine fill_rep h1 h2' ?_ h
     show RepL O w (v.cells.zipIdx.foldl (fun cs (x : Value × Nat) => cs.setIfInBounds (off + x.2) x.1) cells).toList _
     rw [harr, hfold]
     unfold splice
     rw [List.length_map, hcl.1]
     exact ((hc.take off).append hcl.sh).append (hc.drop _)
   · cases h
 | [], _ :: _, _, _, _, h1, _, _, _ => by simp at h1
 | _ :: _, [], _, _, _, h1, _, _, _ => by simp at h1
theorem zero_rep {O : Nat → Nat → Prop} {z : List Value} (h : z.all noAgg = true) : RepL O w z (z.map leafD) := by
 have := RepL.map (O := O) (w := w) (l := z) (f := id) (g := leafD) (fun x hx => leafD_rep (List.all_eq_true.1 h x hx))
 rwa [List.map_id] at this
theorem out_build {t : TypeId} {ps : List (Nat × D)} {vs : List (Nat × Value)} {d : D} (hh : Holds st w) (h1 : vs.map (·.1) = ps.map (·.1)) (h2 : RepL (OwnS st) w (vs.map (·.2)) (ps.map (·.2))) (h : aBuild P t ps = some d) : Out st w d P (Instr.build t vs.toArray) := by
 unfold aBuild at h
 split at h
 · rename_i ti hti
   split at h
   · rename_i hz
     obtain ⟨zv, hzl, hzr⟩ := run_zeroValue hti w
     have hzrep : RepL (OwnS st) w zv.cells.toList (ti.zero.map leafD) := by rw [hzl]; exact zero_rep hz
     split at h
     · rename_i fs hfs
       obtain ⟨fields, hu, hff, rfl⟩ := (und_of_k hti).2.2.2.2.2.1 _ hfs
       cases hf : aFill (fun i => (((fields.toList.map fun f => (f.offset, szT P f.type, aggT P f.type))[i]?).map fun (f : Nat × Nat × Bool) => (f.1, f.2.1))) (ti.zero.map leafD) ps with
       | none => rw [hf] at h; cases h
       | some cs =>
        rw [hf] at h; cases h
        obtain ⟨cells', k1, k2⟩ := fill_rep h1 h2 hzrep hf
        have hpl : (fun (i : Nat) => (((fields.toList.map fun f => (f.offset, szT P f.type, aggT P f.type))[i]?).map fun (f : Nat × Nat × Bool) => (f.1, f.2.1))) = fun (i : Nat) => (fields.map fun f => (f.offset, szT P f.type))[i]? := by
         funext i
         simp only [List.getElem?_map, Array.getElem?_map, Array.getElem?_toList, Option.map_map]
         rfl
        rw [hpl] at k1
        have hm : (fields.mapM fun f => (do pure (f.offset, ← sizeOf f.type) : Sem (Nat × Nat))).run P w = .ok (fields.map fun f => (f.offset, szT P f.type)) w :=
         run_mapM _ _ fields fun f hf => by
          simp only [Sem.run_bind, run_sizeOf' (hff f (by simpa using hf)).1, Result.andThen_ok, Sem.run_pure]
        refine Out.same hh (v := .agg cells') ?_ ?_
        · simp only [Instr.build, Sem.run_bind, hzr, Result.andThen_ok, run_underlying hu, hm, List.toList_toArray, k1, Sem.run_pure]
        · exact .agg cells'.toList cs k2.1 k2.2
     · rename_i n sz ag hk
       obtain ⟨e, hu, q1, q2, rfl, -⟩ := (und_of_k hti).2.2.2.2.2.2 _ _ _ hk
       cases hf : aFill (fun i => some (i * szT P e, szT P e)) (ti.zero.map leafD) ps with
       | none => rw [hf] at h; cases h
       | some cs =>
        rw [hf] at h; cases h
        obtain ⟨cells', k1, k2⟩ := fill_rep h1 h2 hzrep hf
        refine Out.same hh (v := .agg cells') ?_ ?_
        · simp only [Instr.build, Sem.run_bind, hzr, Result.andThen_ok, run_underlying hu, run_sizeOf' q1, List.toList_toArray, k1, Sem.run_pure]
        · exact .agg cells'.toList cs k2.1 k2.2
     · cases h
   · cases h
 · cases h
theorem chop_flat {sz : Nat} : ∀ (n : Nat) (l : List D), l.length = n * sz → (chop sz n l).flatten = l ∧ (chop sz n l).length = n ∧ ∀ e ∈ chop sz n l, e.length = sz
 | 0, l, h => by
  have : l = [] := List.eq_nil_of_length_eq_zero (by simpa using h)
  subst this
  exact ⟨rfl, rfl, fun e he => by cases he⟩
 | n + 1, l, h => by
  rw [Nat.succ_mul] at h
  obtain ⟨k1, k2, k3⟩ := chop_flat (sz := sz) n (l.drop sz) (by rw [List.length_drop]; omega)
  refine ⟨by rw [chop, List.flatten_cons, k1, List.take_append_drop], by rw [chop, List.length_cons, k2], fun e he => ?_⟩
  rw [chop, List.mem_cons] at he
  rcases he with rfl | he
  · rw [List.length_take]; omega
  · exact k3 e he
theorem rep_len {z : List Value} : ∀ n, ((List.replicate n (z.map leafD)).flatten.map D.sh).length = n * z.length
 | 0 => by simp
 | n + 1 => by
  have := rep_len (z := z) n
  rw [List.length_map] at this
  rw [List.length_map, List.replicate_succ, List.flatten_cons, List.length_append, this, List.length_map, Nat.succ_mul, Nat.add_comm]
theorem rep_zero {O : Nat → Nat → Prop} {z : List Value} (h : z.all noAgg = true) : ∀ n, RepL O w (List.replicate n z).flatten ((List.replicate n (z.map leafD)).flatten)
 | 0 => .nil
 | n + 1 => by
  rw [List.replicate_succ, List.replicate_succ, List.flatten_cons, List.flatten_cons]
  exact (zero_rep h).append (rep_zero h n)
theorem range_rep (z : Array Value) (hz : 0 < z.size) : ∀ n, ((Array.range (n * z.size)).map (z[· % z.size]!)).toList = (List.replicate n z.toList).flatten := by
 intro n
 apply List.ext_getElem?
 intro i
 have hl : ∀ n, (List.replicate n z.toList).flatten.length = n * z.size := fun n => by
  induction n with
  | zero => simp
  | succ n ih => rw [List.replicate_succ, List.flatten_cons, List.length_append, ih, Nat.succ_mul, Nat.add_comm]; simp
 have hg : ∀ n i, i < n * z.size → (List.replicate n z.toList).flatten[i]? = z.toList[i % z.size]? := fun n => by
  induction n with
  | zero => intro i h; omega
  | succ n ih =>
   intro i h
   rw [List.replicate_succ, List.flatten_cons]
   rcases Nat.lt_or_ge i z.size with h1 | h1
   · rw [List.getElem?_append_left (by simpa using h1), Nat.mod_eq_of_lt h1]
   · rw [List.getElem?_append_right (by simpa using h1)]
     simp only [Array.length_toList]
     rw [ih (i - z.size) (by rw [Nat.succ_mul] at h; omega), ← Nat.mod_eq_sub_mod h1]
 rcases Nat.lt_or_ge i (n * z.size) with h | h
 · rw [hg n i h]
   have hm := Nat.mod_lt i hz
   simp [h, hm]
 · rw [List.getElem?_eq_none (by simpa using h), List.getElem?_eq_none (by rw [hl]; exact h)]
theorem out_buildSlice {t : TypeId} {n : Nat} {ps : List (Nat × D)} {vs : List (Nat × Value)} {d : D} (hh : Holds st w) (h1 : vs.map (·.1) = ps.map (·.1)) (h2 : RepL (OwnS st) w (vs.map (·.2)) (ps.map (·.2))) (h : aBuildSlice P t n ps = some d) : Out st w d P (Instr.buildSlice t n vs.toArray) := by
 unfold aBuildSlice at h
 split at h
 · rename_i ti hti
   split at h
   · rename_i e sz by_ z hk
     obtain ⟨hu, ii, zv, q1, q2, q3, q4, q5, q6, q7⟩ := (und_of_k hti).2.2.2.2.1 _ _ _ _ hk
     split at h
     · rename_i hz
       obtain ⟨hz, hn, hszb⟩ := hz
       split at h
       · rename_i cs hf
         split at h
         · rename_i hleaf
           cases h
           subst q3
           have hzn : zv.cells.toList.length = sz := by simpa using q7
           have hz0 : 0 < zv.cells.size := by omega
           have hcz : RepL (OwnS st) w ((Array.range (n * zv.cells.size)).map (zv.cells[· % zv.cells.size]!)).toList ((List.replicate n (zv.cells.toList.map leafD)).flatten.map D.sh) := by
            rw [range_rep _ hz0]; exact (rep_zero hz n).sh
           obtain ⟨cells', k1, k2⟩ := fill_rep h1 h2 hcz hf
           have hlen : ∀ {ps : List (Nat × D)} {cs cs' : List D}, aFill (fun i => some (i * sz, sz)) cs ps = some cs' → cs'.length = cs.length := by
            intro ps
            induction ps with
            | nil => intro cs cs' h; cases h; rfl
            | cons p ps ih =>
             obtain ⟨i, dd⟩ := p
             intro cs cs' h
             unfold aFill at h
             simp only at h
             split at h
             · rename_i hq
               rw [ih h]
               unfold splice
               simp only [List.length_append, List.length_take, List.length_drop, List.length_map]
               omega
             · cases h
           have hcl : cs.length = n * sz := by rw [hlen hf, rep_len, hzn]
           obtain ⟨c1, c2, c3⟩ := chop_flat n cs hcl
           have hbig : ¬ (n * sz > 2 ^ 24) := by
            have : n * sz ≤ 1000 * 100 := Nat.mul_le_mul hn hszb
            omega
           have he := Ext.alloc (OwnS st) w (.cells cells' e)
           have hrun : (Instr.buildSlice t n vs.toArray).run P w = .ok (.slice (some ⟨w.heap.size, 0, none⟩) n n) (w.alloc (.cells cells' e)) := by
            have hsize : (sizeOf e).run P w = .ok sz w := by simp [sizeOf, typeInfo, q1, q4]
            have hzero : (zeroValue e).run P w = .ok zv w := by simp [zeroValue, typeInfo, q1, q2]
            simp only [Instr.buildSlice, Sem.run_bind, run_underlying hu, Result.andThen_ok, hsize]
            rw [if_neg hbig]
            by_cases hn0 : n * sz = 0
            · rw [if_pos hn0]
              simp only [Sem.run_bind, Sem.run_pure, Result.andThen_ok]
              have : ((Array.range (n * sz)).map ((#[] : Array Value)[· % (#[] : Array Value).size]!)) = ((Array.range (n * zv.cells.size)).map (zv.cells[· % zv.cells.size]!)) := by
               rw [q7, hn0]; simp
              rw [this, k1]
              rfl
            · rw [if_neg hn0]
              simp only [Sem.run_bind, hzero, Result.andThen_ok, Sem.run_pure]
              rw [show n * sz = n * zv.cells.size by rw [q7], k1]
              rfl
           refine ⟨_, _, hrun, ?_, hh.alloc _, he⟩
           have hcsz : cells'.toList.length = n * sz := by rw [k2.1, hcl]
           have := Rep.sl (O := OwnS st) (w := w.alloc (.cells cells' e)) .tight (chop sz n cs) (some ⟨w.heap.size, 0, none⟩) n cells'.toList sz (by omega) (by unfold maxLen; omega) (fun e => by cases e) q6 c3 (by rw [c1]; exact k2.1) (by rw [c1]; exact List.all_eq_true.1 hleaf)
            (fun i hi => ⟨w.heap.size, 0, rfl, by rw [Nat.zero_add]; exact new_calm hh cells'.toList e (0, 0) hi⟩)
            (fun i hi hi' => by
             have := (k2.ext he).2 i hi (by rw [← k2.1]; exact hi)
             simpa only [c1] using this) c2.symm
           rwa [c2] at this
         · cases h
       · cases h
     · cases h
   · cases h
 · cases h
end
end Go.Proofs.YtgcienlfpnpbgaaGreat
end
section
namespace Go.Proofs.YtgcienlfpnpbgaaGreat
open Go.RowKit
section
variable {P : Program} {st : St} {w : World}
theorem evP_rep {O : Nat → Nat → Prop} {e : Nat → D} {ρ : Operand → Value} {S : Array Operand} (h : RepE e O w ρ S) : ∀ {l : List (Nat × Operand)} {ds : List (Nat × D)}, (∀ x ∈ l, x.2 ∈ S) → evP e l = some ds → (l.map fun p => (p.1, ρ p.2)).map (·.1) = ds.map (·.1) ∧ RepL O w ((l.map fun p => (p.1, ρ p.2)).map (·.2)) (ds.map (·.2))
 | [], ds, _, hl => by cases hl; exact ⟨rfl, .nil⟩
 | (i, x) :: l, ds, hS, hl => by
  unfold evP at hl
  split at hl
  · rename_i d ds' h1 h2
    cases hl
    obtain ⟨k1, k2⟩ := evP_rep h (fun y hy => hS y (List.mem_cons_of_mem _ hy)) h2
    exact ⟨by simp only [List.map_cons, List.cons.injEq, true_and]; exact k1, .cons (h x (hS _ (List.mem_cons_self ..)) _ h1) k2⟩
  · cases hl
theorem optInt_rep {O : Nat → Nat → Prop} {e : Nat → D} {ρ : Operand → Value} {S : Array Operand} (h : RepE e O w ρ S) {x : Option Operand} {n : Option Int} (hS : ∀ y, x = some y → y ∈ S) (hx : optInt e x = some n) : VInt (x.map ρ) n := by
 unfold optInt at hx
 split at hx
 · cases hx; rfl
 · rename_i x
   split at hx
   · rename_i k n hv
     cases hx
     exact ⟨k, by rw [Option.map_some, rep_s (h x (hS x rfl) _ hv)]⟩
   · cases hx
theorem intOf_rep {O : Nat → Nat → Prop} {e : Nat → D} {ρ : Operand → Value} {S : Array Operand} (h : RepE e O w ρ S) {x : Operand} {n : Int} (hS : x ∈ S) (hx : intOfD (ev e x) = some n) : ∃ k, ρ x = .int k n := by
 unfold intOfD at hx
 split at hx
 · rename_i k n hv
   cases hx
   exact ⟨k, rep_s (h x hS _ hv)⟩
 · cases hx
theorem out_v {s : Sem Value} {d : D} (h : Out st w d P s) : ∃ v w', ((do pure (.value (← s)) : Sem Next)).run P w = .ok (.value v) w' ∧ Rep (OwnS st) w' v d ∧ Holds st w' ∧ Ext (OwnS st) w (OwnS st) w' := by
 obtain ⟨v, w', h1, h2, h3, h4⟩ := h
 exact ⟨v, w', by simp only [Sem.run_bind, h1, Result.andThen_ok, Sem.run_pure], h2, h3, h4⟩
theorem aOp_sound {o : Oper} {e : Nat → D} {d : D} (h : aOp P o e = some d) : OpY P o e st d := by
 intro ρ w hr hh
 have same : ∀ {v : Value}, Rep (OwnS st) w v d → (∃ u w', ((pure (.value v) : Sem Next)).run P w = .ok (.value u) w' ∧ Rep (OwnS st) w' u d ∧ Holds st w' ∧ Ext (OwnS st) w (OwnS st) w') := fun hv => ⟨_, w, rfl, hv, hh, Ext.refl _ _⟩
 unfold aOp at h
 unfold execOp
 cases hop : o.op <;> rw [hop] at h hr <;> simp only at h ⊢
 all_goals have ok : ∀ {x : Operand} {d : D}, x ∈ (Op.operands _) → ev e x = some d → Rep (OwnS st) w (ρ x) d := fun hS hx => hr _ hS _ hx
 case move x => exact same (ok (by simp [Op.operands]) h)
 case assign x => exact same (ok (by simp [Op.operands]) h)
 case pick c x y =>
  split at h
  · rename_i t hc
    have hcv := rep_s (ok (by simp [Op.operands]) hc)
    rw [hcv]
    refine ⟨if t then ρ x else ρ y, w, by simp [asBool], ?_, hh, Ext.refl _ _⟩
    cases t
    · exact ok (by simp [Op.operands]) h
    · exact ok (by simp [Op.operands]) h
  · cases h
 case nilCheck x =>
  split at h
  · rename_i b off hx
    cases h
    have hv := ok (by simp [Op.operands]) hx
    generalize ρ x = v at hv
    cases hv
    exact same (.ptr _ _)
  · rename_i c hx
    cases h
    have hv := ok (by simp [Op.operands]) hx
    generalize ρ x = v at hv
    cases hv with
    | ip b off us _ h1 h2 h3 h4 => exact same (.ip b off us _ h1 h2 h3 h4)
  · rename_i f p q hx
    cases h
    have hv := ok (by simp [Op.operands]) hx
    generalize ρ x = v at hv
    cases hv with
    | fn _ us1 us2 _ _ l1 l2 r1 r2 => exact same (.fn _ us1 us2 _ _ l1 l2 r1 r2)
  · rename_i f p q hx
    cases h
    have hv := ok (by simp [Op.operands]) hx
    generalize ρ x = v at hv
    cases hv with
    | fn _ us1 us2 _ _ l1 l2 r1 r2 => exact same (.fn _ us1 us2 _ _ l1 l2 r1 r2)
  · cases h
 case binOp op t x y t' =>
  split at h
  · rename_i da db hx hy
    exact out_v (out_bin hh (ok (by simp [Op.operands]) hx) (ok (by simp [Op.operands]) hy) h)
  · cases h
 case unOp op t x =>
  cases hx : ev e x with
  | none => rw [hx] at h; cases h
  | some da => rw [hx] at h; exact out_v (out_un hh (ok (by simp [Op.operands]) hx) h)
 case convert src dst x =>
  cases hx : ev e x with
  | none => rw [hx] at h; cases h
  | some da => rw [hx] at h; exact out_v (out_conv hh (ok (by simp [Op.operands]) hx) h)
 case makeFunc fn first caps =>
  split at h
  · rename_i p q h1 h2
    cases h
    have r1 := evL_rep hr (fun x hx => by simp [Op.operands]; exact .inl (by simpa using hx)) h1
    have r2 := evL_rep hr (fun x hx => by simp [Op.operands]; exact .inr (by simpa using hx)) h2
    refine out_v (Out.same hh (v := .func fn (first.map ρ) (caps.map ρ)) rfl ?_)
    have := Rep.fn fn (first.toList.map ρ) (caps.toList.map ρ) p q r1.1 r2.1 r1.2 r2.2
    have h1 : ∀ xs : Array Operand, xs.map ρ = (xs.toList.map ρ).toArray := fun xs => by apply Array.ext'; simp
    rw [h1 first, h1 caps]
    exact this
  · cases h
 case extract t i =>
  split at h
  · rename_i ds ht
    have hv := ok (by simp [Op.operands]) ht
    generalize ρ t = v at hv
    cases hv with
    | tup us _ l1 l2 =>
     obtain ⟨u, hu1, hu2⟩ := RepL.get? ⟨l1, l2⟩ h
     refine out_v (Out.same hh (v := u) ?_ hu2)
     simp [Instr.extract, hu1]
  · cases h
 case field t x f =>
  cases hx : ev e x with
  | none => rw [hx] at h; cases h
  | some da => rw [hx] at h; exact out_v (out_field hh (ok (by simp [Op.operands]) hx) h)
 case fieldAddr t x f =>
  cases hx : ev e x with
  | none => rw [hx] at h; cases h
  | some da => rw [hx] at h; exact out_v (out_fieldAddr hh (ok (by simp [Op.operands]) hx) h)
 case indexAddr t x i =>
  split at h
  · rename_i da n hx hi
    obtain ⟨k, hk⟩ := intOf_rep hr (by simp [Op.operands]) hi
    exact out_v (out_indexAddr hh (ok (by simp [Op.operands]) hx) hk h)
  · cases h
 case index t x i =>
  split at h
  · rename_i da n hx hi
    obtain ⟨k, hk⟩ := intOf_rep hr (by simp [Op.operands]) hi
    exact out_v (out_index hh (ok (by simp [Op.operands]) hx) hk h)
  · cases h
 case load t x =>
  split at h
  · rename_i cs ti hx ht
    exact out_v (out_load ht hh (ok (by simp [Op.operands]) hx) h)
  · cases h
 case slice t x lo hi mx =>
  split at h
  · rename_i da l hh' m hx hl hhi hm
    exact out_v (out_slice (optInt_rep hr (fun y hy => by subst hy; simp [Op.operands]) hl) (optInt_rep hr (fun y hy => by subst hy; simp [Op.operands]) hhi) (optInt_rep hr (fun y hy => by subst hy; simp [Op.operands]) hm) hh (ok (by simp [Op.operands]) hx) h)
  · cases h
 case build t ps =>
  cases hp : evP e ps.toList with
  | none => rw [hp] at h; cases h
  | some ds =>
   rw [hp] at h
   obtain ⟨k1, k2⟩ := evP_rep hr (fun x hx => by simp only [Op.operands, List.mem_toArray, List.mem_map]; exact ⟨x, hx, rfl⟩) hp
   have := out_v (out_build hh k1 k2 h)
   have he : ps.map (fun p => (p.1, ρ p.2)) = (ps.toList.map fun p => (p.1, ρ p.2)).toArray := by apply Array.ext'; simp
   rw [he]
   exact this
 case buildSlice t n ps =>
  cases hp : evP e ps.toList with
  | none => rw [hp] at h; cases h
  | some ds =>
   rw [hp] at h
   obtain ⟨k1, k2⟩ := evP_rep hr (fun x hx => by simp only [Op.operands, List.mem_toArray, List.mem_map]; exact ⟨x, hx, rfl⟩) hp
   have := out_v (out_buildSlice hh k1 k2 h)
   have he : ps.map (fun p => (p.1, ρ p.2)) = (ps.toList.map fun p => (p.1, ρ p.2)).toArray := by apply Array.ext'; simp
   rw [he]
   exact this
 case box t x =>
  split at h
  · rename_i da hx
    split at h
    · rename_i hl
      cases h
      exact out_v (out_box hh (ok (by simp [Op.operands]) hx) hl)
    · cases h
  · cases h
 case call c =>
  split at h
  · rename_i bi hb
    cases hds : evL e c.args.toList with
    | none => rw [hds] at h; cases h
    | some ds =>
     rw [hds] at h
     have r1 := evL_rep hr (fun x hx => by simp only [Op.operands, Call.operands, Array.mem_append]; exact .inr (by simpa using hx)) hds
     simp only [resolve, hb, Sem.run_bind, Sem.run_pure, Result.andThen_ok, invoke]
     exact out_builtin hh (by simpa using r1) h
  · cases h
 all_goals cases h
theorem opC_val {r : Option Nat} {o : Oper} {e : Nat → D} {K : D → St → Prop} (hnd : ∀ c, o.op ≠ .defer c) (h : ∀ ρ w, RepE e (OwnS st) w ρ o.op.operands → Holds st w → (∃ v w', (execOp ρ o).run P w = .ok (.value v) w' ∧ PostV st w K v w') ∨ (∃ w', (execOp ρ o).run P w = .ok .skip w' ∧ PostV st w K undef w')) : OpC P r o e st K := by
 intro ρ w h1 h2
 rw [Oper.semAt_eq r ρ o hnd]
 rcases h ρ w h1 h2 with ⟨v, w', k1, k2⟩ | ⟨w', k1, k2⟩
 · rw [k1]; exact k2
 · rw [k1]; exact k2
theorem opC_box {r : Option Nat} {o : Oper} {e : Nat → D} {t : TypeId} {x : Operand} {d : D} {K : D → St → Prop} (ho : o.op = .box t x) (hx : ev e x = some d) (hl : d.cells.all D.leaf = true) (hk : ∀ b, K (.ptr b 0) (.box b t d.cells :: st)) : OpC P r o e st K := by
 refine opC_val (by rw [ho]; intro c hc; cases hc) fun ρ w hr hh => .inl ?_
 have hv := hr _ (by simp [ho, Op.operands, Call.operands]) _ hx
 obtain ⟨k1, k2⟩ := new_box hh t hv.cells (List.all_eq_true.1 hl)
 unfold execOp
 rw [ho]
 exact ⟨.pointer (some ⟨w.heap.size, 0, none⟩), _, rfl, .ptr w.heap.size 0, _, .ptr _ _, k1, k2, hk _⟩
theorem opC_alloc {r : Option Nat} {o : Oper} {e : Nat → D} {t : TypeId} {ti : TI} {K : D → St → Prop} (ho : o.op = .alloc t) (ht : tinfo P t = some ti) (hz : ti.zero.all (fun v => noAgg v && (leafD v).leaf) = true) (hk : ∀ b, K (.ptr b 0) (.box b t (ti.zero.map leafD) :: st)) : OpC P r o e st K := by
 refine opC_val (by rw [ho]; intro c hc; cases hc) fun ρ w hr hh => .inl ?_
 obtain ⟨zv, hzl, hzr⟩ := run_zeroValue ht w
 have hz1 : ti.zero.all noAgg = true := List.all_eq_true.2 fun v hv => by
  have := List.all_eq_true.1 hz v hv
  simp only [Bool.and_eq_true] at this
  exact this.1
 have hz2 : ∀ d ∈ ti.zero.map leafD, d.leaf = true := fun d hd => by
  obtain ⟨v, hv, rfl⟩ := List.mem_map.1 hd
  have := List.all_eq_true.1 hz v hv
  simp only [Bool.and_eq_true] at this
  exact this.2
 obtain ⟨k1, k2⟩ := new_box hh t (us := zv.cells.toList) (by rw [hzl]; exact zero_rep hz1) hz2
 unfold execOp
 rw [ho]
 simp only [Instr.alloc, Sem.run_bind, hzr, Result.andThen_ok]
 exact ⟨.pointer (some ⟨w.heap.size, 0, none⟩), _, rfl, .ptr w.heap.size 0, _, .ptr _ _, k1, k2, hk _⟩
theorem opC_store {r : Option Nat} {o : Oper} {e : Nat → D} {t : TypeId} {ti : TI} {x y : Operand} {b off : Nat} {ty : TypeId} {cs : List D} {d : D} {st' : St} {K : D → St → Prop} (ho : o.op = .store t x y) (hx : ev e x = some (.ptr b off)) (hy : ev e y = some d) (ht : tinfo P t = some ti)
 (hsz : d.cells.length = ti.sz) (hl : d.cells.all D.leaf = true) (hat : ResAt (.box b ty cs) (.box b ty (splice cs off d.cells)) st st') (hoff : off + d.cells.length ≤ cs.length) (hk : K D.un st') : OpC P r o e st K := by
 refine opC_val (by rw [ho]; intro c hc; cases hc) fun ρ w hr hh => .inr ?_
 have hp := hr _ (by simp [ho, Op.operands, Call.operands]) _ hx
 have hv := hr _ (by simp [ho, Op.operands, Call.operands]) _ hy
 unfold execOp
 rw [ho]
 simp only
 generalize ρ x = p at hp
 cases hp
 obtain ⟨w', k1, k2, k3⟩ := run_store hh hat ht hv hsz hl hoff
 refine ⟨w', ?_, _, st', .s undef rfl, k2, k3, hk⟩
 simp only [Sem.run_bind, k1, Result.andThen_ok, Sem.run_pure]
theorem opC_loadBox {r : Option Nat} {o : Oper} {e : Nat → D} {t : TypeId} {ti : TI} {x : Operand} {b off : Nat} {ty : TypeId} {cs : List D} {d : D} {K : D → St → Prop} (ho : o.op = .load t x) (hx : ev e x = some (.ptr b off)) (ht : tinfo P t = some ti)
 (hm : Res.box b ty cs ∈ st) (hd : readD ti (cs.drop off) = some d) (hk : K d st) : OpC P r o e st K := by
 refine opC_val (by rw [ho]; intro c hc; cases hc) fun ρ w hr hh => .inl ?_
 have hp := hr _ (by simp [ho, Op.operands, Call.operands]) _ hx
 unfold execOp
 rw [ho]
 simp only
 generalize ρ x = p at hp
 cases hp
 obtain ⟨v, k1, k2⟩ := run_loadBox hh hm ht hd
 exact ⟨v, w, by simp only [Sem.run_bind, k1, Result.andThen_ok, Sem.run_pure], d, st, k2, hh, Ext.refl _ _, hk⟩
theorem opC_append {r : Option Nat} {o : Oper} {e : Nat → D} {t : TypeId} {ti : TI} {x y : Operand} {el : TypeId} {sz bytes : Nat} {z : List Value} {ow oy : Own} {es ys : List (List D)} {s1 : Own → St} {K : D → St → Prop} (ho : o.op = .call { callee := .builtin .append, args := #[x, y], argTypes := #[t, t] })
 (hx : ev e x = some (.sl ow es)) (hy : ev e y = some (.sl oy ys)) (ht : tinfo P t = some ti) (hk : ti.k = .slice el sz bytes z) (hne : ow ≠ .shared) (hat : ∀ o', ResAt (.room ow el sz es.length) (.room o' el sz (es ++ ys).length) st (s1 o'))
 (hes : ∀ a ∈ es, a.length = sz) (hys : ∀ a ∈ ys, a.length = sz) (hb : (es.length + ys.length) * bytes ≤ 140737488355328) (hm : es.length + ys.length ≤ 140737488355328) (hK : ∀ o', o' ≠ .shared → K (.sl o' (es ++ ys)) (s1 o')) : OpC P r o e st K := by
 refine opC_val (by rw [ho]; intro c hc; cases hc) fun ρ w hr hh => .inl ?_
 have h1 := hr _ (by simp [ho, Op.operands, Call.operands]) _ hx
 have h2 := hr _ (by simp [ho, Op.operands, Call.operands]) _ hy
 obtain ⟨s0, p1, -⟩ := (hat .shared).perm
 have hown := OwnS.perm p1
 rw [hown] at h1 h2
 obtain ⟨v', w', o', q1, q2, q3, q4, q5⟩ := run_append t o.type ht hk (hh.perm p1) h1 h2 hne hes hys hb hm
 obtain ⟨s0', p1', p2'⟩ := (hat o').perm
 have hs : s0.Perm s0' := (List.perm_cons _).1 (p1.symm.trans p1')
 have p3 : (Res.room o' el sz (es ++ ys).length :: s0).Perm (s1 o') := (hs.cons _).trans p2'.symm
 refine ⟨v', w', ?_, .sl o' (es ++ ys), s1 o', ?_, q4.perm p3, ?_, hK o' q1⟩
 · unfold execOp
   rw [ho]
   simp only [resolve, invoke, builtin, Sem.run_bind, Sem.run_pure, Result.andThen_ok, List.map_toArray, List.map_cons, List.map_nil, q2]
 · rw [← OwnS.perm p3]; exact q3
 · rw [hown, ← OwnS.perm p3]; exact q5
end
end Go.Proofs.YtgcienlfpnpbgaaGreat
end
section
namespace Go.Proofs.YtgcienlfpnpbgaaGreat
open Go
def freeKind (o : Oper) : Bool :=
 match o.op with
 | .move _ | .assign _ | .pick .. | .load .. | .binOp .. | .unOp .. | .convert .. | .makeInterface .. | .makeFunc .. | .slice .. | .fieldAddr .. | .field .. | .indexAddr .. | .index .. | .nilCheck _ => true
 | .call { callee := .builtin .len, .. } => true
 | .call { callee := .builtin .cap, .. } => true
 | .call { callee := .builtin .min, .. } => true
 | .call { callee := .builtin .max, .. } => true
 | _ => false
section
variable {P : Program} {ops : Array Oper} {md : Region.Mode} {C : World → Prop}
theorem run_f_value {α : Type} (s : Sem α) (f : α → Value) (w : World) : (∃ v w', (s.bind fun x => Sem.pure (Next.value (f x))).run P w = .ok (.value v) w') ∨ (∃ h w', (s.bind fun x => Sem.pure (Next.value (f x))).run P w = .halt h w') := by
 rw [show (s.bind fun x => Sem.pure (Next.value (f x))).run P w = ((s >>= fun x => pure (Next.value (f x))) : Sem Next).run P w from rfl, Sem.run_bind]
 cases s.run P w with
 | ok x w' => exact .inl ⟨f x, w', rfl⟩
 | halt h w' => exact .inr ⟨h, w', rfl⟩
theorem run_v_value (s : Sem Value) (w : World) : (∃ v w', (s.bind fun x => Sem.pure (Next.value x)).run P w = .ok (.value v) w') ∨ (∃ h w', (s.bind fun x => Sem.pure (Next.value x)).run P w = .halt h w') := run_f_value s id w
theorem free_value {o : Oper} (hf : freeKind o = true) (ρ : Operand → Value) (w : World) : (∃ v w', (execOp ρ o).run P w = .ok (.value v) w') ∨ (∃ h w', (execOp ρ o).run P w = .halt h w') := by
 obtain ⟨dst, op, type, pos, after, guard⟩ := o
 cases op <;> simp only [freeKind, Bool.false_eq_true] at hf
 case move x => exact .inl ⟨_, _, rfl⟩
 case assign x => exact .inl ⟨_, _, rfl⟩
 case pick c a b => exact run_f_value (asBool (ρ c)) (fun t => if t then ρ a else ρ b) w
 case nilCheck x =>
  have hrp : ∃ h w', ((runtimePanic .nilDeref : Sem Next)).run P w = .halt h w' := by simp [runtimePanic, goPanic, go_sem]
  simp only [execOp]
  split
  · exact .inr hrp
  · exact .inr hrp
  · exact .inr hrp
  · split
    · exact .inr hrp
    · simp only [Sem.run_bind]
      generalize Sem.run P program w = r
      cases r with
      | halt h w' => exact .inr ⟨h, w', rfl⟩
      | ok x w1 =>
       simp only [Result.andThen_ok]
       generalize Sem.run P (nilAhead _ _ _ _) w1 = r
       cases r with
       | halt h w' => exact .inr ⟨h, w', rfl⟩
       | ok y w2 =>
        simp only [Result.andThen_ok]
        split
        · refine .inr ⟨_, _, rfl⟩
        · exact .inl ⟨_, _, rfl⟩
    · exact .inl ⟨_, _, rfl⟩
  · exact .inl ⟨_, _, rfl⟩
 case call c =>
  obtain ⟨callee, args, ts⟩ := c
  cases callee with
  | value f => simp at hf
  | invoke r n => simp at hf
  | builtin b => cases b <;> first | (simp at hf; done) | exact run_v_value _ _
 all_goals exact run_v_value _ _
theorem quiet_value {o : Oper} (hf : freeKind o = true) {a : Act} {v : Value} {w : World} (h : o.quietAt P a C w v) : (execOp a.eval o).run P w = .ok (.value v) w := by
 unfold Oper.quietAt at h
 rcases free_value (P := P) hf a.eval w with ⟨u, w', hr⟩ | ⟨x, w', hr⟩
 · rw [hr] at h ⊢
   obtain ⟨rfl, rfl⟩ := h
   rfl
 · rw [hr] at h
   exact h.elim
def upV (P : Program) (K : Value → World → Prop) : Result Next → Prop
 | .ok (.value v) w' => K v w'
 | .ok .skip w' => K undef w'
 | .ok (.enter f args) w' => Calls P f args w' fun e w'' => ∃ v, e = .returned v ∧ K v w''
 | _ => False
theorem upV_mono {K K' : Value → World → Prop} (h : ∀ v w, K v w → K' v w) : ∀ {r : Result Next}, upV P K r → upV P K' r
 | .ok n w', hh => by
  cases n <;> simp only [upV] at hh ⊢
  case value v => exact h _ _ hh
  case skip => exact h _ _ hh
  case enter f args => exact hh.mono fun e w'' ⟨v, he, hk⟩ => ⟨v, he, h _ _ hk⟩
 | .halt x w', hh => by simp only [upV] at hh
theorem upV_some {K : Value → World → Prop} : ∀ {r : Result Next}, upV P K r → ∃ v w, K v w
 | .ok n w', hh => by
  cases n <;> simp only [upV] at hh
  case value v => exact ⟨_, _, hh⟩
  case skip => exact ⟨_, _, hh⟩
  case enter f args => obtain ⟨e, w'', fr, ⟨v, _, hk⟩, _⟩ := hh []; exact ⟨v, w'', hk⟩
 | .halt x w', hh => by simp only [upV] at hh
theorem wp_of_upV {o : Oper} {a : Act} {w : World} {K : Act → World → Prop} {Q : Exit → Act → World → Prop} (h : upV P (fun v w' => K (a.put o.dst v) w') ((execOp a.eval o).run P w)) : o.wp P a w K Q := by
 unfold Oper.wp
 generalize (execOp a.eval o).run P w = r at *
 cases r with
 | ok n w' =>
  cases n <;> simp only [upV] at h <;> simp only [Oper.upon]
  case value v => exact h
  case skip => exact h
  case enter f args => exact h.mono fun e w'' ⟨v, he, hk⟩ => by subst he; exact hk
 | halt x w' => simp only [upV] at h
def mOp (P : Program) (ops : Array Oper) (C : World → Prop) (o : Oper) (K : Act → World → Prop) (a : Act) (w : World) : Prop :=
 if Region.wanted o (yielded ops a.tmps) then
  if freeKind o then ∃ v, (∀ w, C w → (execOp a.eval o).run P w = .ok (.value v) w) ∧ K (a.put o.dst v) w
  else upV P (fun v w' => C w' ∧ K (a.put o.dst v) w') ((execOp a.eval o).run P w)
 else K (a.put o.dst undef) w
def wpMix (P : Program) (ops : Array Oper) (C : World → Prop) (Q : Act → World → Prop) : List Oper → Act → World → Prop
 | [], a, w => Q a w
 | o :: rest, a, w => mOp P ops C o (wpMix P ops C Q rest) a w
def wpAnyM (P : Program) (md : Region.Mode) (ops : Array Oper) (C : World → Prop) (Q : Act → World → Prop) : Nat → Array Bool → Act → World → Prop
 | 0, listed, a, w => Region.ready md ops listed = [] ∧ Q a w
 | fuel + 1, listed, a, w => (Region.ready md ops listed = [] → Q a w) ∧ ∀ i ∈ Region.ready md ops listed, ∀ o, ops[i]? = some o → mOp P ops C o (wpAnyM P md ops C Q fuel (listed.setIfInBounds i true)) a w
theorem mOp_put {o : Oper} {a : Act} {w : World} {K K' : Act → World → Prop} (hw : C w) (h : ∀ v w', C w' → K (a.put o.dst v) w' → K' (a.put o.dst v) w') (hh : mOp P ops C o K a w) : mOp P ops C o K' a w := by
 unfold mOp at *
 split
 · rename_i hwt
   rw [if_pos hwt] at hh
   split
   · rename_i hf
     rw [if_pos hf] at hh
     obtain ⟨v, h1, h2⟩ := hh
     exact ⟨v, h1, h _ _ hw h2⟩
   · rename_i hf
     rw [if_neg hf] at hh
     exact upV_mono (fun v w' hk => ⟨hk.1, h _ _ hk.1 hk.2⟩) hh
 · rename_i hwt
   rw [if_neg hwt] at hh
   exact h _ _ hw hh
theorem mOp_some {o : Oper} {a : Act} {w : World} {K : Act → World → Prop} (hw : C w) (hh : mOp P ops C o K a w) : ∃ v w', C w' ∧ K (a.put o.dst v) w' := by
 unfold mOp at hh
 split at hh
 · split at hh
   · obtain ⟨v, _, h2⟩ := hh; exact ⟨v, w, hw, h2⟩
   · obtain ⟨v, w', h1, h2⟩ := upV_some hh; exact ⟨v, w', h1, h2⟩
 · exact ⟨undef, w, hw, hh⟩
theorem wpOp_of_mOp {i : Nat} {o : Oper} (hi : ops[i]? = some o) {a : Act} {w : World} {K K' : Act → World → Prop} {Q : Exit → Act → World → Prop} (hw : C w) (h : ∀ a' w', C w' → K a' w' → K' a' w') (hh : mOp P ops C o K a w) : wpOp P ops Q i K' a w := by
 unfold mOp at hh
 unfold wpOp
 simp only [hi]
 split
 · rename_i hwt
   rw [if_pos hwt] at hh
   refine .inl ?_
   split at hh
   · obtain ⟨v, h1, h2⟩ := hh
     unfold Oper.wp
     rw [h1 w hw]
     exact h _ _ hw h2
   · exact wp_of_upV (upV_mono (fun v w' hk => h _ _ hk.1 hk.2) hh)
 · rename_i hwt
   rw [if_neg hwt] at hh
   exact h _ _ hw hh
theorem wpAny_of_M {Q : Act → World → Prop} {Q' : Exit → Act → World → Prop} (hQ : ∀ a w, C w → Q a w → Q' .normal a w) : ∀ (fuel : Nat) (listed : Array Bool) (a : Act) (w : World), C w →
 wpAnyM P md ops C Q fuel listed a w → wpAny P md ops Q' fuel listed a w
 | 0, _, _, _, hw, h => ⟨h.1, hQ _ _ hw h.2⟩
 | fuel + 1, listed, a, w, hw, h => ⟨fun h0 => hQ _ _ hw (h.1 h0), fun i hi => by
  obtain ⟨_, o, ho, _⟩ := mem_ready.1 hi
  exact wpOp_of_mOp ho hw (fun a' w' hw' => wpAny_of_M hQ fuel _ a' w' hw') (h.2 i hi o ho)⟩
theorem mOp_far {oi oj : Oper} (hsi : ∀ cs b, oi.op ≠ .select cs b) (hap : oi.apart ops oj = true) {a : Act} {w : World} {u : Value} {K : Act → World → Prop}
 (h : mOp P ops C oi (fun a' w' => K (a'.put oj.dst u) w') a w) : mOp P ops C oi K (a.put oj.dst u) w := by
 obtain ⟨h1, h2, h3⟩ := Oper.apart_spec hap
 unfold mOp at *
 rw [wanted_put oi a oj.dst u h3, execOp_put oi hsi a oj.dst u h3]
 have hc : ∀ v, (a.put oj.dst u).put oi.dst v = (a.put oi.dst v).put oj.dst u := fun v => (Act.put_comm a v u h2).symm
 simp only [hc]
 exact h
def maskOf (md : Region.Mode) (es : List Edge) (acc : List Nat) : Nat := es.foldl (fun s e => if Region.binds md e then (s ||| 2 ^ e.on) ||| acc.getD e.on 0 else s) 0
def masks (md : Region.Mode) : List Oper → List Nat → List Nat
 | [], acc => acc
 | o :: l, acc => masks md l (acc ++ [maskOf md o.after.toList acc])
theorem maskOf_bit {es : List Edge} {acc : List Nat} {i : Nat} (h : (maskOf md es acc).testBit i = true) : ∃ e ∈ es, Region.binds md e = true ∧ (e.on = i ∨ (acc.getD e.on 0).testBit i = true) := by
 unfold maskOf at h
 suffices H : ∀ (es : List Edge) (s : Nat), (es.foldl (fun s e => if Region.binds md e then (s ||| 2 ^ e.on) ||| acc.getD e.on 0 else s) s).testBit i = true → s.testBit i = true ∨ ∃ e ∈ es, Region.binds md e = true ∧ (e.on = i ∨ (acc.getD e.on 0).testBit i = true) by
  rcases H es 0 h with h | h
  · simp at h
  · exact h
 intro es
 induction es with
 | nil => intro s h; exact .inl h
 | cons e es ih =>
  intro s h
  rw [List.foldl_cons] at h
  rcases ih _ h with h1 | ⟨e', he', hb⟩
  · by_cases hbd : Region.binds md e = true
    · rw [if_pos hbd] at h1
      simp only [Nat.testBit_or, Bool.or_eq_true, Nat.testBit_two_pow, decide_eq_true_eq] at h1
      rcases h1 with (h1 | h1) | h1
      · exact .inl h1
      · exact .inr ⟨e, List.mem_cons_self .., hbd, .inl h1⟩
      · exact .inr ⟨e, List.mem_cons_self .., hbd, .inr h1⟩
    · rw [if_neg hbd] at h1; exact .inl h1
  · exact .inr ⟨e', List.mem_cons_of_mem _ he', hb⟩
def MOk (md : Region.Mode) (l : List Oper) (acc : List Nat) : Prop :=
 ∀ (k i : Nat), (acc.getD k 0).testBit i = true → ∃ o e, l[k]? = some o ∧ e ∈ o.after ∧ Region.binds md e = true ∧ (e.on = i ∨ (e.on < k ∧ (acc.getD e.on 0).testBit i = true))
theorem masks_ok (L : List Oper) : ∀ (l : List Oper) (acc : List Nat), (∀ j, l[j]? = L[acc.length + j]?) → MOk md L acc → MOk md L (masks md l acc)
 | [], acc, _, h => h
 | o :: l, acc, hl, h => by
  refine masks_ok L l _ (fun j => by have := hl (j + 1); simpa [Nat.add_assoc, Nat.add_comm 1 j] using this) ?_
  intro k i hk
  rcases Nat.lt_trichotomy k acc.length with hlt | heq | hgt
  · have e1 : (acc ++ [maskOf md o.after.toList acc]).getD k 0 = acc.getD k 0 := by simp [List.getD_eq_getElem?_getD, List.getElem?_append_left hlt]
    rw [e1] at hk
    obtain ⟨o', e, h1, h2, h3, h4⟩ := h k i hk
    refine ⟨o', e, h1, h2, h3, h4.imp id fun ⟨h5, h6⟩ => ⟨h5, ?_⟩⟩
    rw [show (acc ++ [maskOf md o.after.toList acc]).getD e.on 0 = acc.getD e.on 0 by simp [List.getD_eq_getElem?_getD, List.getElem?_append_left (Nat.lt_trans h5 hlt)]]
    exact h6
  · subst heq
    have e1 : (acc ++ [maskOf md o.after.toList acc]).getD acc.length 0 = maskOf md o.after.toList acc := by simp [List.getD_eq_getElem?_getD]
    rw [e1] at hk
    obtain ⟨e, h1, h2, h3⟩ := maskOf_bit hk
    refine ⟨o, e, by simpa using (hl 0).symm, Array.mem_toList_iff.1 h1, h2, h3.imp id fun h4 => ?_⟩
    have hlt : e.on < acc.length := by
     rcases Nat.lt_or_ge e.on acc.length with h5 | h5
     · exact h5
     · rw [List.getD_eq_getElem?_getD, List.getElem?_eq_none h5] at h4; simp at h4
    refine ⟨hlt, ?_⟩
    rw [show (acc ++ [maskOf md o.after.toList acc]).getD e.on 0 = acc.getD e.on 0 by simp [List.getD_eq_getElem?_getD, List.getElem?_append_left hlt]]
    exact h4
  · rw [List.getD_eq_getElem?_getD, List.getElem?_eq_none (by simp; omega)] at hk; simp at hk
def waitsT (ms : List Nat) (j i : Nat) : Bool := (ms.getD j 0).testBit i
def DC (md : Region.Mode) (ops : Array Oper) (listed : Array Bool) : Prop :=
 ∀ (k : Nat) (o : Oper), ops[k]? = some o → listed.getD k false = true → ∀ e ∈ o.after, Region.binds md e = true → listed.getD e.on false = true
theorem DC.unlisted {ms : List Nat} (hms : MOk md ops.toList ms) {listed : Array Bool} (h : DC md ops listed) {i : Nat} (hi : listed.getD i false = false) : ∀ (j : Nat), waitsT ms j i = true → listed.getD j false = false := by
 intro j
 induction j using Nat.strongRecOn with
 | _ j ih =>
  intro hj
  cases hl : listed.getD j false with
  | false => rfl
  | true =>
   exfalso
   obtain ⟨o, e, ho, he, hb, hor⟩ := hms j i hj
   have hd := h j o (by simpa using ho) hl e he hb
   rcases hor with hb2 | ⟨hlt, hb2⟩
   · rw [hb2, hi] at hd; cases hd
   · rw [ih _ hlt hb2] at hd; cases hd
theorem DC.ready {ms : List Nat} (hms : MOk md ops.toList ms) {listed : Array Bool} (h : DC md ops listed) {i j : Nat} (hi : listed.getD i false = false) (hj : j ∈ Region.ready md ops listed) : waitsT ms j i = false := by
 cases hw : waitsT ms j i with
 | false => rfl
 | true =>
  exfalso
  obtain ⟨_, o, ho, hall⟩ := mem_ready.1 hj
  obtain ⟨o', e, ho', he, hb, hor⟩ := hms j i hw
  have e1 : o' = o := by
   have : ops[j]? = some o' := by simpa using ho'
   rw [ho] at this; cases this; rfl
  subst e1
  have hd := hall e he hb
  rcases hor with hb2 | ⟨_, hb2⟩
  · rw [hb2, hi] at hd; cases hd
  · rw [h.unlisted hms hi _ hb2] at hd; cases hd
theorem DC.step {listed : Array Bool} (h : DC md ops listed) {j : Nat} (hj : j ∈ Region.ready md ops listed) : DC md ops (listed.setIfInBounds j true) := by
 intro k o ho hl e he hb
 refine getD_set_true ?_
 by_cases hkj : k = j
 · subst hkj
   obtain ⟨_, o', ho', hall⟩ := mem_ready.1 hj
   rw [ho] at ho'; cases ho'
   exact hall e he hb
 · rw [getD_set_ne false (Ne.symm hkj)] at hl
   exact h k o ho hl e he hb
theorem ready_unlisted {listed : Array Bool} {i : Nat} (h : i ∈ Region.ready md ops listed) : listed.getD i false = false := by
 have h0 := (mem_ready.1 h).1
 rcases Nat.lt_or_ge i listed.size with h' | h'
 · simp [h'] at h0 ⊢; exact h0
 · simp [Array.getElem?_eq_none h'] at h0
theorem wpAnyM_first {ms : List Nat} (hms : MOk md ops.toList ms) {Q : Act → World → Prop} {i : Nat} {oi : Oper} (hi : ops[i]? = some oi) (hsel : ∀ (j : Nat) (o : Oper) cs b, ops[j]? = some o → o.op ≠ .select cs b) :
 ∀ (fuel : Nat) (listed : Array Bool) (a : Act) (w : World), C w → DC md ops listed →
  (∀ j oj, ops[j]? = some oj → j ≠ i → listed.getD j true = false → waitsT ms j i = false → oi.apart ops oj = true ∧ (freeKind oi = true ∨ freeKind oj = true)) →
  i ∈ Region.ready md ops listed →
  mOp P ops C oi (wpAnyM P md ops C Q fuel (listed.setIfInBounds i true)) a w → wpAnyM P md ops C Q (fuel + 1) listed a w := by
 intro fuel
 induction fuel with
 | zero =>
  intro listed a w hw _ _ hr H
  refine ⟨fun h => (by rw [h] at hr; cases hr), fun j hj oj hoj => ?_⟩
  by_cases hji : j = i
  · subst hji
    rw [hi] at hoj; cases hoj
    exact H
  · obtain ⟨v, w', _, h1⟩ := mOp_some hw H
    have := ready_mono hj hji
    rw [h1.1] at this
    cases this
 | succ fuel ih =>
  intro listed a w hw hdc hfree hr H
  refine ⟨fun h => (by rw [h] at hr; cases hr), fun j hj oj hoj => ?_⟩
  by_cases hji : j = i
  · subst hji
    rw [hi] at hoj; cases hoj
    exact H
  · obtain ⟨hjun, oj', hoj', hall⟩ := mem_ready.1 hj
    rw [hoj] at hoj'; cases hoj'
    have hnot := hdc.ready hms (ready_unlisted hr) hj
    have hdc' := hdc.step hj
    obtain ⟨hap, hfk⟩ := hfree j oj hoj hji hjun hnot
    obtain ⟨d1, d2, d3⟩ := Oper.apart_spec hap
    have hsi := fun cs b => hsel i oi cs b hi
    have hsj := fun cs b => hsel j oj cs b hoj
    have hfree' : ∀ k ok, ops[k]? = some ok → k ≠ i → (listed.setIfInBounds j true).getD k true = false →
     waitsT ms k i = false → oi.apart ops ok = true ∧ (freeKind oi = true ∨ freeKind ok = true) := fun k ok hk hki hun hno => by
     refine hfree k ok hk hki ?_ hno
     by_cases hjk : j = k
     · subst hjk; exact hjun
     · rw [getD_set_ne true hjk] at hun; exact hun
    have hri := ready_mono hr (Ne.symm hji)
    have hcomm : (listed.setIfInBounds j true).setIfInBounds i true = (listed.setIfInBounds i true).setIfInBounds j true := Array.setIfInBounds_comm _ _ hji
    have hij : ∀ v w', wpAnyM P md ops C Q (fuel + 1) (listed.setIfInBounds i true) (a.put oi.dst v) w' →
     mOp P ops C oj (wpAnyM P md ops C Q fuel ((listed.setIfInBounds j true).setIfInBounds i true)) (a.put oi.dst v) w' := fun v w' h => by
     rw [hcomm]; exact h.2 j (ready_mono hj hji) oj hoj
    have hjw : ∀ v, Region.wanted oj (yielded ops (a.put oi.dst v).tmps) = Region.wanted oj (yielded ops a.tmps) := fun v => wanted_put oj a oi.dst v d1
    have hje : ∀ v, execOp (a.put oi.dst v).eval oj = execOp a.eval oj := fun v => execOp_put oj hsj a oi.dst v d1
    have hput : ∀ v u, (a.put oi.dst v).put oj.dst u = (a.put oj.dst u).put oi.dst v := fun v u => Act.put_comm a v u d2
    by_cases hwj : Region.wanted oj (yielded ops a.tmps) = true
    · by_cases hfj : freeKind oj = true
      · -- j is free: its value is the same whatever i leaves
        obtain ⟨v1, w1, hc1, k1⟩ := mOp_some hw H
        have k2 := hij v1 w1 k1
        unfold mOp at k2
        rw [hjw v1, if_pos hwj, if_pos hfj, hje v1] at k2
        obtain ⟨u, hu, _⟩ := k2
        have hstep : mOp P ops C oi (wpAnyM P md ops C Q fuel ((listed.setIfInBounds j true).setIfInBounds i true)) (a.put oj.dst u) w := by
         refine mOp_far hsi hap (mOp_put hw (fun v w' hc h => ?_) H)
         have k3 := hij v w' h
         unfold mOp at k3
         rw [hjw v, if_pos hwj, if_pos hfj, hje v] at k3
         obtain ⟨u', hu', k4⟩ := k3
         have e := hu w' hc
         rw [hu' w' hc] at e
         injection e with e1 e2
         injection e1 with e1
         rw [e1] at k4
         exact k4
        unfold mOp
        rw [if_pos hwj, if_pos hfj]
        exact ⟨u, hu, ih _ _ _ hw hdc' hfree' hri hstep⟩
      · -- j comes in the chain: i is free
        have hfi : freeKind oi = true := hfk.resolve_right hfj
        have key : ∀ v, wpAnyM P md ops C Q (fuel + 1) (listed.setIfInBounds i true) (a.put oi.dst v) w → (∀ u w', C w' → wpAnyM P md ops C Q fuel ((listed.setIfInBounds j true).setIfInBounds i true) ((a.put oj.dst u).put oi.dst v) w' → mOp P ops C oi (wpAnyM P md ops C Q fuel ((listed.setIfInBounds j true).setIfInBounds i true)) (a.put oj.dst u) w') →
         mOp P ops C oj (wpAnyM P md ops C Q (fuel + 1) (listed.setIfInBounds j true)) a w := fun v h hback => by
         have k3 := hij v w h
         unfold mOp at k3 ⊢
         rw [hjw v, if_pos hwj, if_neg hfj, hje v] at k3
         rw [if_pos hwj, if_neg hfj]
         refine upV_mono (fun u w' hk => ⟨hk.1, ?_⟩) k3
         rw [hput v u] at hk
         exact ih _ _ _ hk.1 hdc' hfree' hri (hback u w' hk.1 hk.2)
        have hiw : ∀ u, Region.wanted oi (yielded ops (a.put oj.dst u).tmps) = Region.wanted oi (yielded ops a.tmps) := fun u => wanted_put oi a oj.dst u d3
        have hie : ∀ u, execOp (a.put oj.dst u).eval oi = execOp a.eval oi := fun u => execOp_put oi hsi a oj.dst u d3
        unfold mOp at H
        by_cases hwi : Region.wanted oi (yielded ops a.tmps) = true
        · rw [if_pos hwi, if_pos hfi] at H
          obtain ⟨v, hv, h⟩ := H
          refine key v h fun u w' hc hk => ?_
          unfold mOp
          rw [hiw u, if_pos hwi, if_pos hfi, hie u]
          exact ⟨v, hv, hk⟩
        · rw [if_neg hwi] at H
          refine key undef H fun u w' hc hk => ?_
          unfold mOp
          rw [hiw u, if_neg hwi]
          exact hk
    · -- j is passed over
      have hstep : mOp P ops C oi (wpAnyM P md ops C Q fuel ((listed.setIfInBounds j true).setIfInBounds i true)) (a.put oj.dst undef) w := by
       refine mOp_far hsi hap (mOp_put hw (fun v w' hc h => ?_) H)
       have k3 := hij v w' h
       unfold mOp at k3
       rw [hjw v, if_neg hwj] at k3
       exact k3
      unfold mOp
      rw [if_neg hwj]
      exact ih _ _ _ hw hdc' hfree' hri hstep
def mixFree (ms : List Nat) (ops : Array Oper) (listed : Array Bool) (i : Nat) : Bool :=
 match ops[i]? with
 | none => false
 | some oi => (List.range ops.size).all fun j => j == i || listed.getD j true || match ops[j]? with
  | some oj => waitsT ms j i || (oi.apart ops oj && (freeKind oi || freeKind oj))
  | none => true
theorem mixFree_spec {ms : List Nat} {i : Nat} {oi : Oper} {listed : Array Bool} (hi : ops[i]? = some oi) (h : mixFree ms ops listed i = true) (j : Nat) (oj : Oper)
 (hj : ops[j]? = some oj) (hne : j ≠ i) (hun : listed.getD j true = false) (hno : waitsT ms j i = false) :
 oi.apart ops oj = true ∧ (freeKind oi = true ∨ freeKind oj = true) := by
 simp only [mixFree, hi, List.all_eq_true, List.mem_range] at h
 have h1 := h j (Array.getElem?_eq_some_iff.1 hj).1
 simpa [hj, hne, hun, hno] using h1
def mixFrom (md : Region.Mode) (ms : List Nat) (ops : Array Oper) : Nat → Nat → Array Bool → Bool
 | 0, _, listed => (Region.ready md ops listed).isEmpty
 | fuel + 1, k, listed => (Region.ready md ops listed).contains k && mixFree ms ops listed k && mixFrom md ms ops fuel (k + 1) (listed.setIfInBounds k true)
def mixB (md : Region.Mode) (ops : Array Oper) : Bool := Region.noSelect ops && mixFrom md (masks md ops.toList []) ops ops.size 0 (Array.replicate ops.size false)
theorem wpAnyM_lex {ms : List Nat} (hms : MOk md ops.toList ms) {Q : Act → World → Prop} (hs : Region.noSelect ops = true) : ∀ (l : List Oper) (k : Nat) (listed : Array Bool) (a : Act) (w : World), C w → DC md ops listed → (∀ j, l[j]? = ops[k + j]?) →
 mixFrom md ms ops l.length k listed = true → wpMix P ops C Q l a w → wpAnyM P md ops C Q l.length listed a w
 | [], _, _, _, _, _, _, _, hB, h => ⟨by simpa [mixFrom] using hB, h⟩
 | o :: l, k, listed, a, w, hw, hdc, hl, hB, h => by
  have h0 : ops[k]? = some o := by simpa using (hl 0).symm
  simp only [List.length_cons, mixFrom, Bool.and_eq_true] at hB
  obtain ⟨⟨hr, hf⟩, hB'⟩ := hB
  exact wpAnyM_first hms h0 (Region.noSelect_spec hs) l.length listed a w hw hdc (mixFree_spec h0 hf) (by simpa using hr)
   (mOp_put hw (fun v w' hc hk => wpAnyM_lex hms hs l (k + 1) _ _ _ hc (hdc.step (by simpa using hr)) (fun j => by have := hl (j + 1); simpa [Nat.add_assoc, Nat.add_comm 1 j] using this) hB' hk) h)
theorem getD_rep (m k : Nat) : (Array.replicate m false).getD k false = false := by
 unfold Array.getD
 split
 · simp
 · rfl
theorem wp_region_mix {id : Nat} {Q : Exit → Act → World → Prop} {a : Act} {w : World} {l : List Oper} (C : World → Prop) (hm : P.follows .mixedOrders = true) (hB : mixB .any l.toArray = true) (hC : C w.drew)
 (h : wpMix P l.toArray C (fun a' w' => C w' → Q .normal a' w') l a w.drew) : (Code.region id l.toArray true).wp P Q a w := by
 simp only [mixB, Bool.and_eq_true] at hB
 refine wp_region_any hm (wpAny_of_M (Q := fun a' w' => C w' → Q .normal a' w') (fun a' w' hw' h => h hw') _ _ _ _ hC ?_)
 have := wpAnyM_lex (C := C) (P := P) (md := .any) (masks_ok l l [] (by simp) (fun k i h => by simp at h)) hB.1 l 0 (Array.replicate l.toArray.size false) a w.drew hC (fun k o _ hl => absurd hl (by rw [getD_rep]; exact Bool.false_ne_true)) (by simp) (by simpa using hB.2) h
 simpa using this
variable {Q : Act → World → Prop} {a : Act} {w : World} {o : Oper} {rest : List Oper}
theorem mix_nil (h : Q a w) : wpMix P ops C Q [] a w := h
theorem mix_free (hf : freeKind o = true) (hw : Region.wanted o (yielded ops a.tmps) = true) (h : ∀ K : Act → Prop, (∀ a', wpMix P ops C Q rest a' w → K a') → o.quiet P a C K) : wpMix P ops C Q (o :: rest) a w := by
 show mOp P ops C o _ a w
 unfold mOp
 rw [if_pos hw, if_pos hf]
 obtain ⟨v, h1, h2⟩ := h (fun a' => wpMix P ops C Q rest a' w) (fun _ h => h)
 exact ⟨v, fun w' hc => quiet_value hf (h1 w' hc), h2⟩
theorem mix_chain (hf : freeKind o = false) (hw : Region.wanted o (yielded ops a.tmps) = true) (h : ∀ K : Value → World → Prop, (∀ v w', C w' → wpMix P ops C Q rest (a.put o.dst v) w' → K v w') → upV P K ((execOp a.eval o).run P w)) : wpMix P ops C Q (o :: rest) a w := by
 show mOp P ops C o _ a w
 unfold mOp
 rw [if_pos hw, if_neg (by rw [hf]; exact Bool.false_ne_true)]
 exact h _ fun v w' hc hk => ⟨hc, hk⟩
theorem upV_call {K : Value → World → Prop} {f : FuncId} {args : Array Value} (h : Calls P f args w fun e w' => ∃ v, e = .returned v ∧ K v w') : upV P K (.ok (.enter f args) w) := h
end
end Go.Proofs.YtgcienlfpnpbgaaGreat
end
section
namespace Go.Proofs.YtgcienlfpnpbgaaGreat
open Go.RowKit
def freeA (o : Oper) : Bool :=
 match o.op with
 | .move _ | .assign _ | .pick .. | .nilCheck _ | .binOp .. | .unOp .. | .convert .. | .makeFunc .. | .extract .. | .field .. | .fieldAddr .. | .indexAddr .. | .index .. | .load .. | .slice .. | .build .. | .buildSlice .. | .box .. => true
 | .call { callee := .builtin .len, .. } => true
 | .call { callee := .builtin .cap, .. } => true
 | .call { callee := .builtin .min, .. } => true
 | .call { callee := .builtin .max, .. } => true
 | _ => false
abbrev Ro := List (Nat × List D)
def frC (P : Program) (ro : Ro) (o : Oper) (e : Nat → D) : Option D :=
 match o.op with
 | .load t x => match ev e x, tinfo P t with
  | some (.ip cs), some ti => readD ti cs
  | some (.ptr b off), some ti => match ro.lookup b with
   | some cs => readD ti (cs.drop off)
   | none => none
  | _, _ => none
 | _ => aOp P o e
def Keeps (ro : Ro) (st : St) : Prop := ∀ b cs, ro.lookup b = some cs → ∃ ty, Res.box b ty cs ∈ st
section
variable {P : Program} {r : Option Nat} {ro : Ro} {ops : Array Oper} {md : Region.Mode} {st : St}
theorem frC_sound {o : Oper} {e : Nat → D} {d : D} (hc : Keeps ro st) (h : frC P ro o e = some d) : OpY P o e st d := by
 unfold frC at h
 split at h
 · rename_i t x hop
   split at h
   · rename_i cs ti hx ht
     refine aOp_sound ?_
     unfold aOp
     rw [hop]
     simp only [hx, ht]
     exact h
   · rename_i b off ti hx ht
     split at h
     · rename_i cs hl
       obtain ⟨ty, hm⟩ := hc b cs hl
       intro ρ w hr hh
       have hp := hr x (by simp [hop, Op.operands]) _ hx
       unfold execOp
       rw [hop]
       simp only
       generalize ρ x = p at hp
       cases hp
       obtain ⟨v, k1, k2⟩ := run_loadBox hh hm ht h
       exact ⟨v, w, by simp only [Sem.run_bind, k1, Result.andThen_ok, Sem.run_pure], k2, hh, Ext.refl _ _⟩
     · cases h
   · cases h
 · exact aOp_sound h
theorem evL_congr {e e' : Nat → D} : ∀ {l : List Operand}, (∀ x ∈ l, ev e x = ev e' x) → evL e l = evL e' l
 | [], _ => rfl
 | x :: l, h => by unfold evL; rw [h x (List.mem_cons_self ..), evL_congr fun y hy => h y (List.mem_cons_of_mem _ hy)]
theorem evP_congr {e e' : Nat → D} : ∀ {l : List (Nat × Operand)}, (∀ x ∈ l, ev e x.2 = ev e' x.2) → evP e l = evP e' l
 | [], _ => rfl
 | (i, x) :: l, h => by unfold evP; rw [h (i, x) (List.mem_cons_self ..), evP_congr fun y hy => h y (List.mem_cons_of_mem _ hy)]
theorem aOp_congr {o : Oper} {e e' : Nat → D} (h : ∀ x ∈ o.op.operands, ev e x = ev e' x) : aOp P o e = aOp P o e' := by
 unfold aOp
 cases hop : o.op <;> rw [hop] at h <;> simp only [Op.operands] at h ⊢
 case slice t x lo hi mx =>
  have ho : ∀ y : Option Operand, (∀ z, y = some z → ev e z = ev e' z) → optInt e y = optInt e' y := fun y hy => by
   cases y with
   | none => rfl
   | some z => simp only [optInt, hy z rfl]
  rw [h x (by simp), ho lo fun z hz => h z (by subst hz; simp), ho hi fun z hz => h z (by subst hz; simp), ho mx fun z hz => h z (by subst hz; simp)]
 case build t ps => rw [evP_congr fun x hx => h x.2 (by simp only [List.mem_toArray, List.mem_map]; exact ⟨x, hx, rfl⟩)]
 case buildSlice t n ps => rw [evP_congr fun x hx => h x.2 (by simp only [List.mem_toArray, List.mem_map]; exact ⟨x, hx, rfl⟩)]
 case makeFunc fn first caps => rw [evL_congr fun x hx => h x (by simp; exact .inl (by simpa using hx)), evL_congr fun x hx => h x (by simp; exact .inr (by simpa using hx))]
 case call c => rw [evL_congr fun x hx => h x (by simp only [Call.operands, Array.mem_append]; exact .inr (by simpa using hx))]
 case pick c x y => rw [h c (by simp), h x (by simp), h y (by simp)]
 case binOp op t x y t' => rw [h x (by simp), h y (by simp)]
 case indexAddr t x i => rw [h x (by simp), h i (by simp)]
 case index t x i => rw [h x (by simp), h i (by simp)]
 all_goals first | rfl | rw [h _ (by simp)]
theorem frC_congr {o : Oper} {e e' : Nat → D} (h : ∀ x ∈ o.op.operands, ev e x = ev e' x) : frC P ro o e = frC P ro o e' := by
 unfold frC
 split
 · rename_i t x hop
   rw [h x (by simp [hop, Op.operands])]
 · exact aOp_congr h
theorem opC_congr {o : Oper} {e e' : Nat → D} {K : D → St → Prop} (h : ∀ x ∈ o.op.operands, ev e x = ev e' x) (hh : OpC P r o e st K) : OpC P r o e' st K :=
 fun ρ w hr hw => hh ρ w ⟨fun x hx d hd => hr x hx d ((h x hx) ▸ hd), hr.cst⟩ hw
theorem ev_upd {e : Nat → D} {dst : Option Tmp} {u : D} {x : Operand} (h : ∀ d, dst = some d → x ≠ .tmp d) : ev (upd e dst u) x = ev e x := by
 cases dst with
 | none => rfl
 | some d =>
  cases x with
  | tmp t =>
   have hne : t ≠ d := fun e => h d rfl (e ▸ rfl)
   simp [ev, upd, hne]
  | _ => rfl
theorem ev_far {o : Oper} {e : Nat → D} {dst : Option Tmp} {u : D} (h : ∀ d, dst = some d → d ∉ o.looksAt ops) : ∀ x ∈ o.op.operands, ev (upd e dst u) x = ev e x := fun x hx => ev_upd fun d hd hxd => h d hd (by
 subst hxd
 exact List.mem_append_left _ (List.mem_filterMap.2 ⟨.tmp d, by simpa using hx, rfl⟩))
theorem wantedA_far {o : Oper} {e : Nat → D} {dst : Option Tmp} {u : D} (h : ∀ d, dst = some d → d ∉ o.looksAt ops) : wantedA ops o (upd e dst u) = wantedA ops o e := by
 cases dst with
 | none => rfl
 | some d =>
  unfold wantedA
  cases hg : o.guard with
  | none => rfl
  | some q =>
   obtain ⟨j, want⟩ := q
   dsimp only
   cases ht : (ops[j]?).bind (·.dst) with
   | none => rfl
   | some t =>
    have hne : t ≠ d := fun e => h d rfl (by
     subst e
     refine List.mem_append_right _ ?_
     rw [hg]
     simp [ht])
    simp [upd, hne]
theorem upd_comm (e : Nat → D) {x y : Option Tmp} (v u : D) (h : ∀ d, x = some d → y ≠ some d) : upd (upd e x v) y u = upd (upd e y u) x v := by
 cases x with
 | none => rfl
 | some d =>
  cases y with
  | none => rfl
  | some t =>
   have hne : d ≠ t := fun he => h d rfl (he ▸ rfl)
   funext i
   simp only [upd]
   by_cases h1 : i = t
   · rw [if_pos h1, if_neg (fun e => hne (e.symm.trans h1)), if_pos h1]
   · rw [if_neg h1]
     by_cases h2 : i = d
     · rw [if_pos h2, if_pos h2]
     · rw [if_neg h2, if_neg h2, if_neg h1]
theorem put_comm (A : AA) {x y : Option Tmp} (v u : D) (h : ∀ d, x = some d → y ≠ some d) : (A.put x v).put y u = (A.put y u).put x v := by
 unfold AA.put; dsimp only; rw [upd_comm A.e v u h]
def lastAll (ops : Array Oper) : Bool := (List.range (ops.size - 1)).all fun i => waitsT (masks .any ops.toList []) (ops.size - 1) i
def KP (ro : Ro) (f : Bool) (st : St) : Prop := f = true ∨ Keeps ro st
def mOpA (P : Program) (r : Option Nat) (ro : Ro) (f : Bool) (ops : Array Oper) (o : Oper) (K : AA → St → Prop) (A : AA) (st : St) : Prop :=
 if wantedA ops o A.e then
  if freeA o then ∃ d, frC P ro o A.e = some d ∧ K (A.put o.dst d) st
  else OpC P r o A.e st (fun d st' => KP ro f st' ∧ K (A.put o.dst d) st') ∧ ∃ d st', KP ro f st' ∧ K (A.put o.dst d) st'
 else K (A.put o.dst D.un) st
def wpMixA (P : Program) (r : Option Nat) (ro : Ro) (ops : Array Oper) (Q : AA → St → Prop) : List Oper → AA → St → Prop
 | [], A, st => Q A st
 | o :: rest, A, st => mOpA P r ro (rest.isEmpty && lastAll ops) ops o (wpMixA P r ro ops Q rest) A st
def wpAnyA (P : Program) (r : Option Nat) (ro : Ro) (md : Region.Mode) (ops : Array Oper) (Q : AA → St → Prop) : Nat → Array Bool → AA → St → Prop
 | 0, listed, A, st => Region.ready md ops listed = [] ∧ Q A st
 | fuel + 1, listed, A, st => (Region.ready md ops listed = [] → Q A st) ∧ ∀ i ∈ Region.ready md ops listed, ∀ o, ops[i]? = some o → mOpA P r ro (decide (i + 1 = ops.size) && lastAll ops) ops o (wpAnyA P r ro md ops Q fuel (listed.setIfInBounds i true)) A st
theorem mOpA_put {f : Bool} {o : Oper} {A : AA} {K K' : AA → St → Prop} (hw : Keeps ro st) (h : ∀ d st', KP ro f st' → K (A.put o.dst d) st' → K' (A.put o.dst d) st') (hh : mOpA P r ro f ops o K A st) : mOpA P r ro f ops o K' A st := by
 unfold mOpA at *
 split
 · rename_i hwt
   rw [if_pos hwt] at hh
   split
   · rename_i hf
     rw [if_pos hf] at hh
     obtain ⟨d, h1, h2⟩ := hh
     exact ⟨d, h1, h _ _ (.inr hw) h2⟩
   · rename_i hf
     rw [if_neg hf] at hh
     obtain ⟨h1, d, st', h2, h3⟩ := hh
     exact ⟨h1.mono fun d st' hk => ⟨hk.1, h _ _ hk.1 hk.2⟩, d, st', h2, h _ _ h2 h3⟩
 · rename_i hwt
   rw [if_neg hwt] at hh
   exact h _ _ (.inr hw) hh
theorem mOpA_some {f : Bool} {o : Oper} {A : AA} {K : AA → St → Prop} (hw : Keeps ro st) (hh : mOpA P r ro f ops o K A st) : ∃ d st', KP ro f st' ∧ K (A.put o.dst d) st' := by
 unfold mOpA at hh
 split at hh
 · split at hh
   · obtain ⟨d, _, h2⟩ := hh; exact ⟨d, st, .inr hw, h2⟩
   · exact hh.2
 · exact ⟨D.un, st, .inr hw, hh⟩
theorem mOpA_far {f : Bool} {oi oj : Oper} (hap : oi.apart ops oj = true) {A : AA} {u : D} {K : AA → St → Prop} (h : mOpA P r ro f ops oi (fun A' st' => K (A'.put oj.dst u) st') A st) : mOpA P r ro f ops oi K (A.put oj.dst u) st := by
 obtain ⟨h1, h2, h3⟩ := Oper.apart_spec hap
 have hc : ∀ v, (A.put oj.dst u).put oi.dst v = (A.put oi.dst v).put oj.dst u := fun v => (put_comm A v u h2).symm
 unfold mOpA at *
 show if wantedA ops oi (upd A.e oj.dst u) then _ else _
 rw [wantedA_far h3]
 simp only [hc]
 split
 · rename_i hw
   rw [if_pos hw] at h
   split
   · rename_i hf
     rw [if_pos hf] at h
     obtain ⟨d, k1, k2⟩ := h
     exact ⟨d, (frC_congr (ev_far h3)).trans k1, k2⟩
   · rename_i hf
     rw [if_neg hf] at h
     exact ⟨opC_congr (fun x hx => (ev_far h3 x hx).symm) h.1, h.2⟩
 · rename_i hw
   rw [if_neg hw] at h
   exact h
def LastW (ms : List Nat) (ops : Array Oper) : Prop := lastAll ops = true → ∀ j i, j + 1 = ops.size → i < ops.size → i ≠ j → waitsT ms j i = true
theorem wpAnyA_first {ms : List Nat} (hms : MOk md ops.toList ms) (hL : LastW ms ops) {Q : AA → St → Prop} {i : Nat} {oi : Oper} (hi : ops[i]? = some oi) :
 ∀ (fuel : Nat) (listed : Array Bool) (A : AA) (st : St), Keeps ro st → DC md ops listed →
  (∀ j oj, ops[j]? = some oj → j ≠ i → listed.getD j true = false → waitsT ms j i = false → oi.apart ops oj = true ∧ (freeA oi = true ∨ freeA oj = true)) →
  i ∈ Region.ready md ops listed →
  mOpA P r ro (decide (i + 1 = ops.size) && lastAll ops) ops oi (wpAnyA P r ro md ops Q fuel (listed.setIfInBounds i true)) A st → wpAnyA P r ro md ops Q (fuel + 1) listed A st := by
 intro fuel
 induction fuel with
 | zero =>
  intro listed A st hw _ _ hr H
  refine ⟨fun h => (by rw [h] at hr; cases hr), fun j hj oj hoj => ?_⟩
  by_cases hji : j = i
  · subst hji
    rw [hi] at hoj; cases hoj
    exact H
  · obtain ⟨v, w', _, h1⟩ := mOpA_some hw H
    have := ready_mono hj hji
    rw [h1.1] at this
    cases this
 | succ fuel ih =>
  intro listed A st hw hdc hfree hr H
  refine ⟨fun h => (by rw [h] at hr; cases hr), fun j hj oj hoj => ?_⟩
  by_cases hji : j = i
  · subst hji
    rw [hi] at hoj; cases hoj
    exact H
  · obtain ⟨hjun, oj', hoj', hall⟩ := mem_ready.1 hj
    rw [hoj] at hoj'; cases hoj'
    have hnot := hdc.ready hms (ready_unlisted hr) hj
    have hfj0 : (decide (j + 1 = ops.size) && lastAll ops) = false := by
     by_cases hc : (decide (j + 1 = ops.size) && lastAll ops) = true
     · rw [Bool.and_eq_true, decide_eq_true_eq] at hc
       have := hL hc.2 j i hc.1 (Array.getElem?_eq_some_iff.1 hi).1 (Ne.symm hji)
       rw [hnot] at this; cases this
     · simpa using hc
    have hdc' := hdc.step hj
    obtain ⟨hap, hfk⟩ := hfree j oj hoj hji hjun hnot
    obtain ⟨d1, d2, d3⟩ := Oper.apart_spec hap
    have hfree' : ∀ k ok, ops[k]? = some ok → k ≠ i → (listed.setIfInBounds j true).getD k true = false →
     waitsT ms k i = false → oi.apart ops ok = true ∧ (freeA oi = true ∨ freeA ok = true) := fun k ok hk hki hun hno => by
     refine hfree k ok hk hki ?_ hno
     by_cases hjk : j = k
     · subst hjk; exact hjun
     · rw [getD_set_ne true hjk] at hun; exact hun
    have hri := ready_mono hr (Ne.symm hji)
    have hcomm : (listed.setIfInBounds j true).setIfInBounds i true = (listed.setIfInBounds i true).setIfInBounds j true := Array.setIfInBounds_comm _ _ hji
    have hij : ∀ v st', wpAnyA P r ro md ops Q (fuel + 1) (listed.setIfInBounds i true) (A.put oi.dst v) st' →
     mOpA P r ro (decide (j + 1 = ops.size) && lastAll ops) ops oj (wpAnyA P r ro md ops Q fuel ((listed.setIfInBounds j true).setIfInBounds i true)) (A.put oi.dst v) st' := fun v st' h => by
     rw [hcomm]; exact h.2 j (ready_mono hj hji) oj hoj
    have hjw : ∀ v, wantedA ops oj (A.put oi.dst v).e = wantedA ops oj A.e := fun v => wantedA_far d1
    have hje : ∀ v, frC P ro oj (A.put oi.dst v).e = frC P ro oj A.e := fun v => frC_congr (ev_far d1)
    have hput : ∀ v u, (A.put oi.dst v).put oj.dst u = (A.put oj.dst u).put oi.dst v := fun v u => put_comm A v u d2
    by_cases hwj : wantedA ops oj A.e = true
    · by_cases hfj : freeA oj = true
      · obtain ⟨v1, w1, hc1, k1⟩ := mOpA_some hw H
        have k2 := hij v1 w1 k1
        unfold mOpA at k2
        rw [hjw v1, if_pos hwj, if_pos hfj, hje v1] at k2
        obtain ⟨u, hu, _⟩ := k2
        have hstep : mOpA P r ro (decide (i + 1 = ops.size) && lastAll ops) ops oi (wpAnyA P r ro md ops Q fuel ((listed.setIfInBounds j true).setIfInBounds i true)) (A.put oj.dst u) st := by
         refine mOpA_far hap (mOpA_put hw (fun v w' hc h => ?_) H)
         have k3 := hij v w' h
         unfold mOpA at k3
         rw [hjw v, if_pos hwj, if_pos hfj, hje v] at k3
         obtain ⟨u', hu', k4⟩ := k3
         rw [hu] at hu'
         cases hu'
         exact k4
        unfold mOpA
        rw [if_pos hwj, if_pos hfj]
        exact ⟨u, hu, ih _ _ _ hw hdc' hfree' hri hstep⟩
      · have hfi : freeA oi = true := hfk.resolve_right hfj
        have key : ∀ v, wpAnyA P r ro md ops Q (fuel + 1) (listed.setIfInBounds i true) (A.put oi.dst v) st → (∀ u st', Keeps ro st' → wpAnyA P r ro md ops Q fuel ((listed.setIfInBounds j true).setIfInBounds i true) ((A.put oj.dst u).put oi.dst v) st' → mOpA P r ro (decide (i + 1 = ops.size) && lastAll ops) ops oi (wpAnyA P r ro md ops Q fuel ((listed.setIfInBounds j true).setIfInBounds i true)) (A.put oj.dst u) st') →
         mOpA P r ro (decide (j + 1 = ops.size) && lastAll ops) ops oj (wpAnyA P r ro md ops Q (fuel + 1) (listed.setIfInBounds j true)) A st := fun v h hback => by
         have k3 := hij v st h
         unfold mOpA at k3 ⊢
         rw [hjw v, if_pos hwj, if_neg hfj] at k3
         rw [if_pos hwj, if_neg hfj]
         obtain ⟨k4, u, st', k5, k6⟩ := k3
         refine ⟨(opC_congr (ev_far d1) k4).mono fun u st' hk => ⟨hk.1, ?_⟩, u, st', k5, ?_⟩
         · have hk2 := hk.2
           rw [hput v u] at hk2
           have hk1 := hk.1.resolve_left (by rw [hfj0]; exact Bool.false_ne_true)
           exact ih _ _ _ hk1 hdc' hfree' hri (hback u st' hk1 hk2)
         · rw [hput v u] at k6
           have hk1 := k5.resolve_left (by rw [hfj0]; exact Bool.false_ne_true)
           exact ih _ _ _ hk1 hdc' hfree' hri (hback u st' hk1 k6)
        have hiw : ∀ u, wantedA ops oi (A.put oj.dst u).e = wantedA ops oi A.e := fun u => wantedA_far d3
        have hie : ∀ u, frC P ro oi (A.put oj.dst u).e = frC P ro oi A.e := fun u => frC_congr (ev_far d3)
        unfold mOpA at H
        by_cases hwi : wantedA ops oi A.e = true
        · rw [if_pos hwi, if_pos hfi] at H
          obtain ⟨v, hv, h⟩ := H
          refine key v h fun u w' hc hk => ?_
          unfold mOpA
          rw [hiw u, if_pos hwi, if_pos hfi, hie u]
          exact ⟨v, hv, hk⟩
        · rw [if_neg hwi] at H
          refine key D.un H fun u w' hc hk => ?_
          unfold mOpA
          rw [hiw u, if_neg hwi]
          exact hk
    · have hstep : mOpA P r ro (decide (i + 1 = ops.size) && lastAll ops) ops oi (wpAnyA P r ro md ops Q fuel ((listed.setIfInBounds j true).setIfInBounds i true)) (A.put oj.dst D.un) st := by
       refine mOpA_far hap (mOpA_put hw (fun v w' hc h => ?_) H)
       have k3 := hij v w' h
       unfold mOpA at k3
       rw [hjw v, if_neg hwj] at k3
       exact k3
      unfold mOpA
      rw [if_neg hwj]
      exact ih _ _ _ hw hdc' hfree' hri hstep
def mixFreeA (ms : List Nat) (ops : Array Oper) (listed : Array Bool) (i : Nat) : Bool :=
 match ops[i]? with
 | none => false
 | some oi => (List.range ops.size).all fun j => j == i || listed.getD j true || match ops[j]? with
  | some oj => waitsT ms j i || (oi.apart ops oj && (freeA oi || freeA oj))
  | none => true
theorem mixFreeA_spec {ms : List Nat} {i : Nat} {oi : Oper} {listed : Array Bool} (hi : ops[i]? = some oi) (h : mixFreeA ms ops listed i = true) (j : Nat) (oj : Oper)
 (hj : ops[j]? = some oj) (hne : j ≠ i) (hun : listed.getD j true = false) (hno : waitsT ms j i = false) :
 oi.apart ops oj = true ∧ (freeA oi = true ∨ freeA oj = true) := by
 simp only [mixFreeA, hi, List.all_eq_true, List.mem_range] at h
 have h1 := h j (Array.getElem?_eq_some_iff.1 hj).1
 simpa [hj, hne, hun, hno] using h1
def mixFromA (md : Region.Mode) (ms : List Nat) (ops : Array Oper) : Nat → Nat → Array Bool → Bool
 | 0, _, listed => (Region.ready md ops listed).isEmpty
 | fuel + 1, k, listed => (Region.ready md ops listed).contains k && mixFreeA ms ops listed k && mixFromA md ms ops fuel (k + 1) (listed.setIfInBounds k true)
def mixBA (md : Region.Mode) (ops : Array Oper) : Bool := mixFromA md (masks md ops.toList []) ops ops.size 0 (Array.replicate ops.size false)
theorem wpAnyA_lex {ms : List Nat} (hms : MOk md ops.toList ms) (hL : LastW ms ops) {Q : AA → St → Prop} : ∀ (l : List Oper) (k : Nat) (listed : Array Bool) (A : AA) (st : St), Keeps ro st → DC md ops listed → (∀ j, l[j]? = ops[k + j]?) →
 mixFromA md ms ops l.length k listed = true → wpMixA P r ro ops Q l A st → wpAnyA P r ro md ops Q l.length listed A st
 | [], _, _, _, _, _, _, _, hB, h => ⟨by simpa [mixFromA] using hB, h⟩
 | o :: l, k, listed, A, st, hw, hdc, hl, hB, h => by
  have h0 : ops[k]? = some o := by simpa using (hl 0).symm
  simp only [List.length_cons, mixFromA, Bool.and_eq_true] at hB
  obtain ⟨⟨hr, hf⟩, hB'⟩ := hB
  have hlast : (decide (k + 1 = ops.size) && lastAll ops) = (l.isEmpty && lastAll ops) := by
   have hk : k < ops.size := (Array.getElem?_eq_some_iff.1 h0).1
   have h1 := hl 1
   cases l with
   | nil =>
    have : ops[k + 1]? = none := by simpa using h1.symm
    have := Array.getElem?_eq_none_iff.1 this
    rw [decide_eq_true (by omega)]; rfl
   | cons o' l =>
    have : ops[k + 1]? = some o' := by simpa using h1.symm
    have := (Array.getElem?_eq_some_iff.1 this).1
    rw [decide_eq_false (by omega)]; rfl
  refine wpAnyA_first hms hL h0 l.length listed A st hw hdc (mixFreeA_spec h0 hf) (by simpa using hr) ?_
  rw [hlast]
  have h : mOpA P r ro (l.isEmpty && lastAll ops) ops o (wpMixA P r ro ops Q l) A st := h
  cases l with
  | nil =>
   refine mOpA_put hw (fun v w' hc hk => ?_) h
   exact ⟨by simpa [mixFromA] using hB', hk⟩
  | cons o' l =>
   refine mOpA_put hw (fun v w' hc hk => ?_) h
   exact wpAnyA_lex hms hL (o' :: l) (k + 1) _ _ _ (hc.resolve_left (by simp)) (hdc.step (by simpa using hr)) (fun j => by have := hl (j + 1); simpa [Nat.add_assoc, Nat.add_comm 1 j] using this) hB' hk
theorem wpAnyIn_of_A {N : Nat} {ms : List Nat} (hms : MOk md ops.toList ms) (hL : LastW ms ops) {K : AA → St → Prop} (hok : ∀ (i : Nat) (o : Oper), ops[i]? = some o → dstOk N o.dst = true ∧ guardOk N ops o = true) : ∀ (fuel : Nat) (listed : Array Bool) (A : AA) (st : St) (a : Act) (w : World) (Q : Exit → Act → World → Prop), (Keeps ro st ∨ Region.ready md ops listed = []) → DC md ops listed → RelA N (OwnS st) w a A → Holds st w → wpAnyA P r ro md ops K fuel listed A st →
 (∀ A' st' a' w', RelA N (OwnS st') w' a' A' → Holds st' w' → Ext (OwnS st) w (OwnS st') w' → K A' st' → Q .normal a' w') → wpAnyIn (FR r) 0 P md ops Q fuel listed a w
 | 0, listed, A, st, a, w, Q, hk, hdc, hr, hh, h, hQ => ⟨h.1, hQ A st a w hr hh (Ext.refl _ _) h.2⟩
 | fuel + 1, listed, A, st, a, w, Q, hk, hdc, hr, hh, h, hQ => by
  refine ⟨fun h0 => hQ A st a w hr hh (Ext.refl _ _) (h.1 h0), fun i hi => ?_⟩
  have hk : Keeps ro st := hk.resolve_right fun h0 => by rw [h0] at hi; cases hi
  obtain ⟨_, o, ho, _⟩ := mem_ready.1 hi
  obtain ⟨hd, hg⟩ := hok i o ho
  have hm := h.2 i hi o ho
  unfold wpOpIn
  simp only [ho]
  rw [wantedA_eq hr ops o (guardOk_spec hg)]
  unfold mOpA at hm
  split
  · rename_i hw
    rw [if_pos hw] at hm
    refine wpIn_of_ResC ?_
    have hC : OpC P r o A.e st fun d st' => (Keeps ro st' ∨ Region.ready md ops (listed.setIfInBounds i true) = []) ∧ wpAnyA P r ro md ops K fuel (listed.setIfInBounds i true) (A.put o.dst d) st' := by
     split at hm
     · obtain ⟨d, k1, k2⟩ := hm
       exact (frC_sound hk k1).opC ⟨.inl hk, k2⟩
     · refine hm.1.mono fun d st' hkp => ⟨?_, hkp.2⟩
       rcases hkp.1 with hf | hf
       · refine .inr ?_
         rw [Bool.and_eq_true, decide_eq_true_eq] at hf
         refine List.eq_nil_iff_forall_not_mem.2 fun j hj => ?_
         obtain ⟨hjun, oj, hoj, hall⟩ := mem_ready.1 hj
         have hji : j ≠ i := fun e => by
          subst e
          rw [Array.getD_eq_getD_getElem?] at hjun
          rcases Nat.lt_or_ge j listed.size with h1 | h1
          · rw [Array.getElem?_setIfInBounds_self_of_lt h1] at hjun
            simp at hjun
          · rw [Array.getElem?_eq_none (by simpa using h1)] at hjun
            simp at hjun
         have hun : listed.getD j true = false := by
          have := hjun
          rwa [getD_set_ne true (Ne.symm hji)] at this
         have hun : listed.getD j false = false := by
          rw [Array.getD_eq_getD_getElem?] at hun ⊢
          cases hq : listed[j]? with
          | none => rfl
          | some b => rw [hq] at hun; exact hun
         have h1 := hdc.ready hms hun hi
         rw [hL hf.2 i j hf.1 (Array.getElem?_eq_some_iff.1 hoj).1 hji] at h1
         cases h1
       · exact .inl hf
    exact (hC a.eval w (hr.repE _) hh).mono fun v w' ⟨d, st', k1, k2, k3, k4, k5⟩ =>
     wpAnyIn_of_A hms hL hok fuel _ _ st' _ w' Q k4 (hdc.step hi) ((hr.ext k3).put hd k1) k2 k5 fun A' st'' a' w'' q1 q2 q3 q4 => hQ A' st'' a' w'' q1 q2 (k3.trans q3) q4
  · rename_i hw
    rw [if_neg hw] at hm
    exact ⟨fun f _ => trivial, wpAnyIn_of_A hms hL hok fuel _ _ st _ w Q (.inl hk) (hdc.step hi) (hr.put hd (.s undef rfl)) hh hm hQ⟩
theorem Ext.drew (O : Nat → Nat → Prop) (w : World) : Ext O w O w.drew := Ext.drewN O w 1
theorem tr_draw {N : Nat} {id : Nat} {l : List Oper} {A : AA} {Q : Exit → AA → St → Prop} (ro : Ro) (hm : P.follows .mixedOrders = true) (hB : mixBA .any l.toArray = true) (hok : opsOk N l = true) (hC : Keeps ro st)
 (h : wpMixA P r ro l.toArray (Q .normal) l A st) : Tr P N r (.region id l.toArray true) A st Q := by
 intro a w h1 h2
 have hok' : ∀ (i : Nat) (o : Oper), l.toArray[i]? = some o → dstOk N o.dst = true ∧ guardOk N l.toArray o = true := fun i o ho => by
  have := List.all_eq_true.1 hok o (by simp at ho; exact List.mem_of_getElem? ho)
  simpa using this
 have he := Ext.drew (OwnS st) w
 have hms := masks_ok (md := .any) l l [] (by simp) (fun k i h => by simp at h)
 have hL : LastW (masks .any l []) l.toArray := fun h j i hj hi hne => by
  unfold lastAll at h
  have := List.all_eq_true.1 h i (List.mem_range.2 (by omega))
  rw [show l.toArray.size - 1 = j by omega] at this
  exact this
 have hdc : DC .any l.toArray (Array.replicate l.toArray.size false) := fun k o _ hl => absurd hl (by rw [getD_rep]; exact Bool.false_ne_true)
 have hany := wpAnyA_lex (P := P) (r := r) (ro := ro) (md := .any) hms hL (Q := Q .normal) l 0 (Array.replicate l.toArray.size false) A st hC hdc (by simp) (by simpa [mixBA] using hB) h
 refine wpIn_region_any hm ?_
 have hsz : l.toArray.size = l.length := by simp
 rw [hsz] at hany hdc ⊢
 exact wpAnyIn_of_A hms hL hok' _ _ A st a w.drew _ (.inl hC) hdc (h1.ext he) (h2.drewN 1) hany fun A' st' a' w' q1 q2 q3 q5 => ⟨A', st', q1, q2, he.trans q3, q5⟩
variable {Q : AA → St → Prop} {A : AA} {o : Oper} {rest : List Oper}
theorem mixA_skip {dst : Option Tmp} (hdst : o.dst = dst) (hw : wantedA ops o A.e = false) (h : wpMixA P r ro ops Q rest (A.put dst D.un) st) : wpMixA P r ro ops Q (o :: rest) A st := by
 subst hdst
 show mOpA P r ro _ ops o _ A st
 unfold mOpA
 rw [if_neg (by rw [hw]; exact Bool.false_ne_true)]
 exact h
theorem ops_skip {K : AA → St → Prop} {dst : Option Tmp} (hdst : o.dst = dst) (hw : wantedA ops o A.e = false) (h : TrOps P r ops rest (A.put dst D.un) st K) : TrOps P r ops (o :: rest) A st K := by
 subst hdst
 unfold TrOps; rw [if_neg (by rw [hw]; exact Bool.false_ne_true)]; exact h
theorem keeps_nil : Keeps [] st := fun _ _ h => by cases h
end
end Go.Proofs.YtgcienlfpnpbgaaGreat
end
section
namespace Go.Proofs.YtgcienlfpnpbgaaGreat
open Go.RowKit
section
variable {P : Program} {N : Nat} {r : Option Nat} {A : AA} {st : St} {Q : Exit → AA → St → Prop} {K : AA → St → Prop} {id id' : Nat}
theorem strip_norm (h : K A st) : thenA K Q .normal A st := h
theorem strip_ret (h : Q .ret A st) : thenA K Q .ret A st := h
theorem strip_exit (h : Q (.exit id) A st) : thenA K Q (.exit id) A st := h
theorem blk_norm (h : Q .normal A st) : blockA id Q .normal A st := h
theorem blk_ret (h : Q .ret A st) : blockA id Q .ret A st := h
theorem blk_same (h : Q .normal A st) : blockA id Q (.exit id) A st := by
 show if id = id then _ else _
 rw [if_pos rfl]; exact h
theorem blk_ne (hn : (id' == id) = false) (h : Q (.exit id') A st) : blockA id Q (.exit id') A st := by
 show if id' = id then _ else _
 rw [if_neg (by simpa using hn)]; exact h
theorem put_e {t t' : Tmp} {d : D} : (A.put (some t) d).e t' = if t' = t then d else A.e t' := rfl
theorem put_none {d : D} : A.put none d = A := rfl
theorem init_e {args : List D} {df : List Deferred} {t : Tmp} : (AA.mk (initE args) df).e t = args.getD t D.un := rfl
theorem wanted_none {ops : Array Oper} {o : Oper} {e : Nat → D} (h : o.guard = none) : wantedA ops o e = true := by unfold wantedA; rw [h]
variable {t : TypeId} {k : IntKind} {a b : Int}
theorem bin_add : aBin P .add t (.s (.int k a)) (.s (.int k b)) = some (.s (.int k (k.wrap (a + b)))) := by simp [aBin, binOp, Op.intArith, pureV]; rfl
theorem bin_sub : aBin P .sub t (.s (.int k a)) (.s (.int k b)) = some (.s (.int k (k.wrap (a - b)))) := by simp [aBin, binOp, Op.intArith, pureV]; rfl
theorem bin_mul : aBin P .mul t (.s (.int k a)) (.s (.int k b)) = some (.s (.int k (k.wrap (a * b)))) := by simp [aBin, binOp, Op.intArith, pureV]; rfl
theorem bin_quo (h : (b == 0) = false) : aBin P .quo t (.s (.int k a)) (.s (.int k b)) = some (.s (.int k (k.wrap (a.tdiv b)))) := by
 have : b ≠ 0 := by simpa using h
 simp [aBin, binOp, Op.intDiv, pureV, this]; rfl
theorem bin_rem (h : (b == 0) = false) : aBin P .rem t (.s (.int k a)) (.s (.int k b)) = some (.s (.int k (a.tmod b))) := by
 have : b ≠ 0 := by simpa using h
 simp [aBin, binOp, Op.intDiv, pureV, this]; rfl
theorem bin_and : aBin P .and t (.s (.int k a)) (.s (.int k b)) = some (.s (.int k (bits .and k a b))) := by simp [aBin, binOp, intBits_and, pureV]; rfl
theorem bin_or : aBin P .or t (.s (.int k a)) (.s (.int k b)) = some (.s (.int k (bits .or k a b))) := by simp [aBin, binOp, intBits_or, pureV]; rfl
theorem bin_xor : aBin P .xor t (.s (.int k a)) (.s (.int k b)) = some (.s (.int k (bits .xor k a b))) := by simp [aBin, binOp, intBits_xor, pureV]; rfl
theorem bin_andNot : aBin P .andNot t (.s (.int k a)) (.s (.int k b)) = some (.s (.int k (bits .andNot k a b))) := by simp [aBin, binOp, intBits_andNot, pureV]; rfl
theorem bin_eql : aBin P .eql t (.s (.int k a)) (.s (.int k b)) = some (.b (a == b)) := by simp [aBin, binOp, Op.intCmp, pureV]; rfl
theorem bin_neq : aBin P .neq t (.s (.int k a)) (.s (.int k b)) = some (.b (a != b)) := by simp [aBin, binOp, Op.intCmp, pureV]; rfl
theorem bin_lss : aBin P .lss t (.s (.int k a)) (.s (.int k b)) = some (.b (decide (a < b))) := by simp [aBin, binOp, Op.intCmp, pureV]; rfl
theorem bin_leq : aBin P .leq t (.s (.int k a)) (.s (.int k b)) = some (.b (decide (a ≤ b))) := by simp [aBin, binOp, Op.intCmp, pureV]; rfl
theorem bin_gtr : aBin P .gtr t (.s (.int k a)) (.s (.int k b)) = some (.b (decide (b < a))) := by simp [aBin, binOp, Op.intCmp, pureV]; rfl
theorem bin_geq : aBin P .geq t (.s (.int k a)) (.s (.int k b)) = some (.b (decide (b ≤ a))) := by simp [aBin, binOp, Op.intCmp, pureV]; rfl
theorem bin_shr {k' : IntKind} (h0 : 0 ≤ b) (h1 : b ≤ k.bits) : aBin P .shr t (.s (.int k a)) (.s (.int k' b)) = some (.s (.int k (a / 2 ^ b.toNat))) := by
 simp only [aBin]
 rw [show binOp .shr 0 (.int k a) (.int k' b) = Op.shift .shr k a k' b from rfl, shift_shr k k' a b h0 h1]; rfl
theorem bin_shl {k' : IntKind} (h0 : 0 ≤ b) (h1 : b ≤ k.bits) : aBin P .shl t (.s (.int k a)) (.s (.int k' b)) = some (.s (.int k (k.wrap (a * 2 ^ b.toNat)))) := by
 simp only [aBin]
 rw [show binOp .shl 0 (.int k a) (.int k' b) = Op.shift .shl k a k' b from rfl, shift_shl k k' a b h0 h1]; rfl
theorem un_not {b : Bool} : aUn .not (.s (.bool b)) = some (.b (!b)) := rfl
theorem un_neg : aUn .neg (.s (.int k a)) = some (.s (.int k (k.wrap (0 - a)))) := rfl
theorem un_xor : aUn .xor (.s (.int k a)) = some (.s (.int k (bits .xor k (if k.signed then -1 else k.max) a))) := rfl
theorem str_eql {x y : ByteArray} : aBin P .eql t (.str x) (.str y) = some (.b (x.toList == y.toList)) := rfl
theorem str_neq {x y : ByteArray} : aBin P .neq t (.str x) (.str y) = some (.b (!(x.toList == y.toList))) := rfl
theorem str_add {x y : ByteArray} (h : x.size + y.size ≤ 9223372036854775807) : aBin P .add t (.str x) (.str y) = some (.str (x ++ y)) := by
 have : ¬ (((x.size + y.size : Nat) : Int) > IntKind.i64.max) := by
  show ¬ (_ > (9223372036854775807 : Int)); omega
 simp only [aBin, binOp, Op.stringOp, if_neg this]; rfl
theorem i64_in {n : Int} (h1 : -9223372036854775808 ≤ n) (h2 : n ≤ 9223372036854775807) : IntKind.i64.wrap n = n := IntWalk.i64_in n ⟨h1, h2⟩
theorem u8_in {n : Int} (h1 : 0 ≤ n) (h2 : n ≤ 255) : IntKind.u8.wrap n = n := IntWalk.u8_in n ⟨h1, h2⟩
theorem ret_eq {ts : List Tmp} {X : D} {ex : Exit} {st0 : St} (hex : ex = .normal ∨ ex = .ret) (hdf : A.df = []) (hs : st0.Sublist st) (hd : LE (resD ts A.e) X) : retA ts (fun d st' => d = X ∧ st' = st0) ex A st := retA_mk hex hdf hs hd ⟨rfl, rfl⟩
theorem LEL.nil : LEL [] [] := trivial
theorem LEL.cons {d d' : D} {l l' : List D} (h : LE d d') (k : LEL l l') : LEL (d :: l) (d' :: l') := ⟨h, k⟩
theorem len_one {a : List D} {n : Nat} (h : a.length = n) : ∀ x ∈ [a], x.length = n := fun x hx => by
 rw [List.mem_singleton] at hx; subst hx; exact h
theorem len_nil {n : Nat} : ∀ x ∈ ([] : List (List D)), x.length = n := fun x hx => by cases hx
end
attribute [push_cast] bytesOf_map if_pos if_neg ev evL initE evP constD leafD put_e put_none init_e List.getD_cons_zero List.getD_cons_succ List.getD_nil if_true if_false ite_true ite_false bin_add bin_sub bin_mul bin_quo bin_rem bin_and bin_or bin_xor bin_andNot bin_eql bin_neq bin_lss bin_leq bin_gtr bin_geq bin_shr bin_shl un_not un_neg un_xor str_eql str_neq str_add aConv aField aFieldAddr aIndexAddr aIndex intOfD optInt aSlice aBounds aBuild aBuildSlice aFill aLen aBi kT readD D.cells D.sh D.leaf i64_in u8_in Option.map_some Option.bind_some Option.map_none Option.bind_none List.map_cons List.map_nil List.map_append Int.natCast_add List.length_cons List.length_nil List.length_map List.length_append List.drop_zero List.drop_succ_cons List.drop_nil List.take_succ_cons List.take_zero List.take_nil List.head?_cons List.getElem?_cons_zero List.getElem?_cons_succ List.getElem?_map List.all_cons List.all_nil Int.natCast_nonneg Int.toNat_natCast Int.ofNat_lt Int.ofNat_le Nat.add_zero Nat.zero_add Nat.zero_mul Nat.succ_pos Nat.lt_add_one Nat.lt_irrefl Int.lt_irrefl Value.oneCell' noAgg and_self and_true true_and Bool.and_true Bool.true_and Bool.and_self Bool.not_true Bool.not_false decide_true decide_false beq_self_eq_true splice List.cons_append List.nil_append List.append_nil resD TI.k TI.sz TI.agg TI.zero decide_eq_true_eq List.replicate_succ List.replicate_zero List.flatten_cons List.flatten_nil chop
end Go.Proofs.YtgcienlfpnpbgaaGreat
end
section
namespace Go.Proofs.YtgcienlfpnpbgaaGreat
open Go.RowKit
section
variable {P : Program} {st : St} {w w' : World} {O : Nat → Nat → Prop}
theorem ext_of_below (h : Holds st w) (hb : Below w.heap.size w w') : Holds st w' ∧ Ext (OwnS st) w (OwnS st) w' := by
 have he : Ext (OwnS st) w (OwnS st) w' := ⟨hb.os, hb.tape, hb.output, hb.size, fun _ _ _ h => h, fun b hl _ => hb.block b hl, fun b c E fr hc => ⟨c, fr, (hb.block b (Array.getElem?_eq_some_iff.1 hc).1).trans hc, rfl, fun _ _ => rfl⟩⟩
 exact ⟨h.keep he fun b hl => hb.block b hl, he⟩
theorem below_of_ext (h : Ext (OwnS []) w (OwnS []) w') : Below w.heap.size w w' :=
 ⟨h.os, h.tape, h.output, h.size, fun b hb => h.block b hb fun off => OwnS.nil b off⟩
theorem holds_nil (w : World) : Holds [] w := ⟨.nil, fun r hr => by cases hr⟩
theorem flat_one {α : Type} {f : α → D} (l : List α) : (l.map fun x => [f x]).flatten = l.map f := by
 induction l with
 | nil => rfl
 | cons x l ih => rw [List.map_cons, List.flatten_cons, ih]; rfl
theorem sees_of_rep {α : Type} {f : α → Value} {v : Value} {o : Own} {l : List α} (h : Rep O w v (.sl o (l.map fun x => [D.s (f x)]))) : Sees f w v l := by
 obtain ⟨a, cap, us, sz, rfl, h1, h2, h3, h4, h5, h6, h7, h8, h9, -⟩ := calm_src h
 rw [List.length_map] at *
 have hul : us.length = l.length := by rw [h6.1, flat_one, List.length_map]
 refine ⟨a, cap, rfl, h1, h2, h8, fun b hb hl => ?_⟩
 subst hb
 obtain ⟨bk, off, e, c1, c2, c3⟩ := h9 0 (by omega)
 cases e
 refine ⟨rfl, c1, fun i hi => ?_⟩
 obtain ⟨bk', off', e', d1, d2, d3⟩ := h9 i (by omega)
 cases e'
 have hr := h6.2 i (by omega) (by rw [← h6.1]; omega)
 simp only [flat_one, List.getElem_map] at hr
 rw [d3, rep_s hr]
theorem sees_bytes {v : Value} {o : Own} {l : List UInt8} (h : Rep O w v (.sl o (l.map encB))) : Sees bv w v l := sees_of_rep (f := bv) h
theorem trF_pure {f : FuncId} {args : List D} {X : D} (h : ∀ (vs : Array Value) w, RepL (OwnS st) w vs.toList args → ∃ v, (∀ O w', Rep O w' v X) ∧ Calls P f vs w fun e w' => e = .returned v ∧ Below w.heap.size w w') : TrF P f args st fun d st' => d = X ∧ st' = st := by
 intro vs w hv hh
 obtain ⟨v, hr, hc⟩ := h vs w hv
 refine hc.mono fun e w' ⟨he, hb⟩ => ⟨v, he, X, st, hr _ _, (ext_of_below hh hb).1, (ext_of_below hh hb).2, rfl, rfl⟩
theorem law_of {f : FuncId} {args : List D} {vs : Array Value} (h : TrF P f args [] fun d st' => d = .b true ∧ st' = []) (hv : RepL (OwnS []) w vs.toList args) : Calls P f vs w fun e w' => e = .returned (.bool true) ∧ Below w.heap.size w w' :=
 (h vs w hv (holds_nil w)).mono fun e w' ⟨v, he, d, st', h1, _, h3, h4, h5⟩ => by
  subst h4 h5
  exact ⟨by rw [he, rep_s h1], below_of_ext h3⟩
theorem args1 {vs : Array Value} {d : D} (h : RepL O w vs.toList [d]) : ∃ v, vs = #[v] ∧ Rep O w v d := by
 obtain ⟨l⟩ := vs
 obtain ⟨u, e, h1⟩ := RepL.one h
 dsimp only at e
 subst e
 exact ⟨u, rfl, h1⟩
theorem args2 {vs : Array Value} {d d' : D} (h : RepL O w vs.toList [d, d']) : ∃ v v', vs = #[v, v'] ∧ Rep O w v d ∧ Rep O w v' d' := by
 obtain ⟨l⟩ := vs
 obtain ⟨u, u', e, h1, h2⟩ := RepL.two h
 dsimp only at e
 subst e
 exact ⟨u, u', rfl, h1, h2⟩
end
end Go.Proofs.YtgcienlfpnpbgaaGreat
end
section
namespace Go.Proofs.YtgcienlfpnpbgaaGreat
open Go.RowKit
section
variable {P : Program} {N : Nat} {r : Option Nat} {A : AA} {st : St} {w : World} {Q : Exit → AA → St → Prop} {K : AA → St → Prop} {l : List Oper} {ops : Array Oper} {o : Oper} {dst : Option Tmp} {ro : Ro} {f : FuncId} {args : List D} {R : D → St → Prop}
theorem tr_less {c : Code} (h : Tr P N r c A st fun ex A' st' => ∃ s, s.Sublist st' ∧ Q ex A' s) : Tr P N r c A st Q := by
 intro a w h1 h2
 refine wpIn_mono (h a w h1 h2) fun ex a' w' ⟨A', st', k1, k2, k3, s, k4, k5⟩ => ?_
 have he := Ext.drop (st := st') (st' := s) (fun _ h => k4.subset h) w'
 exact ⟨A', s, k1.ext he, k2.sub k4, k3.trans he, k5⟩
theorem tr_mono {c : Code} {Q' : Exit → AA → St → Prop} (h : Tr P N r c A st Q) (hq : ∀ ex A st, Q ex A st → Q' ex A st) : Tr P N r c A st Q' := by
 intro a w h1 h2
 exact wpIn_mono (h a w h1 h2) fun ex a' w' ⟨A', st', k1, k2, k3, k4⟩ => ⟨A', st', k1, k2, k3, hq _ _ _ k4⟩
theorem tr_loopd {c : Code} {ι : Type} (I : ι → AA → St → Prop) (μ : ι → Nat) (i0 : ι) (h0 : I i0 A st) (hr : ∀ i A st, I i A st → Tr P N r c A st (thenA (fun A' st' => ∃ j s, s.Sublist st' ∧ I j A' s ∧ μ j < μ i) Q)) : Tr P N r (.loop c) A st Q := by
 refine tr_loop I μ i0 h0 fun i A st hi => tr_less (tr_mono (hr i A st hi) fun ex A' st' hq => ?_)
 cases ex with
 | normal => obtain ⟨j, s, k1, k2, k3⟩ := hq; exact ⟨s, k1, j, k2, k3⟩
 | exit id => exact ⟨st', .refl _, hq⟩
 | goto l => exact ⟨st', .refl _, hq⟩
 | ret => exact ⟨st', .refl _, hq⟩
 | panic c => exact ⟨st', .refl _, hq⟩
 | outgrown => exact ⟨st', .refl _, hq⟩
def St.blks (st : St) : List (Option Nat) := st.map Res.blk
def roOf : St → Ro
 | [] => []
 | .box b _ cs :: s => (b, cs) :: roOf s
 | .room .. :: s => roOf s
 | .raw .. :: s => roOf s
 | .know .. :: s => roOf s
theorem keeps_roOf : ∀ st, Keeps (roOf st) st
 | [] => fun _ _ h => by cases h
 | .box b ty cs :: s => fun b' cs' h => by
  unfold roOf at h
  rw [List.lookup_cons] at h
  split at h
  · rename_i he
    cases h
    have : b' = b := eq_of_beq he
    subst this
    exact ⟨ty, List.mem_cons_self ..⟩
  · obtain ⟨ty', h'⟩ := keeps_roOf s b' cs' h
    exact ⟨ty', List.mem_cons_of_mem _ h'⟩
 | .room .. :: s => fun b' cs' h => by
  obtain ⟨ty', h'⟩ := keeps_roOf s b' cs' h
  exact ⟨ty', List.mem_cons_of_mem _ h'⟩
 | .raw .. :: s => fun b' cs' h => by
  obtain ⟨ty', h'⟩ := keeps_roOf s b' cs' h
  exact ⟨ty', List.mem_cons_of_mem _ h'⟩
 | .know .. :: s => fun b' cs' h => by
  obtain ⟨ty', h'⟩ := keeps_roOf s b' cs' h
  exact ⟨ty', List.mem_cons_of_mem _ h'⟩
theorem look_same {b : Nat} {cs : List D} {s : Ro} : List.lookup b ((b, cs) :: s) = some cs := by simp [List.lookup]
theorem look_ne {b b' : Nat} {cs : List D} {s : Ro} (h : (b == b') = false) : List.lookup b ((b', cs) :: s) = List.lookup b s := by simp [List.lookup, h]
def cellA (t : Tmp) (T : TypeId) (P : Program) (A : AA) (st : St) (d : D) : Prop := ∃ b off ty cs ti, A.e t = .ptr b off ∧ Res.box b ty cs ∈ st ∧ tinfo P T = some ti ∧ readD ti (cs.drop off) = some d
def retC (G : AA → St → D → Prop) (R : D → St → Prop) : Exit → AA → St → Prop
 | .normal, A, st | .ret, A, st => ∃ (d0 d : D) (st' : St), A.df = [] ∧ G A st d0 ∧ st'.Sublist st ∧ LE d0 d ∧ R d st'
 | _, _, _ => False
theorem trF_enterC {fn : Func} {c : Code} {G : AA → St → D → Prop} (hf : P.funcs[f]? = some fn) (hb : fn.body = some c) (hn : args.length ≤ fn.ntmps) (hres : ∀ {a A w st d}, RelA fn.ntmps (OwnS st) w a A → Holds st w → G A st d → ∃ v, (results fn a.tmps).run P w = .ok v w ∧ Rep (OwnS st) w v d)
 (h : Tr P fn.ntmps none c ⟨initE args, []⟩ st (retC G R)) : TrF P f args st R := by
 intro vs w hv hw
 refine (callsIn_wide (n := 0)).1 (callsIn_of_wp_marks hf hb trivial ?_ rfl)
 have hvl : vs.size = args.length := by rw [← Array.length_toList]; exact hv.1
 have hrel : RelA fn.ntmps (OwnS st) w { tmps := vs ++ Array.replicate (fn.ntmps - vs.size) undef, defers := [] } ⟨initE args, []⟩ := by
  refine ⟨by simp [hvl]; omega, rfl, fun t => ?_⟩
  show Rep _ _ _ (args.getD t D.un)
  simp only [Array.getD_eq_getD_getElem?, List.getD_eq_getElem?_getD]
  rcases Nat.lt_or_ge t args.length with ht | ht
  · have h1 : t < vs.toList.length := by simp; omega
    have := hv.2 t h1 ht
    rw [Array.getElem?_append_left (by omega), List.getElem?_eq_getElem ht, Array.getElem?_eq_getElem (by omega)]
    simpa using this
  · rw [Array.getElem?_append_right (by omega), List.getElem?_eq_none ht]
    simp only [Option.getD_none]
    by_cases h2 : t - vs.size < fn.ntmps - vs.size
    · rw [Array.getElem?_replicate, if_pos h2]
      exact .s undef rfl
    · rw [Array.getElem?_replicate, if_neg h2]
      exact .s undef rfl
 refine wpIn_mono (h _ w hrel hw) fun ex a' w' ⟨A', st', k1, k2, k3, k4⟩ => ?_
 have main : (∃ (d0 d : D) (s : St), A'.df = [] ∧ G A' st' d0 ∧ s.Sublist st' ∧ LE d0 d ∧ R d s) → LeavesInM (FR none) 0 P fn a'.tmps (fun e w' => ∃ v, e = .returned v ∧ PostV st w R v w') a'.defers .returning w' := by
  rintro ⟨d0, d, s, q1, q2, q3, q4, q5⟩
  rw [k1.2.1, q1]
  obtain ⟨v, e1, e2⟩ := hres k1 k2 q2
  have he := Ext.drop (st := st') (st' := s) (fun _ h => q3.subset h) w'
  exact ⟨v, e1, v, rfl, d, s, q4 _ _ _ (e2.ext he), k2.sub q3, k3.trans he, q5⟩
 cases ex with
 | normal => exact main k4
 | ret => exact main k4
 | exit id => exact k4.elim
 | goto l => exact k4.elim
 | panic c => exact k4.elim
 | outgrown => exact k4.elim
theorem res_cell {fn : Func} {t : Tmp} {T : TypeId} (hr : fn.results = #[.cell t T]) {a : Act} {N : Nat} {d : D} (h1 : RelA N (OwnS st) w a A) (h2 : Holds st w) (h3 : cellA t T P A st d) : ∃ v, (results fn a.tmps).run P w = .ok v w ∧ Rep (OwnS st) w v d := by
 obtain ⟨b, off, ty, cs, ti, k1, k2, k3, k4⟩ := h3
 have hp := h1.2.2 t
 rw [k1] at hp
 have hv : a.tmps.getD t undef = .pointer (some ⟨b, off, none⟩) := by
  generalize a.tmps.getD t undef = v at hp
  cases hp; rfl
 obtain ⟨v, q1, q2⟩ := run_loadBox h2 k2 k3 k4
 refine ⟨v, ?_, q2⟩
 have q3 : (loadVar T ⟨b, off, none⟩).run P w = .ok v w := by
  simpa [Instr.loadAt, Instr.sureAddr] using q1
 have hv' : a.tmps[t]?.getD undef = .pointer (some ⟨b, off, none⟩) := by rw [← hv]; simp
 simp [results, hr, hv', asAddr, q3]
theorem retC_cell {t : Tmp} {T : TypeId} {ti : TI} {ex : Exit} {b off : Nat} {ty : TypeId} {cs : List D} {X d : D} {st0 : St} {R : D → St → Prop} (hex : ex = .normal ∨ ex = .ret) (hdf : A.df = []) (hp : A.e t = .ptr b off) (hm : Res.box b ty cs ∈ st) (ht : tinfo P T = some ti) (hd : readD ti (cs.drop off) = some d) (hs : st0.Sublist st) (hl : LE d X) (hR : R X st0) :
 retC (cellA t T P) R ex A st := by
 have : ∃ (d0 d : D) (st' : St), A.df = [] ∧ cellA t T P A st d0 ∧ st'.Sublist st ∧ LE d0 d ∧ R d st' := ⟨d, X, st0, hdf, ⟨b, off, ty, cs, ti, hp, hm, ht, hd⟩, hs, hl, hR⟩
 rcases hex with rfl | rfl <;> exact this
theorem TrF.permPost {st' : St} (hp : st.Perm st') (h : TrF P f args st' fun d s => ∃ s', R d s' ∧ s.Perm s') : TrF P f args st R := by
 intro vs w h1 h2
 have e := OwnS.perm hp
 refine (h vs w (by rw [← e]; exact h1) (h2.perm hp)).mono fun _ _ ⟨v, ev, d, s, k1, k2, k3, s', k4, k5⟩ => ⟨v, ev, d, s', by rw [← OwnS.perm k5]; exact k1, k2.perm k5, by rw [e, ← OwnS.perm k5]; exact k3, k4⟩
theorem str_cells (str : ByteArray) : (str.data.map fun b => Value.int .u8 b.toNat) = (Lib.strCells str).toArray := by
 apply Array.ext'
 simp [Lib.strCells]
theorem run_append_zero_str (T U ty e : TypeId) (i : TypeInfo) (ht : P.underlying T = some (.slice e)) (hu : P.underlying U = some .string) (hi : P.info? e = some i) (a : Option Addr) (n cap : Nat) (hn : n ≤ cap) (str : ByteArray) (h0 : str.size = 0) :
 (Builtin.append_ #[T, U] ty #[.slice a n cap, .string str]).run P w = .ok (.slice a n cap) w := by
 have hf := Lib.run_firstCells_string (P := P) w i.size str
 have hx : Lib.strCells str = [] := List.eq_nil_of_length_eq_zero (by rw [Lib.strCells_length]; exact h0)
 rw [h0, hx] at hf
 cases a <;> simp [Builtin.append_, run_underlying ht, run_underlying hu, sizeOf, typeInfo, hi, Builtin.lenOf, h0, hn, hf, storeCells]
theorem run_appendStr (T U ty : TypeId) {ti tu : TI} {e : TypeId} {sz bytes : Nat} {z : List Value} (ht : tinfo P T = some ti) (hk : ti.k = .slice e sz bytes z) (htu : tinfo P U = some tu) (hku : tu.k = .string) (hsz1 : sz = 1) {o : Own} {es ys : List (List D)} {str : ByteArray} (hys' : ys = str.data.toList.map encB) {v : Value} {s0 : St}
 (h : Holds (.room o e sz es.length :: s0) w) (hv : Rep (OwnS (.room o e sz es.length :: s0)) w v (.sl o es)) (ho : o ≠ .shared)
 (hes : ∀ a ∈ es, a.length = sz) (hb : (es.length + ys.length) * bytes ≤ 140737488355328) (hm : es.length + ys.length ≤ 140737488355328) :
 ∃ v' w' o', o' ≠ .shared ∧ (Builtin.append_ #[T, U] ty #[v, .string str]).run P w = .ok v' w' ∧ Rep (OwnS (.room o' e sz (es ++ ys).length :: s0)) w' v' (.sl o' (es ++ ys)) ∧ Holds (.room o' e sz (es ++ ys).length :: s0) w' ∧ Ext (OwnS (.room o e sz es.length :: s0)) w (OwnS (.room o' e sz (es ++ ys).length :: s0)) w' := by
 have hu : P.underlying U = some .string := (und_of_k htu).2.2.1 hku
 obtain ⟨d, hd, -, hkk⟩ := run_und_of ht
 rw [hk] at hkk
 obtain ⟨i, hi, zv, hz, hzs, hsz0, hd', rfl, rfl, rfl⟩ : ∃ i, P.info? e = some i ∧ ∃ zv, i.zero = some zv ∧ zv.cells.size = i.size ∧ 0 < i.size ∧ d = .slice e ∧ i.size = sz ∧ i.bytes = bytes ∧ zv.cells.toList = z := by
  unfold kindT at hkk
  rw [hd] at hkk
  cases d <;> simp only at hkk <;> try (cases hkk; done)
  · rename_i e'
    cases hi : P.info? e' with
    | none => simp [hi] at hkk
    | some i =>
     simp only [hi] at hkk
     cases hz : i.zero with
     | none => simp [hz] at hkk
     | some zv =>
      simp only [hz] at hkk
      split at hkk
      · rename_i hq
        cases hkk
        exact ⟨i, hi, zv, hz, hq.1, hq.2, rfl, rfl, rfl, rfl⟩
      · cases hkk
  · split at hkk <;> cases hkk
  · split at hkk <;> cases hkk
 subst hd'
 obtain ⟨a, cap, us, sz1, rfl, c1, c2, c3, c4, c5, c6, c7, c8, c9, c10⟩ := calm_src hv
 have hyl : str.size = ys.length := by rw [hys', List.length_map, Array.length_toList]; rfl
 obtain ⟨xus, hxus⟩ : ∃ xus, xus = Lib.strCells str := ⟨_, rfl⟩
 have hys : ∀ a ∈ ys, a.length = i.size := fun a ha => by rw [hys'] at ha; obtain ⟨x, -, rfl⟩ := List.mem_map.1 ha; rw [hsz1]; rfl
 have hyf : ys.flatten = str.data.toList.map D.y := by rw [hys', show (str.data.toList.map encB) = str.data.toList.map fun b => [D.y b] from rfl, flat_one]
 have x6 : RepL (OwnS (.room o e i.size es.length :: s0)) w xus ys.flatten := by
  rw [hxus, hyf]
  exact RepL.map fun x _ => .s _ rfl
 have x7 : ∀ d ∈ ys.flatten, d.leaf = true := fun d hd => by
  rw [hyf] at hd
  obtain ⟨x, -, rfl⟩ := List.mem_map.1 hd; rfl
 have hul : us.length = es.length * i.size := by
  rw [c6.1]; exact flat_len hes
 have hxl : xus.length = ys.length * i.size := by
  rw [x6.1]; exact flat_len hys
 by_cases hy : ys = []
 · subst hy
   refine ⟨_, w, o, ho, run_append_zero_str T U ty e i hd hu hi a es.length cap c1 str hyl, ?_, ?_, ?_⟩
   · simpa using hv
   · simpa using h
   · simpa using Ext.refl _ _
 · have hpos : 0 < ys.length := List.length_pos_iff.2 hy
   have hfl : RepL (OwnS (.room o e i.size es.length :: s0)) w (us ++ xus) (es ++ ys).flatten := by rw [List.flatten_append]; exact c6.append x6
   have hfleaf : ∀ d ∈ (es ++ ys).flatten, d.leaf = true := fun d hd => by
    rw [List.flatten_append, List.mem_append] at hd
    exact hd.elim (c7 d) (x7 d)
   have hfes : ∀ x ∈ es ++ ys, x.length = i.size := fun x hx => (List.mem_append.1 hx).elim (hes x) (hys x)
   have hful : (us ++ xus).length = (es.length + ys.length) * i.size := by rw [List.length_append, hul, hxl, Nat.add_mul]
   have hmaxl : es.length + ys.length ≤ maxLen := by unfold maxLen; omega
   have grow : ∀ old, (hlt : old < es.length + ys.length) → (hrun : (Builtin.append_ #[T, U] ty #[.slice a es.length cap, .string str]).run P w =
    .ok (.slice (some ⟨w.heap.size, 0, none⟩) (es.length + ys.length) (grownCap w (es.length + ys.length) old e)) (w.drew.alloc (.cells (us.toArray ++ xus.toArray ++ Builtin.zeroCells zv.cells (grownCap w (es.length + ys.length) old e - (es.length + ys.length))) e))) →
    ∃ v' w' o', o' ≠ .shared ∧ (Builtin.append_ #[T, U] ty #[.slice a es.length cap, .string str]).run P w = .ok v' w' ∧ Rep (OwnS (.room o' e i.size (es ++ ys).length :: s0)) w' v' (.sl o' (es ++ ys)) ∧ Holds (.room o' e i.size (es ++ ys).length :: s0) w' ∧
     Ext (OwnS (.room o e i.size es.length :: s0)) w (OwnS (.room o' e i.size (es ++ ys).length :: s0)) w' := by
    intro old hlt hrun
    have hge := grownCap_ge w (es.length + ys.length) old e
    have hcm := grownCap_le_maxLen w (es.length + ys.length) old e hmaxl
    generalize grownCap w (es.length + ys.length) old e = nc at *
    have hl2 : (es ++ ys).length = es.length + ys.length := List.length_append
    have hg := grown_rep (cap := nc) h hfl hfleaf hsz0 hfes (by rw [hl2]; exact hful) (by rw [hl2]; exact hge) hcm (Builtin.zeroCells zv.cells (nc - (es.length + ys.length))).toList (by rw [Array.length_toList, size_zeroCells, hzs, hl2])
    have heq : (us.toArray ++ xus.toArray ++ Builtin.zeroCells zv.cells (nc - (es.length + ys.length))) = ((us ++ xus) ++ (Builtin.zeroCells zv.cells (nc - (es.length + ys.length))).toList).toArray := by simp
    rw [heq] at hrun
    rw [← hl2] at hrun
    exact ⟨_, _, .row w.heap.size nc, by simp, by rw [hrun, hl2], hg.1, hg.2.1, hg.2.2⟩
   cases o with
   | shared => exact absurd rfl ho
   | tight =>
    have hcap : cap = es.length := c10
    subst hcap
    cases a with
    | none =>
     have h0 := c8 rfl
     have hes0 : es = [] := List.eq_nil_of_length_eq_zero h0
     have hus0 : us = [] := List.eq_nil_of_length_eq_zero (by rw [hul, h0, Nat.zero_mul])
     refine grow 0 (by omega) ?_
     rw [h0, hus0]
     have := run_append_nil_string (P := P) w T U ty e i zv hd hu hi hz str (by omega) (by omega) (by rw [hyl]; have : ys.length * i.bytes ≤ (es.length + ys.length) * i.bytes := Nat.mul_le_mul_right _ (by omega); omega)
     rw [str_cells, ← hxus, hyl] at this
     simp only [Nat.zero_add]
     rw [this]
     simp
    | some ad =>
     have hold := calm_own c9 rfl
     have hg := Lib.run_append_grow_string (P := P) w T U ty e i zv hd hu hi hz ad es.length es.length us hul hold str (by omega) (by omega) (by rw [hyl]; exact growslice_fits (by omega) hb)
     rw [← hxus, hyl] at hg
     exact grow es.length (by omega) hg
   | row g c =>
    obtain ⟨ha, rfl⟩ : a = some ⟨g, 0, none⟩ ∧ cap = c := c10
    subst ha
    have hold := calm_own c9 rfl
    by_cases hroom : es.length + ys.length ≤ cap
    · obtain ⟨cur, hg, hcs, -⟩ := h.2 _ (List.mem_cons_self ..)
      have hfit : es.length * i.size + xus.length ≤ cur.size := by rw [hxl, hcs, ← Nat.add_mul]; exact Nat.mul_le_mul_right _ hroom
      have hrun := Lib.run_append_room_string (P := P) w T U ty e i hd hu hi hsz1 g es.length cap cur hg str (by omega) (by have h9 := hfit; rw [hxl] at h9; simp only [hsz1, Nat.mul_one] at h9; omega)
      rw [← hxus, hyl] at hrun
      have hx1 : es.length = es.length * i.size := by rw [hsz1, Nat.mul_one]
      have hx2 : es.length + ys.length = es.length * i.size + xus.length := by rw [hxl, hsz1]; omega
      rw [show cur.toList.take es.length = cur.toList.take (es.length * i.size) by rw [← hx1], show cur.toList.drop (es.length + ys.length) = cur.toList.drop (es.length * i.size + xus.length) by rw [hx2]] at hrun
      have htake : cur.toList.take (es.length * i.size) = us := by
       apply List.ext_getElem?
       intro j
       rw [List.getElem?_take]
       split
       · rename_i hj
         have hj' : j < us.length := by omega
         have hcj := hold j us[j] (List.getElem?_eq_getElem hj')
         rw [add_lit, Nat.zero_add, cell_of_row w g j cur e (0, 0) hg] at hcj
         rw [List.getElem?_eq_getElem hj', ← hcj]
         simp
       · rw [List.getElem?_eq_none (by omega)]
      rw [htake] at hrun
      generalize hnew : (us ++ xus ++ cur.toList.drop (es.length * i.size + xus.length)) = L at *
      have hLs : L.length = cur.size := by
       rw [← hnew]
       simp only [List.length_append, List.length_drop, Array.length_toList, hul]
       omega
      have hgn : (w.setRow g L.toArray).heap[g]? = some (.cells L.toArray e (0, 0)) := setRow_heap w g cur L.toArray e (0, 0) hg
      have hne : ∀ x ∈ s0, x.blk ≠ some g := fun x hx => (List.pairwise_cons.1 h.1).1 x hx g rfl
      have hown : ∀ b off, OwnS (.room (.row g cap) e i.size (es.length + ys.length) :: s0) b off → OwnS (.room (.row g cap) e i.size es.length :: s0) b off := fun b off ho => by
       rcases OwnS.cons_iff.1 ho with ⟨h1, h2⟩ | h1
       · refine OwnS.cons_iff.2 (.inl ⟨h1, ?_⟩)
         simp only [Res.from] at h2 ⊢
         exact Nat.le_trans (Nat.mul_le_mul_right _ (by omega)) h2
       · exact OwnS.cons_iff.2 (.inr h1)
      have he : Ext (OwnS (.room (.row g cap) e i.size es.length :: s0)) w (OwnS (.room (.row g cap) e i.size (es.length + ys.length) :: s0)) (w.setRow g L.toArray) := by
       refine ⟨rfl, rfl, rfl, by simp, fun b off _ ho => hown b off ho, fun b hb hn => setRow_other w g b _ fun eb => ?_, fun b cc E fr hb => ?_⟩
       · subst eb
         exact hn (es.length * i.size) (OwnS.cons_iff.2 (.inl ⟨rfl, Nat.le_refl _⟩))
       · by_cases eb : b = g
         · subst eb
           rw [hg] at hb
           cases hb
           refine ⟨_, _, hgn, by simpa using hLs, fun off hn => ?_⟩
           have hoff : off < us.length := by
            rcases Nat.lt_or_ge off us.length with h1 | h1
            · exact h1
            · exact absurd (OwnS.cons_iff.2 (.inl ⟨rfl, by simp only [Res.from]; omega⟩)) hn
           have hcj := hold off us[off] (List.getElem?_eq_getElem hoff)
           rw [add_lit, Nat.zero_add, cell_of_row w b off cur e (0, 0) hg] at hcj
           rw [hcj, ← hnew]
           simp [List.getElem?_append_left hoff, hoff]
         · exact ⟨cc, fr, (setRow_other w g b _ eb).trans hb, rfl, fun _ _ => rfl⟩
      refine ⟨_, _, .row g cap, by simp, hrun, ?_, ?_, ?_⟩
      · rw [List.length_append]
        have hl2 : (es ++ ys).length = es.length + ys.length := List.length_append
        rw [← hl2]
        refine .sl _ (es ++ ys) _ cap (us ++ xus) i.size (by omega) c2 (fun e => by cases e) hsz0 hfes hfl.1 hfleaf (fun j hj => ⟨g, 0, rfl, ?_⟩) (by rw [hl2]; exact (hfl.ext he).2) ⟨rfl, rfl⟩
        rw [Nat.zero_add]
        refine ⟨(Array.getElem?_eq_some_iff.1 hgn).1, fun ho => ?_, ?_⟩
        · rw [hl2] at ho
          rcases OwnS.cons_iff.1 ho with ⟨_, h2⟩ | ⟨r, hr, hrb, _⟩
          · simp only [Res.from] at h2; omega
          · exact hne r hr hrb
        · rw [cell_of_row _ g j L.toArray e (0, 0) hgn, ← hnew, List.getElem?_toArray, List.getElem?_append_left hj, List.getElem?_eq_getElem hj]
      · rw [List.length_append]
        exact h.put he (fun x hx b hb => setRow_other w g b _ fun eb => hne x hx (eb ▸ hb)) ⟨_, hgn, by simpa [hLs] using hcs, hroom⟩ fun x hx b hb => by cases hb; exact hne x hx
      · rw [List.length_append]; exact he
    · have hg := Lib.run_append_grow_string (P := P) w T U ty e i zv hd hu hi hz ⟨g, 0, none⟩ es.length cap us hul hold str (by omega) (by omega) (by rw [hyl]; exact growslice_fits (by omega) hb)
      rw [← hxus, hyl] at hg
      exact grow cap (by omega) hg
theorem opC_appendStr {e : Nat → D} {t u : TypeId} {ti tu : TI} {x y : Operand} {el : TypeId} {bytes : Nat} {z : List Value} {ow : Own} {es : List (List D)} {str : ByteArray} {s1 : Own → St} {K : D → St → Prop} (ho : o.op = .call { callee := .builtin .append, args := #[x, y], argTypes := #[t, u] })
 (hx : ev e x = some (.sl ow es)) (hy : ev e y = some (.str str)) (ht : tinfo P t = some ti) (hk : ti.k = .slice el 1 bytes z) (htu : tinfo P u = some tu) (hku : tu.k = .string) (hne : ow ≠ .shared) (hat : ∀ o', ResAt (.room ow el 1 es.length) (.room o' el 1 (es ++ str.data.toList.map encB).length) st (s1 o'))
 (hes : ∀ a ∈ es, a.length = 1) (hb : (es.length + str.size) * bytes ≤ 140737488355328) (hm : es.length + str.size ≤ 140737488355328) (hK : ∀ o', o' ≠ .shared → K (.sl o' (es ++ str.data.toList.map encB)) (s1 o')) : OpC P r o e st K := by
 refine opC_val (by rw [ho]; intro c hc; cases hc) fun ρ w hr hh => .inl ?_
 have h1 := hr _ (by simp [ho, Op.operands, Call.operands]) _ hx
 have h2 := hr _ (by simp [ho, Op.operands, Call.operands]) _ hy
 have hyv := rep_s h2
 obtain ⟨s0, p1, -⟩ := (hat .shared).perm
 have hown := OwnS.perm p1
 rw [hown] at h1
 have hyl : (str.data.toList.map encB).length = str.size := by rw [List.length_map, Array.length_toList]; rfl
 obtain ⟨v', w', o', q1, q2, q3, q4, q5⟩ := run_appendStr t u o.type ht hk htu hku rfl (str := str) rfl (hh.perm p1) h1 hne hes (by rw [hyl]; exact hb) (by rw [hyl]; exact hm)
 obtain ⟨s0', p1', p2'⟩ := (hat o').perm
 have hs : s0.Perm s0' := (List.perm_cons _).1 (p1.symm.trans p1')
 have p3 : (Res.room o' el 1 (es ++ str.data.toList.map encB).length :: s0).Perm (s1 o') := (hs.cons _).trans p2'.symm
 refine ⟨v', w', ?_, .sl o' (es ++ str.data.toList.map encB), s1 o', ?_, q4.perm p3, ?_, hK o' q1⟩
 · unfold execOp
   rw [ho]
   simp only [resolve, invoke, builtin, Sem.run_bind, Sem.run_pure, Result.andThen_ok, List.map_toArray, List.map_cons, List.map_nil, hyv, q2]
 · rw [← OwnS.perm p3]; exact q3
 · rw [hown, ← OwnS.perm p3]; exact q5
end
attribute [push_cast] roOf look_same look_ne
end Go.Proofs.YtgcienlfpnpbgaaGreat
end
section
namespace Go.Proofs.YtgcienlfpnpbgaaGreat
open Go.RowKit
section
variable {P : Program} {N : Nat} {r : Option Nat} {A : AA} {st : St} {Q : Exit → AA → St → Prop}
theorem tr_cutR (id : Nat) (K : AA → St → Prop) {ops : Array Oper} {b : Bool} {c : Code} (h1 : Tr P N r (.region id ops b) A st (thenA K fun _ _ _ => False)) (h2 : ∀ A' st', K A' st' → Tr P N r c A' st' Q) : Tr P N r (.seq (.region id ops b) c) A st Q :=
 tr_seq (tr_mono h1 fun ex A' st' h => by
  cases ex with
  | normal => exact h2 A' st' h
  | exit id => exact h.elim
  | goto l => exact h.elim
  | ret => exact h.elim
  | panic c => exact h.elim
  | outgrown => exact h.elim)
end
theorem nt_t {a : Bool} (h : (!a) = true) : a = false := by simpa using h
theorem nt_f {a : Bool} (h : (!a) = false) : a = true := by simpa using h
theorem bne_t {a b : Int} (h : (a != b) = true) : a ≠ b := by simpa using h
theorem bne_f {a b : Int} (h : (a != b) = false) : a = b := by simpa using h
theorem isE_eq (x : ByteArray) : (x.toList == ByteArray.toList ⟨#[]⟩) = decide (x.size = 0) := by
 rw [ByteArray.toList_eq, ByteArray.toList_eq]
 have hl : x.data.toList.length = x.size := by simp
 by_cases h : x.size = 0
 · have : x.data.toList = [] := List.eq_nil_of_length_eq_zero (by omega)
   rw [this]; simp [h]
 · have : x.data.toList ≠ [] := fun e => by rw [e] at hl; simp at hl; omega
   rw [decide_eq_false h, beq_eq_false_iff_ne]
   exact this
end Go.Proofs.YtgcienlfpnpbgaaGreat
end
section
namespace Go.Proofs.YtgcienlfpnpbgaaGreat
open Go.RowKit
def Ev {α : Type} (x : Option α) (k : α → Prop) : Prop := ∃ d, x = some d ∧ k d
def W (P : Program) (r : Option Nat) (m : Option Ro) (ops : Array Oper) (K : AA → St → Prop) (l : List Oper) (A : AA) (st : St) : Prop :=
 match m with
 | none => TrOps P r ops l A st K
 | some ro => wpMixA P r ro ops K l A st
def Keep (m : Option Ro) (st : St) : Prop :=
 match m with
 | none => True
 | some ro => Keeps ro st
def roM (m : Option Ro) (st : St) : Ro :=
 match m with
 | none => roOf st
 | some ro => ro
def S (P : Program) (r : Option Nat) (m : Option Ro) (o : Oper) (A : AA) (st : St) (k : D → St → Prop) : Prop :=
 match m with
 | none => OpC P r o A.e st k
 | some ro => if freeA o then ∃ d, frC P ro o A.e = some d ∧ k d st else OpC P r o A.e st (fun d st' => Keeps ro st' ∧ k d st') ∧ ∃ d st', Keeps ro st' ∧ k d st'
theorem keeps_cons {ro : Ro} {st : St} {x : Res} (h : Keeps ro st) : Keeps ro (x :: st) := fun b cs hl => by
 obtain ⟨ty, hm⟩ := h b cs hl; exact ⟨ty, List.mem_cons_of_mem _ hm⟩
theorem keep_cons {m : Option Ro} {st : St} {x : Res} (h : Keep m st) : Keep m (x :: st) := by
 cases m with
 | none => trivial
 | some ro => exact keeps_cons h
theorem keep_none {st : St} : Keep none st := trivial
theorem keep_nil {st : St} : Keep (some []) st := keeps_nil
theorem keep_ro {st : St} : Keep (some (roOf st)) st := keeps_roOf st
section
variable {P : Program} {N : Nat} {r : Option Nat} {A : AA} {st : St} {Q : Exit → AA → St → Prop} {K : AA → St → Prop} {l : List Oper} {ops : Array Oper} {m : Option Ro} {k : D → St → Prop} {dst : Option Tmp} {op : Op} {ty : TypeId} {pos : String} {aft : Array Edge} {gd : Option (Nat × Bool)} {o : Oper}
theorem w_region {id : Nat} (hok : opsOk N l = true) (h : W P r none l.toArray (Q .normal) l A st) : Tr P N r (.region id l.toArray false) A st Q := tr_region hok h
theorem w_draw {id : Nat} (ro : Ro) (hm : P.follows .mixedOrders = true) (hB : mixBA .any l.toArray = true) (hok : opsOk N l = true) (hC : Keeps ro st) (h : W P r (some ro) l.toArray (Q .normal) l A st) : Tr P N r (.region id l.toArray true) A st Q := tr_draw ro hm hB hok hC h
theorem w_nil (h : K A st) : W P r m ops K [] A st := by
 cases m <;> exact h
theorem w_yes (hw : wantedA ops o A.e = true) (h : S P r m o A st fun d st' => W P r m ops K l (A.put o.dst d) st') : W P r m ops K (o :: l) A st := by
 cases m with
 | none =>
  show TrOps P r ops (o :: l) A st K
  unfold TrOps; rw [if_pos hw]; exact h
 | some ro =>
  show mOpA P r ro _ ops o _ A st
  unfold mOpA
  rw [if_pos hw]
  replace h : if freeA o then ∃ d, frC P ro o A.e = some d ∧ _ else _ := h
  split
  · rename_i hf; rw [if_pos hf] at h; exact h
  · rename_i hf
    rw [if_neg hf] at h
    obtain ⟨h1, d, st', h2, h3⟩ := h
    exact ⟨h1.mono fun d st' hk => ⟨.inr hk.1, hk.2⟩, d, st', .inr h2, h3⟩
theorem w_no (hw : wantedA ops o A.e = false) (h : W P r m ops K l (A.put o.dst D.un) st) : W P r m ops K (o :: l) A st := by
 cases m with
 | none => exact ops_skip rfl hw h
 | some ro => exact mixA_skip rfl hw h
def Gd (K1 K0 KF : AA → Prop) (A : AA) (t : Tmp) (b : Bool) (d : D) : Prop :=
 A.e t = d → match d with
  | .s (.bool c) => if c = b then K1 A else K0 A
  | _ => KF A
section
variable {K1 K0 KF : AA → Prop} {t : Tmp} {b c : Bool}
theorem gd_tt (h : K1 A) : Gd K1 K0 KF A t true (.s (.bool true)) := fun _ => h
theorem gd_ff (h : K1 A) : Gd K1 K0 KF A t false (.s (.bool false)) := fun _ => h
theorem gd_tf (h : K0 A) : Gd K1 K0 KF A t false (.s (.bool true)) := fun _ => h
theorem gd_ft (h : K0 A) : Gd K1 K0 KF A t true (.s (.bool false)) := fun _ => h
theorem gd_un (h : KF A) : Gd K1 K0 KF A t b D.un := fun _ => h
theorem put_self {d : D} (h : A.e t = d) : A.put (some t) d = A := by
 cases A with
 | mk e df =>
  show AA.mk (upd e (some t) d) df = _
  have : upd e (some t) d = e := by
   funext i
   show (if i = t then d else e i) = e i
   split
   · rename_i hi; subst hi; exact h.symm
   · rfl
  rw [this]
theorem gd_d1 (h1 : c = true → K1 (A.put (some t) (.s (.bool true)))) (h0 : c = false → K0 (A.put (some t) (.s (.bool false)))) : Gd K1 K0 KF A t true (.s (.bool c)) := fun h => by
 cases c
 · have := h0 rfl; rw [put_self h] at this; exact this
 · have := h1 rfl; rw [put_self h] at this; exact this
theorem gd_d0 (h1 : c = false → K1 (A.put (some t) (.s (.bool false)))) (h0 : c = true → K0 (A.put (some t) (.s (.bool true)))) : Gd K1 K0 KF A t false (.s (.bool c)) := fun h => by
 cases c
 · have := h1 rfl; rw [put_self h] at this; exact this
 · have := h0 rfl; rw [put_self h] at this; exact this
end
theorem w_step0 (h : S P r m ⟨dst, op, ty, pos, aft, none⟩ A st fun d st' => W P r m ops K l (A.put dst d) st') : W P r m ops K (⟨dst, op, ty, pos, aft, none⟩ :: l) A st := w_yes (wanted_none rfl) h
theorem w_last {ro : Ro} (hl : lastAll ops = true) (hf : freeA ⟨dst, op, ty, pos, aft, none⟩ = false) (h : S P r (some []) ⟨dst, op, ty, pos, aft, none⟩ A st fun d st' => K (A.put dst d) st') : W P r (some ro) ops K [⟨dst, op, ty, pos, aft, none⟩] A st := by
 show mOpA P r ro (true && lastAll ops) ops ⟨dst, op, ty, pos, aft, none⟩ (wpMixA P r ro ops K []) A st
 unfold mOpA
 rw [if_pos (wanted_none rfl), if_neg (by rw [hf]; exact Bool.false_ne_true), hl]
 replace h : if freeA ⟨dst, op, ty, pos, aft, none⟩ then ∃ d, frC P [] ⟨dst, op, ty, pos, aft, none⟩ A.e = some d ∧ _ else _ := h
 rw [if_neg (by rw [hf]; exact Bool.false_ne_true)] at h
 obtain ⟨h1, d, st', h2, h3⟩ := h
 exact ⟨h1.mono fun d st' hk => ⟨.inl rfl, hk.2⟩, d, st', .inl rfl, h3⟩
theorem w_stepG {j : Nat} {b : Bool} {t : Tmp} (ht : (ops[j]?).bind (·.dst) = some t) (h : Ev (ev A.e (.tmp t)) (Gd (fun A => S P r m ⟨dst, op, ty, pos, aft, some (j, b)⟩ A st fun d st' => W P r m ops K l (A.put dst d) st') (fun A => W P r m ops K l (A.put dst D.un) st) (fun A => W P r m ops K l (A.put dst D.un) st) A t b)) : W P r m ops K (⟨dst, op, ty, pos, aft, some (j, b)⟩ :: l) A st := by
 obtain ⟨d, h1, h2⟩ := h
 have h1 : A.e t = d := by cases h1; rfl
 have h3 := h2 h1
 clear h2
 by_cases hw : wantedA ops ⟨dst, op, ty, pos, aft, some (j, b)⟩ A.e = true
 · refine w_yes hw ?_
   unfold wantedA at hw
   dsimp only at hw
   rw [ht] at hw
   dsimp only at hw
   rw [h1] at hw
   split at h3
   · rename_i c
     dsimp only at hw
     rw [if_pos (by simpa using hw)] at h3
     exact h3
   · rename_i hne
     exfalso
     split at hw
     · exact hne _ rfl
     · cases hw
 · have hw : wantedA ops ⟨dst, op, ty, pos, aft, some (j, b)⟩ A.e = false := by simpa using hw
   refine w_no hw ?_
   unfold wantedA at hw
   dsimp only at hw
   rw [ht] at hw
   dsimp only at hw
   rw [h1] at hw
   split at h3
   · rename_i c
     dsimp only at hw
     rw [if_neg (by simpa using hw)] at h3
     exact h3
   · exact h3
theorem tr_condT {t : Tmp} {x y : Code} (h : Ev (ev A.e (.tmp t)) (Gd (fun A => Tr P N r x A st Q) (fun A => Tr P N r y A st Q) (fun _ => False) A t true)) : Tr P N r (.cond (.tmp t) x y) A st Q := by
 obtain ⟨d, h1, h2⟩ := h
 have h3 : A.e t = d := by cases h1; rfl
 have h4 := h2 h3
 split at h4
 · rename_i c
   split at h4
   · rename_i hc; subst hc; exact tr_true h1 h4
   · rename_i hc
     have : c = false := by simpa using hc
     subst this; exact tr_false h1 h4
 · exact h4.elim
theorem tr_condCt {x y : Code} (h : Tr P N r x A st Q) : Tr P N r (.cond (.const (.bool true)) x y) A st Q := tr_true rfl h
theorem tr_condCf {x y : Code} (h : Tr P N r y A st Q) : Tr P N r (.cond (.const (.bool false)) x y) A st Q := tr_false rfl h
theorem s_free (hf : freeA o = true) (h : Ev (frC P (roM m st) o A.e) fun d => k d st) : S P r m o A st k := by
 obtain ⟨d, h1, h2⟩ := h
 cases m with
 | none => exact (frC_sound (keeps_roOf st) h1).opC h2
 | some ro =>
  show if freeA o then _ else _
  rw [if_pos hf]; exact ⟨d, h1, h2⟩
theorem s_op (hf : freeA ⟨dst, op, ty, pos, aft, gd⟩ = true) (hn : ∀ t x, op ≠ .load t x) (h : Ev (aOp P ⟨dst, op, ty, pos, aft, gd⟩ A.e) fun d => k d st) : S P r m ⟨dst, op, ty, pos, aft, gd⟩ A st k := by
 refine s_free hf ?_
 obtain ⟨d, h1, h2⟩ := h
 refine ⟨d, ?_, h2⟩
 unfold frC
 split
 · rename_i t x he; exact absurd he (hn t x)
 · exact h1
theorem s_move {x : Operand} (h : Ev (ev A.e x) fun d => k d st) : S P r m ⟨dst, .move x, ty, pos, aft, gd⟩ A st k := s_op rfl (fun _ _ e => by cases e) h
theorem s_assign {x : Operand} (h : Ev (ev A.e x) fun d => k d st) : S P r m ⟨dst, .assign x, ty, pos, aft, gd⟩ A st k := s_op rfl (fun _ _ e => by cases e) h
def aBin2 (P : Program) (b : BinOp) (t : TypeId) : Option D → Option D → Option D
 | some x, some y => aBin P b t x y
 | _, _ => none
theorem aBin2_some {b : BinOp} {t : TypeId} {x y : D} : aBin2 P b t (some x) (some y) = aBin P b t x y := rfl
theorem s_bin {b : BinOp} {t t' : TypeId} {x y : Operand} (h : Ev (aBin2 P b t (ev A.e x) (ev A.e y)) fun d => k d st) : S P r m ⟨dst, .binOp b t x y t', ty, pos, aft, gd⟩ A st k := s_op rfl (fun _ _ e => by cases e) (by
 unfold aBin2 at h
 exact h)
theorem s_un {b : UnOp} {t : TypeId} {x : Operand} (h : Ev ((ev A.e x).bind (aUn b)) fun d => k d st) : S P r m ⟨dst, .unOp b t x, ty, pos, aft, gd⟩ A st k := s_op rfl (fun _ _ e => by cases e) h
theorem s_conv {a b : TypeId} {x : Operand} (h : Ev ((ev A.e x).bind (aConv P a b)) fun d => k d st) : S P r m ⟨dst, .convert a b x, ty, pos, aft, gd⟩ A st k := s_op rfl (fun _ _ e => by cases e) h
theorem s_field {t : TypeId} {f : Nat} {x : Operand} (h : Ev ((ev A.e x).bind (aField P t f)) fun d => k d st) : S P r m ⟨dst, .field t x f, ty, pos, aft, gd⟩ A st k := s_op rfl (fun _ _ e => by cases e) h
theorem s_fieldAddr {t : TypeId} {f : Nat} {x : Operand} (h : Ev ((ev A.e x).bind (aFieldAddr P t f)) fun d => k d st) : S P r m ⟨dst, .fieldAddr t x f, ty, pos, aft, gd⟩ A st k := s_op rfl (fun _ _ e => by cases e) h
def aExt (i : Nat) : Option D → Option D
 | some (.tup ds) => ds[i]?
 | _ => none
theorem aExt_some {i : Nat} {ds : List D} : aExt i (some (.tup ds)) = ds[i]? := rfl
theorem s_ext {i : Nat} {x : Operand} (h : Ev (aExt i (ev A.e x)) fun d => k d st) : S P r m ⟨dst, .extract x i, ty, pos, aft, gd⟩ A st k := s_op rfl (fun _ _ e => by cases e) (by
 unfold aExt at h
 exact h)
def aIdx (f : D → Int → Option D) : Option D → Option Int → Option D
 | some d, some n => f d n
 | _, _ => none
theorem aIdx_some {f : D → Int → Option D} {d : D} {n : Int} : aIdx f (some d) (some n) = f d n := rfl
theorem s_index {t : TypeId} {x y : Operand} (h : Ev (aIdx (aIndex P t) (ev A.e x) (intOfD (ev A.e y))) fun d => k d st) : S P r m ⟨dst, .index t x y, ty, pos, aft, gd⟩ A st k := s_op rfl (fun _ _ e => by cases e) (by
 unfold aIdx at h
 exact h)
theorem s_indexAddr {t : TypeId} {x y : Operand} (h : Ev (aIdx (aIndexAddr P t) (ev A.e x) (intOfD (ev A.e y))) fun d => k d st) : S P r m ⟨dst, .indexAddr t x y, ty, pos, aft, gd⟩ A st k := s_op rfl (fun _ _ e => by cases e) (by
 unfold aIdx at h
 exact h)
theorem s_bi {b : Builtin} {args : Array Operand} {tys : Array TypeId} (hf : freeA ⟨dst, .call ⟨.builtin b, args, tys⟩, ty, pos, aft, gd⟩ = true) (h : Ev ((evL A.e args.toList).bind (aBi P b tys.toList)) fun d => k d st) : S P r m ⟨dst, .call ⟨.builtin b, args, tys⟩, ty, pos, aft, gd⟩ A st k := s_op hf (fun _ _ e => by cases e) h
theorem s_pick {t : Tmp} {x y : Operand} (h : Ev (ev A.e (.tmp t)) (Gd (fun A => Ev (ev A.e x) fun d => k d st) (fun A => Ev (ev A.e y) fun d => k d st) (fun _ => False) A t true)) : S P r m ⟨dst, .pick (.tmp t) x y, ty, pos, aft, gd⟩ A st k := by
 obtain ⟨d, h1, h2⟩ := h
 have h3 : A.e t = d := by cases h1; rfl
 have h4 := h2 h3
 split at h4
 · rename_i c
   split at h4
   · rename_i hc
     subst hc
     obtain ⟨d, h5, h6⟩ := h4
     exact s_op rfl (fun _ _ e => by cases e) ⟨d, by simp [aOp, h1, h5], h6⟩
   · rename_i hc
     have : c = false := by simpa using hc
     subst this
     obtain ⟨d, h5, h6⟩ := h4
     exact s_op rfl (fun _ _ e => by cases e) ⟨d, by simp [aOp, h1, h5], h6⟩
 · exact h4.elim
def aNil : Option D → Option D
 | some (.ptr b o) => some (.ptr b o)
 | some (.ip c) => some (.ip c)
 | some (.fn (.func f) a b) => some (.fn (.func f) a b)
 | some (.fn (.yield f) a b) => some (.fn (.yield f) a b)
 | _ => none
theorem aNil_ptr {b o : Nat} : aNil (some (.ptr b o)) = some (.ptr b o) := rfl
theorem aNil_ip {c : List D} : aNil (some (.ip c)) = some (.ip c) := rfl
theorem aNil_func {f : FuncId} {a b : List D} : aNil (some (.fn (.func f) a b)) = some (.fn (.func f) a b) := rfl
theorem aNil_yield {f : Nat} {a b : List D} : aNil (some (.fn (.yield f) a b)) = some (.fn (.yield f) a b) := rfl
theorem s_nil {x : Operand} (h : Ev (aNil (ev A.e x)) fun d => k d st) : S P r m ⟨dst, .nilCheck x, ty, pos, aft, gd⟩ A st k := s_op rfl (fun _ _ e => by cases e) (by
 unfold aNil at h
 exact h)
def aMk (fn : Fn) : Option (List D) → Option (List D) → Option D
 | some a, some b => some (.fn fn a b)
 | _, _ => none
theorem aMk_some {fn : Fn} {a b : List D} : aMk fn (some a) (some b) = some (.fn fn a b) := rfl
theorem s_mk {fn : Fn} {a b : Array Operand} (h : Ev (aMk fn (evL A.e a.toList) (evL A.e b.toList)) fun d => k d st) : S P r m ⟨dst, .makeFunc fn a b, ty, pos, aft, gd⟩ A st k := s_op rfl (fun _ _ e => by cases e) (by
 unfold aMk at h
 exact h)
def aSl (f : D → Option Int → Option Int → Option Int → Option D) : Option D → Option (Option Int) → Option (Option Int) → Option (Option Int) → Option D
 | some d, some a, some b, some c => f d a b c
 | _, _, _, _ => none
theorem aSl_some {f : D → Option Int → Option Int → Option Int → Option D} {d : D} {a b c : Option Int} : aSl f (some d) (some a) (some b) (some c) = f d a b c := rfl
theorem s_slice {t : TypeId} {x : Operand} {lo hi mx : Option Operand} (h : Ev (aSl (aSlice P t) (ev A.e x) (optInt A.e lo) (optInt A.e hi) (optInt A.e mx)) fun d => k d st) : S P r m ⟨dst, .slice t x lo hi mx, ty, pos, aft, gd⟩ A st k := s_op rfl (fun _ _ e => by cases e) (by
 unfold aSl at h
 exact h)
theorem s_build {t : TypeId} {ps : Array (Nat × Operand)} (h : Ev ((evP A.e ps.toList).bind (aBuild P t)) fun d => k d st) : S P r m ⟨dst, .build t ps, ty, pos, aft, gd⟩ A st k := s_op rfl (fun _ _ e => by cases e) h
theorem s_buildSlice {t : TypeId} {n : Nat} {ps : Array (Nat × Operand)} (h : Ev ((evP A.e ps.toList).bind (aBuildSlice P t n)) fun d => k d st) : S P r m ⟨dst, .buildSlice t n ps, ty, pos, aft, gd⟩ A st k := s_op rfl (fun _ _ e => by cases e) h
def boxD (d : D) : Option D :=
 match d.cells.all D.leaf with
 | true => some (.ip d.cells)
 | false => none
theorem s_ip {t : TypeId} {x : Operand} (h : Ev ((ev A.e x).bind boxD) fun d => k d st) : S P r m ⟨dst, .box t x, ty, pos, aft, gd⟩ A st k := s_op rfl (fun _ _ e => by cases e) (by
 obtain ⟨d, h1, h2⟩ := h
 refine ⟨d, ?_, h2⟩
 unfold aOp
 dsimp only
 cases hx : ev A.e x with
 | none => rw [hx] at h1; cases h1
 | some d' =>
  rw [hx, Option.bind_some] at h1
  unfold boxD at h1
  split at h1
  · rename_i hl; cases h1; simp [hl]
  · cases h1)
def readT (P : Program) (t : TypeId) (cs : List D) : Option D := (tinfo P t).bind fun ti => readD ti cs
def LoadK (P : Program) (m : Option Ro) (t : TypeId) (d : D) (st : St) (k : D → St → Prop) : Prop :=
 match d with
 | .ip cs => Ev (readT P t cs) fun d => k d st
 | .ptr b off => ∃ cs, ((roM m st).lookup b = some cs ∨ (m = none ∧ ∃ ty, Res.box b ty cs ∈ st)) ∧ Ev (readT P t (cs.drop off)) fun d => k d st
 | _ => False
theorem lk_ip {t : TypeId} {cs : List D} (h : Ev (readT P t cs) fun d => k d st) : LoadK P m t (.ip cs) st k := h
theorem lk_mem {t : TypeId} {b off : Nat} {bt : TypeId} {cs : List D} (hm : Res.box b bt cs ∈ st) (h : Ev (readT P t (cs.drop off)) fun d => k d st) : LoadK P none t (.ptr b off) st k := ⟨cs, .inr ⟨rfl, bt, hm⟩, h⟩
theorem lk_ptr {t : TypeId} {b off : Nat} (h : Ev ((roM m st).lookup b) fun cs => Ev (readT P t (cs.drop off)) fun d => k d st) : LoadK P m t (.ptr b off) st k := by
 obtain ⟨cs, h1, h2⟩ := h
 exact ⟨cs, .inl h1, h2⟩
theorem s_load {t : TypeId} {x : Operand} (h : Ev (ev A.e x) fun d => LoadK P m t d st k) : S P r m ⟨dst, .load t x, ty, pos, aft, gd⟩ A st k := by
 obtain ⟨d, h1, h2⟩ := h
 unfold LoadK at h2
 split at h2
 · rename_i cs
   refine s_free rfl ?_
   obtain ⟨d, h3, h4⟩ := h2
   refine ⟨d, ?_, h4⟩
   unfold readT at h3
   cases ht : tinfo P t with
   | none => rw [ht] at h3; cases h3
   | some ti =>
    rw [ht] at h3
    simp only [frC, h1, ht]
    exact h3
 · rename_i b off
   obtain ⟨cs, h3, d, h4, h5⟩ := h2
   unfold readT at h4
   cases ht : tinfo P t with
   | none => rw [ht] at h4; cases h4
   | some ti =>
    rw [ht] at h4
    rcases h3 with h3 | ⟨rfl, bt, h3⟩
    · refine s_free rfl ⟨d, ?_, h5⟩
      simp only [frC, h1, ht, h3]
      exact h4
    · exact opC_loadBox rfl h1 ht h3 h4 h5
 · exact h2.elim
theorem s_chain {R : D → St → Prop} (hf : freeA o = false) (hc : OpC P r o A.e st R) (hex : ∃ d st', R d st') (h : ∀ d st', R d st' → Keep m st' ∧ k d st') : S P r m o A st k := by
 cases m with
 | none => exact hc.mono fun d st' hk => (h d st' hk).2
 | some ro =>
  show if freeA o then _ else _
  rw [if_neg (by rw [hf]; exact Bool.false_ne_true)]
  obtain ⟨d, st', hk⟩ := hex
  exact ⟨hc.mono fun d st' hk => h d st' hk, d, st', h d st' hk⟩
def stoD (P : Program) (t : TypeId) (cs : List D) (off : Nat) (dc : List D) : Option (List D) := (tinfo P t).bind fun ti => if dc.length = ti.sz ∧ dc.all D.leaf = true ∧ off + dc.length ≤ cs.length then some (splice cs off dc) else none
def StoK (P : Program) (m : Option Ro) (t : TypeId) (d : D) (d' : D) (st : St) (k : D → St → Prop) : Prop :=
 ∃ (b off : Nat) (ty : TypeId) (cs : List D) (s1 : List D → St), d = .ptr b off ∧ (∀ cs', ResAt (.box b ty cs) (.box b ty cs') st (s1 cs')) ∧ Ev (stoD P t cs off d'.cells) fun cs' => Keep m (s1 cs') ∧ k D.un (s1 cs')
theorem sto_go {t : TypeId} {b off : Nat} {ty : TypeId} {cs : List D} {d' : D} {s1 : List D → St} (hat : ∀ cs', ResAt (.box b ty cs) (.box b ty cs') st (s1 cs')) (h : Ev (stoD P t cs off d'.cells) fun cs' => Keep m (s1 cs') ∧ k D.un (s1 cs')) : StoK P m t (.ptr b off) d' st k := ⟨b, off, ty, cs, s1, rfl, hat, h⟩
theorem s_store {t : TypeId} {x y : Operand} (h : Ev (ev A.e x) fun d => Ev (ev A.e y) fun d' => StoK P m t d d' st k) : S P r m ⟨dst, .store t x y, ty, pos, aft, gd⟩ A st k := by
 obtain ⟨d, h1, d', h2, b, off, ty, cs, s1, rfl, hat, cs', h3, h4⟩ := h
 unfold stoD at h3
 cases ht : tinfo P t with
 | none => rw [ht] at h3; cases h3
 | some ti =>
  rw [ht, Option.bind_some] at h3
  split at h3
  · rename_i hc
    cases h3
    exact s_chain (R := fun d s => d = D.un ∧ s = s1 (splice cs off d'.cells)) rfl (opC_store rfl h1 h2 ht hc.1 hc.2.1 (hat _) hc.2.2 ⟨rfl, rfl⟩) ⟨_, _, rfl, rfl⟩ fun d s ⟨e1, e2⟩ => by subst e1 e2; exact h4
  · cases h3
def alloD (P : Program) (t : TypeId) : Option (List D) := (tinfo P t).bind fun ti => if ti.zero.all (fun v => noAgg v && (leafD v).leaf) then some (ti.zero.map leafD) else none
def AlK (m : Option Ro) (t : TypeId) (cs : List D) (st : St) (k : D → St → Prop) : Prop := ∀ b, Keep m (.box b t cs :: st) ∧ k (.ptr b 0) (.box b t cs :: st)
theorem al_go {t : TypeId} {cs : List D} (h : ∀ b, Keep m (.box b t cs :: st) ∧ k (.ptr b 0) (.box b t cs :: st)) : AlK m t cs st k := h
theorem s_alloc {t : TypeId} (h : Ev (alloD P t) fun cs => AlK m t cs st k) : S P r m ⟨dst, .alloc t, ty, pos, aft, gd⟩ A st k := by
 obtain ⟨cs, h1, h2⟩ := h
 unfold alloD at h1
 cases ht : tinfo P t with
 | none => rw [ht] at h1; cases h1
 | some ti =>
  rw [ht, Option.bind_some] at h1
  split at h1
  · rename_i hz
    cases h1
    exact s_chain (R := fun d s => ∃ b, d = .ptr b 0 ∧ s = .box b t (ti.zero.map leafD) :: st) rfl (opC_alloc rfl ht hz fun b => ⟨b, rfl, rfl⟩) ⟨_, _, 0, rfl, rfl⟩ fun d s ⟨b, e1, e2⟩ => by subst e1 e2; exact h2 b
  · cases h1
def callD (e : Nat → D) (g : Operand) (args : Array Operand) : Option (FuncId × List D) :=
 match ev e g with
 | some (.fn (.func f) first caps) => (evL e args.toList).map fun ds => (f, first ++ ds ++ caps)
 | _ => none
def callX (d : Option D) (l : Option (List D)) : Option (FuncId × List D) :=
 match d with
 | some (.fn (.func f) first caps) => l.map fun ds => (f, first ++ ds ++ caps)
 | _ => none
theorem callX_some {f : FuncId} {first caps ds : List D} : callX (some (.fn (.func f) first caps)) (some ds) = some (f, first ++ ds ++ caps) := rfl
def CallK (P : Program) (m : Option Ro) (p : FuncId × List D) (st : St) (k : D → St → Prop) : Prop :=
 ∃ R, (∀ args w, (callFunc p.1 args).run P w = .ok (.enter p.1 args) w) ∧ TrF P p.1 p.2 st R ∧ (∃ d st', R d st') ∧ ∀ d st', R d st' → Keep m st' ∧ k d st'
theorem s_call {g : Operand} {args : Array Operand} {tys : Array TypeId} (h : Ev (callX (ev A.e g) (evL A.e args.toList)) fun p => CallK P m p st k) : S P r m ⟨dst, .call ⟨.value g, args, tys⟩, ty, pos, aft, gd⟩ A st k := by
 obtain ⟨⟨f, ds⟩, h1, R, h2, h3, h4, h5⟩ := h
 unfold callX at h1
 split at h1
 · rename_i f' first caps hg
   cases ha : evL A.e args.toList with
   | none => rw [ha] at h1; cases h1
   | some ds' =>
    rw [ha] at h1
    cases h1
    exact s_chain rfl (opC_call rfl rfl hg ha h2 h3) h4 h5
 · cases h1
section
variable {f : FuncId} {ds ds' : List D} {X : D} {s1 : St}
theorem ck_eq (henter : ∀ args w, (callFunc f args).run P w = .ok (.enter f args) w) (h : TrF P f ds st fun d st' => d = X ∧ st' = s1) (hk : Keep m s1 ∧ k X s1) : CallK P m (f, ds) st k := ⟨_, henter, h, ⟨_, _, rfl, rfl⟩, fun d st' ⟨e1, e2⟩ => by subst e1 e2; exact hk⟩
theorem ck_le (henter : ∀ args w, (callFunc f args).run P w = .ok (.enter f args) w) (hle : LEL ds ds') (h : TrF P f ds' st fun d st' => d = X ∧ st' = s1) (hk : Keep m s1 ∧ k X s1) : CallK P m (f, ds) st k := ck_eq henter (h.le hle) hk
theorem ck_ex {ι : Type} {p : ι → Prop} {F : ι → D} {Sx : ι → St} (henter : ∀ args w, (callFunc f args).run P w = .ok (.enter f args) w) (hle : LEL ds ds') (h : TrF P f ds' st fun d st' => ∃ i, p i ∧ d = F i ∧ st' = Sx i) (hex : ∃ i, p i) (hk : ∀ i, p i → Keep m (Sx i) ∧ k (F i) (Sx i)) : CallK P m (f, ds) st k := by
 obtain ⟨i0, hi0⟩ := hex
 exact ⟨_, henter, h.le hle, ⟨_, _, i0, hi0, rfl, rfl⟩, fun d st' ⟨i, hi, e1, e2⟩ => by subst e1 e2; exact hk i hi⟩
end
def AppK (P : Program) (m : Option Ro) (t : TypeId) (p : D × D) (st : St) (k : D → St → Prop) : Prop :=
 ∃ (ti : TI) (el : TypeId) (sz bytes : Nat) (z : List Value) (ow oy : Own) (es ys : List (List D)) (s1 : Own → St), p = (.sl ow es, .sl oy ys) ∧ tinfo P t = some ti ∧ ti.k = .slice el sz bytes z ∧ ow ≠ .shared ∧ (∀ o', ResAt (.room ow el sz es.length) (.room o' el sz (es ++ ys).length) st (s1 o')) ∧ (∀ a ∈ es, a.length = sz) ∧ (∀ a ∈ ys, a.length = sz) ∧ (es.length + ys.length) * bytes ≤ 140737488355328 ∧ es.length + ys.length ≤ 140737488355328 ∧ ∀ o', o' ≠ .shared → Keep m (s1 o') ∧ k (.sl o' (es ++ ys)) (s1 o')
def pairX (a b : Option D) : Option (D × D) :=
 match a, b with
 | some x, some y => some (x, y)
 | _, _ => none
theorem pairX_some {x y : D} : pairX (some x) (some y) = some (x, y) := rfl
theorem s_app {t : TypeId} {x y : Operand} (h : Ev (pairX (ev A.e x) (ev A.e y)) fun p => AppK P m t p st k) : S P r m ⟨dst, .call ⟨.builtin .append, #[x, y], #[t, t]⟩, ty, pos, aft, gd⟩ A st k := by
 obtain ⟨p, h1, ti, el, sz, bytes, z, ow, oy, es, ys, s1, rfl, h2, h3, h4, h5, h6, h7, h8, h9, h10⟩ := h
 unfold pairX at h1
 split at h1
 · rename_i d d' hx hy
   cases h1
   exact s_chain (R := fun d st' => ∃ o', o' ≠ .shared ∧ d = .sl o' (es ++ ys) ∧ st' = s1 o') rfl (opC_append rfl hx hy h2 h3 h4 h5 h6 h7 h8 h9 fun o' h => ⟨o', h, rfl, rfl⟩) ⟨_, _, .tight, by simp, rfl, rfl⟩ fun d st' ⟨o', h, e1, e2⟩ => by subst e1 e2; exact h10 o' h
 · cases h1
def sliceT (P : Program) (t : TypeId) : Option (TypeId × Nat × Nat) := (tinfo P t).bind fun ti => match ti.k with
 | .slice el sz bytes _ => some (el, sz, bytes)
 | _ => none
theorem sliceT_spec {t : TypeId} {el : TypeId} {sz bytes : Nat} (h : sliceT P t = some (el, sz, bytes)) : ∃ ti z, tinfo P t = some ti ∧ ti.k = .slice el sz bytes z := by
 unfold sliceT at h
 cases ht : tinfo P t with
 | none => rw [ht] at h; cases h
 | some ti =>
  rw [ht, Option.bind_some] at h
  split at h
  · rename_i z hk; cases h; exact ⟨ti, z, rfl, hk⟩
  · cases h
def stringT (P : Program) (t : TypeId) : Option Bool := (tinfo P t).bind fun ti => match ti.k with
 | .string => some true
 | _ => none
theorem stringT_spec {t : TypeId} (h : stringT P t = some true) : ∃ ti, tinfo P t = some ti ∧ ti.k = .string := by
 unfold stringT at h
 cases ht : tinfo P t with
 | none => rw [ht] at h; cases h
 | some ti =>
  rw [ht, Option.bind_some] at h
  split at h
  · rename_i hk; exact ⟨ti, rfl, hk⟩
  · cases h
def App2 (m : Option Ro) (q : TypeId × Nat × Nat) (p : D × D) (st : St) (k : D → St → Prop) : Prop :=
 ∃ (ow oy : Own) (es ys : List (List D)) (s1 : Own → St), p = (.sl ow es, .sl oy ys) ∧ ow ≠ .shared ∧ (∀ o', ResAt (.room ow q.1 q.2.1 es.length) (.room o' q.1 q.2.1 (es ++ ys).length) st (s1 o')) ∧ (∀ a ∈ es, a.length = q.2.1) ∧ (∀ a ∈ ys, a.length = q.2.1) ∧ (es.length + ys.length) * q.2.2 ≤ 140737488355328 ∧ es.length + ys.length ≤ 140737488355328 ∧ ∀ o', o' ≠ .shared → Keep m (s1 o') ∧ k (.sl o' (es ++ ys)) (s1 o')
theorem ak_go {t : TypeId} {p : D × D} (h : Ev (sliceT P t) fun q => App2 m q p st k) : AppK P m t p st k := by
 obtain ⟨⟨el, sz, bytes⟩, h1, ow, oy, es, ys, s1, h2, h3, h4, h5, h6, h7, h8, h9⟩ := h
 obtain ⟨ti, z, h10, h11⟩ := sliceT_spec h1
 exact ⟨ti, el, sz, bytes, z, ow, oy, es, ys, s1, h2, h10, h11, h3, h4, h5, h6, h7, h8, h9⟩
theorem a2_go {el : TypeId} {sz bytes : Nat} {ow oy : Own} {es ys : List (List D)} {s1 : Own → St} (h4 : ow ≠ .shared) (h5 : ∀ o', ResAt (.room ow el sz es.length) (.room o' el sz (es ++ ys).length) st (s1 o')) (h6 : ∀ a ∈ es, a.length = sz) (h7 : ∀ a ∈ ys, a.length = sz) (h8 : (es.length + ys.length) * bytes ≤ 140737488355328) (h9 : es.length + ys.length ≤ 140737488355328)
 (h10 : ∀ o', o' ≠ .shared → Keep m (s1 o') ∧ k (.sl o' (es ++ ys)) (s1 o')) : App2 m (el, sz, bytes) (.sl ow es, .sl oy ys) st k := ⟨ow, oy, es, ys, s1, rfl, h4, h5, h6, h7, h8, h9, h10⟩
def ApsK (P : Program) (m : Option Ro) (t u : TypeId) (p : D × D) (st : St) (k : D → St → Prop) : Prop :=
 ∃ (ti tu : TI) (el : TypeId) (bytes : Nat) (z : List Value) (ow : Own) (es : List (List D)) (str : ByteArray) (s1 : Own → St), p = (.sl ow es, .str str) ∧ tinfo P t = some ti ∧ ti.k = .slice el 1 bytes z ∧ tinfo P u = some tu ∧ tu.k = .string ∧ ow ≠ .shared ∧ (∀ o', ResAt (.room ow el 1 es.length) (.room o' el 1 (es ++ str.data.toList.map encB).length) st (s1 o')) ∧ (∀ a ∈ es, a.length = 1) ∧ (es.length + str.size) * bytes ≤ 140737488355328 ∧ es.length + str.size ≤ 140737488355328 ∧ ∀ o', o' ≠ .shared → Keep m (s1 o') ∧ k (.sl o' (es ++ str.data.toList.map encB)) (s1 o')
theorem s_aps {t u : TypeId} {x y : Operand} (h : Ev (pairX (ev A.e x) (ev A.e y)) fun p => ApsK P m t u p st k) : S P r m ⟨dst, .call ⟨.builtin .append, #[x, y], #[t, u]⟩, ty, pos, aft, gd⟩ A st k := by
 obtain ⟨p, h1, ti, tu, el, bytes, z, ow, es, str, s1, rfl, h2, h3, h4, h5, h6, h7, h8, h9, h10, h11⟩ := h
 unfold pairX at h1
 split at h1
 · rename_i d d' hx hy
   cases h1
   exact s_chain (R := fun d st' => ∃ o', o' ≠ .shared ∧ d = .sl o' (es ++ str.data.toList.map encB) ∧ st' = s1 o') rfl (opC_appendStr rfl hx hy h2 h3 h4 h5 h6 h7 h8 h9 h10 fun o' h => ⟨o', h, rfl, rfl⟩) ⟨_, _, .tight, by simp, rfl, rfl⟩ fun d st' ⟨o', h, e1, e2⟩ => by subst e1 e2; exact h11 o' h
 · cases h1
def Aps2 (m : Option Ro) (q : TypeId × Nat × Nat) (p : D × D) (st : St) (k : D → St → Prop) : Prop :=
 ∃ (ow : Own) (es : List (List D)) (str : ByteArray) (s1 : Own → St), p = (.sl ow es, .str str) ∧ q.2.1 = 1 ∧ ow ≠ .shared ∧ (∀ o', ResAt (.room ow q.1 1 es.length) (.room o' q.1 1 (es ++ str.data.toList.map encB).length) st (s1 o')) ∧ (∀ a ∈ es, a.length = 1) ∧ (es.length + str.size) * q.2.2 ≤ 140737488355328 ∧ es.length + str.size ≤ 140737488355328 ∧ ∀ o', o' ≠ .shared → Keep m (s1 o') ∧ k (.sl o' (es ++ str.data.toList.map encB)) (s1 o')
theorem ap_go {t u : TypeId} {p : D × D} (h : Ev (stringT P u) fun b => b = true ∧ Ev (sliceT P t) fun q => Aps2 m q p st k) : ApsK P m t u p st k := by
 obtain ⟨b, h0, rfl, ⟨el, sz, bytes⟩, h1, ow, es, str, s1, h2, e, h3, h4, h5, h6, h7, h8⟩ := h
 dsimp only at e
 subst e
 obtain ⟨ti, z, h10, h11⟩ := sliceT_spec h1
 obtain ⟨tu, h12, h13⟩ := stringT_spec h0
 exact ⟨ti, tu, el, bytes, z, ow, es, str, s1, h2, h10, h11, h12, h13, h3, h4, h5, h6, h7, h8⟩
theorem p2_true {p : Prop} (h : p) : true = true ∧ p := ⟨rfl, h⟩
theorem p2_go {el : TypeId} {bytes : Nat} {ow : Own} {es : List (List D)} {str : ByteArray} {s1 : Own → St} (h4 : ow ≠ .shared) (h5 : ∀ o', ResAt (.room ow el 1 es.length) (.room o' el 1 (es ++ str.data.toList.map encB).length) st (s1 o')) (h6 : ∀ a ∈ es, a.length = 1) (h8 : (es.length + str.size) * bytes ≤ 140737488355328) (h9 : es.length + str.size ≤ 140737488355328)
 (h10 : ∀ o', o' ≠ .shared → Keep m (s1 o') ∧ k (.sl o' (es ++ str.data.toList.map encB)) (s1 o')) : Aps2 m (el, 1, bytes) (.sl ow es, .str str) st k := ⟨ow, es, str, s1, rfl, rfl, h4, h5, h6, h8, h9, h10⟩
end
attribute [push_cast] sliceT stringT aBin2_some aExt_some aIdx_some readT callX_some pairX_some stoD alloD roM aNil_ptr aNil_ip aNil_func aNil_yield aMk_some aSl_some boxD
class Go1 (p : Prop) (q : outParam Prop) : Prop where
 go : q → p
class Go2 (p : Prop) (q : outParam Prop) : Prop where
 go : q → p
section
variable {P : Program} {N : Nat} {r : Option Nat} {A : AA} {st : St} {Q : Exit → AA → St → Prop} {K : AA → St → Prop} {l : List Oper} {ops : Array Oper} {m : Option Ro} {k : D → St → Prop} {dst : Option Tmp} {op : Op} {ty : TypeId} {pos : String} {aft : Array Edge} {gd : Option (Nat × Bool)} {id : Nat} {K1 K0 KF : AA → Prop} {tt : Tmp} {b : Bool}
instance i_w_step0 {o2 : Oper} : Go1 (W P r m ops K (⟨dst, op, ty, pos, aft, none⟩ :: o2 :: l) A st) (S P r m ⟨dst, op, ty, pos, aft, none⟩ A st fun d st' => W P r m ops K (o2 :: l) (A.put dst d) st') := ⟨w_step0⟩
instance i_w_step1 : Go2 (W P r m ops K (⟨dst, op, ty, pos, aft, none⟩ :: []) A st) (S P r m ⟨dst, op, ty, pos, aft, none⟩ A st fun d st' => W P r m ops K [] (A.put dst d) st') := ⟨w_step0⟩
instance i_w_nil : Go1 (W P r m ops K [] A st) (K A st) := ⟨w_nil⟩
instance i_gd_tt : Go1 (Gd K1 K0 KF A tt true (.s (.bool true))) (K1 A) := ⟨gd_tt⟩
instance i_gd_ff : Go1 (Gd K1 K0 KF A tt false (.s (.bool false))) (K1 A) := ⟨gd_ff⟩
instance i_gd_tf : Go1 (Gd K1 K0 KF A tt false (.s (.bool true))) (K0 A) := ⟨gd_tf⟩
instance i_gd_ft : Go1 (Gd K1 K0 KF A tt true (.s (.bool false))) (K0 A) := ⟨gd_ft⟩
instance i_gd_un : Go1 (Gd K1 K0 KF A tt b D.un) (KF A) := ⟨gd_un⟩
instance i_s_move {x : Operand} : Go1 (S P r m ⟨dst, .move x, ty, pos, aft, gd⟩ A st k) (Ev (ev A.e x) fun d => k d st) := ⟨s_move⟩
instance i_s_assign {x : Operand} : Go1 (S P r m ⟨dst, .assign x, ty, pos, aft, gd⟩ A st k) (Ev (ev A.e x) fun d => k d st) := ⟨s_assign⟩
instance i_s_bin {b : BinOp} {t t' : TypeId} {x y : Operand} : Go2 (S P r m ⟨dst, .binOp b t x y t', ty, pos, aft, gd⟩ A st k) (Ev (aBin2 P b t (ev A.e x) (ev A.e y)) fun d => k d st) := ⟨s_bin⟩
instance i_s_un {b : UnOp} {t : TypeId} {x : Operand} : Go1 (S P r m ⟨dst, .unOp b t x, ty, pos, aft, gd⟩ A st k) (Ev ((ev A.e x).bind (aUn b)) fun d => k d st) := ⟨s_un⟩
instance i_s_conv {a b : TypeId} {x : Operand} : Go2 (S P r m ⟨dst, .convert a b x, ty, pos, aft, gd⟩ A st k) (Ev ((ev A.e x).bind (aConv P a b)) fun d => k d st) := ⟨s_conv⟩
instance i_s_field {t : TypeId} {f : Nat} {x : Operand} : Go1 (S P r m ⟨dst, .field t x f, ty, pos, aft, gd⟩ A st k) (Ev ((ev A.e x).bind (aField P t f)) fun d => k d st) := ⟨s_field⟩
instance i_s_fieldAddr {t : TypeId} {f : Nat} {x : Operand} : Go1 (S P r m ⟨dst, .fieldAddr t x f, ty, pos, aft, gd⟩ A st k) (Ev ((ev A.e x).bind (aFieldAddr P t f)) fun d => k d st) := ⟨s_fieldAddr⟩
instance i_s_ext {i : Nat} {x : Operand} : Go1 (S P r m ⟨dst, .extract x i, ty, pos, aft, gd⟩ A st k) (Ev (aExt i (ev A.e x)) fun d => k d st) := ⟨s_ext⟩
instance i_s_pick {t : Tmp} {x y : Operand} : Go1 (S P r m ⟨dst, .pick (.tmp t) x y, ty, pos, aft, gd⟩ A st k) (Ev (ev A.e (.tmp t)) (Gd (fun A => Ev (ev A.e x) fun d => k d st) (fun A => Ev (ev A.e y) fun d => k d st) (fun _ => False) A t true)) := ⟨s_pick⟩
instance i_s_nil {x : Operand} : Go1 (S P r m ⟨dst, .nilCheck x, ty, pos, aft, gd⟩ A st k) (Ev (aNil (ev A.e x)) fun d => k d st) := ⟨s_nil⟩
instance i_s_load {t : TypeId} {x : Operand} : Go1 (S P r m ⟨dst, .load t x, ty, pos, aft, gd⟩ A st k) (Ev (ev A.e x) fun d => LoadK P m t d st k) := ⟨s_load⟩
instance i_lk_ip {t : TypeId} {cs : List D} : Go1 (LoadK P m t (.ip cs) st k) (Ev (readT P t cs) fun d => k d st) := ⟨lk_ip⟩
instance i_lk_ptr {t : TypeId} {b off : Nat} : Go2 (LoadK P m t (.ptr b off) st k) (Ev ((roM m st).lookup b) fun cs => Ev (readT P t (cs.drop off)) fun d => k d st) := ⟨lk_ptr⟩
instance i_s_index {t : TypeId} {x y : Operand} : Go1 (S P r m ⟨dst, .index t x y, ty, pos, aft, gd⟩ A st k) (Ev (aIdx (aIndex P t) (ev A.e x) (intOfD (ev A.e y))) fun d => k d st) := ⟨s_index⟩
instance i_s_indexAddr {t : TypeId} {x y : Operand} : Go1 (S P r m ⟨dst, .indexAddr t x y, ty, pos, aft, gd⟩ A st k) (Ev (aIdx (aIndexAddr P t) (ev A.e x) (intOfD (ev A.e y))) fun d => k d st) := ⟨s_indexAddr⟩
instance i_s_slice {t : TypeId} {x : Operand} {lo hi mx : Option Operand} : Go2 (S P r m ⟨dst, .slice t x lo hi mx, ty, pos, aft, gd⟩ A st k) (Ev (aSl (aSlice P t) (ev A.e x) (optInt A.e lo) (optInt A.e hi) (optInt A.e mx)) fun d => k d st) := ⟨s_slice⟩
instance i_s_build {t : TypeId} {ps : Array (Nat × Operand)} : Go1 (S P r m ⟨dst, .build t ps, ty, pos, aft, gd⟩ A st k) (Ev ((evP A.e ps.toList).bind (aBuild P t)) fun d => k d st) := ⟨s_build⟩
instance i_s_buildSlice {t : TypeId} {n : Nat} {ps : Array (Nat × Operand)} : Go2 (S P r m ⟨dst, .buildSlice t n ps, ty, pos, aft, gd⟩ A st k) (Ev ((evP A.e ps.toList).bind (aBuildSlice P t n)) fun d => k d st) := ⟨s_buildSlice⟩
instance i_s_mk {fn : Fn} {a b : Array Operand} : Go1 (S P r m ⟨dst, .makeFunc fn a b, ty, pos, aft, gd⟩ A st k) (Ev (aMk fn (evL A.e a.toList) (evL A.e b.toList)) fun d => k d st) := ⟨s_mk⟩
instance i_s_store {t : TypeId} {x y : Operand} : Go1 (S P r m ⟨dst, .store t x y, ty, pos, aft, gd⟩ A st k) (Ev (ev A.e x) fun d => Ev (ev A.e y) fun d' => StoK P m t d d' st k) := ⟨s_store⟩
instance i_s_alloc {t : TypeId} : Go1 (S P r m ⟨dst, .alloc t, ty, pos, aft, gd⟩ A st k) (Ev (alloD P t) fun cs => AlK m t cs st k) := ⟨s_alloc⟩
instance i_s_call {g : Operand} {args : Array Operand} {tys : Array TypeId} : Go2 (S P r m ⟨dst, .call ⟨.value g, args, tys⟩, ty, pos, aft, gd⟩ A st k) (Ev (callX (ev A.e g) (evL A.e args.toList)) fun p => CallK P m p st k) := ⟨s_call⟩
instance i_s_ip {t : TypeId} {x : Operand} : Go2 (S P r m ⟨dst, .box t x, ty, pos, aft, gd⟩ A st k) (Ev ((ev A.e x).bind boxD) fun d => k d st) := ⟨s_ip⟩
instance (priority := high) i_s_app {t : TypeId} {x y : Operand} : Go2 (S P r m ⟨dst, .call ⟨.builtin .append, #[x, y], #[t, t]⟩, ty, pos, aft, gd⟩ A st k) (Ev (pairX (ev A.e x) (ev A.e y)) fun p => AppK P m t p st k) := ⟨s_app⟩
instance i_ak_go {t : TypeId} {p : D × D} : Go2 (AppK P m t p st k) (Ev (sliceT P t) fun q => App2 m q p st k) := ⟨ak_go⟩
instance i_s_aps {t u : TypeId} {x y : Operand} : Go2 (S P r m ⟨dst, .call ⟨.builtin .append, #[x, y], #[t, u]⟩, ty, pos, aft, gd⟩ A st k) (Ev (pairX (ev A.e x) (ev A.e y)) fun p => ApsK P m t u p st k) := ⟨s_aps⟩
instance i_ap_go {t u : TypeId} {p : D × D} : Go2 (ApsK P m t u p st k) (Ev (stringT P u) fun b => b = true ∧ Ev (sliceT P t) fun q => Aps2 m q p st k) := ⟨ap_go⟩
instance i_p2_true {p : Prop} : Go1 (true = true ∧ p) (p) := ⟨p2_true⟩
instance i_tr_seq {x y : Code} : Go2 (Tr P N r (.seq x y) A st Q) (Tr P N r x A st (thenA (fun A' st' => Tr P N r y A' st' Q) Q)) := ⟨tr_seq⟩
instance i_tr_block {id : Nat} {c : Code} : Go1 (Tr P N r (.block id c) A st Q) (Tr P N r c A st (blockA id Q)) := ⟨tr_block⟩
instance i_tr_skip : Go1 (Tr P N r .skip A st Q) (Q .normal A st) := ⟨tr_skip⟩
instance i_tr_ret : Go1 (Tr P N r .ret A st Q) (Q .ret A st) := ⟨tr_ret⟩
instance i_tr_exit {id : Nat} : Go1 (Tr P N r (.exit id) A st Q) (Q (.exit id) A st) := ⟨tr_exit⟩
instance i_tr_label {l : Nat} : Go1 (Tr P N r (.label l) A st Q) (Q .normal A st) := ⟨tr_label⟩
instance i_strip_norm : Go1 (thenA K Q .normal A st) (K A st) := ⟨strip_norm⟩
instance i_strip_ret : Go1 (thenA K Q .ret A st) (Q .ret A st) := ⟨strip_ret⟩
instance i_strip_exit : Go1 (thenA K Q (.exit id) A st) (Q (.exit id) A st) := ⟨strip_exit⟩
instance i_blk_norm : Go1 (blockA id Q .normal A st) (Q .normal A st) := ⟨blk_norm⟩
instance i_blk_ret : Go1 (blockA id Q .ret A st) (Q .ret A st) := ⟨blk_ret⟩
instance i_blk_same : Go1 (blockA id Q (.exit id) A st) (Q .normal A st) := ⟨blk_same⟩
instance i_tr_condT {t : Tmp} {x y : Code} : Go1 (Tr P N r (.cond (.tmp t) x y) A st Q) (Ev (ev A.e (.tmp t)) (Gd (fun A => Tr P N r x A st Q) (fun A => Tr P N r y A st Q) (fun _ => False) A t true)) := ⟨tr_condT⟩
instance i_tr_condCt {x y : Code} : Go1 (Tr P N r (.cond (.const (.bool true)) x y) A st Q) (Tr P N r x A st Q) := ⟨tr_condCt⟩
instance i_tr_condCf {x y : Code} : Go1 (Tr P N r (.cond (.const (.bool false)) x y) A st Q) (Tr P N r y A st Q) := ⟨tr_condCf⟩
end
class LkI (b : Nat) (st : St) (bt : outParam TypeId) (cs : outParam (List D)) : Prop where
 go : Res.box b bt cs ∈ st
instance lk_here {b : Nat} {bt : TypeId} {cs : List D} {st : St} : LkI b (.box b bt cs :: st) bt cs := ⟨List.Mem.head _⟩
instance (priority := low) lk_there {b : Nat} {bt : TypeId} {cs : List D} {x : Res} {st : St} [h : LkI b st bt cs] : LkI b (x :: st) bt cs := ⟨List.Mem.tail _ h.go⟩
class StI (b : Nat) (st : St) (bt : outParam TypeId) (cs : outParam (List D)) (s1 : outParam (List D → St)) : Prop where
 go : ∀ cs', ResAt (.box b bt cs) (.box b bt cs') st (s1 cs')
instance st_here {b : Nat} {bt : TypeId} {cs : List D} {st : St} : StI b (.box b bt cs :: st) bt cs (fun cs' => .box b bt cs' :: st) := ⟨fun _ => ResAt.here⟩
instance (priority := low) st_there {b : Nat} {bt : TypeId} {cs : List D} {x : Res} {st : St} {s1 : List D → St} [h : StI b st bt cs s1] : StI b (x :: st) bt cs (fun cs' => x :: s1 cs') := ⟨fun cs' => ResAt.there (h.go cs')⟩
instance lk_app {b : Nat} {bt : TypeId} {cs : List D} {x : Res} {l st : St} [h : LkI b (x :: (l ++ st)) bt cs] : LkI b ((x :: l) ++ st) bt cs := ⟨h.go⟩
instance lk_app0 {b : Nat} {bt : TypeId} {cs : List D} {st : St} [h : LkI b st bt cs] : LkI b ([] ++ st) bt cs := ⟨h.go⟩
instance st_app {b : Nat} {bt : TypeId} {cs : List D} {x : Res} {l st : St} {s1 : List D → St} [h : StI b (x :: (l ++ st)) bt cs s1] : StI b ((x :: l) ++ st) bt cs s1 := ⟨h.go⟩
instance st_app0 {b : Nat} {bt : TypeId} {cs : List D} {st : St} {s1 : List D → St} [h : StI b st bt cs s1] : StI b ([] ++ st) bt cs s1 := ⟨h.go⟩
class KpI (m : Option Ro) (st : St) : Prop where
 go : Keep m st
instance kp_none {st : St} : KpI none st := ⟨keep_none⟩
instance kp_nil {st : St} : KpI (some []) st := ⟨keep_nil⟩
instance kp_ro {st : St} : KpI (some (roOf st)) st := ⟨keep_ro⟩
instance (priority := low) kp_cons {m : Option Ro} {x : Res} {st : St} [h : KpI m st] : KpI m (x :: st) := ⟨keep_cons h.go⟩
instance kp_app {m : Option Ro} {x : Res} {l st : St} [h : KpI m (x :: (l ++ st))] : KpI m ((x :: l) ++ st) := ⟨h.go⟩
instance kp_app0 {m : Option Ro} {st : St} [h : KpI m st] : KpI m ([] ++ st) := ⟨h.go⟩
section
variable {P : Program} {st : St} {m : Option Ro} {k : D → St → Prop} {t : TypeId} {b off : Nat} {bt : TypeId} {cs : List D}
instance (priority := high) i_lk_mem [h : LkI b st bt cs] : Go2 (LoadK P none t (.ptr b off) st k) (Ev (readT P t (cs.drop off)) fun d => k d st) := ⟨lk_mem h.go⟩
instance i_sto_go {d' : D} {s1 : List D → St} [h : StI b st bt cs s1] : Go2 (StoK P m t (.ptr b off) d' st k) (Ev (stoD P t cs off d'.cells) fun cs' => Keep m (s1 cs') ∧ k D.un (s1 cs')) := ⟨sto_go h.go⟩
instance i_keep {p : Prop} [h : KpI m st] : Go2 (Keep m st ∧ p) p := ⟨fun k => ⟨h.go, k⟩⟩
end
class Tst (p A : Prop) (B : outParam Prop) : Prop where
 go : B → p → A
instance (priority := low) tst_def {p A : Prop} : Tst p A (p → A) := ⟨id⟩
instance tst_nt {a : Bool} {A B : Prop} [h : Tst (a = false) A B] : Tst ((!a) = true) A B := ⟨fun b k => h.go b (nt_t k)⟩
instance tst_nf {a : Bool} {A B : Prop} [h : Tst (a = true) A B] : Tst ((!a) = false) A B := ⟨fun b k => h.go b (nt_f k)⟩
instance tst_dt {q A : Prop} [Decidable q] : Tst (decide q = true) A (q → A) := ⟨fun b k => b (of_decide_eq_true k)⟩
instance tst_df {q A : Prop} [Decidable q] : Tst (decide q = false) A (¬ q → A) := ⟨fun b k => b (of_decide_eq_false k)⟩
instance tst_et {α : Type} [DecidableEq α] {a b : α} {A : Prop} : Tst ((a == b) = true) A (a = b → A) := ⟨fun h k => h (of_decide_eq_true k)⟩
instance tst_ef {α : Type} [DecidableEq α] {a b : α} {A : Prop} : Tst ((a == b) = false) A (¬ a = b → A) := ⟨fun h k => h (of_decide_eq_false k)⟩
instance (priority := 500) tst_lt {α : Type} [BEq α] [LawfulBEq α] {a b : α} {A : Prop} : Tst ((a == b) = true) A ((a == b) = true → a = b → A) := ⟨fun h k => h k (eq_of_beq k)⟩
instance (priority := 500) tst_lf {α : Type} [BEq α] [LawfulBEq α] {a b : α} {A : Prop} : Tst ((a == b) = false) A ((a == b) = false → a ≠ b → A) := ⟨fun h k => h k (ne_of_beq_false k)⟩
instance tst_nit {a b : Int} {A : Prop} : Tst ((a != b) = true) A ((a != b) = true → a ≠ b → A) := ⟨fun h k => h k (bne_t k)⟩
instance tst_nif {a b : Int} {A : Prop} : Tst ((a != b) = false) A ((a != b) = false → a = b → A) := ⟨fun h k => h k (bne_f k)⟩
class Go3 (p : Prop) (q q' : outParam Prop) : Prop where
 go : q → q' → p
section
variable {P : Program} {N : Nat} {r : Option Nat} {A : AA} {st : St} {Q : Exit → AA → St → Prop} {K : AA → St → Prop} {l : List Oper} {ops : Array Oper} {K1 K0 KF : AA → Prop} {t : Tmp} {c : Bool} {B1 B0 : Prop} {dst : Option Tmp} {op : Op} {ty : TypeId} {pos : String} {aft : Array Edge}
instance i_gd1 [h1 : Tst (c = true) (K1 (A.put (some t) (.s (.bool true)))) B1] [h0 : Tst (c = false) (K0 (A.put (some t) (.s (.bool false)))) B0] : Go3 (Gd K1 K0 KF A t true (.s (.bool c))) B1 B0 := ⟨fun x y => gd_d1 (h1.go x) (h0.go y)⟩
instance i_gd0 [h1 : Tst (c = false) (K1 (A.put (some t) (.s (.bool false)))) B1] [h0 : Tst (c = true) (K0 (A.put (some t) (.s (.bool true)))) B0] : Go3 (Gd K1 K0 KF A t false (.s (.bool c))) B1 B0 := ⟨fun x y => gd_d0 (h1.go x) (h0.go y)⟩
theorem w_dra {id : Nat} (hl : (P.follows .mixedOrders && (mixBA .any l.toArray && opsOk N l)) = true) (h : W P r (some []) l.toArray (Q .normal) l A st) : Tr P N r (.region id l.toArray true) A st Q := by
 rw [Bool.and_eq_true, Bool.and_eq_true] at hl
 exact w_draw [] hl.1 hl.2.1 hl.2.2 keeps_nil h
end
end Go.Proofs.YtgcienlfpnpbgaaGreat
end
section
namespace Go.Proofs.YtgcienlfpnpbgaaGreat
set_option linter.unusedSimpArgs false
open Go.RowKit
theorem len_app {es ys : List (List D)} {n : Nat} (h : ∀ a ∈ es, a.length = n) (k : ∀ a ∈ ys, a.length = n) : ∀ a ∈ es ++ ys, a.length = n := fun a ha => (List.mem_append.1 ha).elim (h a) (k a)
theorem tight_ne : Own.tight ≠ Own.shared := fun h => by cases h
theorem Q1 {p q : Prop} [h : Go1 p q] (x : q) : p := h.go x
theorem Q2 {p q : Prop} [h : Go2 p q] (x : q) : p := h.go x
theorem Q3a {p q q' : Prop} [h : Go3 p q q'] (x : q) (y : q' := by (intro hb; (try with_reducible intro hb1); exfalso; first | contradiction | omega)) : p := h.go x y
theorem Q3b {p q q' : Prop} [h : Go3 p q q'] (y : q') (x : q := by (intro hb; (try with_reducible intro hb1); exfalso; first | contradiction | omega)) : p := h.go x y
class IsEv (p : Prop) (α : outParam Type) (x : outParam (Option α)) (k : outParam (α → Prop)) : Prop where
 go : Ev x k → p
instance i_isEv {α : Type} {x : Option α} {k : α → Prop} : IsEv (Ev x k) α x k := ⟨fun h => h⟩
theorem Qe {p : Prop} {α : Type} {x : Option α} {k : α → Prop} [i : IsEv p α x k] {d : α} (hk : k d) (h : x = some d := by ((try simp (disch := omega) only [push_cast, simprocAttr, *]); first | done | exact rfl | with_unfolding_all exact rfl)) : p := i.go ⟨d, h, hk⟩
theorem Qf {p : Prop} (h : p := by first | rfl | assumption | omega | (simp (disch := omega) only [push_cast, simprocAttr, *]; try omega; first | done | fail)) : p := h
section
variable {P : Program} {N : Nat} {r : Option Nat} {A : AA} {st : St} {Q : Exit → AA → St → Prop} {K : AA → St → Prop} {l : List Oper} {ops : Array Oper} {m : Option Ro} {k : D → St → Prop} {dst : Option Tmp} {op : Op} {ty : TypeId} {pos : String} {aft : Array Edge} {gd : Option (Nat × Bool)} {o : Oper} {id id' : Nat}
class IsL (p : Prop) (ops : outParam (Array Oper)) (o : outParam Oper) (q : outParam Prop) : Prop where
 go : lastAll ops = true → freeA o = false → q → p
instance i_isL {ro : Ro} : IsL (W P r (some ro) ops K [⟨dst, op, ty, pos, aft, none⟩] A st) ops ⟨dst, op, ty, pos, aft, none⟩ (S P r (some []) ⟨dst, op, ty, pos, aft, none⟩ A st fun d st' => K (A.put dst d) st') := ⟨w_last⟩
theorem Ql {p q : Prop} [i : IsL p ops o q] (h : q) (hf : freeA o = false := by with_unfolding_all rfl) (hl : lastAll ops = true := by kernel_rfl) : p := i.go hl hf h
class IsS (p : Prop) (d : outParam (Option Tmp)) (q : outParam (Tmp → Prop)) : Prop where
 go : ∀ t, d = some t → q t → p
instance i_isS {j : Nat} {b : Bool} : IsS (W P r m ops K (⟨dst, op, ty, pos, aft, some (j, b)⟩ :: l) A st) ((ops[j]?).bind (·.dst)) (fun t => Ev (ev A.e (.tmp t)) (Gd (fun A => S P r m ⟨dst, op, ty, pos, aft, some (j, b)⟩ A st fun d st' => W P r m ops K l (A.put dst d) st') (fun A => W P r m ops K l (A.put dst D.un) st) (fun A => W P r m ops K l (A.put dst D.un) st) A t b)) := ⟨fun _ h1 h2 => w_stepG h1 h2⟩
theorem Qs {p : Prop} {d : Option Tmp} {q : Tmp → Prop} [i : IsS p d q] {t : Tmp} (h : q t) (ht : d = some t := by with_unfolding_all rfl) : p := i.go t ht h
class Go4 (p : Prop) (s q : outParam Prop) : Prop where
 go : s → q → p
class Go5 (p : Prop) (s q : outParam Prop) : Prop where
 go : s → q → p
instance i_Qb {b : Builtin} {args : Array Operand} {tys : Array TypeId} : Go4 (S P r m ⟨dst, .call ⟨.builtin b, args, tys⟩, ty, pos, aft, gd⟩ A st k) (freeA ⟨dst, .call ⟨.builtin b, args, tys⟩, ty, pos, aft, gd⟩ = true) (Ev ((evL A.e args.toList).bind (aBi P b tys.toList)) fun d => k d st) := ⟨s_bi⟩
instance i_Qn : Go4 (blockA id Q (.exit id') A st) ((id' == id) = false) (Q (.exit id') A st) := ⟨blk_ne⟩
instance i_Qr {id : Nat} {a : Array Oper} : Go5 (Tr P N r (.region id a false) A st Q) (opsOk N a.toList = true) (W P r none a (Q .normal) a.toList A st) := ⟨fun h1 h2 => w_region (l := a.toList) h1 h2⟩
instance i_Qd {id : Nat} {a : Array Oper} : Go5 (Tr P N r (.region id a true) A st Q) ((P.follows .mixedOrders && (mixBA .any a && opsOk N a.toList)) = true) (W P r (some []) a (Q .normal) a.toList A st) := ⟨fun h1 h2 => w_dra (l := a.toList) h1 h2⟩
theorem Q4 {p s q : Prop} [i : Go4 p s q] (h : q) (hs : s := by with_unfolding_all rfl) : p := i.go hs h
theorem Q5 {p s q : Prop} [i : Go5 p s q] (h : q) (hs : s := by kernel_rfl) : p := i.go hs h
class IsApp (p : Prop) (m : outParam (Option Ro)) (el : outParam TypeId) (sz bytes : outParam Nat) (ow oy : outParam Own) (es ys : outParam (List (List D))) (st : outParam St) (k : outParam (D → St → Prop)) : Prop where
 go : App2 m (el, sz, bytes) (.sl ow es, .sl oy ys) st k → p
instance i_isApp {el : TypeId} {sz bytes : Nat} {ow oy : Own} {es ys : List (List D)} : IsApp (App2 m (el, sz, bytes) (.sl ow es, .sl oy ys) st k) m el sz bytes ow oy es ys st k := ⟨fun h => h⟩
class RmI (o : Own) (el : TypeId) (sz : Nat) (st : St) (n : outParam Nat) (s1 : outParam (Nat → Own → St)) : Prop where
 go : ∀ n' o', ResAt (.room o el sz n) (.room o' el sz n') st (s1 n' o')
instance rm_here {o : Own} {el : TypeId} {sz n : Nat} {st : St} : RmI o el sz (.room o el sz n :: st) n (fun n' o' => .room o' el sz n' :: st) := ⟨fun _ _ => ResAt.here⟩
instance (priority := low) rm_there {o : Own} {el : TypeId} {sz n : Nat} {x : Res} {st : St} {s1 : Nat → Own → St} [h : RmI o el sz st n s1] : RmI o el sz (x :: st) n (fun n' o' => x :: s1 n' o') := ⟨fun n' o' => ResAt.there (h.go n' o')⟩
instance rm_app {o : Own} {el : TypeId} {sz n : Nat} {x : Res} {l st : St} {s1 : Nat → Own → St} [h : RmI o el sz (x :: (l ++ st)) n s1] : RmI o el sz ((x :: l) ++ st) n s1 := ⟨h.go⟩
instance rm_app0 {o : Own} {el : TypeId} {sz n : Nat} {st : St} {s1 : Nat → Own → St} [h : RmI o el sz st n s1] : RmI o el sz ([] ++ st) n s1 := ⟨h.go⟩
theorem Qa {p : Prop} {el : TypeId} {sz bytes : Nat} {ow oy : Own} {es ys : List (List D)} [i : IsApp p m el sz bytes ow oy es ys st k] {n : Nat} {s1 : Nat → Own → St} [j : RmI ow el sz st n s1] (h : ∀ o', o' ≠ .shared → Keep m (s1 (es ++ ys).length o') ∧ k (.sl o' (es ++ ys)) (s1 (es ++ ys).length o'))
 (h4 : ow ≠ .shared := by first | assumption | exact tight_ne | exact row_ne) (h5 : n = es.length := by first | rfl | with_unfolding_all rfl | simp)
 (h6 : ∀ a ∈ es, a.length = sz := by first | assumption | with_unfolding_all assumption | exact len_nil | exact len_one (by with_unfolding_all rfl) | ((repeat' (first | assumption | with_unfolding_all assumption | exact len_nil | exact len_one (by with_unfolding_all rfl) | refine len_app ?_ ?_ | (intro a ha; obtain ⟨x, -, rfl⟩ := List.mem_map.1 ha; first | with_unfolding_all rfl | simp))); first | done | fail) | (intro a ha; obtain ⟨x, -, rfl⟩ := List.mem_map.1 ha; first | with_unfolding_all rfl | simp) | (intro a ha; simp at ha; simp [ha])) (h7 : ∀ a ∈ ys, a.length = sz := by first | assumption | with_unfolding_all assumption | exact len_nil | exact len_one (by with_unfolding_all rfl) | ((repeat' (first | assumption | with_unfolding_all assumption | exact len_nil | exact len_one (by with_unfolding_all rfl) | refine len_app ?_ ?_ | (intro a ha; obtain ⟨x, -, rfl⟩ := List.mem_map.1 ha; first | with_unfolding_all rfl | simp))); first | done | fail) | (intro a ha; obtain ⟨x, -, rfl⟩ := List.mem_map.1 ha; first | with_unfolding_all rfl | simp) | (intro a ha; simp at ha; simp [ha]))
 (h8 : (es.length + ys.length) * bytes ≤ 140737488355328 := by first | omega | (simp only [List.length_map, List.length_cons, List.length_nil, List.length_append]; omega)) (h9 : es.length + ys.length ≤ 140737488355328 := by first | omega | (simp only [List.length_map, List.length_cons, List.length_nil, List.length_append]; omega)) : p := i.go (a2_go h4 (fun o' => h5 ▸ j.go _ o') h6 h7 h8 h9 h)
class IsAps (p : Prop) (m : outParam (Option Ro)) (el : outParam TypeId) (bytes : outParam Nat) (ow : outParam Own) (es : outParam (List (List D))) (str : outParam ByteArray) (st : outParam St) (k : outParam (D → St → Prop)) : Prop where
 go : Aps2 m (el, 1, bytes) (.sl ow es, .str str) st k → p
instance i_isAps {el : TypeId} {bytes : Nat} {ow : Own} {es : List (List D)} {str : ByteArray} : IsAps (Aps2 m (el, 1, bytes) (.sl ow es, .str str) st k) m el bytes ow es str st k := ⟨fun h => h⟩
theorem Qp {p : Prop} {el : TypeId} {bytes : Nat} {ow : Own} {es : List (List D)} {str : ByteArray} [i : IsAps p m el bytes ow es str st k] {n : Nat} {s1 : Nat → Own → St} [j : RmI ow el 1 st n s1] (h : ∀ o', o' ≠ .shared → Keep m (s1 (es ++ str.data.toList.map encB).length o') ∧ k (.sl o' (es ++ str.data.toList.map encB)) (s1 (es ++ str.data.toList.map encB).length o'))
 (h4 : ow ≠ .shared := by first | assumption | exact tight_ne | exact row_ne) (h5 : n = es.length := by first | rfl | with_unfolding_all rfl | simp)
 (h6 : ∀ a ∈ es, a.length = 1 := by first | assumption | with_unfolding_all assumption | exact len_nil | exact len_one (by with_unfolding_all rfl) | ((repeat' (first | assumption | with_unfolding_all assumption | exact len_nil | exact len_one (by with_unfolding_all rfl) | refine len_app ?_ ?_ | (intro a ha; obtain ⟨x, -, rfl⟩ := List.mem_map.1 ha; first | with_unfolding_all rfl | simp))); first | done | fail) | (intro a ha; obtain ⟨x, -, rfl⟩ := List.mem_map.1 ha; first | with_unfolding_all rfl | simp) | (intro a ha; simp at ha; simp [ha]))
 (h8 : (es.length + str.size) * bytes ≤ 140737488355328 := by first | omega | (simp only [List.length_map, List.length_cons, List.length_nil, List.length_append]; omega)) (h9 : es.length + str.size ≤ 140737488355328 := by first | omega | (simp only [List.length_map, List.length_cons, List.length_nil, List.length_append]; omega)) : p := i.go (p2_go h4 (fun o' => h5 ▸ j.go _ o') h6 h8 h9 h)
class IsC (p : Prop) (P : outParam Program) (m : outParam (Option Ro)) (f : outParam FuncId) (ds : outParam (List D)) (st : outParam St) (k : outParam (D → St → Prop)) : Prop where
 go : CallK P m (f, ds) st k → p
instance i_isC {f : FuncId} {ds : List D} : IsC (CallK P m (f, ds) st k) P m f ds st k := ⟨fun h => h⟩
theorem TrF.at {f : FuncId} {args : List D} {B B' : Res} {X : D} {st1 : St} (h : ∀ s, TrF P f args (B :: s) fun d st' => d = X ∧ st' = B' :: s) (hat : ResAt B B' st st1) : TrF P f args st fun d st' => d = X ∧ st' = st1 := by
 obtain ⟨s0, p1, p2⟩ := hat.perm
 exact TrF.permPost p1 ((h s0).mono fun d st' ⟨e1, e2⟩ => ⟨_, ⟨e1, rfl⟩, by subst e2; exact p2.symm⟩)
section
variable {f : FuncId} {ds ds' : List D} {X : D} {s1 : St}
theorem Qc {p : Prop} [i : IsC p P m f ds st k] (henter : ∀ args w, (callFunc f args).run P w = .ok (.enter f args) w) (h : TrF P f ds st fun d st' => d = X ∧ st' = s1) (hk : Keep m s1 ∧ k X s1) : p := i.go <| ck_eq henter h hk
theorem QA {p : Prop} [i : IsC p P m f ds st k] [e : CE P f] {X : D} (hk : Keep m st ∧ k X st) (h : Hid (∀ s, TrF P f ds s fun d st' => d = X ∧ st' = s) := by assumption) : p := i.go <| ck_eq e.go (h.out st) hk
theorem ck_at {B B' : Res} {st1 : St} (henter : ∀ args w, (callFunc f args).run P w = .ok (.enter f args) w) (hle : LEL ds ds') (h : ∀ s, TrF P f ds' (B :: s) fun d st' => d = X ∧ st' = B' :: s) (hat : ResAt B B' st st1) (hk : Keep m st1 ∧ k X st1) : CallK P m (f, ds) st k := ck_le henter hle (TrF.at h hat) hk
theorem QR {p : Prop} [i : IsC p P m f ds st k] {B B' : Res} {st1 : St} (henter : ∀ args w, (callFunc f args).run P w = .ok (.enter f args) w) (h : ∀ s, TrF P f ds (B :: s) fun d st' => d = X ∧ st' = B' :: s) (hk : Keep m st1 ∧ k X st1) (hat : ResAt B B' st st1 := by (repeat (first | exact ra_h | apply ra_t)); first | done | fail) : p := i.go <| ck_at henter (LEL.refl _) h hat hk
theorem QRA {p : Prop} [i : IsC p P m f ds st k] [e : CE P f] {B B' : Res} {st1 : St} {X : D} (hk : Keep m st1 ∧ k X st1) (h : Hid (∀ s, TrF P f ds (B :: s) fun d st' => d = X ∧ st' = B' :: s) := by assumption) (hat : ResAt B B' st st1 := by (repeat (first | exact ra_h | apply ra_t)); first | done | fail) : p := i.go <| ck_at e.go (LEL.refl _) h.out hat hk
theorem QL {p : Prop} [i : IsC p P m f ds st k] (henter : ∀ args w, (callFunc f args).run P w = .ok (.enter f args) w) (h : TrF P f ds' st fun d st' => d = X ∧ st' = s1) (hk : Keep m s1 ∧ k X s1) (hle : LEL ds ds' := by (repeat' (first | exact LEL.nil | refine LEL.cons ?_ ?_ | exact LE.refl _ | exact LE.sl _ _ | refine LE.agg ?_)); first | done | fail) : p := i.go <| ck_le henter hle h hk
theorem QE {ι : Type} {pp : ι → Prop} {F : ι → D} {Sx : ι → St} {p : Prop} [i : IsC p P m f ds st k] (henter : ∀ args w, (callFunc f args).run P w = .ok (.enter f args) w) (h : TrF P f ds' st fun d st' => ∃ i, pp i ∧ d = F i ∧ st' = Sx i) (hk : ∀ i, pp i → Keep m (Sx i) ∧ k (F i) (Sx i)) (hle : LEL ds ds' := by first | exact LEL.refl _ | ((repeat' (first | exact LEL.nil | refine LEL.cons ?_ ?_ | exact LE.refl _ | exact LE.sl _ _ | refine LE.agg ?_)); first | done | fail)) (hex : ∃ i, pp i := by exact ⟨.tight, tight_ne⟩) : p := i.go <| ck_ex henter hle h hex hk
theorem QN {F : Nat → D} {Sx : Nat → St} {p : Prop} [i : IsC p P m f ds st k] (henter : ∀ args w, (callFunc f args).run P w = .ok (.enter f args) w) (h : TrF P f ds' st fun d st' => ∃ b, d = F b ∧ st' = Sx b) (hk : ∀ b, Keep m (Sx b) ∧ k (F b) (Sx b)) (hle : LEL ds ds' := by first | exact LEL.refl _ | ((repeat' (first | exact LEL.nil | refine LEL.cons ?_ ?_ | exact LE.refl _ | exact LE.sl _ _ | refine LE.agg ?_)); first | done | fail)) : p := i.go <|
 ⟨_, henter, h.le hle, ⟨_, _, 0, rfl, rfl⟩, fun d st' ⟨i, e1, e2⟩ => by subst e1 e2; exact hk i⟩
end
theorem res_tmps {fn : Func} {ts : List Tmp} (hr : fn.results = (ts.map ResultVar.tmp).toArray) (hl : ts.length ≤ 4) (tmps : Array Value) (w : World) : (results fn tmps).run P w = .ok (resVal ts tmps) w := by
 unfold results
 rw [hr]
 match ts, hl with
 | [], _ => simp [go_sem, resVal]
 | [a], _ => simp [go_sem, resVal]
 | [a, b], _ => simp [go_sem, resVal]
 | [a, b, c], _ => simp [go_sem, resVal]
 | [a, b, c, d], _ => simp [go_sem, resVal]
 | _ :: _ :: _ :: _ :: _ :: _, h => simp at h
theorem Qin (ts : List Tmp) {f : FuncId} {fn : Func} {c : Code} {n : Nat} {args : List D} {R : D → St → Prop} (hf : P.funcs[f]? = some fn) (hr : fn.results = (ts.map ResultVar.tmp).toArray) (hn : fn.ntmps = n) (h : Tr P n none c ⟨initE args, []⟩ st (retA ts R)) (hb : fn.body = some c := by exact rfl) (ha : Nat.ble args.length n = true := by exact rfl) (hl : ts.length ≤ 4 := by decide) : TrF P f args st R := by
 subst hn
 exact trF_enter hf hb (Nat.le_of_ble_eq_true ha) (res_tmps hr hl) h
theorem QinC (t : Tmp) (T : TypeId) {f : FuncId} {fn : Func} {c : Code} {n : Nat} {args : List D} {R : D → St → Prop} (hf : P.funcs[f]? = some fn) (hn : fn.ntmps = n) (h : Tr P n none c ⟨initE args, []⟩ st (retC (cellA t T P) R)) (hb : fn.body = some c := by exact rfl) (ha : Nat.ble args.length n = true := by exact rfl) (hr : fn.results = #[.cell t T] := by exact rfl) : TrF P f args st R := by
 subst hn
 exact trF_enterC hf hb (Nat.le_of_ble_eq_true ha) (fun h1 h2 h3 => res_cell hr h1 h2 h3) h
theorem Qret {ts : List Tmp} {X : D} {ex : Exit} {st0 : St} (hex : ex = .normal ∨ ex = .ret := by simp) (hdf : A.df = [] := by first | rfl | assumption) (hs : st0.Sublist st := by (repeat (first | exact List.Sublist.refl _ | apply List.Sublist.cons)); first | done | fail)
 (hd : LE (resD ts A.e) X := by (try simp (disch := omega) only [push_cast, simprocAttr, *]) <;> (first | exact LE.refl _ | exact LE.sl _ _ | ((first | refine LE.tup ?_ | refine LE.agg ?_); (repeat' (first | exact LEL.nil | refine LEL.cons ?_ ?_ | exact LE.refl _ | exact LE.sl _ _ | refine LE.agg ?_)); first | done | fail))) : retA ts (fun d st' => d = X ∧ st' = st0) ex A st := ret_eq hex hdf hs hd
theorem QQ {p q : Prop} (h : q) (s : q → p := by first | exact Ql | exact Q2 | exact Qs | exact Q4 | exact QA | exact QRA | exact Q5 | fail) : p := s h
theorem Q3c {p q q' : Prop} [h : Go3 p q q'] (x : q ∧ q') : p := h.go x.1 x.2
theorem QD {p q : Prop} (h : q) (s : q → p := by first | exact Q3a | exact Q3b | exact Q3c | fail) : p := s h
theorem WR {p : Prop} (h : p := by (repeat' (with_reducible first | refine Q1 ?_ | refine Qe ?_ | refine QQ ?_ | (refine al_go ?_; intro b) | (refine QD ?_ <;> (try constructor) <;> intro hb <;> try intro hb1) | fail)); all_goals exact Qret) : p := h
theorem WRa {p : Prop} (h : p := by (repeat' (with_reducible first | refine Q1 ?_ | refine Qe ?_ | refine QQ ?_ | (refine al_go ?_; intro b) | (refine Qa ?_; intro o' ho') | (refine Qp ?_; intro o' ho') | (refine QD ?_ <;> (try constructor) <;> intro hb <;> try intro hb1) | fail)); all_goals exact Qret) : p := h
theorem QretC {t : Tmp} {T : TypeId} {ti : TI} {ex : Exit} {b off : Nat} {ty : TypeId} {cs : List D} {X d : D} {st0 : St} {R : D → St → Prop} (hex : ex = .normal ∨ ex = .ret := by simp) (hdf : A.df = [] := by first | rfl | assumption) (hp : A.e t = .ptr b off := by ((try simp (disch := omega) only [push_cast, simprocAttr, *]); (try exact rfl); first | done | fail)) (hm : Res.box b ty cs ∈ st := by (repeat (first | exact mm_h | apply mm_t)); first | done | fail) (ht : tinfo P T = some ti := by (simp (disch := omega) only [push_cast, simprocAttr, *]; exact rfl)) (hd : readD ti (cs.drop off) = some d := by ((try simp (disch := omega) only [push_cast, simprocAttr, *]); (try exact rfl); first | done | fail))
 (hR : R X st0 := by exact ⟨rfl, rfl⟩) (hs : st0.Sublist st := by (repeat (first | exact List.Sublist.refl _ | apply List.Sublist.cons)); first | done | fail)
 (hl : LE d X := by (try simp (disch := omega) only [push_cast, simprocAttr, *]) <;> (first | exact LE.refl _ | exact LE.sl _ _ | ((first | refine LE.tup ?_ | refine LE.agg ?_); (repeat' (first | exact LEL.nil | refine LEL.cons ?_ ?_ | exact LE.refl _ | exact LE.sl _ _ | refine LE.agg ?_)); first | done | fail))) : retC (cellA t T P) R ex A st := retC_cell hex hdf hp hm ht hd hs hl hR
end
end Go.Proofs.YtgcienlfpnpbgaaGreat
end
