/- Regions that draw their order: one walk in the order of the text serves every order, where some operations yield one value in every world of a class and leave it alone ('free'), and the others come in one forced order, whatever they do to the world. After the kit's own theorem for regions that only read. -/
import Derived.Still
import Derived.Deep.Quiet
namespace Go.Proofs.Ythlidbddeclnaaa
open Go

/-- Kinds of operations that hand back a value and enter no function. -/
def freeKind (o : Oper) : Bool :=
  match o.op with
  | .move _ | .assign _ | .pick .. | .load .. | .binOp .. | .unOp .. | .convert .. | .makeInterface .. | .makeFunc .. | .slice .. | .fieldAddr .. | .field .. | .indexAddr .. | .index .. | .nilCheck _ => true
  | .call { callee := .builtin .len, .. } => true
  | .call { callee := .builtin .cap, .. } => true
  | .call { callee := .builtin .min, .. } => true
  | .call { callee := .builtin .max, .. } => true
  | _ => false

section
variable {P : Program} {ops : Array Oper} {md : Region.Mode} {C : World → Prop}

theorem run_f_value {α : Type} (s : Sem α) (f : α → Value) (w : World) : (∃ v w', (s.bind fun x => Sem.pure (Next.value (f x))).run P w = .ok (.value v) w') ∨ (∃ h w', (s.bind fun x => Sem.pure (Next.value (f x))).run P w = .halt h w') := by
  rw [show (s.bind fun x => Sem.pure (Next.value (f x))).run P w = ((s >>= fun x => pure (Next.value (f x))) : Sem Next).run P w from rfl, Sem.run_bind]
  cases s.run P w with
  | ok x w' => exact .inl ⟨f x, w', rfl⟩
  | halt h w' => exact .inr ⟨h, w', rfl⟩
theorem run_v_value (s : Sem Value) (w : World) : (∃ v w', (s.bind fun x => Sem.pure (Next.value x)).run P w = .ok (.value v) w') ∨ (∃ h w', (s.bind fun x => Sem.pure (Next.value x)).run P w = .halt h w') := run_f_value s id w

theorem free_value {o : Oper} (hf : freeKind o = true) (ρ : Operand → Value) (w : World) : (∃ v w', (execOp ρ o).run P w = .ok (.value v) w') ∨ (∃ h w', (execOp ρ o).run P w = .halt h w') := by
  obtain ⟨dst, op, type, pos, after, guard⟩ := o
  cases op <;> simp only [freeKind, Bool.false_eq_true] at hf
  case move x => exact .inl ⟨_, _, rfl⟩
  case assign x => exact .inl ⟨_, _, rfl⟩
  case pick c a b => exact run_f_value (asBool (ρ c)) (fun t => if t then ρ a else ρ b) w
  case nilCheck x =>
    have hrp : ∃ h w', ((runtimePanic .nilDeref : Sem Next)).run P w = .halt h w' := by simp [runtimePanic, goPanic, go_sem]
    simp only [execOp]
    split
    · exact .inr hrp
    · exact .inr hrp
    · exact .inr hrp
    · split
      · exact .inr hrp
      · simp only [Sem.run_bind]
        generalize Sem.run P program w = r
        cases r with
        | halt h w' => exact .inr ⟨h, w', rfl⟩
        | ok x w1 =>
          simp only [Result.andThen_ok]
          generalize Sem.run P (nilAhead _ _ _ _) w1 = r
          cases r with
          | halt h w' => exact .inr ⟨h, w', rfl⟩
          | ok y w2 =>
            simp only [Result.andThen_ok]
            split
            · refine .inr ⟨_, _, rfl⟩
            · exact .inl ⟨_, _, rfl⟩
      · exact .inl ⟨_, _, rfl⟩
    · exact .inl ⟨_, _, rfl⟩
  case call c =>
    obtain ⟨callee, args, ts⟩ := c
    cases callee with
    | value f => simp at hf
    | invoke r n => simp at hf
    | builtin b => cases b <;> first | (simp at hf; done) | exact run_v_value _ _
  all_goals exact run_v_value _ _

/-- A free operation that is quiet in a class yields its value in every world of the class. -/
theorem quiet_value {o : Oper} (hf : freeKind o = true) {a : Act} {v : Value} {w : World} (h : o.quietAt P a C w v) : (execOp a.eval o).run P w = .ok (.value v) w := by
  unfold Oper.quietAt at h
  rcases free_value (P := P) hf a.eval w with ⟨u, w', hr⟩ | ⟨x, w', hr⟩
  · rw [hr] at h ⊢
    obtain ⟨rfl, rfl⟩ := h
    rfl
  · rw [hr] at h
    exact h.elim

/-- What an operation in the chain may come to: it yields a value, or calls a function that returns one. -/
def upV (P : Program) (K : Value → World → Prop) : Result Next → Prop
  | .ok (.value v) w' => K v w'
  | .ok .skip w' => K undef w'
  | .ok (.enter f args) w' => Calls P f args w' fun e w'' => ∃ v, e = .returned v ∧ K v w''
  | _ => False
theorem upV_mono {K K' : Value → World → Prop} (h : ∀ v w, K v w → K' v w) : ∀ {r : Result Next}, upV P K r → upV P K' r
  | .ok n w', hh => by
    cases n <;> simp only [upV] at hh ⊢
    case value v => exact h _ _ hh
    case skip => exact h _ _ hh
    case enter f args => exact hh.mono fun e w'' ⟨v, he, hk⟩ => ⟨v, he, h _ _ hk⟩
  | .halt x w', hh => by simp only [upV] at hh
theorem upV_some {K : Value → World → Prop} : ∀ {r : Result Next}, upV P K r → ∃ v w, K v w
  | .ok n w', hh => by
    cases n <;> simp only [upV] at hh
    case value v => exact ⟨_, _, hh⟩
    case skip => exact ⟨_, _, hh⟩
    case enter f args => obtain ⟨e, w'', fr, ⟨v, _, hk⟩, _⟩ := hh []; exact ⟨v, w'', hk⟩
  | .halt x w', hh => by simp only [upV] at hh
theorem wp_of_upV {o : Oper} {a : Act} {w : World} {K : Act → World → Prop} {Q : Exit → Act → World → Prop} (h : upV P (fun v w' => K (a.put o.dst v) w') ((execOp a.eval o).run P w)) : o.wp P a w K Q := by
  unfold Oper.wp
  generalize (execOp a.eval o).run P w = r at *
  cases r with
  | ok n w' =>
    cases n <;> simp only [upV] at h <;> simp only [Oper.upon]
    case value v => exact h
    case skip => exact h
    case enter f args => exact h.mono fun e w'' ⟨v, he, hk⟩ => by subst he; exact hk
  | halt x w' => simp only [upV] at h

/-- One operation: what it leaves goes to K. -/
def mOp (P : Program) (ops : Array Oper) (C : World → Prop) (o : Oper) (K : Act → World → Prop) (a : Act) (w : World) : Prop :=
  if Region.wanted o (yielded ops a.tmps) then
    if freeKind o then ∃ v, (∀ w, C w → (execOp a.eval o).run P w = .ok (.value v) w) ∧ K (a.put o.dst v) w
    else upV P (fun v w' => C w' ∧ K (a.put o.dst v) w') ((execOp a.eval o).run P w)
  else K (a.put o.dst undef) w
/-- The walk in the order of the text. -/
def wpMix (P : Program) (ops : Array Oper) (C : World → Prop) (Q : Act → World → Prop) : List Oper → Act → World → Prop
  | [], a, w => Q a w
  | o :: rest, a, w => mOp P ops C o (wpMix P ops C Q rest) a w
/-- Whatever order is picked from here on. -/
def wpAnyM (P : Program) (md : Region.Mode) (ops : Array Oper) (C : World → Prop) (Q : Act → World → Prop) : Nat → Array Bool → Act → World → Prop
  | 0, listed, a, w => Region.ready md ops listed = [] ∧ Q a w
  | fuel + 1, listed, a, w => (Region.ready md ops listed = [] → Q a w) ∧ ∀ i ∈ Region.ready md ops listed, ∀ o, ops[i]? = some o → mOp P ops C o (wpAnyM P md ops C Q fuel (listed.setIfInBounds i true)) a w

theorem mOp_put {o : Oper} {a : Act} {w : World} {K K' : Act → World → Prop} (hw : C w) (h : ∀ v w', C w' → K (a.put o.dst v) w' → K' (a.put o.dst v) w') (hh : mOp P ops C o K a w) : mOp P ops C o K' a w := by
  unfold mOp at *
  split
  · rename_i hwt
    rw [if_pos hwt] at hh
    split
    · rename_i hf
      rw [if_pos hf] at hh
      obtain ⟨v, h1, h2⟩ := hh
      exact ⟨v, h1, h _ _ hw h2⟩
    · rename_i hf
      rw [if_neg hf] at hh
      exact upV_mono (fun v w' hk => ⟨hk.1, h _ _ hk.1 hk.2⟩) hh
  · rename_i hwt
    rw [if_neg hwt] at hh
    exact h _ _ hw hh
theorem mOp_some {o : Oper} {a : Act} {w : World} {K : Act → World → Prop} (hw : C w) (hh : mOp P ops C o K a w) : ∃ v w', C w' ∧ K (a.put o.dst v) w' := by
  unfold mOp at hh
  split at hh
  · split at hh
    · obtain ⟨v, _, h2⟩ := hh; exact ⟨v, w, hw, h2⟩
    · obtain ⟨v, w', h1, h2⟩ := upV_some hh; exact ⟨v, w', h1, h2⟩
  · exact ⟨undef, w, hw, hh⟩
theorem wpOp_of_mOp {i : Nat} {o : Oper} (hi : ops[i]? = some o) {a : Act} {w : World} {K K' : Act → World → Prop} {Q : Exit → Act → World → Prop} (hw : C w) (h : ∀ a' w', C w' → K a' w' → K' a' w') (hh : mOp P ops C o K a w) : wpOp P ops Q i K' a w := by
  unfold mOp at hh
  unfold wpOp
  simp only [hi]
  split
  · rename_i hwt
    rw [if_pos hwt] at hh
    refine .inl ?_
    split at hh
    · obtain ⟨v, h1, h2⟩ := hh
      unfold Oper.wp
      rw [h1 w hw]
      exact h _ _ hw h2
    · exact wp_of_upV (upV_mono (fun v w' hk => h _ _ hk.1 hk.2) hh)
  · rename_i hwt
    rw [if_neg hwt] at hh
    exact h _ _ hw hh
theorem wpAny_of_M {Q : Act → World → Prop} {Q' : Exit → Act → World → Prop} (hQ : ∀ a w, C w → Q a w → Q' .normal a w) : ∀ (fuel : Nat) (listed : Array Bool) (a : Act) (w : World), C w →
    wpAnyM P md ops C Q fuel listed a w → wpAny P md ops Q' fuel listed a w
  | 0, _, _, _, hw, h => ⟨h.1, hQ _ _ hw h.2⟩
  | fuel + 1, listed, a, w, hw, h => ⟨fun h0 => hQ _ _ hw (h.1 h0), fun i hi => by
    obtain ⟨_, o, ho, _⟩ := mem_ready.1 hi
    exact wpOp_of_mOp ho hw (fun a' w' hw' => wpAny_of_M hQ fuel _ a' w' hw') (h.2 i hi o ho)⟩

/-- An operation's step looks at nothing that another one, apart from it, writes. -/
theorem mOp_far {oi oj : Oper} (hsi : ∀ cs b, oi.op ≠ .select cs b) (hap : oi.apart ops oj = true) {a : Act} {w : World} {u : Value} {K : Act → World → Prop}
    (h : mOp P ops C oi (fun a' w' => K (a'.put oj.dst u) w') a w) : mOp P ops C oi K (a.put oj.dst u) w := by
  obtain ⟨h1, h2, h3⟩ := Oper.apart_spec hap
  unfold mOp at *
  rw [wanted_put oi a oj.dst u h3, execOp_put oi hsi a oj.dst u h3]
  have hc : ∀ v, (a.put oj.dst u).put oi.dst v = (a.put oi.dst v).put oj.dst u := fun v => (Act.put_comm a v u h2).symm
  simp only [hc]
  exact h

/-- Which operations an operation waits for, by however many edges, as bits; acc: those of the operations ahead of it. -/
def maskOf (md : Region.Mode) (es : List Edge) (acc : List Nat) : Nat := es.foldl (fun s e => if Region.binds md e then (s ||| 2 ^ e.on) ||| acc.getD e.on 0 else s) 0
def masks (md : Region.Mode) : List Oper → List Nat → List Nat
  | [], acc => acc
  | o :: l, acc => masks md l (acc ++ [maskOf md o.after.toList acc])
theorem maskOf_bit {es : List Edge} {acc : List Nat} {i : Nat} (h : (maskOf md es acc).testBit i = true) : ∃ e ∈ es, Region.binds md e = true ∧ (e.on = i ∨ (acc.getD e.on 0).testBit i = true) := by
  unfold maskOf at h
  suffices H : ∀ (es : List Edge) (s : Nat), (es.foldl (fun s e => if Region.binds md e then (s ||| 2 ^ e.on) ||| acc.getD e.on 0 else s) s).testBit i = true → s.testBit i = true ∨ ∃ e ∈ es, Region.binds md e = true ∧ (e.on = i ∨ (acc.getD e.on 0).testBit i = true) by
    rcases H es 0 h with h | h
    · simp at h
    · exact h
  intro es
  induction es with
  | nil => intro s h; exact .inl h
  | cons e es ih =>
    intro s h
    rw [List.foldl_cons] at h
    rcases ih _ h with h1 | ⟨e', he', hb⟩
    · by_cases hbd : Region.binds md e = true
      · rw [if_pos hbd] at h1
        simp only [Nat.testBit_or, Bool.or_eq_true, Nat.testBit_two_pow, decide_eq_true_eq] at h1
        rcases h1 with (h1 | h1) | h1
        · exact .inl h1
        · exact .inr ⟨e, List.mem_cons_self .., hbd, .inl h1⟩
        · exact .inr ⟨e, List.mem_cons_self .., hbd, .inr h1⟩
      · rw [if_neg hbd] at h1; exact .inl h1
    · exact .inr ⟨e', List.mem_cons_of_mem _ he', hb⟩
def MOk (md : Region.Mode) (l : List Oper) (acc : List Nat) : Prop :=
  ∀ (k i : Nat), (acc.getD k 0).testBit i = true → ∃ o e, l[k]? = some o ∧ e ∈ o.after ∧ Region.binds md e = true ∧ (e.on = i ∨ (e.on < k ∧ (acc.getD e.on 0).testBit i = true))
theorem masks_ok (L : List Oper) : ∀ (l : List Oper) (acc : List Nat), (∀ j, l[j]? = L[acc.length + j]?) → MOk md L acc → MOk md L (masks md l acc)
  | [], acc, _, h => h
  | o :: l, acc, hl, h => by
    refine masks_ok L l _ (fun j => by have := hl (j + 1); simpa [Nat.add_assoc, Nat.add_comm 1 j] using this) ?_
    intro k i hk
    rcases Nat.lt_trichotomy k acc.length with hlt | heq | hgt
    · have e1 : (acc ++ [maskOf md o.after.toList acc]).getD k 0 = acc.getD k 0 := by simp [List.getD_eq_getElem?_getD, List.getElem?_append_left hlt]
      rw [e1] at hk
      obtain ⟨o', e, h1, h2, h3, h4⟩ := h k i hk
      refine ⟨o', e, h1, h2, h3, h4.imp id fun ⟨h5, h6⟩ => ⟨h5, ?_⟩⟩
      rw [show (acc ++ [maskOf md o.after.toList acc]).getD e.on 0 = acc.getD e.on 0 by simp [List.getD_eq_getElem?_getD, List.getElem?_append_left (Nat.lt_trans h5 hlt)]]
      exact h6
    · subst heq
      have e1 : (acc ++ [maskOf md o.after.toList acc]).getD acc.length 0 = maskOf md o.after.toList acc := by simp [List.getD_eq_getElem?_getD]
      rw [e1] at hk
      obtain ⟨e, h1, h2, h3⟩ := maskOf_bit hk
      refine ⟨o, e, by simpa using (hl 0).symm, Array.mem_toList_iff.1 h1, h2, h3.imp id fun h4 => ?_⟩
      have hlt : e.on < acc.length := by
        rcases Nat.lt_or_ge e.on acc.length with h5 | h5
        · exact h5
        · rw [List.getD_eq_getElem?_getD, List.getElem?_eq_none h5] at h4; simp at h4
      refine ⟨hlt, ?_⟩
      rw [show (acc ++ [maskOf md o.after.toList acc]).getD e.on 0 = acc.getD e.on 0 by simp [List.getD_eq_getElem?_getD, List.getElem?_append_left hlt]]
      exact h4
    · rw [List.getD_eq_getElem?_getD, List.getElem?_eq_none (by simp; omega)] at hk; simp at hk
/-- Operation j waits for operation i. -/
def waitsT (ms : List Nat) (j i : Nat) : Bool := (ms.getD j 0).testBit i
/-- What has come up has come up behind all that it waits for. -/
def DC (md : Region.Mode) (ops : Array Oper) (listed : Array Bool) : Prop :=
  ∀ (k : Nat) (o : Oper), ops[k]? = some o → listed.getD k false = true → ∀ e ∈ o.after, Region.binds md e = true → listed.getD e.on false = true
theorem DC.unlisted {ms : List Nat} (hms : MOk md ops.toList ms) {listed : Array Bool} (h : DC md ops listed) {i : Nat} (hi : listed.getD i false = false) : ∀ (j : Nat), waitsT ms j i = true → listed.getD j false = false := by
  intro j
  induction j using Nat.strongRecOn with
  | _ j ih =>
    intro hj
    cases hl : listed.getD j false with
    | false => rfl
    | true =>
      exfalso
      obtain ⟨o, e, ho, he, hb, hor⟩ := hms j i hj
      have hd := h j o (by simpa using ho) hl e he hb
      rcases hor with hb2 | ⟨hlt, hb2⟩
      · rw [hb2, hi] at hd; cases hd
      · rw [ih _ hlt hb2] at hd; cases hd
theorem DC.ready {ms : List Nat} (hms : MOk md ops.toList ms) {listed : Array Bool} (h : DC md ops listed) {i j : Nat} (hi : listed.getD i false = false) (hj : j ∈ Region.ready md ops listed) : waitsT ms j i = false := by
  cases hw : waitsT ms j i with
  | false => rfl
  | true =>
    exfalso
    obtain ⟨_, o, ho, hall⟩ := mem_ready.1 hj
    obtain ⟨o', e, ho', he, hb, hor⟩ := hms j i hw
    have e1 : o' = o := by
      have : ops[j]? = some o' := by simpa using ho'
      rw [ho] at this; cases this; rfl
    subst e1
    have hd := hall e he hb
    rcases hor with hb2 | ⟨_, hb2⟩
    · rw [hb2, hi] at hd; cases hd
    · rw [h.unlisted hms hi _ hb2] at hd; cases hd
theorem DC.step {listed : Array Bool} (h : DC md ops listed) {j : Nat} (hj : j ∈ Region.ready md ops listed) : DC md ops (listed.setIfInBounds j true) := by
  intro k o ho hl e he hb
  refine getD_set_true ?_
  by_cases hkj : k = j
  · subst hkj
    obtain ⟨_, o', ho', hall⟩ := mem_ready.1 hj
    rw [ho] at ho'; cases ho'
    exact hall e he hb
  · rw [getD_set_ne false (Ne.symm hkj)] at hl
    exact h k o ho hl e he hb
theorem ready_unlisted {listed : Array Bool} {i : Nat} (h : i ∈ Region.ready md ops listed) : listed.getD i false = false := by
  have h0 := (mem_ready.1 h).1
  rcases Nat.lt_or_ge i listed.size with h' | h'
  · simp [h'] at h0 ⊢; exact h0
  · simp [Array.getElem?_eq_none h'] at h0

/-- The first operation of those left, in the order of the text, may be taken first. -/
theorem wpAnyM_first {ms : List Nat} (hms : MOk md ops.toList ms) {Q : Act → World → Prop} {i : Nat} {oi : Oper} (hi : ops[i]? = some oi) (hsel : ∀ (j : Nat) (o : Oper) cs b, ops[j]? = some o → o.op ≠ .select cs b) :
    ∀ (fuel : Nat) (listed : Array Bool) (a : Act) (w : World), C w → DC md ops listed →
      (∀ j oj, ops[j]? = some oj → j ≠ i → listed.getD j true = false → waitsT ms j i = false → oi.apart ops oj = true ∧ (freeKind oi = true ∨ freeKind oj = true)) →
      i ∈ Region.ready md ops listed →
      mOp P ops C oi (wpAnyM P md ops C Q fuel (listed.setIfInBounds i true)) a w → wpAnyM P md ops C Q (fuel + 1) listed a w := by
  intro fuel
  induction fuel with
  | zero =>
    intro listed a w hw _ _ hr H
    refine ⟨fun h => (by rw [h] at hr; cases hr), fun j hj oj hoj => ?_⟩
    by_cases hji : j = i
    · subst hji
      rw [hi] at hoj; cases hoj
      exact H
    · obtain ⟨v, w', _, h1⟩ := mOp_some hw H
      have := ready_mono hj hji
      rw [h1.1] at this
      cases this
  | succ fuel ih =>
    intro listed a w hw hdc hfree hr H
    refine ⟨fun h => (by rw [h] at hr; cases hr), fun j hj oj hoj => ?_⟩
    by_cases hji : j = i
    · subst hji
      rw [hi] at hoj; cases hoj
      exact H
    · obtain ⟨hjun, oj', hoj', hall⟩ := mem_ready.1 hj
      rw [hoj] at hoj'; cases hoj'
      have hnot := hdc.ready hms (ready_unlisted hr) hj
      have hdc' := hdc.step hj
      obtain ⟨hap, hfk⟩ := hfree j oj hoj hji hjun hnot
      obtain ⟨d1, d2, d3⟩ := Oper.apart_spec hap
      have hsi := fun cs b => hsel i oi cs b hi
      have hsj := fun cs b => hsel j oj cs b hoj
      have hfree' : ∀ k ok, ops[k]? = some ok → k ≠ i → (listed.setIfInBounds j true).getD k true = false →
          waitsT ms k i = false → oi.apart ops ok = true ∧ (freeKind oi = true ∨ freeKind ok = true) := fun k ok hk hki hun hno => by
        refine hfree k ok hk hki ?_ hno
        by_cases hjk : j = k
        · subst hjk; exact hjun
        · rw [getD_set_ne true hjk] at hun; exact hun
      have hri := ready_mono hr (Ne.symm hji)
      have hcomm : (listed.setIfInBounds j true).setIfInBounds i true = (listed.setIfInBounds i true).setIfInBounds j true := Array.setIfInBounds_comm _ _ hji
      -- behind i, operation j may come up
      have hij : ∀ v w', wpAnyM P md ops C Q (fuel + 1) (listed.setIfInBounds i true) (a.put oi.dst v) w' →
          mOp P ops C oj (wpAnyM P md ops C Q fuel ((listed.setIfInBounds j true).setIfInBounds i true)) (a.put oi.dst v) w' := fun v w' h => by
        rw [hcomm]; exact h.2 j (ready_mono hj hji) oj hoj
      -- j's step looks not at i's temporary
      have hjw : ∀ v, Region.wanted oj (yielded ops (a.put oi.dst v).tmps) = Region.wanted oj (yielded ops a.tmps) := fun v => wanted_put oj a oi.dst v d1
      have hje : ∀ v, execOp (a.put oi.dst v).eval oj = execOp a.eval oj := fun v => execOp_put oj hsj a oi.dst v d1
      have hput : ∀ v u, (a.put oi.dst v).put oj.dst u = (a.put oj.dst u).put oi.dst v := fun v u => Act.put_comm a v u d2
      by_cases hwj : Region.wanted oj (yielded ops a.tmps) = true
      · by_cases hfj : freeKind oj = true
        · -- j is free: its value is the same whatever i leaves
          obtain ⟨v1, w1, hc1, k1⟩ := mOp_some hw H
          have k2 := hij v1 w1 k1
          unfold mOp at k2
          rw [hjw v1, if_pos hwj, if_pos hfj, hje v1] at k2
          obtain ⟨u, hu, _⟩ := k2
          have hstep : mOp P ops C oi (wpAnyM P md ops C Q fuel ((listed.setIfInBounds j true).setIfInBounds i true)) (a.put oj.dst u) w := by
            refine mOp_far hsi hap (mOp_put hw (fun v w' hc h => ?_) H)
            have k3 := hij v w' h
            unfold mOp at k3
            rw [hjw v, if_pos hwj, if_pos hfj, hje v] at k3
            obtain ⟨u', hu', k4⟩ := k3
            have e := hu w' hc
            rw [hu' w' hc] at e
            injection e with e1 e2
            injection e1 with e1
            rw [e1] at k4
            exact k4
          unfold mOp
          rw [if_pos hwj, if_pos hfj]
          exact ⟨u, hu, ih _ _ _ hw hdc' hfree' hri hstep⟩
        · -- j comes in the chain: i is free
          have hfi : freeKind oi = true := hfk.resolve_right hfj
          have key : ∀ v, wpAnyM P md ops C Q (fuel + 1) (listed.setIfInBounds i true) (a.put oi.dst v) w → (∀ u w', C w' → wpAnyM P md ops C Q fuel ((listed.setIfInBounds j true).setIfInBounds i true) ((a.put oj.dst u).put oi.dst v) w' → mOp P ops C oi (wpAnyM P md ops C Q fuel ((listed.setIfInBounds j true).setIfInBounds i true)) (a.put oj.dst u) w') →
              mOp P ops C oj (wpAnyM P md ops C Q (fuel + 1) (listed.setIfInBounds j true)) a w := fun v h hback => by
            have k3 := hij v w h
            unfold mOp at k3 ⊢
            rw [hjw v, if_pos hwj, if_neg hfj, hje v] at k3
            rw [if_pos hwj, if_neg hfj]
            refine upV_mono (fun u w' hk => ⟨hk.1, ?_⟩) k3
            rw [hput v u] at hk
            exact ih _ _ _ hk.1 hdc' hfree' hri (hback u w' hk.1 hk.2)
          have hiw : ∀ u, Region.wanted oi (yielded ops (a.put oj.dst u).tmps) = Region.wanted oi (yielded ops a.tmps) := fun u => wanted_put oi a oj.dst u d3
          have hie : ∀ u, execOp (a.put oj.dst u).eval oi = execOp a.eval oi := fun u => execOp_put oi hsi a oj.dst u d3
          unfold mOp at H
          by_cases hwi : Region.wanted oi (yielded ops a.tmps) = true
          · rw [if_pos hwi, if_pos hfi] at H
            obtain ⟨v, hv, h⟩ := H
            refine key v h fun u w' hc hk => ?_
            unfold mOp
            rw [hiw u, if_pos hwi, if_pos hfi, hie u]
            exact ⟨v, hv, hk⟩
          · rw [if_neg hwi] at H
            refine key undef H fun u w' hc hk => ?_
            unfold mOp
            rw [hiw u, if_neg hwi]
            exact hk
      · -- j is passed over
        have hstep : mOp P ops C oi (wpAnyM P md ops C Q fuel ((listed.setIfInBounds j true).setIfInBounds i true)) (a.put oj.dst undef) w := by
          refine mOp_far hsi hap (mOp_put hw (fun v w' hc h => ?_) H)
          have k3 := hij v w' h
          unfold mOp at k3
          rw [hjw v, if_neg hwj] at k3
          exact k3
        unfold mOp
        rw [if_neg hwj]
        exact ih _ _ _ hw hdc' hfree' hri hstep

/-- Every operation that has not come up waits for operation i, or is apart from it and one of the two is free. -/
def mixFree (ms : List Nat) (ops : Array Oper) (listed : Array Bool) (i : Nat) : Bool :=
  match ops[i]? with
  | none => false
  | some oi => (List.range ops.size).all fun j => j == i || listed.getD j true || match ops[j]? with
      | some oj => waitsT ms j i || (oi.apart ops oj && (freeKind oi || freeKind oj))
      | none => true
theorem mixFree_spec {ms : List Nat} {i : Nat} {oi : Oper} {listed : Array Bool} (hi : ops[i]? = some oi) (h : mixFree ms ops listed i = true) (j : Nat) (oj : Oper)
    (hj : ops[j]? = some oj) (hne : j ≠ i) (hun : listed.getD j true = false) (hno : waitsT ms j i = false) :
    oi.apart ops oj = true ∧ (freeKind oi = true ∨ freeKind oj = true) := by
  simp only [mixFree, hi, List.all_eq_true, List.mem_range] at h
  have h1 := h j (Array.getElem?_eq_some_iff.1 hj).1
  simpa [hj, hne, hun, hno] using h1
def mixFrom (md : Region.Mode) (ms : List Nat) (ops : Array Oper) : Nat → Nat → Array Bool → Bool
  | 0, _, listed => (Region.ready md ops listed).isEmpty
  | fuel + 1, k, listed => (Region.ready md ops listed).contains k && mixFree ms ops listed k && mixFrom md ms ops fuel (k + 1) (listed.setIfInBounds k true)
def mixB (md : Region.Mode) (ops : Array Oper) : Bool := Region.noSelect ops && mixFrom md (masks md ops.toList []) ops ops.size 0 (Array.replicate ops.size false)
theorem wpAnyM_lex {ms : List Nat} (hms : MOk md ops.toList ms) {Q : Act → World → Prop} (hs : Region.noSelect ops = true) : ∀ (l : List Oper) (k : Nat) (listed : Array Bool) (a : Act) (w : World), C w → DC md ops listed → (∀ j, l[j]? = ops[k + j]?) →
    mixFrom md ms ops l.length k listed = true → wpMix P ops C Q l a w → wpAnyM P md ops C Q l.length listed a w
  | [], _, _, _, _, _, _, _, hB, h => ⟨by simpa [mixFrom] using hB, h⟩
  | o :: l, k, listed, a, w, hw, hdc, hl, hB, h => by
    have h0 : ops[k]? = some o := by simpa using (hl 0).symm
    simp only [List.length_cons, mixFrom, Bool.and_eq_true] at hB
    obtain ⟨⟨hr, hf⟩, hB'⟩ := hB
    exact wpAnyM_first hms h0 (Region.noSelect_spec hs) l.length listed a w hw hdc (mixFree_spec h0 hf) (by simpa using hr)
      (mOp_put hw (fun v w' hc hk => wpAnyM_lex hms hs l (k + 1) _ _ _ hc (hdc.step (by simpa using hr)) (fun j => by have := hl (j + 1); simpa [Nat.add_assoc, Nat.add_comm 1 j] using this) hB' hk) h)
theorem getD_rep (m k : Nat) : (Array.replicate m false).getD k false = false := by
  unfold Array.getD
  split
  · simp
  · rfl
/-- One walk of the order of the text serves every order. -/
theorem wp_region_mix {id : Nat} {Q : Exit → Act → World → Prop} {a : Act} {w : World} {l : List Oper} (C : World → Prop) (hm : P.follows .mixedOrders = true) (hB : mixB .any l.toArray = true) (hC : C w.drew)
    (h : wpMix P l.toArray C (fun a' w' => C w' → Q .normal a' w') l a w.drew) : (Code.region id l.toArray true).wp P Q a w := by
  simp only [mixB, Bool.and_eq_true] at hB
  refine wp_region_any hm (wpAny_of_M (Q := fun a' w' => C w' → Q .normal a' w') (fun a' w' hw' h => h hw') _ _ _ _ hC ?_)
  have := wpAnyM_lex (C := C) (P := P) (md := .any) (masks_ok l l [] (by simp) (fun k i h => by simp at h)) hB.1 l 0 (Array.replicate l.toArray.size false) a w.drew hC (fun k o _ hl => absurd hl (by rw [getD_rep]; exact Bool.false_ne_true)) (by simp) (by simpa using hB.2) h
  simpa using this

/-! ### steps -/
variable {Q : Act → World → Prop} {a : Act} {w : World} {o : Oper} {rest : List Oper}
theorem mix_nil (h : Q a w) : wpMix P ops C Q [] a w := h
theorem mix_skip (hw : Region.wanted o (yielded ops a.tmps) = false) (h : wpMix P ops C Q rest (a.put o.dst undef) w) : wpMix P ops C Q (o :: rest) a w := by
  show mOp P ops C o _ a w
  unfold mOp
  rw [if_neg (by rw [hw]; exact Bool.false_ne_true)]
  exact h
theorem mix_free (hf : freeKind o = true) (hw : Region.wanted o (yielded ops a.tmps) = true) (h : ∀ K : Act → Prop, (∀ a', wpMix P ops C Q rest a' w → K a') → o.quiet P a C K) : wpMix P ops C Q (o :: rest) a w := by
  show mOp P ops C o _ a w
  unfold mOp
  rw [if_pos hw, if_pos hf]
  obtain ⟨v, h1, h2⟩ := h (fun a' => wpMix P ops C Q rest a' w) (fun _ h => h)
  exact ⟨v, fun w' hc => quiet_value hf (h1 w' hc), h2⟩
theorem mix_chain (hf : freeKind o = false) (hw : Region.wanted o (yielded ops a.tmps) = true) (h : ∀ K : Value → World → Prop, (∀ v w', C w' → wpMix P ops C Q rest (a.put o.dst v) w' → K v w') → upV P K ((execOp a.eval o).run P w)) : wpMix P ops C Q (o :: rest) a w := by
  show mOp P ops C o _ a w
  unfold mOp
  rw [if_pos hw, if_neg (by rw [hf]; exact Bool.false_ne_true)]
  exact h _ fun v w' hc hk => ⟨hc, hk⟩
theorem upV_call {K : Value → World → Prop} {f : FuncId} {args : Array Value} (h : Calls P f args w fun e w' => ∃ v, e = .returned v ∧ K v w') : upV P K (.ok (.enter f args) w) := h
end
end Go.Proofs.Ythlidbddeclnaaa
