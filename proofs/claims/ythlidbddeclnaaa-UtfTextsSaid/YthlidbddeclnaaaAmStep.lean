/- Small laws for walking over data. No statement is proved here. -/
import Derived.Test.YthlidbddeclnaaaAmDraw
import Derived.IntWalk
namespace Go.Proofs.Ythlidbddeclnaaa
open Go.RowKit
section
variable {P : Program} {N : Nat} {r : Option Nat} {A : AA} {st : St} {Q : Exit → AA → St → Prop} {K : AA → St → Prop} {id id' : Nat}
theorem strip_norm (h : K A st) : thenA K Q .normal A st := h
theorem strip_ret (h : Q .ret A st) : thenA K Q .ret A st := h
theorem strip_exit (h : Q (.exit id) A st) : thenA K Q (.exit id) A st := h
theorem blk_norm (h : Q .normal A st) : blockA id Q .normal A st := h
theorem blk_ret (h : Q .ret A st) : blockA id Q .ret A st := h
theorem blk_same (h : Q .normal A st) : blockA id Q (.exit id) A st := by
  show if id = id then _ else _
  rw [if_pos rfl]; exact h
theorem blk_ne (hn : (id' == id) = false) (h : Q (.exit id') A st) : blockA id Q (.exit id') A st := by
  show if id' = id then _ else _
  rw [if_neg (by simpa using hn)]; exact h
theorem tr_dec {c : Operand} {x y : Code} {t : Bool} (hc : ev A.e c = some (.s (.bool t))) (h1 : t = true → Tr P N r x A st Q) (h2 : t = false → Tr P N r y A st Q) : Tr P N r (.cond c x y) A st Q := by
  cases t
  · exact tr_false hc (h2 rfl)
  · exact tr_true hc (h1 rfl)
theorem ops_dec {ops : Array Oper} {o : Oper} {l : List Oper} {t : Tmp} {b : Bool} (_ : (o.guard.bind fun g => (ops[g.1]?).bind (·.dst)) = some t) (_ : A.e t = .s (.bool b)) (h1 : b = true → TrOps P r ops (o :: l) A st K) (h2 : b = false → TrOps P r ops (o :: l) A st K) : TrOps P r ops (o :: l) A st K := by
  cases b
  · exact h2 rfl
  · exact h1 rfl
theorem mix_dec {ops : Array Oper} {ro : Ro} {o : Oper} {l : List Oper} {t : Tmp} {b : Bool} (_ : (o.guard.bind fun g => (ops[g.1]?).bind (·.dst)) = some t) (_ : A.e t = .s (.bool b)) (h1 : b = true → wpMixA P r ro ops K (o :: l) A st) (h2 : b = false → wpMixA P r ro ops K (o :: l) A st) : wpMixA P r ro ops K (o :: l) A st := by
  cases b
  · exact h2 rfl
  · exact h1 rfl
theorem put_same {t : Tmp} {d : D} : (A.put (some t) d).e t = d := by simp [AA.put, upd]
theorem put_ne {t t' : Tmp} {d : D} (h : (t' == t) = false) : (A.put (some t) d).e t' = A.e t' := by
  have : t' ≠ t := by simpa using h
  simp [AA.put, upd, this]
theorem put_e {t t' : Tmp} {d : D} : (A.put (some t) d).e t' = if t' = t then d else A.e t' := rfl
theorem put_none {d : D} : A.put none d = A := rfl
theorem put_df {t : Option Tmp} {d : D} : (A.put t d).df = A.df := rfl
theorem init_e {args : List D} {df : List Deferred} {t : Tmp} : (AA.mk (initE args) df).e t = args.getD t D.un := rfl
theorem wanted_none {ops : Array Oper} {o : Oper} {e : Nat → D} (h : o.guard = none) : wantedA ops o e = true := by unfold wantedA; rw [h]
theorem wanted_yes {ops : Array Oper} {o : Oper} {e : Nat → D} {j : Nat} {t : Tmp} {b : Bool} (h : o.guard = some (j, b)) (ht : (ops[j]?).bind (·.dst) = some t) (he : e t = .s (.bool b)) : wantedA ops o e = true := by
  unfold wantedA; rw [h]; simp only [ht, he]; cases b <;> rfl
theorem wanted_no {ops : Array Oper} {o : Oper} {e : Nat → D} {j : Nat} {t : Tmp} {b b' : Bool} (h : o.guard = some (j, b)) (ht : (ops[j]?).bind (·.dst) = some t) (he : e t = .s (.bool b')) (hb : (b' == b) = false) : wantedA ops o e = false := by
  unfold wantedA; rw [h]; simp only [ht, he]; exact hb
theorem wanted_un {ops : Array Oper} {o : Oper} {e : Nat → D} {j : Nat} {t : Tmp} {b : Bool} (h : o.guard = some (j, b)) (ht : (ops[j]?).bind (·.dst) = some t) (he : e t = D.un) : wantedA ops o e = false := by
  unfold wantedA; rw [h]; simp only [ht, he]; rfl
variable {t : TypeId} {k : IntKind} {a b : Int}
theorem bin_add : aBin P .add t (.s (.int k a)) (.s (.int k b)) = some (.s (.int k (k.wrap (a + b)))) := by simp [aBin, binOp, Op.intArith, pureV]; rfl
theorem bin_sub : aBin P .sub t (.s (.int k a)) (.s (.int k b)) = some (.s (.int k (k.wrap (a - b)))) := by simp [aBin, binOp, Op.intArith, pureV]; rfl
theorem bin_mul : aBin P .mul t (.s (.int k a)) (.s (.int k b)) = some (.s (.int k (k.wrap (a * b)))) := by simp [aBin, binOp, Op.intArith, pureV]; rfl
theorem bin_quo (h : (b == 0) = false) : aBin P .quo t (.s (.int k a)) (.s (.int k b)) = some (.s (.int k (k.wrap (a.tdiv b)))) := by
  have : b ≠ 0 := by simpa using h
  simp [aBin, binOp, Op.intDiv, pureV, this]; rfl
theorem bin_rem (h : (b == 0) = false) : aBin P .rem t (.s (.int k a)) (.s (.int k b)) = some (.s (.int k (a.tmod b))) := by
  have : b ≠ 0 := by simpa using h
  simp [aBin, binOp, Op.intDiv, pureV, this]; rfl
theorem bin_and : aBin P .and t (.s (.int k a)) (.s (.int k b)) = some (.s (.int k (bits .and k a b))) := by simp [aBin, binOp, intBits_and, pureV]; rfl
theorem bin_or : aBin P .or t (.s (.int k a)) (.s (.int k b)) = some (.s (.int k (bits .or k a b))) := by simp [aBin, binOp, intBits_or, pureV]; rfl
theorem bin_xor : aBin P .xor t (.s (.int k a)) (.s (.int k b)) = some (.s (.int k (bits .xor k a b))) := by simp [aBin, binOp, intBits_xor, pureV]; rfl
theorem bin_andNot : aBin P .andNot t (.s (.int k a)) (.s (.int k b)) = some (.s (.int k (bits .andNot k a b))) := by simp [aBin, binOp, intBits_andNot, pureV]; rfl
theorem bin_eql : aBin P .eql t (.s (.int k a)) (.s (.int k b)) = some (.b (a == b)) := by simp [aBin, binOp, Op.intCmp, pureV]; rfl
theorem bin_neq : aBin P .neq t (.s (.int k a)) (.s (.int k b)) = some (.b (a != b)) := by simp [aBin, binOp, Op.intCmp, pureV]; rfl
theorem bin_lss : aBin P .lss t (.s (.int k a)) (.s (.int k b)) = some (.b (decide (a < b))) := by simp [aBin, binOp, Op.intCmp, pureV]; rfl
theorem bin_leq : aBin P .leq t (.s (.int k a)) (.s (.int k b)) = some (.b (decide (a ≤ b))) := by simp [aBin, binOp, Op.intCmp, pureV]; rfl
theorem bin_gtr : aBin P .gtr t (.s (.int k a)) (.s (.int k b)) = some (.b (decide (b < a))) := by simp [aBin, binOp, Op.intCmp, pureV]; rfl
theorem bin_geq : aBin P .geq t (.s (.int k a)) (.s (.int k b)) = some (.b (decide (b ≤ a))) := by simp [aBin, binOp, Op.intCmp, pureV]; rfl
theorem bin_shr {k' : IntKind} (h0 : 0 ≤ b) (h1 : b ≤ k.bits) : aBin P .shr t (.s (.int k a)) (.s (.int k' b)) = some (.s (.int k (a / 2 ^ b.toNat))) := by
  simp only [aBin]
  rw [show binOp .shr 0 (.int k a) (.int k' b) = Op.shift .shr k a k' b from rfl, shift_shr k k' a b h0 h1]; rfl
theorem bin_shl {k' : IntKind} (h0 : 0 ≤ b) (h1 : b ≤ k.bits) : aBin P .shl t (.s (.int k a)) (.s (.int k' b)) = some (.s (.int k (k.wrap (a * 2 ^ b.toNat)))) := by
  simp only [aBin]
  rw [show binOp .shl 0 (.int k a) (.int k' b) = Op.shift .shl k a k' b from rfl, shift_shl k k' a b h0 h1]; rfl
theorem un_not {b : Bool} : aUn .not (.s (.bool b)) = some (.b (!b)) := rfl
theorem un_neg : aUn .neg (.s (.int k a)) = some (.s (.int k (k.wrap (0 - a)))) := rfl
theorem un_xor : aUn .xor (.s (.int k a)) = some (.s (.int k (bits .xor k (if k.signed then -1 else k.max) a))) := rfl
/-- Two texts are the same just if their bytes are. -/
theorem str_eql {x y : ByteArray} : aBin P .eql t (.str x) (.str y) = some (.b (x.toList == y.toList)) := rfl
theorem str_neq {x y : ByteArray} : aBin P .neq t (.str x) (.str y) = some (.b (!(x.toList == y.toList))) := rfl
theorem str_add {x y : ByteArray} (h : x.size + y.size ≤ 9223372036854775807) : aBin P .add t (.str x) (.str y) = some (.str (x ++ y)) := by
  have : ¬ (((x.size + y.size : Nat) : Int) > IntKind.i64.max) := by
    show ¬ (_ > (9223372036854775807 : Int)); omega
  simp only [aBin, binOp, Op.stringOp, if_neg this]; rfl
theorem i64_in {n : Int} (h1 : -9223372036854775808 ≤ n) (h2 : n ≤ 9223372036854775807) : IntKind.i64.wrap n = n := IntWalk.i64_in n ⟨h1, h2⟩
theorem u8_in {n : Int} (h1 : 0 ≤ n) (h2 : n ≤ 255) : IntKind.u8.wrap n = n := IntWalk.u8_in n ⟨h1, h2⟩
theorem ret_eq {ts : List Tmp} {X : D} {ex : Exit} {st0 : St} (hex : ex = .normal ∨ ex = .ret) (hdf : A.df = []) (hs : st0.Sublist st) (hd : LE (resD ts A.e) X) : retA ts (fun d st' => d = X ∧ st' = st0) ex A st := retA_mk hex hdf hs hd ⟨rfl, rfl⟩
theorem ops_app {ops : Array Oper} {o : Oper} {l : List Oper} {dst : Option Tmp} {t : TypeId} {ti : TI} {x y : Operand} {el : TypeId} {sz bytes : Nat} {z : List Value} {ow oy : Own} {es ys : List (List D)} {s1 : Own → St} (hdst : o.dst = dst) (hw : wantedA ops o A.e = true) (ho : o.op = .call { callee := .builtin .append, args := #[x, y], argTypes := #[t, t] })
    (hx : ev A.e x = some (.sl ow es)) (hy : ev A.e y = some (.sl oy ys)) (ht : tinfo P t = some ti) (hk : ti.k = .slice el sz bytes z) (hne : ow ≠ .shared) (hat : ∀ o', ResAt (.room ow el sz es.length) (.room o' el sz (es ++ ys).length) st (s1 o'))
    (hes : ∀ a ∈ es, a.length = sz) (hys : ∀ a ∈ ys, a.length = sz) (hb : (es.length + ys.length) * bytes ≤ 140737488355328) (hm : es.length + ys.length ≤ 140737488355328) (hK : ∀ o', o' ≠ .shared → TrOps P r ops l (A.put dst (.sl o' (es ++ ys))) (s1 o') K) : TrOps P r ops (o :: l) A st K :=
  ops_chain (R := fun d st' => ∃ o', o' ≠ .shared ∧ d = .sl o' (es ++ ys) ∧ st' = s1 o') hdst hw (opC_append ho hx hy ht hk hne hat hes hys hb hm fun o' h => ⟨o', h, rfl, rfl⟩) fun d st' ⟨o', h, e1, e2⟩ => by subst e1 e2; exact hK o' h
theorem LEL.nil : LEL [] [] := trivial
theorem LEL.cons {d d' : D} {l l' : List D} (h : LE d d') (k : LEL l l') : LEL (d :: l) (d' :: l') := ⟨h, k⟩
theorem len_map {α : Type} {f : α → List D} {n : Nat} (hf : ∀ x, (f x).length = n) (l : List α) : ∀ a ∈ l.map f, a.length = n := fun a ha => by
  obtain ⟨x, -, rfl⟩ := List.mem_map.1 ha; exact hf x
theorem len_one {a : List D} {n : Nat} (h : a.length = n) : ∀ x ∈ [a], x.length = n := fun x hx => by
  rw [List.mem_singleton] at hx; subst hx; exact h
theorem len_nil {n : Nat} : ∀ x ∈ ([] : List (List D)), x.length = n := fun x hx => by cases hx
/-- A call of a function with a plain contract. -/
theorem ops_call {ops : Array Oper} {o : Oper} {l : List Oper} {dst : Option Tmp} {c : Call} {f : FuncId} {ds ds' : List D} {X : D} {g : Operand} (henter : ∀ args w, (callFunc f args).run P w = .ok (.enter f args) w) (hdst : o.dst = dst) (ho : o.op = .call c) (hc : c.callee = .value g) (hg : ev A.e g = some (.fn (.func f) [] [])) (hw : wantedA ops o A.e = true) (hargs : evL A.e c.args.toList = some ds) (hle : LEL ds ds')
    (h : TrF P f ds' st fun d st' => d = X ∧ st' = st) (k : TrOps P r ops l (A.put dst X) st K) : TrOps P r ops (o :: l) A st K :=
  ops_chain (R := fun d st' => d = X ∧ st' = st) hdst hw (opC_call ho hc hg hargs henter (by simp only [List.nil_append, List.append_nil]; exact h.le hle)) fun d st' ⟨e1, e2⟩ => by subst e1 e2; exact k
theorem mix_call {ro : Ro} {ops : Array Oper} {o : Oper} {l : List Oper} {dst : Option Tmp} {c : Call} {f : FuncId} {ds ds' : List D} {X : D} {g : Operand} (henter : ∀ args w, (callFunc f args).run P w = .ok (.enter f args) w) (hdst : o.dst = dst) (hf : freeA o = false) (ho : o.op = .call c) (hc : c.callee = .value g) (hg : ev A.e g = some (.fn (.func f) [] [])) (hw : wantedA ops o A.e = true) (hargs : evL A.e c.args.toList = some ds) (hle : LEL ds ds')
    (h : TrF P f ds' st fun d st' => d = X ∧ st' = st) (hk : Keeps ro st) (k : wpMixA P r ro ops K l (A.put dst X) st) : wpMixA P r ro ops K (o :: l) A st :=
  mixA_chain (R := fun d st' => d = X ∧ st' = st) hdst hf hw (opC_call ho hc hg hargs henter (by simp only [List.nil_append, List.append_nil]; exact h.le hle)) ⟨X, st, rfl, rfl⟩ fun d st' ⟨e1, e2⟩ => by subst e1 e2; exact ⟨hk, k⟩
theorem kT_of {ti : TI} (h : tinfo P t = some ti) : kT P t = ti.k := by unfold kT; rw [h]
end
/-! What the walks rewrite by. -/
attribute [push_cast] bytesOf_map if_pos if_neg ev evL initE evP constD leafD put_e put_none init_e List.getD_cons_zero List.getD_cons_succ List.getD_nil if_true if_false ite_true ite_false bin_add bin_sub bin_mul bin_quo bin_rem bin_and bin_or bin_xor bin_andNot bin_eql bin_neq bin_lss bin_leq bin_gtr bin_geq bin_shr bin_shl un_not un_neg un_xor str_eql str_neq str_add aConv aField aFieldAddr aIndexAddr aIndex intOfD optInt aSlice aBounds aBuild aBuildSlice aFill aLen aBi kT readD D.cells D.sh D.leaf i64_in u8_in Option.map_some Option.bind_some Option.map_none Option.bind_none List.map_cons List.map_nil List.map_append Int.natCast_add List.length_cons List.length_nil List.length_map List.length_append List.drop_zero List.drop_succ_cons List.drop_nil List.take_succ_cons List.take_zero List.take_nil List.head?_cons List.getElem?_cons_zero List.getElem?_cons_succ List.getElem?_map List.all_cons List.all_nil Int.natCast_nonneg Int.toNat_natCast Int.ofNat_lt Int.ofNat_le Nat.add_zero Nat.zero_add Nat.zero_mul Nat.succ_pos Nat.lt_add_one Nat.lt_irrefl Int.lt_irrefl Value.oneCell' noAgg and_self and_true true_and Bool.and_true Bool.true_and Bool.and_self Bool.not_true Bool.not_false decide_true decide_false beq_self_eq_true splice List.cons_append List.nil_append List.append_nil resD TI.k TI.sz TI.agg TI.zero decide_eq_true_eq List.replicate_succ List.replicate_zero List.flatten_cons List.flatten_nil chop
end Go.Proofs.Ythlidbddeclnaaa
