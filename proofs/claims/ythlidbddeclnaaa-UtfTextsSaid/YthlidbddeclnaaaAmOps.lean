/- Operations that turn nothing: what they come to, as a function of what their slots read as; and that they do. No statement is proved here. -/
import Derived.Test.YthlidbddeclnaaaAmFn
import Derived.Laws.IdiomStrings
namespace Go.Proofs.Ythlidbddeclnaaa
open Go.RowKit

abbrev D.i (n : Int) : D := .s (.int .i64 n)
abbrev D.b (t : Bool) : D := .s (.bool t)
abbrev D.y (b : UInt8) : D := .s (.int .u8 (b.toNat : Int))
abbrev D.str (s : ByteArray) : D := .s (.string s)
/-- A list of bytes, a list of numbers. -/
def encB (b : UInt8) : List D := [.y b]
def encI (n : Int) : List D := [.i n]

def kT (P : Program) (t : TypeId) : TK :=
  match tinfo P t with
  | some ti => ti.k
  | none => .other
def pureV : Sem Value → Option Value
  | .pure v => some v
  | _ => none
theorem pureV_run {s : Sem Value} {v : Value} (h : pureV s = some v) (P : Program) (w : World) : s.run P w = .ok v w := by
  cases s <;> simp [pureV] at h
  subst h; rfl
def scal : Value → Bool
  | .int _ _ | .string _ => true
  | _ => false
def aBin (P : Program) (op : BinOp) (t : TypeId) : D → D → Option D
  | .s (.int k a), .s (.int k' b) => (pureV (binOp op 0 (.int k a) (.int k' b))).map .s
  | .s (.string a), .s (.string b) => (pureV (binOp op 0 (.string a) (.string b))).map .s
  | .s (.bool a), .s (.bool b) => match kT P t, op with
    | .bool, .eql => some (.b (a == b))
    | .bool, .neq => some (.b (!(a == b)))
    | _, _ => none
  | .ptr _ _, .s (.pointer none) => match kT P t, op with
    | .pointer, .eql => some (.b false)
    | .pointer, .neq => some (.b true)
    | _, _ => none
  | .s (.pointer none), .s (.pointer none) => match kT P t, op with
    | .pointer, .eql => some (.b true)
    | .pointer, .neq => some (.b false)
    | _, _ => none
  | _, _ => none
def aUn (op : UnOp) : D → Option D
  | .s v => match v with
    | .bool _ | .int _ _ => (pureV (Op.unary op v)).map .s
    | _ => none
  | _ => none
/-- The bytes of elements. -/
def bytesOf : List (List D) → Option (List UInt8)
  | [] => some []
  | [.s (.int .u8 n)] :: l => match bytesOf l with
    | some t => if 0 ≤ n ∧ n ≤ 255 then some (UInt8.ofNat n.toNat :: t) else none
    | none => none
  | _ :: _ => none
theorem bytesOf_map (l : List UInt8) : bytesOf (l.map encB) = some l := by
  induction l with
  | nil => rfl
  | cons b l ih =>
    have h1 := b.toNat_lt
    rw [List.map_cons]
    show (match bytesOf (l.map encB) with | some t => if 0 ≤ (b.toNat : Int) ∧ (b.toNat : Int) ≤ 255 then some (UInt8.ofNat (b.toNat : Int).toNat :: t) else none | none => none) = _
    rw [ih]
    simp only
    rw [if_pos (by omega)]
    simp
theorem bytesOf_rep {O : Nat → Nat → Prop} {w : World} : ∀ {es : List (List D)} {l : List UInt8} {us : List Value}, bytesOf es = some l → RepL O w us es.flatten → us = l.map bv ∧ es.length = l.length
  | [], l, us, h, hr => by
    cases h
    exact ⟨hr.inv_nil, rfl⟩
  | e :: es, l, us, h, hr => by
    unfold bytesOf at h
    split at h
    · rename_i heq; cases heq
    · rename_i n l' heq
      cases heq
      split at h
      · rename_i t ht
        split at h
        · rename_i hn
          cases h
          rw [List.flatten_cons] at hr
          obtain ⟨u, us', rfl, h1, h2⟩ := RepL.inv_cons hr
          obtain ⟨k1, k2⟩ := bytesOf_rep ht h2
          subst k1
          refine ⟨?_, by simp [k2]⟩
          rw [List.map_cons]
          congr 1
          cases h1
          unfold bv
          rw [UInt8.toNat_ofNat', Nat.mod_eq_of_lt (by omega)]
          congr 1
          omega
        · cases h
      · cases h
    · cases h
def aConv (P : Program) (src dst : TypeId) (d : D) : Option D :=
  match tinfo P src, tinfo P dst with
  | some ts, some td => match ts.k, td.k, d with
    | _, .int k, .s (.int _ n) => some (.s (.int k (k.wrap n)))
    | _, .string, .s (.string s) => some (.str s)
    | .slice e _ _ _, .string, .sl _ es => match kT P e with
      | .int .u8 => (bytesOf es).map fun l => .str ⟨l.toArray⟩
      | _ => none
    | .string, .slice e _ _ _, .s (.string s) => match kT P e with
      | .int .u8 => if s.size ≤ 140737488355328 then some (.sl .shared (s.data.toList.map encB)) else none
      | _ => none
    | _, _, _ => none
  | _, _ => none
def aField (P : Program) (t : TypeId) (f : Nat) : D → Option D
  | .agg cs => match tinfo P t with
    | some ti => match ti.k with
      | .struct fs => match fs[f]? with
        | some (off, sz, true) => if off + sz ≤ cs.length then some (.agg ((cs.drop off).take sz)) else none
        | some (off, _, false) => cs[off]?
        | none => none
      | _ => none
    | none => none
  | _ => none
def aFieldAddr (P : Program) (t : TypeId) (f : Nat) (d : D) : Option D :=
  match tinfo P t with
  | some ti => match ti.k with
    | .struct fs => match fs[f]? with
      | some (off, sz, _) => if 0 < sz then match d with
          | .ptr b o => some (.ptr b (o + off))
          | .ip cs => if off < cs.length then some (.ip (cs.drop off)) else none
          | _ => none
        else none
      | none => none
    | _ => none
  | none => none
def aIndexAddr (P : Program) (t : TypeId) (d : D) (n : Int) : Option D :=
  match tinfo P t with
  | some ti => match ti.k, d with
    | .slice _ sz _ _, .sl _ es => if 0 ≤ n ∧ n < es.length then match es[n.toNat]? with
        | some c => if c.length = sz then some (.ip c) else none
        | none => none
      else none
    | .slice _ sz _ _, .ar g off len _ => if 0 ≤ n ∧ n < len then some (.ptr g (off + n.toNat * sz)) else none
    | .array len sz _, .ptr b off => if 0 ≤ n ∧ n < len then some (.ptr b (off + n.toNat * sz)) else none
    | .array len sz _, .ip cs => if 0 ≤ n ∧ n < len ∧ n.toNat * sz < cs.length then some (.ip (cs.drop (n.toNat * sz))) else none
    | _, _ => none
  | none => none
def aIndex (P : Program) (t : TypeId) (d : D) (n : Int) : Option D :=
  match tinfo P t with
  | some ti => match ti.k, d with
    | .string, .s (.string s) => if 0 ≤ n then (s.data.toList[n.toNat]?).map D.y else none
    | .array len sz ag, .agg cs => if 0 ≤ n ∧ n < len then (if ag then (if n.toNat * sz + sz ≤ cs.length then some (.agg ((cs.drop (n.toNat * sz)).take sz)) else none) else cs[n.toNat * sz]?) else none
    | _, _ => none
  | none => none
def intOfD : Option D → Option Int
  | some (.s (.int _ n)) => some n
  | _ => none
/-- Bounds of a slice expression. -/
def aBounds (len : Nat) (lo hi : Option Int) : Option (Nat × Nat) :=
  let h := match hi with
    | some h => if 0 ≤ h ∧ h ≤ len then some h.toNat else none
    | none => some len
  match h with
  | some h => match lo with
    | some l => if 0 ≤ l ∧ l ≤ h then some (l.toNat, h) else none
    | none => some (0, h)
  | none => none
def optInt (e : Nat → D) : Option Operand → Option (Option Int)
  | none => some none
  | some x => match ev e x with
    | some (.s (.int _ n)) => some (some n)
    | _ => none
/-- s[lo:hi] and s[lo:hi:hi]. -/
def aSlice (P : Program) (t : TypeId) (d : D) (lo hi mx : Option Int) : Option D :=
  match kT P t, d with
  | .string, .s (.string s) => match mx with
    | none => match aBounds s.size lo hi with
      | some (l, h) => some (.str (s.extract l h))
      | none => none
    | some _ => none
  | .slice _ sz _ _, .sl _ es => match aBounds es.length lo hi with
    | some (l, h) => if es.all (fun e => e.length == sz) then (match mx with
      | none => some (.sl .shared ((es.drop l).take (h - l)))
      | some m => if hi = some m then some (.sl .tight ((es.drop l).take (h - l))) else none) else none
    | none => none
  | _, _ => none
/-- Parts laid into cells. -/
def aFill (place : Nat → Option (Nat × Nat)) : List D → List (Nat × D) → Option (List D)
  | cs, [] => some cs
  | cs, (i, d) :: rest => match place i with
    | some (off, sz) => if d.cells.length = sz ∧ off + sz ≤ cs.length then aFill place (splice cs off (d.cells.map D.sh)) rest else none
    | none => none
def evP (e : Nat → D) : List (Nat × Operand) → Option (List (Nat × D))
  | [] => some []
  | (i, x) :: l => match ev e x, evP e l with
    | some d, some ds => some ((i, d) :: ds)
    | _, _ => none
def aBuild (P : Program) (t : TypeId) (ps : List (Nat × D)) : Option D :=
  match tinfo P t with
  | some ti => if ti.zero.all noAgg then match ti.k with
    | .struct fs => (aFill (fun i => (fs[i]?).map fun f => (f.1, f.2.1)) (ti.zero.map leafD) ps).map .agg
    | .array _ sz _ => (aFill (fun i => some (i * sz, sz)) (ti.zero.map leafD) ps).map .agg
    | _ => none
    else none
  | none => none
def chop (sz : Nat) : Nat → List D → List (List D)
  | 0, _ => []
  | n + 1, l => l.take sz :: chop sz n (l.drop sz)
def aBuildSlice (P : Program) (t : TypeId) (n : Nat) (ps : List (Nat × D)) : Option D :=
  match tinfo P t with
  | some ti => match ti.k with
    | .slice _ sz _ z => if z.all noAgg ∧ n ≤ 1000 ∧ sz ≤ 100 then match aFill (fun i => some (i * sz, sz)) ((List.replicate n (z.map leafD)).flatten.map D.sh) ps with
        | some cs => if cs.all D.leaf then some (.sl .tight (chop sz n cs)) else none
        | none => none
      else none
    | _ => none
  | none => none
def aLen (P : Program) (t : TypeId) : D → Option Int
  | .sl _ es => match kT P t with
    | .slice .. => some es.length
    | _ => none
  | .ar _ _ n _ => match kT P t with
    | .slice .. => some n
    | _ => none
  | .s (.string s) => match kT P t with
    | .string => some s.size
    | _ => none
  | _ => none
def aBi (P : Program) (bi : Builtin) (ts : List TypeId) (ds : List D) : Option D :=
  match bi, ts, ds with
  | .len, [t], [d] => (aLen P t d).map .i
  | .cap, [t], [.sl .tight es] => match kT P t with
    | .slice .. => some (.i es.length)
    | _ => none
  | .min, _, [.s (.int k a), .s (.int _ b)] => some (.s (.int k (if b < a then b else a)))
  | .max, _, [.s (.int k a), .s (.int _ b)] => some (.s (.int k (if b > a then b else a)))
  | _, _, _ => none
def aOp (P : Program) (o : Oper) (e : Nat → D) : Option D :=
  match o.op with
  | .move x => ev e x
  | .assign x => ev e x
  | .pick c a b => match ev e c with
    | some (.s (.bool t)) => if t then ev e a else ev e b
    | _ => none
  | .nilCheck x => match ev e x with
    | some (.ptr b o) => some (.ptr b o)
    | some (.ip c) => some (.ip c)
    | some (.fn (.func f) a b) => some (.fn (.func f) a b)
    | some (.fn (.yield f) a b) => some (.fn (.yield f) a b)
    | _ => none
  | .binOp op t x y _ => match ev e x, ev e y with
    | some a, some b => aBin P op t a b
    | _, _ => none
  | .unOp op _ x => (ev e x).bind (aUn op)
  | .convert src dst x => (ev e x).bind (aConv P src dst)
  | .makeFunc fn first caps => match evL e first.toList, evL e caps.toList with
    | some a, some b => some (.fn fn a b)
    | _, _ => none
  | .extract t i => match ev e t with
    | some (.tup ds) => ds[i]?
    | _ => none
  | .field t x f => (ev e x).bind (aField P t f)
  | .fieldAddr t x f => (ev e x).bind (aFieldAddr P t f)
  | .indexAddr t x i => match ev e x, intOfD (ev e i) with
    | some d, some n => aIndexAddr P t d n
    | _, _ => none
  | .index t x i => match ev e x, intOfD (ev e i) with
    | some d, some n => aIndex P t d n
    | _, _ => none
  | .load t x => match ev e x, tinfo P t with
    | some (.ip cs), some ti => readD ti cs
    | _, _ => none
  | .slice t x lo hi mx => match ev e x, optInt e lo, optInt e hi, optInt e mx with
    | some d, some l, some h, some m => aSlice P t d l h m
    | _, _, _, _ => none
  | .build t ps => (evP e ps.toList).bind (aBuild P t)
  | .buildSlice t n ps => (evP e ps.toList).bind (aBuildSlice P t n)
  | .box _ x => match ev e x with
    | some d => if d.cells.all D.leaf then some (.ip d.cells) else none
    | none => none
  | .call c => match c.callee with
    | .builtin bi => (evL e c.args.toList).bind (aBi P bi c.argTypes.toList)
    | _ => none
  | _ => none

/-! ### that they do -/
section
variable {P : Program} {N : Nat} {st : St} {w : World} {a : Act} {A : AA}
def Out (st : St) (w : World) (d : D) (P : Program) (s : Sem Value) : Prop := ∃ v w', s.run P w = .ok v w' ∧ Rep (OwnS st) w' v d ∧ Holds st w' ∧ Ext (OwnS st) w (OwnS st) w'
theorem Out.same {d : D} {s : Sem Value} {v : Value} (hh : Holds st w) (h : s.run P w = .ok v w) (hr : Rep (OwnS st) w v d) : Out st w d P s := ⟨v, w, h, hr, hh, Ext.refl _ _⟩
theorem rep_int {O : Nat → Nat → Prop} {v : Value} {k : IntKind} {n : Int} (h : Rep O w v (.s (.int k n))) : v = .int k n := by cases h; rfl
theorem rep_s {O : Nat → Nat → Prop} {v u : Value} (h : Rep O w v (.s u)) : v = u := by cases h; rfl
theorem kT_spec {t : TypeId} {k : TK} (h : kT P t = k) (hk : k ≠ .other) : ∃ ti, tinfo P t = some ti ∧ ti.k = k := by
  unfold kT at h
  split at h
  · rename_i ti hti; exact ⟨ti, hti, h⟩
  · exact absurd h.symm hk
theorem und_of_k {t : TypeId} {ti : TI} (h : tinfo P t = some ti) :
    (ti.k = .bool → P.underlying t = some .bool) ∧ (∀ k, ti.k = .int k → P.underlying t = some (.int k)) ∧ (ti.k = .string → P.underlying t = some .string) ∧ (ti.k = .pointer → ∃ e, P.underlying t = some (.pointer e)) ∧
    (∀ e sz by_ z, ti.k = .slice e sz by_ z → P.underlying t = some (.slice e) ∧ ∃ i zv, P.info? e = some i ∧ i.zero = some zv ∧ zv.cells.toList = z ∧ i.size = sz ∧ i.bytes = by_ ∧ 0 < sz ∧ zv.cells.size = sz) ∧
    (∀ fs, ti.k = .struct fs → ∃ fields, P.underlying t = some (.struct fields) ∧ (∀ f ∈ fields.toList, (P.info? f.type).isSome ∧ (P.underlying f.type).isSome) ∧ fs = fields.toList.map fun f => (f.offset, szT P f.type, aggT P f.type)) ∧
    (∀ n sz ag, ti.k = .array n sz ag → ∃ e, P.underlying t = some (.array n e) ∧ (P.info? e).isSome ∧ (P.underlying e).isSome ∧ sz = szT P e ∧ ag = aggT P e) := by
  obtain ⟨d, hd, -, hk⟩ := run_und_of h
  rw [hk]
  unfold kindT
  rw [hd]
  cases d <;> simp only [reduceCtorEq, false_implies, implies_true, and_true, true_and, forall_const, TK.int.injEq, Option.some.injEq, TypeDesc.int.injEq, imp_self, TypeDesc.pointer.injEq, exists_eq', and_self]
  case slice e =>
    cases hi : P.info? e with
    | none => simp
    | some i =>
      simp only
      cases hz : i.zero with
      | none => simp
      | some zv =>
        simp only
        split
        · rename_i hq
          simp only [reduceCtorEq, false_implies, implies_true, and_true, true_and, TK.slice.injEq]
          rintro e' sz b z ⟨rfl, rfl, rfl, rfl⟩
          exact ⟨rfl, i, zv, hi, hz, rfl, rfl, rfl, hq.2, hq.1⟩
        · simp
  case struct fields =>
    split
    · rename_i hq
      simp only [reduceCtorEq, false_implies, implies_true, and_true, true_and, TK.struct.injEq]
      rintro fs rfl
      refine ⟨fields, rfl, fun f hf => ?_, rfl⟩
      have := Array.all_eq_true_iff_forall_mem.1 hq f (by simpa using hf)
      simpa using this
    · simp
  case array n e =>
    split
    · rename_i hq
      simp only [reduceCtorEq, false_implies, implies_true, and_true, true_and, TK.array.injEq]
      rintro n' sz ag ⟨rfl, rfl, rfl⟩
      exact ⟨e, rfl, hq.1, hq.2, rfl, rfl⟩
    · simp
theorem run_sizeOf' {t : TypeId} (h : (P.info? t).isSome) (w : World) : (sizeOf t).run P w = .ok (szT P t) w := by
  obtain ⟨i, hi⟩ := Option.isSome_iff_exists.1 h
  simp [sizeOf, typeInfo, hi, szT]
theorem run_isAgg' {t : TypeId} (h : (P.underlying t).isSome) (w : World) : (isAgg t).run P w = .ok (aggT P t) w := by
  obtain ⟨d, hd⟩ := Option.isSome_iff_exists.1 h
  simp only [isAgg, Sem.run_bind, run_underlying hd, Result.andThen_ok, aggT, hd]
  cases d <;> rfl
end
end Go.Proofs.Ythlidbddeclnaaa
