/- Texts put together: Bin06g, Bin06h, Rul, RulA, AmMap, RulB, RefRight, SchN, AmFrz, RefA, RulC, RulD, RulE, RulF, Bin06i, Bin06j, RegB, RegC, RulG, RegD, RegE, Nodes4, RegF, RegG, BinLaw, BinLaw2, SchO, CastL, RegL, RegM, RefB, RefC, RefD, RefE, ReoL. No statement is proved here. -/
import Derived.MapKept
import Derived.Test.YtgcienlfpnpbgaaGreatZ4
set_option linter.all false
section
namespace Go.Proofs.YtgcienlfpnpbgaaGreat
set_option linter.unusedSimpArgs false
attribute [local push_cast] encB encI V.cells_mk V.cells_take V.cells_len Nat.mul_one
open Go.RowKit B
set_option maxRecDepth 10000
set_option maxHeartbeats 4000000
theorem tr_once {P : Program} {N : Nat} {r : Option Nat} {A : AA} {st : St} {Q : Exit → AA → St → Prop} {c : Code} (h : Tr P N r c A st (thenA (fun _ _ => False) Q)) : Tr P N r (.loop c) A st Q :=
 tr_loop (fun (_ : Unit) A' st' => A' = A ∧ st' = st) (fun _ => 0) () ⟨rfl, rfl⟩ fun _ A' st' ⟨e1, e2⟩ => by
  subst e1 e2
  exact tr_mono h fun ex A s hq => by cases ex <;> first | exact hq.elim | exact hq
theorem keep_one {b : Nat} {ty : TypeId} {cs : List D} {st : St} (h : Res.box b ty cs ∈ st) : Keep (some [(b, cs)]) st := fun b' cs' hl => by
 rw [List.lookup_cons] at hl
 split at hl
 · rename_i he
   cases hl
   have : b' = b := eq_of_beq he
   subst this
   exact ⟨ty, h⟩
 · cases hl
namespace RS
def sub : Nat → Option (RS → V × RS)
 | 0 => none
 | e + 1 => some (value e)
theorem value_eq (d : Nat) (s : RS) : value d s = body (sub d) s := by cases d <;> rfl
end RS
open RS in
theorem rdValueF : ∀ (d : Nat), d ≤ 4 → ∀ (rb : Nat) (s : RS) (st : St), TrF Tryz.prog 167 [.ptr rb 0, .i d] (rdR rb s :: st) fun x st' => x = .agg (RS.value d s).1.cells ∧ st' = rdR rb (RS.value d s).2 :: st := fun d => by
 induction d using Nat.strongRecOn with
 | _ d IHd =>
 intro hd4 rb s st
 have IH : ∀ f, sub d = some f → ∀ b s st, TrF Tryz.prog 167 [.ptr b 0, .i ((d : Int) - 1)] (rdR b s :: st) fun x st' => x = .agg (f s).1.cells ∧ st' = rdR b (f s).2 :: st := by
  intro f hf
  cases d with
  | zero => cases hf
  | succ e =>
   cases hf
   intro b s st
   have := IHd e (by omega) (by omega) b s st
   rwa [show (((e + 1 : Nat) : Int) - 1) = (e : Int) by omega]
 have hd0 : d = 0 ↔ sub d = none := by cases d <;> simp [sub]
 rw [value_eq]
 clear IHd
 generalize sub d = f? at *
 have hB := Lib.hid (rdByteF rb s)
 unfold body
 generalize s.byte = q at *
 obtain ⟨k, s1⟩ := q
 dsimp only at *
 refine QinC 4 73 Tryz.func167 Tryz.ntmps167 ?_
 refine tr_room 73 4 0 ?_
 by_cases k1 : k = 1
 · subst k1
   rw [if_pos rfl]
   have hB2 := Lib.hid (rdByteF rb s1)
   generalize s1.byte = q2 at *
   clear IH hd0
   repeat' (first | (with_reducible first | refine Q1 ?_ | refine Qe ?_ | refine QQ ?_ | (refine al_go ?_; intro b) | (refine Qa ?_; intro o' ho') | (refine Qp ?_; intro o' ho') | (refine QD ?_ <;> (try constructor) <;> intro hb <;> try intro hb1) | fail) | refine QR Tryz.call116 hB.out ?_ | refine QR Tryz.call116 hB2.out ?_ | fail)
   all_goals exact QretC
 rw [if_neg k1]
 have b1 : (k == 1) = false := by simpa using k1
 by_cases k2 : k = 2
 · subst k2
   rw [if_pos rfl]
   have hB2 := Lib.hid (rdLongF rb s1)
   generalize s1.long = q2 at *
   clear IH hd0
   repeat' (with_reducible first | refine Q1 ?_ | refine Qe ?_ | refine QQ ?_ | (refine al_go ?_; intro b) | (refine Qa ?_; intro o' ho') | (refine Qp ?_; intro o' ho') | (refine QD ?_ <;> (try constructor) <;> intro hb <;> try intro hb1) | fail)
   all_goals exact QretC
 rw [if_neg k2]
 have b2 : (k == 2) = false := by simpa using k2
 by_cases k3 : k = 3 ∨ k = 4
 · rw [if_pos k3]
   have hB2 := Lib.hid (rdTextF rb s1)
   generalize s1.text = q2 at *
   clear IH hd0 b1 b2 k1 k2
   rcases k3 with rfl | rfl
   · repeat' (with_reducible first | refine Q1 ?_ | refine Qe ?_ | refine QQ ?_ | (refine al_go ?_; intro b) | (refine Qa ?_; intro o' ho') | (refine Qp ?_; intro o' ho') | (refine QD ?_ <;> (try constructor) <;> intro hb <;> try intro hb1) | fail)
     all_goals exact QretC
   · repeat' (with_reducible first | refine Q1 ?_ | refine Qe ?_ | refine QQ ?_ | (refine al_go ?_; intro b) | (refine Qa ?_; intro o' ho') | (refine Qp ?_; intro o' ho') | (refine QD ?_ <;> (try constructor) <;> intro hb <;> try intro hb1) | fail)
     all_goals exact QretC
 rw [if_neg k3]
 have b3 : (k == 3) = false := by simp; omega
 have b4 : (k == 4) = false := by simp; omega
 by_cases k5 : k = 5
 case neg =>
  rw [if_neg k5]
  have b5 : (k == 5) = false := by simpa using k5
  clear IH hd0
  repeat' (with_reducible first | refine Q1 ?_ | refine Qe ?_ | refine QQ ?_ | (refine al_go ?_; intro b) | (refine Qa ?_; intro o' ho') | (refine Qp ?_; intro o' ho') | (refine QD ?_ <;> (try constructor) <;> intro hb <;> try intro hb1) | fail)
  all_goals exact QretC
 subst k5
 rw [if_pos rfl]
 have hN := Lib.hid (rdNumF rb s1)
 have hnp := rnum_pos s1
 clear k1 k2 k3 b1 b2 b3 b4
 generalize s1.rnum = q2 at *
 obtain ⟨n, s2⟩ := q2
 dsimp only at *
 have hF := Lib.hid (rdFailF rb s2)
 have hBad := Lib.hid (rdBadF rb)
 by_cases hbad : d = 0 ∨ 20 < n
 · have hres : list5 f? n s2 = (V.mk 5 0 ⟨#[]⟩ [], fail) := by
    unfold list5
    cases f? with
    | none => rfl
    | some f =>
     have : d ≠ 0 := fun h => by have := hd0.1 h; cases this
     exact if_pos (by omega)
   rw [hres]
   clear hres hd0 IH
   have hbad' : (d : Int) = 0 ∨ 20 < n := by omega
   clear hbad
   repeat' (with_reducible first | refine Q1 ?_ | refine Qe ?_ | refine QQ ?_ | (refine al_go ?_; intro b) | (refine Qa ?_; intro o' ho') | (refine Qp ?_; intro o' ho') | (refine QD ?_ <;> (try constructor) <;> intro hb <;> try intro hb1) | fail)
   all_goals
    refine tr_once ?_
    by_cases hn0 : 0 < n
    · repeat' (first | (with_reducible first | refine Q1 ?_ | refine Qe ?_ | refine QQ ?_ | (refine al_go ?_; intro b) | (refine Qa ?_; intro o' ho') | (refine Qp ?_; intro o' ho') | (refine QD ?_ <;> (try constructor) <;> intro hb <;> try intro hb1) | fail) | refine QR Tryz.call80 (hBad.out fail) ?_ | fail)
      all_goals exact QretC
    · repeat' (with_reducible first | refine Q1 ?_ | refine Qe ?_ | refine QQ ?_ | (refine al_go ?_; intro b) | (refine Qa ?_; intro o' ho') | (refine Qp ?_; intro o' ho') | (refine QD ?_ <;> (try constructor) <;> intro hb <;> try intro hb1) | fail)
      all_goals exact QretC
 obtain ⟨f, rfl⟩ : ∃ f, f? = some f := by
  cases f? with
  | none => exact absurd (.inl (hd0.2 rfl)) hbad
  | some f => exact ⟨f, rfl⟩
 have hI := Lib.hid (IH f rfl rb)
 obtain ⟨m, rfl⟩ : ∃ m : Nat, n = m := ⟨n.toNat, by omega⟩
 rw [show list5 (some f) m s2 = (V.mk 5 0 ⟨#[]⟩ (vals f m s2).1, (vals f m s2).2) from if_neg (by omega)]
 have hd1 : ¬ (d : Int) = 0 := by omega
 have hm20 : m ≤ 20 := by omega
 obtain ⟨res, hres⟩ : ∃ r, vals f m s2 = r := ⟨_, rfl⟩
 have hE : Hid ([] ++ (vals f (m - 0) s2).1 = res.1 ∧ (vals f (m - 0) s2).2 = res.2) := by
  show _ ∧ _
  rw [Nat.sub_zero, hres]
  exact ⟨rfl, rfl⟩
 rw [hres]
 clear hres
 clear IH hd0 hbad hF
 repeat' (with_reducible first | refine Q1 ?_ | refine Qe ?_ | refine QQ ?_ | (refine al_go ?_; intro b) | (refine Qa ?_; intro o' ho') | (refine Qp ?_; intro o' ho') | (refine QD ?_ <;> (try constructor) <;> intro hb <;> try intro hb1) | fail)
 rename_i b4 _
 clear hB hN
 refine tr_loopd (ι := Nat) (fun i A st' => i ≤ m ∧ A.df = [] ∧ A.e 0 = .ptr rb 0 ∧ A.e 1 = .i d ∧ A.e 4 = .ptr b4 0 ∧ A.e 5 = .ptr b 0 ∧ A.e 40 = .i m ∧ A.e 41 = .i i ∧ ∃ o' L s' zs, o' ≠ .shared ∧ L.length ≤ i ∧ zs.length = 4 ∧ Hid (L ++ (vals f (m - i) s').1 = res.1 ∧ (vals f (m - i) s').2 = res.2) ∧ st' = .box b 73 [.i 5, .i 0, .str ⟨#[]⟩, .sl o' (L.map V.cells)] :: .box b4 73 zs :: .room o' 73 4 (L.map V.cells).length :: rdR rb s' :: st) (fun i => m - i) 0 ⟨Nat.zero_le _, Qf, Qf, Qf, Qf, Qf, Qf, Qf, .tight, [], s2, _, by simp, Nat.le_refl _, rfl, hE, rfl⟩ ?_
 clear hE hnp
 rintro i A st' ⟨hi, hdf, e0, e1, e4, e5, e40, e41, o', L, s', zs, ho', hLi, hzs, hE, rfl⟩
 have hLc : (L.map V.cells).length = L.length := List.length_map _
 by_cases hlt : i < m
 · have hHE := hE.out
   rw [show m - i = (m - (i + 1)) + 1 by omega, vals] at hHE
   cases hsb : s'.bad with
   | true =>
    rw [hsb, if_pos rfl] at hHE
    obtain ⟨r1, r2⟩ := res
    obtain ⟨hr1, hr2⟩ := hHE
    dsimp only at hr1 hr2
    rw [List.append_nil] at hr1
    subst hr1 hr2
    have hBs := hBad.out s'
    rw [hsb] at hBs
    replace hBs := Lib.hid hBs
    clear hE hI hBad
    repeat' (with_reducible first | refine Q1 ?_ | refine Qe ?_ | refine QQ ?_ | (refine al_go ?_; intro b) | (refine Qa ?_; intro o' ho') | (refine Qp ?_; intro o' ho') | (refine QD ?_ <;> (try constructor) <;> intro hb <;> try intro hb1) | fail)
    all_goals exact QretC
   | false =>
    rw [hsb, if_neg Bool.false_ne_true] at hHE
    have hIs := hI.out s'
    have hBs := hBad.out s'
    rw [hsb] at hBs
    generalize f s' = x3 at *
    obtain ⟨⟨k1, n1, t1, l1⟩, s3⟩ := x3
    dsimp only at hHE hIs
    rw [V.cells_mk] at hIs
    have hE2 : Hid ((L ++ [V.mk k1 n1 t1 l1]) ++ (vals f (m - (i + 1)) s3).1 = res.1 ∧ (vals f (m - (i + 1)) s3).2 = res.2) := by
     show _ ∧ _
     rw [List.append_assoc]
     exact hHE
    replace hBs := Lib.hid hBs
    replace hIs := Lib.hid hIs
    clear hE hI hBad hHE
    have hL4 : ∀ a ∈ L.map V.cells, a.length = 4 := fun a ha => by
     obtain ⟨x, -, rfl⟩ := List.mem_map.1 ha
     exact V.cells_len x
    repeat' (first | (with_reducible first | refine Q1 ?_ | refine Qe ?_ | fail) | ((with_reducible refine w_draw [(b, [.i 5, .i 0, .str ⟨#[]⟩, .sl o' (L.map V.cells)])] ?_ ?_ ?_ ?_ ?_); (focus kernel_rfl); (focus kernel_rfl); (focus kernel_rfl); (focus exact keep_one (List.Mem.head _))) | ((with_reducible refine And.intro ?_ ?_); (focus exact keep_one (by repeat (first | exact mm_h | apply mm_t)))) | ((with_reducible apply (a2_go ho')); (focus (intro o'; repeat (first | exact ra_h | apply ra_t))); (focus exact hL4); (focus exact len_one rfl); (focus (simp only [List.length_map, List.length_cons, List.length_nil]; omega)); (focus (simp only [List.length_map, List.length_cons, List.length_nil]; omega)); intro o' ho') | (with_reducible first | refine QQ ?_ | (refine al_go ?_; intro b) | (refine Qa ?_; intro o' ho') | (refine Qp ?_; intro o' ho') | (refine QD ?_ <;> (try constructor) <;> intro hb <;> try intro hb1) | fail) | fail)
    refine ⟨i + 1, .box b 73 [.i 5, .i 0, .str ⟨#[]⟩, .sl o' ((L ++ [V.mk k1 n1 t1 l1]).map V.cells)] :: .box b4 73 zs :: .room o' 73 4 ((L ++ [V.mk k1 n1 t1 l1]).map V.cells).length :: rdR rb s3 :: st, ?_, ⟨hlt, ?_, ?_, ?_, ?_, ?_, ?_, ?_, o', L ++ [V.mk k1 n1 t1 l1], s3, zs, ho', ?_, hzs, hE2, rfl⟩, ?_⟩
    · simp only [List.map_append, List.map_cons, List.map_nil, V.cells_mk]; (repeat (first | exact List.Sublist.refl _ | apply List.Sublist.cons))
    · exact Qf
    · exact Qf
    · exact Qf
    · exact Qf
    · exact Qf
    · exact Qf
    · exact Qf
    · rw [List.length_append, List.length_singleton]; omega
    · omega
 · have hHE := hE.out
   rw [show m - i = 0 by omega, vals] at hHE
   obtain ⟨r1, r2⟩ := res
   obtain ⟨hr1, hr2⟩ := hHE
   dsimp only at hr1 hr2
   rw [List.append_nil] at hr1
   subst hr1 hr2
   clear hE hI hBad
   repeat' (with_reducible first | refine Q1 ?_ | refine Qe ?_ | refine QQ ?_ | (refine al_go ?_; intro b) | (refine Qa ?_; intro o' ho') | (refine Qp ?_; intro o' ho') | (refine QD ?_ <;> (try constructor) <;> intro hb <;> try intro hb1) | fail)
   all_goals exact QretC
end Go.Proofs.YtgcienlfpnpbgaaGreat
end
section
namespace Go.Proofs.YtgcienlfpnpbgaaGreat
attribute [local push_cast] encB encI V.cells_mk V.cells_take V.cells_len Nat.mul_one
open Go.RowKit B
set_option maxHeartbeats 4000000
set_option maxRecDepth 10000
def V.zero : V := .mk 0 0 ⟨#[]⟩ []
def RS.val (s : RS) : V × RS := if s.bad = true then (V.zero, s) else if (RS.value 4 s).2.bad = true ∨ (RS.value 4 s).1.right = false then (V.zero, RS.fail) else RS.value 4 s
theorem rdValF (b : Nat) (s : RS) (hn : (RS.value 4 s).1.nodes ≤ 4611686018427387904) (st : St) : TrF Tryz.prog 118 [.ptr b 0] (rdR b s :: st) fun x st' => x = .agg s.val.1.cells ∧ st' = rdR b s.val.2 :: st := by
 have hBad := Lib.hid (rdBadF b s)
 have hV := Lib.hid (rdValueF 4 (Nat.le_refl _) b s)
 have hR := Lib.hid (valRightF (RS.value 4 s).1 hn)
 unfold RS.val
 cases hsb : s.bad with
 | true =>
  rw [if_pos rfl]
  rw [hsb] at hBad
  refine QinC 2 73 Tryz.func118 Tryz.ntmps118 ?_
  repeat' (with_reducible first | refine Q1 ?_ | refine Qe ?_ | refine QQ ?_ | (refine al_go ?_; intro b) | (refine QD ?_ <;> (try constructor) <;> intro hb <;> try intro hb1) | fail)
  all_goals exact QretC
 | false =>
  rw [if_neg Bool.false_ne_true]
  rw [hsb] at hBad
  generalize RS.value 4 s = q at *
  obtain ⟨⟨k, n, t, l⟩, s2⟩ := q
  dsimp only at *
  rw [V.cells_mk] at *
  generalize hr : (V.mk k n t l).right = r at *
  have hBad2 := Lib.hid (rdBadF b s2)
  have hF := Lib.hid (rdFailF b s2)
  cases hsb2 : s2.bad with
  | true =>
   rw [if_pos (.inl rfl)]
   rw [hsb2] at hBad2
   refine QinC 2 73 Tryz.func118 Tryz.ntmps118 ?_
   repeat' (first | (with_reducible first | refine Q1 ?_ | refine Qe ?_ | refine QQ ?_ | (refine al_go ?_; intro b) | (refine QD ?_ <;> (try constructor) <;> intro hb <;> try intro hb1) | fail) | refine QR Tryz.call80 hBad.out ?_ | refine QR Tryz.call80 hBad2.out ?_ | refine QR Tryz.call167 hV.out ?_ | refine QR Tryz.call169 hF.out ?_ | fail)
   all_goals exact QretC
  | false =>
   rw [hsb2] at hBad2
   cases r with
   | false =>
    rw [if_pos (.inr rfl)]
    refine QinC 2 73 Tryz.func118 Tryz.ntmps118 ?_
    repeat' (first | (with_reducible first | refine Q1 ?_ | refine Qe ?_ | refine QQ ?_ | (refine al_go ?_; intro b) | (refine QD ?_ <;> (try constructor) <;> intro hb <;> try intro hb1) | fail) | refine QR Tryz.call80 hBad.out ?_ | refine QR Tryz.call80 hBad2.out ?_ | refine QR Tryz.call167 hV.out ?_ | refine QR Tryz.call169 hF.out ?_ | refine Qc Tryz.call168 (hR.out _) ?_ | fail)
    all_goals exact QretC
   | true =>
    rw [if_neg (by simp)]
    refine QinC 2 73 Tryz.func118 Tryz.ntmps118 ?_
    repeat' (first | (with_reducible first | refine Q1 ?_ | refine Qe ?_ | refine QQ ?_ | (refine al_go ?_; intro b) | (refine QD ?_ <;> (try constructor) <;> intro hb <;> try intro hb1) | fail) | refine QR Tryz.call80 hBad.out ?_ | refine QR Tryz.call80 hBad2.out ?_ | refine QR Tryz.call167 hV.out ?_ | refine QR Tryz.call169 hF.out ?_ | refine Qc Tryz.call168 (hR.out _) ?_ | fail)
    all_goals exact QretC
end Go.Proofs.YtgcienlfpnpbgaaGreat
end
section
namespace Go.Proofs.YtgcienlfpnpbgaaGreat
open Go.RowKit
structure Ts where
 kind : Int
 slot : Int
 var : Int
 val : V
structure Pt where
 tmpl : Int
 neg : Bool
 tests : List Ts
structure Ex where
 isVar : Bool
 var : Int
 val : V
structure Ac where
 kind : Int
 pat : Int
 tmpl : Int
 slot : Int
 vals : List Ex
structure Rl where
 name : ByteArray
 sal : Int
 pats : List Pt
 acts : List Ac
def Ts.cells (t : Ts) : List D := .i t.kind :: .i t.slot :: .i t.var :: t.val.cells
def Pt.cells (p : Pt) : List D := [.i p.tmpl, .b p.neg, .sl .shared (p.tests.map Ts.cells)]
def Ex.cells (e : Ex) : List D := .b e.isVar :: .i e.var :: e.val.cells
def Ac.cells (a : Ac) : List D := [.i a.kind, .i a.pat, .i a.tmpl, .i a.slot, .sl .shared (a.vals.map Ex.cells)]
def Rl.cells (x : Rl) : List D := [.str x.name, .i x.sal, .sl .shared (x.pats.map Pt.cells), .sl .shared (x.acts.map Ac.cells)]
theorem Ts.cells_mk (kind slot var k n : Int) (s : ByteArray) (l : List V) : (Ts.mk kind slot var (.mk k n s l)).cells = [.i kind, .i slot, .i var, .i k, .i n, .str s, .sl .shared (l.map V.cells)] := by unfold Ts.cells; rw [V.cells_mk]
theorem Ex.cells_mk (iv : Bool) (var k n : Int) (s : ByteArray) (l : List V) : (Ex.mk iv var (.mk k n s l)).cells = [.b iv, .i var, .i k, .i n, .str s, .sl .shared (l.map V.cells)] := by unfold Ex.cells; rw [V.cells_mk]
theorem Ts.cells_len (t : Ts) : t.cells.length = 7 := by unfold Ts.cells; simp [V.cells_len]
theorem Ex.cells_len (e : Ex) : e.cells.length = 6 := by unfold Ex.cells; simp [V.cells_len]
namespace Rul
def slots (L : List Tm) (k : Int) : List Sl := if 0 ≤ k ∧ k < L.length then (match L[k.toNat]? with | some t => (Sch.verX t (Sch.last t)).slots | none => []) else []
def bindT (l : List Ts) : List Int := (l.filter fun t => t.kind == 5).map Ts.var
def bindP (l : List Pt) : List Int := l.flatMap fun p => bindT p.tests
def bound (x : Rl) : List Int := bindP x.pats
def testB (ns : Int) (neg : Bool) (B : List Int) (t : Ts) : Bool :=
 (decide (0 ≤ t.slot) && decide (t.slot < ns)) && (
 if t.kind = 1 ∨ t.kind = 2 ∨ t.kind = 3 ∨ t.kind = 4 then (t.var == 0) && t.val.right
 else if t.kind = 5 then (t.val.cmp V.zero == 0) && ((decide (0 ≤ t.var) && decide (t.var < 8)) && (!neg && decide (t.var ∉ B)))
 else if t.kind = 6 ∨ t.kind = 7 ∨ t.kind = 8 ∨ t.kind = 9 then (t.val.cmp V.zero == 0) && ((decide (0 ≤ t.var) && decide (t.var < 8)) && decide (t.var ∈ B))
 else false)
def testN (B : List Int) (t : Ts) : List Int := if t.kind = 5 then B ++ [t.var] else B
def testsF (ns : Int) (neg : Bool) : List Ts → List Int → Bool × List Int
 | [], B => (true, B)
 | t :: l, B => if testB ns neg B t = true then testsF ns neg l (testN B t) else (false, B)
def patF (L : List Tm) (B : List Int) (p : Pt) : Bool × List Int :=
 if 0 ≤ p.tmpl ∧ p.tmpl < L.length ∧ p.tests.length ≤ 6 then testsF (slots L p.tmpl).length p.neg p.tests B else (false, B)
def patsF (L : List Tm) : List Pt → List Int → Bool × List Int
 | [], B => (true, B)
 | p :: l, B => if (patF L B p).1 = true then patsF L l (patF L B p).2 else (false, (patF L B p).2)
def exprB (B : List Int) (e : Ex) (s : Sl) : Bool := if e.isVar = true then decide (e.var ∈ B) && (e.val.cmp V.zero == 0) else (e.var == 0) && Sch.fits s e.val
def exprsB (B : List Int) : List Ex → List Sl → Bool
 | e :: l, s :: m => exprB B e s && exprsB B l m
 | _, _ => true
def posB (ps : List Pt) (k : Int) : Bool := (decide (0 ≤ k) && decide (k < ps.length)) && !((ps[k.toNat]?).any Pt.neg)
def actB (L : List Tm) (ps : List Pt) (B : List Int) (a : Ac) : Bool :=
 if a.kind = 1 then ((a.pat == 0) && (a.slot == 0)) && ((decide ((slots L a.tmpl).length ≠ 0) && decide (a.vals.length = (slots L a.tmpl).length)) && exprsB B a.vals (slots L a.tmpl))
 else if a.kind = 2 then posB ps a.pat && ((a.tmpl == 0) && ((a.slot == 0) && decide (a.vals.length = 0)))
 else if a.kind = 3 then (posB ps a.pat && ((a.tmpl == 0) && decide (a.vals.length = 1))) && (match ps[a.pat.toNat]?, a.vals with
  | some p, [e] => decide (0 ≤ a.slot) && (decide (a.slot < (slots L p.tmpl).length) && (match (slots L p.tmpl)[a.slot.toNat]? with | some s => exprB B e s | none => false))
  | _, _ => false)
 else (a.kind == 4) && ((a.pat == 0) && ((a.tmpl == 0) && ((a.slot == 0) && decide (a.vals.length = 0))))
def headB (x : Rl) : Bool := V.isName x.name.data.toList && ((decide (-100 ≤ x.sal) && decide (x.sal ≤ 100)) && ((decide (1 ≤ x.pats.length) && decide (x.pats.length ≤ 4)) && (!((x.pats[0]?).any Pt.neg) && decide (x.acts.length ≤ 4))))
def oneB (L : List Tm) (x : Rl) : Bool := headB x && ((patsF L x.pats []).1 && x.acts.all fun a => actB L x.pats (patsF L x.pats []).2 a)
def rightL (L : List Tm) (R : List Rl) : List Rl → Nat → Bool
 | [], _ => true
 | x :: l, i => oneB L x && (!((R.take i).any fun y => y.name.toList == x.name.toList) && rightL L R l (i + 1))
def right (L : List Tm) (R : List Rl) : Bool := Reg.right L && (decide (R.length ≤ 8) && rightL L R R 0)
end Rul
end Go.Proofs.YtgcienlfpnpbgaaGreat
end
section
namespace Go.Proofs.YtgcienlfpnpbgaaGreat
attribute [local push_cast] encB encI encC V.cells_mk V.cells_len Nat.mul_one Int.sub_zero List.map_nil beq_self_eq_true bne_self_eq_false List.head?_cons
open Go.RowKit
set_option maxHeartbeats 8000000
set_option maxRecDepth 10000
namespace Rul
theorem slots_in {L : List Tm} {k : Nat} {t : Tm} (h : L[k]? = some t) : slots L (k : Int) = (Sch.verX t (Sch.last t)).slots := by
 have := (List.getElem?_eq_some_iff.1 h).1
 unfold slots
 rw [if_pos ⟨by omega, by omega⟩, Int.toNat_natCast, h]
theorem slots_out {L : List Tm} {k : Int} (h : ¬ (0 ≤ k ∧ k < L.length)) : slots L k = [] := if_neg h
end Rul
theorem ruleBitF (b : Bool) (st : St) : TrF Tryz.prog 98 [.b b] st fun d st' => d = .i (if b then 1 else 0) ∧ st' = st := by
 cases b
 all_goals (
  refine Qin [2] Tryz.func98 Tryz.results98 Tryz.ntmps98 ?_
  exact WR)
theorem ruleSlotsF (L : List Tm) (hL : ∀ t ∈ L, TOk t) (hl : L.length ≤ 1000000) (k : Int) (st : St) : TrF Tryz.prog 42 [.sl .shared (L.map Tm.cells), .i k] st fun d st' => d = .sl .shared ((Rul.slots L k).map Sl.cells) ∧ st' = st := by
 have hm : (L.map Tm.cells).length = L.length := List.length_map ..
 by_cases hk : 0 ≤ k ∧ k < L.length
 · obtain ⟨n, rfl⟩ : ∃ n : Nat, (n : Int) = k := ⟨k.toNat, Int.toNat_of_nonneg hk.1⟩
   obtain ⟨t, ht⟩ := gEx (l := L) (i := n) (by omega)
   have hc : (L.map Tm.cells)[n]? = some t.cells := by rw [List.getElem?_map, ht]; rfl
   have hLa := schLastF t (hL t (List.mem_of_getElem? ht))
   have hAt := schAtF t (hL t (List.mem_of_getElem? ht)) (Sch.last t)
   rw [Rul.slots_in ht]
   clear hL ht
   generalize L.map Tm.cells = LS at *
   generalize Sch.verX t (Sch.last t) = x at *
   generalize Sch.verB t (Sch.last t) = xb at *
   generalize Sch.last t = la at *
   unfold Vr.cells at hAt
   generalize x.slots.map Sl.cells = X1 at *
   generalize x.cols.map encC = X2 at *
   unfold Tm.cells at *
   generalize t.slots.map Sl.cells = SL at *
   generalize t.steps.map Stp.cells = TL at *
   generalize t.name = nm at *
   replace hLa := Lib.hid hLa
   replace hAt := Lib.hid hAt
   obtain ⟨hk1, hk2⟩ := hk
   refine Qin [4] Tryz.func42 Tryz.results42 Tryz.ntmps42 ?_
   repeat' (first | (with_reducible first | refine Q1 ?_ | refine Qe ?_ | fail) | ((with_reducible apply (w_drawT (.node [0, 1, 2, 3, 4, 5, 6, 7] 13 8 (.node [8] 13 9 (.leaf [9, 10, 11, 12, 13, 14, 15]) (.leaf [13, 9, 10, 11, 12, 14, 15])) (.leaf [13, 8, 9, 10, 11, 12, 14, 15])) 16)); rfl; (iterate 3 kernel_rfl); (focus (simp only [Plan.lists, pickL, List.getElem?_cons_zero, List.getElem?_cons_succ]; exact rfl)); intro hne; (try simp only [nes, ne1, and_assoc] at hne); (repeat (have hq := hne.1; replace hne := hne.2)); simp only [wPL]) | with_reducible refine both_go ?_ ?_ | (with_reducible first | refine QQ ?_ | (refine al_go ?_; intro b) | (refine QD ?_ <;> (try constructor) <;> intro hb <;> try intro hb1) | fail) | fail)
   all_goals exact Qret
 · rw [Rul.slots_out hk]
   generalize L.map Tm.cells = LS at *
   by_cases h0 : k < 0
   · refine Qin [4] Tryz.func42 Tryz.results42 Tryz.ntmps42 ?_
     exact WR
   · have h1 : (L.length : Int) ≤ k := by omega
     refine Qin [4] Tryz.func42 Tryz.results42 Tryz.ntmps42 ?_
     exact WR
namespace Rul
theorem bindT_take {l : List Ts} {i : Nat} {t : Ts} (h : l[i]? = some t) : bindT (l.take (i + 1)) = bindT (l.take i) ++ if t.kind = 5 then [t.var] else [] := by
 unfold bindT
 rw [List.take_add_one, h, Option.toList_some, List.filter_append, List.map_append]
 congr 1
 by_cases hk : t.kind = 5
 · rw [if_pos hk]; simp [List.filter, hk]
 · have : (t.kind == 5) = false := beq_eq_false_iff_ne.2 hk
   rw [if_neg hk]; simp [List.filter, this]
theorem bindP_take {l : List Pt} {i : Nat} {p : Pt} (h : l[i]? = some p) : bindP (l.take (i + 1)) = bindP (l.take i) ++ bindT p.tests := by
 unfold bindP
 rw [List.take_add_one, h, Option.toList_some, List.flatMap_append]
 simp
theorem bindT_len (l : List Ts) : (bindT l).length ≤ l.length := by
 unfold bindT
 rw [List.length_map]
 exact List.length_filter_le ..
theorem bindP_len (c : Nat) : ∀ (l : List Pt), (∀ p ∈ l, p.tests.length ≤ c) → (bindP l).length ≤ l.length * c
 | [], _ => by simp [bindP]
 | p :: l, h => by
  have h1 := bindP_len c l fun q hq => h q (List.mem_cons_of_mem _ hq)
  have h2 := bindT_len p.tests
  have h3 := h p (List.mem_cons_self ..)
  have : bindP (p :: l) = bindT p.tests ++ bindP l := by unfold bindP; simp
  rw [this, List.length_append, List.length_cons, Nat.add_mul]
  omega
end Rul
theorem ruleBoundF (x : Rl) (hp : x.pats.length ≤ 1000) (ht : ∀ p ∈ x.pats, p.tests.length ≤ 1000) (st : St) : TrF Tryz.prog 37 [.agg x.cells] st fun d st' => d = .sl .shared ((Rul.bound x).map encI) ∧ st' = st := by
 cases x with
 | mk nm sal ps acts =>
 unfold Rul.bound Rl.cells
 dsimp only at *
 generalize acts.map Ac.cells = AS at *
 have hm : (ps.map Pt.cells).length = ps.length := List.length_map ..
 have hc := hMp Pt.cells ps
 obtain ⟨BF, hBF⟩ : ∃ BF : Nat → List Int, (fun i : Nat => Rul.bindP (ps.take i)) = BF := ⟨_, rfl⟩
 have hBi : ∀ i, Rul.bindP (ps.take i) = BF i := fun i => by rw [← hBF]
 have hB0 : Hid (BF 0 = []) := Lib.hid (by rw [← hBi]; rfl)
 have hBn : Hid (Rul.bindP ps = BF ps.length) := Lib.hid (by rw [← hBi, List.take_length])
 have hBs : Hid (∀ (i : Nat) (p : Pt), ps[i]? = some p → BF (i + 1) = BF i ++ Rul.bindT p.tests) := fun i p h => by rw [← hBi, ← hBi]; exact Rul.bindP_take h
 have hBl : Hid (∀ i, i ≤ ps.length → (BF i).length ≤ 1000000) := fun i hi => by
  rw [← hBi]
  have := Rul.bindP_len 1000 (ps.take i) fun p hp => ht p (List.mem_of_mem_take hp)
  rw [List.length_take] at this
  have h3 : min i ps.length * 1000 ≤ 1000 * 1000 := Nat.mul_le_mul_right _ (by omega)
  omega
 rw [hBn.out]
 have ht2 := Lib.hid ht
 clear hBF hBi hBn ht
 generalize ps.map Pt.cells = PS at *
 refine Qin [2] Tryz.func37 Tryz.results37 Tryz.ntmps37 ?_
 refine tr_room 3 1 ([] : List (List D)).length ?_
 repeat' (with_reducible first | refine Q1 ?_ | refine Qe ?_ | refine QQ ?_ | (refine al_go ?_; intro b) | (refine Qa ?_; intro o' ho') | (refine Qp ?_; intro o' ho') | (refine QD ?_ <;> (try constructor) <;> intro hb <;> try intro hb1) | fail)
 refine tr_loopd (ι := Nat) (fun i A st' => i ≤ ps.length ∧ A.df = [] ∧ A.e 9 = .sl .shared PS ∧ A.e 10 = .i ps.length ∧ A.e 11 = .i i ∧ ∃ o', o' ≠ .shared ∧ A.e 3 = .sl o' ((BF i).map encI) ∧ st' = .room o' 3 1 ((BF i).map encI).length :: st) (fun i => ps.length - i) 0 ⟨Nat.zero_le _, Qf, Qf, Qf, Qf, .tight, by decide, by rw [hB0.out]; exact Qf, by rw [hB0.out]; rfl⟩ ?_
 rintro i A st' ⟨hi, hdf, e9, e10, e11, o', ho', e3, rfl⟩
 by_cases hlt : i < ps.length
 · obtain ⟨p, hp2⟩ := gEx hlt
   have h1 := hc.out i p hp2
   have hB := hBs.out i p hp2
   have hBx := hBl.out i (by omega)
   have htl := ht2.out p (List.mem_of_getElem? hp2)
   clear hp2 hBs hBl ht2 hc hB0
   cases p with
   | mk tmpl neg ts =>
   unfold Pt.cells at h1
   dsimp only at *
   have hmt : (ts.map Ts.cells).length = ts.length := List.length_map ..
   have hct := hMp Ts.cells ts
   generalize BF i = X0 at *
   obtain ⟨TF, hTF⟩ : ∃ TF : Nat → List Int, (fun k : Nat => X0 ++ Rul.bindT (ts.take k)) = TF := ⟨_, rfl⟩
   have hTi : ∀ i, X0 ++ Rul.bindT (ts.take i) = TF i := fun i => by rw [← hTF]
   have hT0 : Hid (X0 = TF 0) := Lib.hid (by rw [← hTi]; exact (List.append_nil _).symm)
   have hTn : Hid (BF (i + 1) = TF ts.length) := Lib.hid (by rw [← hTi, List.take_length]; exact hB)
   have hTs : Hid (∀ (k : Nat) (t : Ts), ts[k]? = some t → TF (k + 1) = TF k ++ if t.kind = 5 then [t.var] else []) := fun k t h => by
    rw [← hTi, ← hTi, Rul.bindT_take h, List.append_assoc]
   have hTl : Hid (∀ k, k ≤ ts.length → (TF k).length ≤ 2000000) := fun k hk => by
    rw [← hTi]
    have := Rul.bindT_len (ts.take k)
    rw [List.length_take] at this
    rw [List.length_append]
    omega
   clear hTF hTi hB
   generalize ts.map Ts.cells = TS at *
   repeat' (with_reducible first | refine Q1 ?_ | refine Qe ?_ | refine QQ ?_ | (refine al_go ?_; intro b) | (refine Qa ?_; intro o' ho') | (refine Qp ?_; intro o' ho') | (refine QD ?_ <;> (try constructor) <;> intro hb <;> try intro hb1) | fail)
   revert b; intro bP
   refine tr_loopd (ι := Nat) (fun k A st' => k ≤ ts.length ∧ A.df = [] ∧ A.e 9 = .sl .shared PS ∧ A.e 10 = .i ps.length ∧ A.e 11 = .i i ∧ A.e 16 = .sl .shared TS ∧ A.e 17 = .i ts.length ∧ A.e 18 = .i k ∧ ∃ o', o' ≠ .shared ∧ A.e 3 = .sl o' ((TF k).map encI) ∧ st' = .box bP 105 [.i tmpl, .b neg, .sl .shared TS] :: .room o' 3 1 ((TF k).map encI).length :: st) (fun k => ts.length - k) 0 ?_ ?_
   · rw [← hT0.out]
     exact ⟨Nat.zero_le _, Qf, Qf, Qf, Qf, Qf, Qf, Qf, o', ho', Qf, rfl⟩
   clear e3 e9 e10 e11 hdf A ho' hT0
   clear o'
   rintro k A st' ⟨hk, hdf, e9, e10, e11, e16, e17, e18, o', ho', e3, rfl⟩
   by_cases hkl : k < ts.length
   · obtain ⟨t, ht⟩ := gEx hkl
     have g1 := hct.out k t ht
     have hT := hTs.out k t ht
     have hTx := hTl.out k (by omega)
     clear ht hTs hTl hct hTn
     generalize TF k = Y at *
     cases t with
     | mk kind slot var val =>
     cases val with
     | mk k1 n1 s1 l1 =>
     rw [Ts.cells_mk] at g1
     dsimp only at hT
     by_cases h5 : kind = 5
     · subst h5
       rw [if_pos rfl] at hT
       have hT2 := Lib.hid hT
       clear hT
       have hY : (Y.map encI).length = Y.length := List.length_map ..
       repeat' (with_reducible first | refine Q1 ?_ | refine Qe ?_ | refine QQ ?_ | (refine al_go ?_; intro b) | (refine Qa ?_; intro o' ho') | (refine Qp ?_; intro o' ho') | (refine QD ?_ <;> (try constructor) <;> intro hb <;> try intro hb1) | fail)
       refine ⟨k + 1, .box bP 105 [.i tmpl, .b neg, .sl .shared TS] :: .room o' 3 1 ((Y ++ [var]).map encI).length :: st, ?_, ⟨hkl, ?_, ?_, ?_, ?_, ?_, ?_, ?_, o', ho', ?_, ?_⟩, ?_⟩
       · rw [List.map_append]; (repeat (first | exact List.Sublist.refl _ | with_reducible apply List.Sublist.cons_cons | apply List.Sublist.cons))
       rotate_right 3
       · rw [hT2.out, List.map_append]; exact Qf
       · rw [hT2.out]
       all_goals exact Qf
     · rw [if_neg h5, List.append_nil] at hT
       have h5b : (kind == 5) = false := beq_eq_false_iff_ne.2 h5
       have hT2 := Lib.hid hT
       clear hT
       repeat' (with_reducible first | refine Q1 ?_ | refine Qe ?_ | refine QQ ?_ | (refine al_go ?_; intro b) | (refine Qa ?_; intro o' ho') | (refine Qp ?_; intro o' ho') | (refine QD ?_ <;> (try constructor) <;> intro hb <;> try intro hb1) | fail)
       refine ⟨k + 1, .box bP 105 [.i tmpl, .b neg, .sl .shared TS] :: .room o' 3 1 (Y.map encI).length :: st, (by (repeat (first | exact List.Sublist.refl _ | apply List.Sublist.cons))), ⟨hkl, ?_, ?_, ?_, ?_, ?_, ?_, ?_, o', ho', ?_, ?_⟩, ?_⟩
       rotate_right 3
       · rw [hT2.out]; exact Qf
       · rw [hT2.out]
       all_goals exact Qf
   · obtain rfl : k = ts.length := by omega
     have hE := hTn
     clear hTs hTl hct hTn
     repeat' (with_reducible first | refine Q1 ?_ | refine Qe ?_ | refine QQ ?_ | (refine al_go ?_; intro b) | (refine Qa ?_; intro o' ho') | (refine Qp ?_; intro o' ho') | (refine QD ?_ <;> (try constructor) <;> intro hb <;> try intro hb1) | fail)
     refine ⟨i + 1, .room o' 3 1 ((TF ts.length).map encI).length :: st, (by (repeat (first | exact List.Sublist.refl _ | apply List.Sublist.cons))), ⟨hlt, ?_, ?_, ?_, ?_, o', ho', ?_, ?_⟩, by omega⟩
     rotate_right 2
     · rw [hE.out]; exact Qf
     · rw [hE.out]
     all_goals exact Qf
 · obtain rfl : i = ps.length := by omega
   exact WRa
end Go.Proofs.YtgcienlfpnpbgaaGreat
end
section
namespace Go.Proofs.YtgcienlfpnpbgaaGreat
set_option linter.unusedSimpArgs false
open Go.RowKit
def bent : Nat → List Int → List MapEntry
 | _, [] => []
 | i, n :: l => ⟨.int .i64 n, .bool true, i⟩ :: bent (i + 1) l
def bmapO (l : List Int) : Obj := .map (bent 0 l).toArray l.length
def bmap (r : Nat) (l : List Int) : Res := .raw r (bmapO l)
abbrev D.mp (r : Nat) : D := .s (.map (some r))
def insK (l : List Int) (n : Int) : List Int := if n ∈ l then l else l ++ [n]
theorem bent_append (l m : List Int) : ∀ i, bent i (l ++ m) = bent i l ++ bent (i + l.length) m := by
 induction l with
 | nil => intro i; rfl
 | cons n l ih => intro i; simp only [List.cons_append, bent, ih, List.length_cons]; rw [show i + 1 + l.length = i + (l.length + 1) by omega]
theorem bent_len (l : List Int) : ∀ i, (bent i l).length = l.length := by
 induction l with
 | nil => intro i; rfl
 | cons n l ih => intro i; simp only [bent, List.length_cons, ih]
theorem find_bent (n : Int) : ∀ (l : List Int) (i j : Nat), (n ∈ l → ∃ k, k < l.length ∧ Instr.findNow (.int .i64) (.int .i64 n) (bent i l) j = some (some (j + k, .bool true)) ∧ (bent i l)[k]? = some ⟨.int .i64 n, .bool true, i + k⟩) ∧ (n ∉ l → Instr.findNow (.int .i64) (.int .i64 n) (bent i l) j = some none)
 | [], i, j => ⟨fun h => (by cases h), fun _ => rfl⟩
 | m :: l, i, j => by
  have hs : Instr.sameNow (.int .i64) (.int .i64 n) (.int .i64 m) = some (n == m) := by simp [Instr.sameNow]
  have ih := find_bent n l (i + 1) (j + 1)
  by_cases h : n = m
  · subst h
    refine ⟨fun _ => ⟨0, by simp, ?_, rfl⟩, fun hn => absurd (List.mem_cons_self ..) hn⟩
    simp [bent, Instr.findNow, hs]
  · have hf : (n == m) = false := beq_eq_false_iff_ne.2 h
    refine ⟨fun hm => ?_, fun hm => ?_⟩
    · obtain ⟨k, k1, k2, k3⟩ := ih.1 ((List.mem_cons.1 hm).resolve_left h)
      refine ⟨k + 1, by simpa using k1, ?_, ?_⟩
      · simp only [bent, Instr.findNow, hs, hf, k2]
        rw [show j + 1 + k = j + (k + 1) by omega]
      · simp only [bent, List.getElem?_cons_succ, k3]
        rw [show i + 1 + k = i + (k + 1) by omega]
    · simp only [bent, Instr.findNow, hs, hf]
      exact ih.2 fun hk => hm (List.mem_cons_of_mem _ hk)
section
variable {P : Program} {r : Option Nat} {o : Oper} {e : Nat → D} {st : St} {K : D → St → Prop} {t kt et : TypeId} {b : Nat} {n : Int} {l : List Int}
theorem run_checkI (hk : P.underlying kt = some (.int .i64)) (em : Bool) (w : World) : (Instr.checkKey em 10000 kt (.int .i64 n)).run P w = .ok () w := Go.MapKept.run_checkKey (k := .int .i64 n) hk (by simp [Go.MapKept.IsKey]) em 9999
theorem run_findI (hk : P.underlying kt = some (.int .i64)) (w : World) {x : Option (Nat × Value)} (h : Instr.findNow (.int .i64) (.int .i64 n) (bent 0 l) 0 = some x) : (Instr.findKey kt (.int .i64 n) (bent 0 l)).run P w = .ok x w := Go.MapKept.run_findKey hk h
theorem opC_makeMap (ho : o.op = .makeMap t none) (h : ∀ b, K (.mp b) (bmap b [] :: st)) : OpC P r o e st K := by
 refine opC_val (by rw [ho]; intro c hc; cases hc) fun ρ w hr hh => .inl ?_
 obtain ⟨k1, k2⟩ := new_own hh (.raw w.heap.size (.map #[] 0)) (fun b e => by cases e; rfl) (.map #[] 0) fun he => heap_alloc_new w _
 unfold execOp
 rw [ho]
 exact ⟨.map (some w.heap.size), _, rfl, .mp w.heap.size, _, .s _ rfl, k1, k2, h _⟩
theorem opC_lookup {x y : Operand} (ho : o.op = .lookup t x y false) (hx : ev e x = some (.mp b)) (hy : ev e y = some (.i n)) (hm : bmap b l ∈ st) (hu : P.underlying t = some (.map kt et)) (hk : P.underlying kt = some (.int .i64)) (hz : (P.info? et).bind (·.zero) = some (.bool false)) (h : K (.b (decide (n ∈ l))) st) : OpC P r o e st K := by
 refine opC_val (by rw [ho]; intro c hc; cases hc) fun ρ w hr hh => .inl ?_
 have hp := hr _ (by simp [ho, Op.operands]) _ hx
 have hv := hr _ (by simp [ho, Op.operands]) _ hy
 have hb : w.heap[b]? = some (bmapO l) := hh.2 _ hm
 unfold execOp
 rw [ho]
 simp only
 generalize ρ x = p at hp
 generalize ρ y = v at hv
 cases hp
 cases hv
 have hz2 : (zeroValue et).run P w = .ok (.bool false) w := by
  cases hi : P.info? et with
  | none => rw [hi] at hz; cases hz
  | some i =>
   rw [hi] at hz
   simp only [Option.bind_some] at hz
   simp [zeroValue, typeInfo, hi, hz]
 have hget : (getObj b).run P w = .ok (bmapO l) w := Go.MapKept.run_getObj_map hb
 by_cases hn : n ∈ l
 · obtain ⟨k, k1, k2, k3⟩ := (find_bent n l 0 0).1 hn
   refine ⟨.bool true, w, ?_, .b (decide (n ∈ l)), st, ?_, hh, Ext.refl _ _, h⟩
   · simp [Instr.lookup, run_underlying hu, hget, bmapO, run_checkI hk, run_findI hk w k2]
   · rw [decide_eq_true hn]; exact .s _ rfl
 · have k2 := (find_bent n l 0 0).2 hn
   refine ⟨.bool false, w, ?_, .b (decide (n ∈ l)), st, ?_, hh, Ext.refl _ _, h⟩
   · simp [Instr.lookup, run_underlying hu, hget, bmapO, run_checkI hk, run_findI hk w k2, hz2]
   · rw [decide_eq_false hn]; exact .s _ rfl
theorem opC_mapUpdate {x y z : Operand} {s1 : St} (ho : o.op = .mapUpdate t x y z) (hx : ev e x = some (.mp b)) (hy : ev e y = some (.i n)) (hz : ev e z = some (.b true)) (hm : ResAt (bmap b l) (bmap b (insK l n)) st s1) (hu : P.underlying t = some (.map kt et)) (hk : P.underlying kt = some (.int .i64)) (h : K D.un s1) : OpC P r o e st K := by
 refine opC_val (by rw [ho]; intro c hc; cases hc) fun ρ w hr hh => .inr ?_
 have hp := hr _ (by simp [ho, Op.operands]) _ hx
 have hv := hr _ (by simp [ho, Op.operands]) _ hy
 have hzv := hr _ (by simp [ho, Op.operands]) _ hz
 obtain ⟨s0, p1, p2⟩ := hm.perm
 have hh' := hh.perm p1
 have hb : w.heap[b]? = some (bmapO l) := hh'.2 _ (List.mem_cons_self ..)
 unfold execOp
 rw [ho]
 simp only
 generalize ρ x = p at hp
 generalize ρ y = v at hv
 generalize ρ z = u at hzv
 cases hp
 cases hv
 cases hzv
 have hget : (getObj b).run P w = .ok (bmapO l) w := Go.MapKept.run_getObj_map hb
 have hset : ∀ o, (setObj b o).run P w = .ok () (w.putObj b o) := fun o => Go.MapKept.run_setObj_map o hb
 obtain ⟨q1, q2⟩ := raw_set (o' := bmapO (insK l n)) hh' (fun c E fr h => by cases h)
 refine ⟨_, ?_, D.un, s1, .s undef rfl, q1.perm p2.symm, q2.perm p1 p2, h⟩
 by_cases hn : n ∈ l
 · obtain ⟨k, k1, k2, k3⟩ := (find_bent n l 0 0).1 hn
   have hmod : (bent 0 l).toArray.modify k (fun e => { e with key := .int .i64 n, val := .bool true }) = (bent 0 l).toArray := by
    apply Array.ext_getElem?
    intro j
    rw [Array.getElem?_modify]
    split
    · rename_i hj; subst hj
      simp [k3]
    · rfl
   have hl2 : k < (bent 0 l).length := by rw [bent_len]; exact k1
   have hkk : (((bent 0 l).toArray[k]?).map (·.key)).getD (.int .i64 n) = .int .i64 n := by simp [k3]
   simp only [Instr.mapUpdate, Sem.run_bind, run_underlying hu, Result.andThen_ok, hget, bmapO, run_checkI hk, run_findI hk w k2, hset, insK, if_pos hn]
   have hmod2 : (bent 0 l).modify k (fun e => { e with key := .int .i64 n, val := .bool true }) = bent 0 l := by simpa using hmod
   simp [k3, Instr.keyThatStays, Instr.sameBits, hmod2, hset]
 · have k2 := (find_bent n l 0 0).2 hn
   simp only [Instr.mapUpdate, Sem.run_bind, run_underlying hu, Result.andThen_ok, hget, bmapO, run_checkI hk, run_findI hk w k2, insK, if_neg hn]
   simp [hset, bent_append, bent, bmapO]
end
def mapT (P : Program) (t : TypeId) : Bool :=
 match P.underlying t with
 | some (.map kt et) => (match P.underlying kt with | some (.int .i64) => true | _ => false) && (match (P.info? et).bind (·.zero) with | some (.bool false) => true | _ => false)
 | _ => false
theorem mapT_spec {P : Program} {t : TypeId} (h : mapT P t = true) : ∃ kt et, P.underlying t = some (.map kt et) ∧ P.underlying kt = some (.int .i64) ∧ (P.info? et).bind (·.zero) = some (.bool false) := by
 unfold mapT at h
 split at h
 · rename_i kt et hu
   rw [Bool.and_eq_true] at h
   obtain ⟨h1, h2⟩ := h
   refine ⟨kt, et, hu, ?_, ?_⟩
   · split at h1
     · assumption
     · cases h1
   · split at h2
     · assumption
     · cases h2
 · cases h
section
variable {P : Program} {r : Option Nat} {m : Option Ro} {A : AA} {st : St} {k : D → St → Prop} {dst : Option Tmp} {ty : TypeId} {pos : String} {aft : Array Edge} {gd : Option (Nat × Bool)} {t : TypeId} {b : Nat} {n : Int} {l : List Int}
def MkM (m : Option Ro) (st : St) (k : D → St → Prop) : Prop := ∀ b, Keep m (bmap b [] :: st) ∧ k (.mp b) (bmap b [] :: st)
theorem mm_go (h : ∀ b, Keep m (bmap b [] :: st) ∧ k (.mp b) (bmap b [] :: st)) : MkM m st k := h
theorem s_makeMap (h : MkM m st k) : S P r m ⟨dst, .makeMap t none, ty, pos, aft, gd⟩ A st k :=
 s_chain (R := fun d s => ∃ b, d = .mp b ∧ s = bmap b [] :: st) rfl (opC_makeMap rfl fun b => ⟨b, rfl, rfl⟩) ⟨_, _, 0, rfl, rfl⟩ fun d s ⟨b, e1, e2⟩ => by subst e1 e2; exact h b
def LkM (P : Program) (m : Option Ro) (t : TypeId) (d d' : D) (st : St) (k : D → St → Prop) : Prop :=
 ∃ b n l, d = .mp b ∧ d' = .i n ∧ bmap b l ∈ st ∧ mapT P t = true ∧ Keep m st ∧ k (.b (decide (n ∈ l))) st
theorem s_lookup {x y : Operand} (h : Ev (ev A.e x) fun d => Ev (ev A.e y) fun d' => LkM P m t d d' st k) : S P r m ⟨dst, .lookup t x y false, ty, pos, aft, gd⟩ A st k := by
 obtain ⟨d, h1, d', h2, b, n, l, rfl, rfl, hm, ht, h3⟩ := h
 obtain ⟨kt, et, t1, t2, t3⟩ := mapT_spec ht
 exact s_chain (R := fun d s => d = .b (decide (n ∈ l)) ∧ s = st) rfl (opC_lookup rfl h1 h2 hm t1 t2 t3 ⟨rfl, rfl⟩) ⟨_, _, rfl, rfl⟩ fun d s ⟨e1, e2⟩ => by subst e1 e2; exact h3
def UpM (P : Program) (m : Option Ro) (t : TypeId) (d d' d'' : D) (st : St) (k : D → St → Prop) : Prop :=
 ∃ b n l s1, d = .mp b ∧ d' = .i n ∧ d'' = .b true ∧ ResAt (bmap b l) (bmap b (insK l n)) st s1 ∧ mapT P t = true ∧ Keep m s1 ∧ k D.un s1
theorem s_mapUpdate {x y z : Operand} (h : Ev (ev A.e x) fun d => Ev (ev A.e y) fun d' => Ev (ev A.e z) fun d'' => UpM P m t d d' d'' st k) : S P r m ⟨dst, .mapUpdate t x y z, ty, pos, aft, gd⟩ A st k := by
 obtain ⟨d, h1, d', h2, d'', h4, b, n, l, s1, rfl, rfl, rfl, hm, ht, h3⟩ := h
 obtain ⟨kt, et, t1, t2, t3⟩ := mapT_spec ht
 exact s_chain (R := fun d s => d = D.un ∧ s = s1) rfl (opC_mapUpdate rfl h1 h2 h4 hm t1 t2 ⟨rfl, rfl⟩) ⟨_, _, rfl, rfl⟩ fun d s ⟨e1, e2⟩ => by subst e1 e2; exact h3
instance i_s_makeMap : Go1 (S P r m ⟨dst, .makeMap t none, ty, pos, aft, gd⟩ A st k) (MkM m st k) := ⟨s_makeMap⟩
instance i_s_lookup {x y : Operand} : Go1 (S P r m ⟨dst, .lookup t x y false, ty, pos, aft, gd⟩ A st k) (Ev (ev A.e x) fun d => Ev (ev A.e y) fun d' => LkM P m t d d' st k) := ⟨s_lookup⟩
instance i_s_mapUpdate {x y z : Operand} : Go1 (S P r m ⟨dst, .mapUpdate t x y z, ty, pos, aft, gd⟩ A st k) (Ev (ev A.e x) fun d => Ev (ev A.e y) fun d' => Ev (ev A.e z) fun d'' => UpM P m t d d' d'' st k) := ⟨s_mapUpdate⟩
end
class MpI (b : Nat) (st : St) (l : outParam (List Int)) (s1 : outParam (List Int → St)) : Prop where
 mem : bmap b l ∈ st
 go : ∀ l', ResAt (bmap b l) (bmap b l') st (s1 l')
instance mp_here {b : Nat} {l : List Int} {st : St} : MpI b (bmap b l :: st) l (fun l' => bmap b l' :: st) := ⟨List.Mem.head _, fun _ => ResAt.here⟩
instance (priority := low) mp_there {b : Nat} {l : List Int} {x : Res} {st : St} {s1 : List Int → St} [h : MpI b st l s1] : MpI b (x :: st) l (fun l' => x :: s1 l') := ⟨List.Mem.tail _ h.mem, fun l' => ResAt.there (h.go l')⟩
section
variable {P : Program} {m : Option Ro} {st : St} {k : D → St → Prop} {t : TypeId} {b : Nat} {n : Int} {l : List Int} {s1 : List Int → St}
instance i_lkm [h : MpI b st l s1] : Go5 (LkM P m t (.s (.map (some b))) (.s (.int .i64 n)) st k) (mapT P t = true) (Keep m st ∧ k (.b (decide (n ∈ l))) st) := ⟨fun ht hk => ⟨b, n, l, rfl, rfl, h.mem, ht, hk⟩⟩
instance i_upm [h : MpI b st l s1] : Go5 (UpM P m t (.s (.map (some b))) (.s (.int .i64 n)) (.s (.bool true)) st k) (mapT P t = true) (Keep m (s1 (insK l n)) ∧ k D.un (s1 (insK l n))) := ⟨fun ht hk => ⟨b, n, l, _, rfl, rfl, rfl, h.go _, ht, hk⟩⟩
end
end Go.Proofs.YtgcienlfpnpbgaaGreat
end
section
namespace Go.Proofs.YtgcienlfpnpbgaaGreat
attribute [local push_cast] encB encI encC V.cells_mk V.cells_len Nat.mul_one Int.sub_zero List.map_nil beq_self_eq_true bne_self_eq_false List.head?_cons
open Go.RowKit
set_option maxHeartbeats 8000000
set_option maxRecDepth 10000
namespace Rul
def idx {α σ : Type} (F : σ → α → Bool × σ) : σ → List α → Nat → Int × σ
 | s, [], _ => (-1, s)
 | s, a :: l, i => if (F s a).1 = true then ((i : Int), (F s a).2) else idx F (F s a).2 l (i + 1)
def anyS {α σ : Type} (F : σ → α → Bool × σ) : σ → List α → Bool × σ
 | s, [] => (false, s)
 | s, a :: l => if (F s a).1 = true then (true, (F s a).2) else anyS F (F s a).2 l
theorem idx_any {α σ : Type} (F : σ → α → Bool × σ) : ∀ (l : List α) (s : σ) (i : Nat), (idx F s l i).2 = (anyS F s l).2 ∧ decide ((idx F s l i).1 ≥ 0) = (anyS F s l).1
 | [], s, i => ⟨rfl, rfl⟩
 | a :: l, s, i => by
  rw [idx, anyS]
  split
  · exact ⟨rfl, decide_eq_true (by show (i : Int) ≥ 0; omega)⟩
  · exact idx_any F l _ _
theorem idx_drop {α σ : Type} (F : σ → α → Bool × σ) {L : List α} {i : Nat} {a : α} (h : L[i]? = some a) (s : σ) : idx F s (L.drop i) i = if (F s a).1 = true then ((i : Int), (F s a).2) else idx F (F s a).2 (L.drop (i + 1)) (i + 1) := by
 obtain ⟨h1, rfl⟩ := List.getElem?_eq_some_iff.1 h
 rw [List.drop_eq_getElem_cons h1, idx]
theorem idx_le {α σ : Type} (F : σ → α → Bool × σ) : ∀ (l : List α) (s : σ) (i : Nat), -1 ≤ (idx F s l i).1 ∧ (idx F s l i).1 ≤ i + l.length
 | [], s, i => ⟨Int.le_refl _, by show (-1 : Int) ≤ _; omega⟩
 | a :: l, s, i => by
  rw [idx]
  split
  · dsimp only; rw [List.length_cons]; omega
  · have := idx_le F l (F s a).2 (i + 1)
    rw [List.length_cons]; omega
end Rul
theorem idxFTest {σ : Type} (fn : FuncId) (caps : List D) (hcall : ∀ args w, (callFunc fn args).run Tryz.prog w = .ok (.enter fn args) w) (L : List Ts) (hl : L.length ≤ 1000000) (F : σ → Ts → Bool × σ) (S : σ → St)
 (hF : ∀ a ∈ L, ∀ s, TrF Tryz.prog fn (.agg a.cells :: caps) (S s) fun d st' => d = .b (F s a).1 ∧ st' = S (F s a).2) (s0 : σ) : TrF Tryz.prog 208 [.sl .shared (L.map Ts.cells), .fn (.func fn) [] caps] (S s0) fun d st' => d = .i (Rul.idx F s0 L 0).1 ∧ st' = S (Rul.idx F s0 L 0).2 := by
 obtain ⟨R, hR⟩ : ∃ R, Rul.idx F s0 L 0 = R := ⟨_, rfl⟩
 rw [hR]
 have HF : Hid (Rul.idx F s0 (L.drop 0) 0 = R) := hR
 have hm : (L.map Ts.cells).length = L.length := List.length_map ..
 have hc := hMp Ts.cells L
 have hF2 := Lib.hid hF
 clear hR hF
 generalize L.map Ts.cells = LS at *
 refine Qin [4] Tryz.func208 Tryz.results208 Tryz.ntmps208 ?_
 repeat' (with_reducible first | refine Q1 ?_ | refine Qe ?_ | refine QQ ?_ | (refine al_go ?_; intro b) | (refine QD ?_ <;> (try constructor) <;> intro hb <;> try intro hb1) | fail)
 refine tr_loopd (ι := Nat) (fun i A st' => i ≤ L.length ∧ A.df = [] ∧ A.e 0 = .sl .shared LS ∧ A.e 1 = .fn (.func fn) [] caps ∧ A.e 7 = .i L.length ∧ A.e 8 = .i i ∧ ∃ s, Hid (Rul.idx F s (L.drop i) i = R) ∧ st' = S s) (fun i => L.length - i) 0 ⟨Nat.zero_le _, Qf, Qf, Qf, Qf, Qf, s0, HF, rfl⟩ ?_
 clear HF
 rintro i A st' ⟨hi, hdf, e0, e1, e7, e8, s, HT, rfl⟩
 by_cases hlt : i < L.length
 · obtain ⟨a, ha⟩ := gEx hlt
   have h1 := hc.out i a ha
   have hG := hF2.out a (List.mem_of_getElem? ha) s
   have HE := HT.out
   rw [Rul.idx_drop F ha] at HE
   clear HT ha hF2
   generalize F s a = q at *
   obtain ⟨q, s'⟩ := q
   dsimp only at *
   cases a with
   | mk kind slot var val =>
   cases val with
   | mk k1 n1 s1 l1 =>
   rw [Ts.cells_mk] at h1 hG
   replace hG := Lib.hid hG
   cases q with
   | true =>
    rw [if_pos rfl] at HE
    subst HE
    repeat' (first | (with_reducible first | refine Q1 ?_ | refine Qe ?_ | refine QQ ?_ | (refine al_go ?_; intro b) | (refine QD ?_ <;> (try constructor) <;> intro hb <;> try intro hb1) | fail) | refine Qc hcall hG.out ?_ | fail)
    all_goals exact Qret
   | false =>
    rw [if_neg Bool.false_ne_true] at HE
    replace HE := Lib.hid HE
    repeat' (first | (with_reducible first | refine Q1 ?_ | refine Qe ?_ | refine QQ ?_ | (refine al_go ?_; intro b) | (refine QD ?_ <;> (try constructor) <;> intro hb <;> try intro hb1) | fail) | refine Qc hcall hG.out ?_ | fail)
    refine ⟨i + 1, S s', (by (repeat (first | exact List.Sublist.refl _ | apply List.Sublist.cons))), ⟨hlt, ?_, ?_, ?_, ?_, ?_, s', HE, rfl⟩, by omega⟩
    all_goals exact Qf
 · have HE := HT.out
   rw [List.drop_of_length_le (by omega), Rul.idx] at HE
   subst HE
   clear HT hF2
   exact WR
theorem conFTest {σ : Type} (fn : FuncId) (caps : List D) (hcall : ∀ args w, (callFunc fn args).run Tryz.prog w = .ok (.enter fn args) w) (L : List Ts) (hl : L.length ≤ 1000000) (F : σ → Ts → Bool × σ) (S : σ → St)
 (hF : ∀ a ∈ L, ∀ s, TrF Tryz.prog fn (.agg a.cells :: caps) (S s) fun d st' => d = .b (F s a).1 ∧ st' = S (F s a).2) (s0 : σ) : TrF Tryz.prog 182 [.sl .shared (L.map Ts.cells), .fn (.func fn) [] caps] (S s0) fun d st' => d = .b (Rul.anyS F s0 L).1 ∧ st' = S (Rul.anyS F s0 L).2 := by
 have hI := idxFTest fn caps hcall L hl F S hF s0
 obtain ⟨e1, e2⟩ := Rul.idx_any F L s0 0
 have hle := Rul.idx_le F L s0 0
 rw [← e1, ← e2]
 clear e1 e2 hF
 generalize Rul.idx F s0 L 0 = R at *
 obtain ⟨R, s'⟩ := R
 generalize L.map Ts.cells = LS at *
 dsimp only at *
 replace hI := Lib.hid hI
 by_cases hR : R ≥ 0
 · rw [decide_eq_true hR]
   refine Qin [4] Tryz.func182 Tryz.results182 Tryz.ntmps182 ?_
   repeat' (first | (with_reducible first | refine Q1 ?_ | refine Qe ?_ | refine QQ ?_ | (refine al_go ?_; intro b) | (refine QD ?_ <;> (try constructor) <;> intro hb <;> try intro hb1) | fail) | refine Qc Tryz.call208 hI.out ?_ | fail)
   all_goals exact Qret
 · rw [decide_eq_false hR]
   refine Qin [4] Tryz.func182 Tryz.results182 Tryz.ntmps182 ?_
   repeat' (first | (with_reducible first | refine Q1 ?_ | refine Qe ?_ | refine QQ ?_ | (refine al_go ?_; intro b) | (refine QD ?_ <;> (try constructor) <;> intro hb <;> try intro hb1) | fail) | refine Qc Tryz.call208 hI.out ?_ | fail)
   all_goals exact Qret
theorem idxFPat {σ : Type} (fn : FuncId) (caps : List D) (hcall : ∀ args w, (callFunc fn args).run Tryz.prog w = .ok (.enter fn args) w) (L : List Pt) (hl : L.length ≤ 1000000) (F : σ → Pt → Bool × σ) (S : σ → St)
 (hF : ∀ a ∈ L, ∀ s, TrF Tryz.prog fn (.agg a.cells :: caps) (S s) fun d st' => d = .b (F s a).1 ∧ st' = S (F s a).2) (s0 : σ) : TrF Tryz.prog 181 [.sl .shared (L.map Pt.cells), .fn (.func fn) [] caps] (S s0) fun d st' => d = .i (Rul.idx F s0 L 0).1 ∧ st' = S (Rul.idx F s0 L 0).2 := by
 obtain ⟨R, hR⟩ : ∃ R, Rul.idx F s0 L 0 = R := ⟨_, rfl⟩
 rw [hR]
 have HF : Hid (Rul.idx F s0 (L.drop 0) 0 = R) := hR
 have hm : (L.map Pt.cells).length = L.length := List.length_map ..
 have hc := hMp Pt.cells L
 have hF2 := Lib.hid hF
 clear hR hF
 generalize L.map Pt.cells = LS at *
 refine Qin [4] Tryz.func181 Tryz.results181 Tryz.ntmps181 ?_
 repeat' (with_reducible first | refine Q1 ?_ | refine Qe ?_ | refine QQ ?_ | (refine al_go ?_; intro b) | (refine QD ?_ <;> (try constructor) <;> intro hb <;> try intro hb1) | fail)
 refine tr_loopd (ι := Nat) (fun i A st' => i ≤ L.length ∧ A.df = [] ∧ A.e 0 = .sl .shared LS ∧ A.e 1 = .fn (.func fn) [] caps ∧ A.e 7 = .i L.length ∧ A.e 8 = .i i ∧ ∃ s, Hid (Rul.idx F s (L.drop i) i = R) ∧ st' = S s) (fun i => L.length - i) 0 ⟨Nat.zero_le _, Qf, Qf, Qf, Qf, Qf, s0, HF, rfl⟩ ?_
 clear HF
 rintro i A st' ⟨hi, hdf, e0, e1, e7, e8, s, HT, rfl⟩
 by_cases hlt : i < L.length
 · obtain ⟨a, ha⟩ := gEx hlt
   have h1 := hc.out i a ha
   have hG := hF2.out a (List.mem_of_getElem? ha) s
   have HE := HT.out
   rw [Rul.idx_drop F ha] at HE
   clear HT ha hF2
   generalize F s a = q at *
   obtain ⟨q, s'⟩ := q
   dsimp only at *
   unfold Pt.cells at h1 hG
   cases a with
   | mk tmpl neg tests =>
   dsimp only at h1 hG
   generalize tests.map Ts.cells = TS at *
   replace hG := Lib.hid hG
   cases q with
   | true =>
    rw [if_pos rfl] at HE
    subst HE
    repeat' (first | (with_reducible first | refine Q1 ?_ | refine Qe ?_ | refine QQ ?_ | (refine al_go ?_; intro b) | (refine QD ?_ <;> (try constructor) <;> intro hb <;> try intro hb1) | fail) | refine Qc hcall hG.out ?_ | fail)
    all_goals exact Qret
   | false =>
    rw [if_neg Bool.false_ne_true] at HE
    replace HE := Lib.hid HE
    repeat' (first | (with_reducible first | refine Q1 ?_ | refine Qe ?_ | refine QQ ?_ | (refine al_go ?_; intro b) | (refine QD ?_ <;> (try constructor) <;> intro hb <;> try intro hb1) | fail) | refine Qc hcall hG.out ?_ | fail)
    refine ⟨i + 1, S s', (by (repeat (first | exact List.Sublist.refl _ | apply List.Sublist.cons))), ⟨hlt, ?_, ?_, ?_, ?_, ?_, s', HE, rfl⟩, by omega⟩
    all_goals exact Qf
 · have HE := HT.out
   rw [List.drop_of_length_le (by omega), Rul.idx] at HE
   subst HE
   clear HT hF2
   exact WR
theorem conFPat {σ : Type} (fn : FuncId) (caps : List D) (hcall : ∀ args w, (callFunc fn args).run Tryz.prog w = .ok (.enter fn args) w) (L : List Pt) (hl : L.length ≤ 1000000) (F : σ → Pt → Bool × σ) (S : σ → St)
 (hF : ∀ a ∈ L, ∀ s, TrF Tryz.prog fn (.agg a.cells :: caps) (S s) fun d st' => d = .b (F s a).1 ∧ st' = S (F s a).2) (s0 : σ) : TrF Tryz.prog 149 [.sl .shared (L.map Pt.cells), .fn (.func fn) [] caps] (S s0) fun d st' => d = .b (Rul.anyS F s0 L).1 ∧ st' = S (Rul.anyS F s0 L).2 := by
 have hI := idxFPat fn caps hcall L hl F S hF s0
 obtain ⟨e1, e2⟩ := Rul.idx_any F L s0 0
 have hle := Rul.idx_le F L s0 0
 rw [← e1, ← e2]
 clear e1 e2 hF
 generalize Rul.idx F s0 L 0 = R at *
 obtain ⟨R, s'⟩ := R
 generalize L.map Pt.cells = LS at *
 dsimp only at *
 replace hI := Lib.hid hI
 by_cases hR : R ≥ 0
 · rw [decide_eq_true hR]
   refine Qin [4] Tryz.func149 Tryz.results149 Tryz.ntmps149 ?_
   repeat' (first | (with_reducible first | refine Q1 ?_ | refine Qe ?_ | refine QQ ?_ | (refine al_go ?_; intro b) | (refine QD ?_ <;> (try constructor) <;> intro hb <;> try intro hb1) | fail) | refine Qc Tryz.call181 hI.out ?_ | fail)
   all_goals exact Qret
 · rw [decide_eq_false hR]
   refine Qin [4] Tryz.func149 Tryz.results149 Tryz.ntmps149 ?_
   repeat' (first | (with_reducible first | refine Q1 ?_ | refine Qe ?_ | refine QQ ?_ | (refine al_go ?_; intro b) | (refine QD ?_ <;> (try constructor) <;> intro hb <;> try intro hb1) | fail) | refine Qc Tryz.call181 hI.out ?_ | fail)
   all_goals exact Qret
theorem idxFAct {σ : Type} (fn : FuncId) (caps : List D) (hcall : ∀ args w, (callFunc fn args).run Tryz.prog w = .ok (.enter fn args) w) (L : List Ac) (hl : L.length ≤ 1000000) (F : σ → Ac → Bool × σ) (S : σ → St)
 (hF : ∀ a ∈ L, ∀ s, TrF Tryz.prog fn (.agg a.cells :: caps) (S s) fun d st' => d = .b (F s a).1 ∧ st' = S (F s a).2) (s0 : σ) : TrF Tryz.prog 185 [.sl .shared (L.map Ac.cells), .fn (.func fn) [] caps] (S s0) fun d st' => d = .i (Rul.idx F s0 L 0).1 ∧ st' = S (Rul.idx F s0 L 0).2 := by
 obtain ⟨R, hR⟩ : ∃ R, Rul.idx F s0 L 0 = R := ⟨_, rfl⟩
 rw [hR]
 have HF : Hid (Rul.idx F s0 (L.drop 0) 0 = R) := hR
 have hm : (L.map Ac.cells).length = L.length := List.length_map ..
 have hc := hMp Ac.cells L
 have hF2 := Lib.hid hF
 clear hR hF
 generalize L.map Ac.cells = LS at *
 refine Qin [4] Tryz.func185 Tryz.results185 Tryz.ntmps185 ?_
 repeat' (with_reducible first | refine Q1 ?_ | refine Qe ?_ | refine QQ ?_ | (refine al_go ?_; intro b) | (refine QD ?_ <;> (try constructor) <;> intro hb <;> try intro hb1) | fail)
 refine tr_loopd (ι := Nat) (fun i A st' => i ≤ L.length ∧ A.df = [] ∧ A.e 0 = .sl .shared LS ∧ A.e 1 = .fn (.func fn) [] caps ∧ A.e 7 = .i L.length ∧ A.e 8 = .i i ∧ ∃ s, Hid (Rul.idx F s (L.drop i) i = R) ∧ st' = S s) (fun i => L.length - i) 0 ⟨Nat.zero_le _, Qf, Qf, Qf, Qf, Qf, s0, HF, rfl⟩ ?_
 clear HF
 rintro i A st' ⟨hi, hdf, e0, e1, e7, e8, s, HT, rfl⟩
 by_cases hlt : i < L.length
 · obtain ⟨a, ha⟩ := gEx hlt
   have h1 := hc.out i a ha
   have hG := hF2.out a (List.mem_of_getElem? ha) s
   have HE := HT.out
   rw [Rul.idx_drop F ha] at HE
   clear HT ha hF2
   generalize F s a = q at *
   obtain ⟨q, s'⟩ := q
   dsimp only at *
   unfold Ac.cells at h1 hG
   cases a with
   | mk kind pat tmpl slot vals =>
   dsimp only at h1 hG
   generalize vals.map Ex.cells = ES at *
   replace hG := Lib.hid hG
   cases q with
   | true =>
    rw [if_pos rfl] at HE
    subst HE
    repeat' (first | (with_reducible first | refine Q1 ?_ | refine Qe ?_ | refine QQ ?_ | (refine al_go ?_; intro b) | (refine QD ?_ <;> (try constructor) <;> intro hb <;> try intro hb1) | fail) | refine Qc hcall hG.out ?_ | fail)
    all_goals exact Qret
   | false =>
    rw [if_neg Bool.false_ne_true] at HE
    replace HE := Lib.hid HE
    repeat' (first | (with_reducible first | refine Q1 ?_ | refine Qe ?_ | refine QQ ?_ | (refine al_go ?_; intro b) | (refine QD ?_ <;> (try constructor) <;> intro hb <;> try intro hb1) | fail) | refine Qc hcall hG.out ?_ | fail)
    refine ⟨i + 1, S s', (by (repeat (first | exact List.Sublist.refl _ | apply List.Sublist.cons))), ⟨hlt, ?_, ?_, ?_, ?_, ?_, s', HE, rfl⟩, by omega⟩
    all_goals exact Qf
 · have HE := HT.out
   rw [List.drop_of_length_le (by omega), Rul.idx] at HE
   subst HE
   clear HT hF2
   exact WR
theorem conFAct {σ : Type} (fn : FuncId) (caps : List D) (hcall : ∀ args w, (callFunc fn args).run Tryz.prog w = .ok (.enter fn args) w) (L : List Ac) (hl : L.length ≤ 1000000) (F : σ → Ac → Bool × σ) (S : σ → St)
 (hF : ∀ a ∈ L, ∀ s, TrF Tryz.prog fn (.agg a.cells :: caps) (S s) fun d st' => d = .b (F s a).1 ∧ st' = S (F s a).2) (s0 : σ) : TrF Tryz.prog 152 [.sl .shared (L.map Ac.cells), .fn (.func fn) [] caps] (S s0) fun d st' => d = .b (Rul.anyS F s0 L).1 ∧ st' = S (Rul.anyS F s0 L).2 := by
 have hI := idxFAct fn caps hcall L hl F S hF s0
 obtain ⟨e1, e2⟩ := Rul.idx_any F L s0 0
 have hle := Rul.idx_le F L s0 0
 rw [← e1, ← e2]
 clear e1 e2 hF
 generalize Rul.idx F s0 L 0 = R at *
 obtain ⟨R, s'⟩ := R
 generalize L.map Ac.cells = LS at *
 dsimp only at *
 replace hI := Lib.hid hI
 by_cases hR : R ≥ 0
 · rw [decide_eq_true hR]
   refine Qin [4] Tryz.func152 Tryz.results152 Tryz.ntmps152 ?_
   repeat' (first | (with_reducible first | refine Q1 ?_ | refine Qe ?_ | refine QQ ?_ | (refine al_go ?_; intro b) | (refine QD ?_ <;> (try constructor) <;> intro hb <;> try intro hb1) | fail) | refine Qc Tryz.call185 hI.out ?_ | fail)
   all_goals exact Qret
 · rw [decide_eq_false hR]
   refine Qin [4] Tryz.func152 Tryz.results152 Tryz.ntmps152 ?_
   repeat' (first | (with_reducible first | refine Q1 ?_ | refine Qe ?_ | refine QQ ?_ | (refine al_go ?_; intro b) | (refine QD ?_ <;> (try constructor) <;> intro hb <;> try intro hb1) | fail) | refine Qc Tryz.call185 hI.out ?_ | fail)
   all_goals exact Qret
theorem idxFRule {σ : Type} (fn : FuncId) (caps : List D) (hcall : ∀ args w, (callFunc fn args).run Tryz.prog w = .ok (.enter fn args) w) (L : List Rl) (hl : L.length ≤ 1000000) (F : σ → Rl → Bool × σ) (S : σ → St)
 (hF : ∀ a ∈ L, ∀ s, TrF Tryz.prog fn (.agg a.cells :: caps) (S s) fun d st' => d = .b (F s a).1 ∧ st' = S (F s a).2) (s0 : σ) : TrF Tryz.prog 155 [.sl .shared (L.map Rl.cells), .fn (.func fn) [] caps] (S s0) fun d st' => d = .i (Rul.idx F s0 L 0).1 ∧ st' = S (Rul.idx F s0 L 0).2 := by
 obtain ⟨R, hR⟩ : ∃ R, Rul.idx F s0 L 0 = R := ⟨_, rfl⟩
 rw [hR]
 have HF : Hid (Rul.idx F s0 (L.drop 0) 0 = R) := hR
 have hm : (L.map Rl.cells).length = L.length := List.length_map ..
 have hc := hMp Rl.cells L
 have hF2 := Lib.hid hF
 clear hR hF
 generalize L.map Rl.cells = LS at *
 refine Qin [4] Tryz.func155 Tryz.results155 Tryz.ntmps155 ?_
 repeat' (with_reducible first | refine Q1 ?_ | refine Qe ?_ | refine QQ ?_ | (refine al_go ?_; intro b) | (refine QD ?_ <;> (try constructor) <;> intro hb <;> try intro hb1) | fail)
 refine tr_loopd (ι := Nat) (fun i A st' => i ≤ L.length ∧ A.df = [] ∧ A.e 0 = .sl .shared LS ∧ A.e 1 = .fn (.func fn) [] caps ∧ A.e 7 = .i L.length ∧ A.e 8 = .i i ∧ ∃ s, Hid (Rul.idx F s (L.drop i) i = R) ∧ st' = S s) (fun i => L.length - i) 0 ⟨Nat.zero_le _, Qf, Qf, Qf, Qf, Qf, s0, HF, rfl⟩ ?_
 clear HF
 rintro i A st' ⟨hi, hdf, e0, e1, e7, e8, s, HT, rfl⟩
 by_cases hlt : i < L.length
 · obtain ⟨a, ha⟩ := gEx hlt
   have h1 := hc.out i a ha
   have hG := hF2.out a (List.mem_of_getElem? ha) s
   have HE := HT.out
   rw [Rul.idx_drop F ha] at HE
   clear HT ha hF2
   generalize F s a = q at *
   obtain ⟨q, s'⟩ := q
   dsimp only at *
   unfold Rl.cells at h1 hG
   cases a with
   | mk nm sal pats acts =>
   dsimp only at h1 hG
   generalize pats.map Pt.cells = PS at *
   generalize acts.map Ac.cells = AS at *
   replace hG := Lib.hid hG
   cases q with
   | true =>
    rw [if_pos rfl] at HE
    subst HE
    repeat' (first | (with_reducible first | refine Q1 ?_ | refine Qe ?_ | refine QQ ?_ | (refine al_go ?_; intro b) | (refine QD ?_ <;> (try constructor) <;> intro hb <;> try intro hb1) | fail) | refine Qc hcall hG.out ?_ | fail)
    all_goals exact Qret
   | false =>
    rw [if_neg Bool.false_ne_true] at HE
    replace HE := Lib.hid HE
    repeat' (first | (with_reducible first | refine Q1 ?_ | refine Qe ?_ | refine QQ ?_ | (refine al_go ?_; intro b) | (refine QD ?_ <;> (try constructor) <;> intro hb <;> try intro hb1) | fail) | refine Qc hcall hG.out ?_ | fail)
    refine ⟨i + 1, S s', (by (repeat (first | exact List.Sublist.refl _ | apply List.Sublist.cons))), ⟨hlt, ?_, ?_, ?_, ?_, ?_, s', HE, rfl⟩, by omega⟩
    all_goals exact Qf
 · have HE := HT.out
   rw [List.drop_of_length_le (by omega), Rul.idx] at HE
   subst HE
   clear HT hF2
   exact WR
theorem conFRule {σ : Type} (fn : FuncId) (caps : List D) (hcall : ∀ args w, (callFunc fn args).run Tryz.prog w = .ok (.enter fn args) w) (L : List Rl) (hl : L.length ≤ 1000000) (F : σ → Rl → Bool × σ) (S : σ → St)
 (hF : ∀ a ∈ L, ∀ s, TrF Tryz.prog fn (.agg a.cells :: caps) (S s) fun d st' => d = .b (F s a).1 ∧ st' = S (F s a).2) (s0 : σ) : TrF Tryz.prog 87 [.sl .shared (L.map Rl.cells), .fn (.func fn) [] caps] (S s0) fun d st' => d = .b (Rul.anyS F s0 L).1 ∧ st' = S (Rul.anyS F s0 L).2 := by
 have hI := idxFRule fn caps hcall L hl F S hF s0
 obtain ⟨e1, e2⟩ := Rul.idx_any F L s0 0
 have hle := Rul.idx_le F L s0 0
 rw [← e1, ← e2]
 clear e1 e2 hF
 generalize Rul.idx F s0 L 0 = R at *
 obtain ⟨R, s'⟩ := R
 generalize L.map Rl.cells = LS at *
 dsimp only at *
 replace hI := Lib.hid hI
 by_cases hR : R ≥ 0
 · rw [decide_eq_true hR]
   refine Qin [4] Tryz.func87 Tryz.results87 Tryz.ntmps87 ?_
   repeat' (first | (with_reducible first | refine Q1 ?_ | refine Qe ?_ | refine QQ ?_ | (refine al_go ?_; intro b) | (refine QD ?_ <;> (try constructor) <;> intro hb <;> try intro hb1) | fail) | refine Qc Tryz.call155 hI.out ?_ | fail)
   all_goals exact Qret
 · rw [decide_eq_false hR]
   refine Qin [4] Tryz.func87 Tryz.results87 Tryz.ntmps87 ?_
   repeat' (first | (with_reducible first | refine Q1 ?_ | refine Qe ?_ | refine QQ ?_ | (refine al_go ?_; intro b) | (refine QD ?_ <;> (try constructor) <;> intro hb <;> try intro hb1) | fail) | refine Qc Tryz.call155 hI.out ?_ | fail)
   all_goals exact Qret
end Go.Proofs.YtgcienlfpnpbgaaGreat
end
section
namespace Go.Proofs.YtgcienlfpnpbgaaGreat
attribute [local push_cast] encB encI V.cells_mk V.cells_take V.cells_len Nat.mul_one Int.sub_zero
open Go.RowKit
set_option maxHeartbeats 4000000
set_option maxRecDepth 10000
theorem refNodesF (v : V) (hok : v.Ok) (hn : v.nodes ≤ 1000) (hd : v.deep ≤ 1000) (st : St) : TrF Tryz.prog 189 [.agg v.cells] st fun x st' => x = .i v.nodes ∧ st' = st := by
 have hC := refCountF v.nodes v (Nat.le_refl _) hok 1001 1000 (by omega) (by omega) (by omega) (by omega)
 rw [V.cnt_all v 1001 1000 (by omega) (by omega)] at hC
 cases v with
 | mk k n s l =>
 rw [V.cells_mk] at *
 replace hC := Lib.hid hC
 generalize (V.mk k n s l).nodes = q at *
 refine Qin [2] Tryz.func189 Tryz.results189 Tryz.ntmps189 ?_
 repeat' (with_reducible first | refine Q1 ?_ | refine Qe ?_ | refine QQ ?_ | (refine al_go ?_; intro b) | (refine QD ?_ <;> (try constructor) <;> intro hb <;> try intro hb1) | fail)
 all_goals (refine Qret (hd := ?_); (try simp (disch := omega) only [push_cast, simprocAttr, *]); try (first | exact LE.refl _ | exact LE.sl _ _ | ((first | refine LE.tup ?_ | refine LE.agg ?_); (repeat' (first | exact LEL.nil | refine LEL.cons ?_ ?_ | exact LE.refl _ | exact LE.sl _ _ | refine LE.agg ?_)); done) | refine LE.of_eq ?_))
 exact congrArg D.i (by omega)
theorem refRightF (v : V) (hok : v.Ok) (hn : v.nodes ≤ 1000) (hd : v.deep ≤ 1000) (st : St) : TrF Tryz.prog 156 [.agg v.cells] st fun x st' => x = .b v.right ∧ st' = st := by
 have hE := refEachF v.nodes v (Nat.le_refl _)
 have hD := refDeepF v.nodes v (Nat.le_refl _) (by omega)
 have hN := refNodesF v hok hn hd
 unfold V.right
 cases v with
 | mk k n s l =>
 rw [V.cells_mk] at *
 replace hE := Lib.hid hE
 replace hD := Lib.hid hD
 replace hN := Lib.hid hN
 generalize (V.mk k n s l).nodes = nn at *
 generalize (V.mk k n s l).deep = dd at *
 generalize (V.mk k n s l).parts = p at *
 refine Qin [2] Tryz.func156 Tryz.results156 Tryz.ntmps156 ?_
 repeat' (with_reducible first | refine Q1 ?_ | refine Qe ?_ | refine QQ ?_ | (refine al_go ?_; intro b) | (refine QD ?_ <;> (try constructor) <;> intro hb <;> try intro hb1) | fail)
 all_goals (refine Qret (hd := ?_); (try simp (disch := omega) only [push_cast, simprocAttr, *]); try (first | exact LE.refl _ | exact LE.sl _ _ | ((first | refine LE.tup ?_ | refine LE.agg ?_); (repeat' (first | exact LEL.nil | refine LEL.cons ?_ ?_ | exact LE.refl _ | exact LE.sl _ _ | refine LE.agg ?_)); done) | refine LE.of_eq ?_))
 all_goals (cases p <;> (first | rfl | (refine congrArg D.b ?_; rw [Bool.eq_iff_iff]; simp only [Bool.true_and, Bool.false_and, Bool.and_true, Bool.and_false, Bool.or_false, Bool.or_true, Bool.true_or, Bool.false_or, true_and, and_true, Bool.not_eq_true', Bool.not_eq_false', decide_eq_true_eq, decide_eq_false_iff_not, beq_iff_eq, beq_eq_false_iff_ne, bne_iff_ne, ne_eq, reduceCtorEq, iff_true, true_iff, iff_false, false_iff, Bool.and_eq_true, Bool.or_eq_true, Bool.false_eq_true, Bool.true_eq_false]; first | done | omega)))
end Go.Proofs.YtgcienlfpnpbgaaGreat
end
section
namespace Go.Proofs.YtgcienlfpnpbgaaGreat
attribute [local push_cast] encB encI encC V.cells_mk V.cells_len Nat.mul_one Int.sub_zero List.map_nil beq_self_eq_true List.head?_cons
open Go.RowKit
set_option maxHeartbeats 4000000
set_option maxRecDepth 10000
def Sch.has (t k : Nat) : Bool := t / 2 ^ k % 2 == 1
theorem refHasF (tn k : Nat) (hk : k ≤ 1000) (ht : tn ≤ 9223372036854775807) (st : St) : TrF Tryz.prog 197 [.i tn, .i k] st fun d st' => d = .b (Sch.has tn k) ∧ st' = st := by
 unfold Sch.has
 refine Qin [4] Tryz.func197 Tryz.results197 Tryz.ntmps197 ?_
 repeat' (with_reducible first | refine Q1 ?_ | refine Qe ?_ | refine QQ ?_ | (refine al_go ?_; intro b) | (refine QD ?_ <;> (try constructor) <;> intro hb <;> try intro hb1) | fail)
 refine tr_loop (ι := Nat) (fun i A st' => i ≤ k ∧ A.df = [] ∧ A.e 1 = .i k ∧ A.e 5 = .i i ∧ st = st' ∧ ∃ m : Nat, m ≤ tn ∧ Hid (tn / 2 ^ i = m) ∧ A.e 0 = .i m) (fun i => k - i) 0 ⟨Nat.zero_le _, Qf, Qf, Qf, rfl, tn, Nat.le_refl _, Nat.div_one _, Qf⟩ ?_
 rintro i A st' ⟨hi, hdf, e1, e5, rfl, m, hm, HT, e0⟩
 by_cases hlt : i < k
 · obtain ⟨m2, hm2⟩ : ∃ m2, m / 2 = m2 := ⟨_, rfl⟩
   have hq : (m : Int).tdiv 2 = (m2 : Int) := by rw [← hm2]; rfl
   have hml : m2 ≤ tn := by omega
   have HN : Hid (tn / 2 ^ (i + 1) = m2) := Lib.hid (by rw [Nat.pow_succ, ← Nat.div_div_eq_div_mul, HT.out, hm2])
   clear HT hm2
   repeat' (with_reducible first | refine Q1 ?_ | refine Qe ?_ | refine QQ ?_ | (refine al_go ?_; intro b) | (refine QD ?_ <;> (try constructor) <;> intro hb <;> try intro hb1) | fail)
   refine ⟨i + 1, ⟨hlt, ?_, ?_, ?_, rfl, m2, hml, HN, ?_⟩, ?_⟩
   all_goals exact Qf
 · have hik : i = k := by omega
   subst hik
   have hr : (m : Int).tmod 2 = ((m % 2 : Nat) : Int) := rfl
   rw [HT.out]
   obtain ⟨m2, hm2⟩ : ∃ m2, m % 2 = m2 := ⟨_, rfl⟩
   rw [hm2] at hr ⊢
   clear HT
   replace hm2 := Lib.hid hm2
   repeat' (with_reducible first | refine Q1 ?_ | refine Qe ?_ | refine QQ ?_ | (refine al_go ?_; intro b) | (refine QD ?_ <;> (try constructor) <;> intro hb <;> try intro hb1) | fail)
   all_goals (refine Qret (hd := ?_); (try simp (disch := omega) only [push_cast, simprocAttr, *]); try (first | exact LE.refl _ | exact LE.sl _ _ | ((first | refine LE.tup ?_ | refine LE.agg ?_); (repeat' (first | exact LEL.nil | refine LEL.cons ?_ ?_ | exact LE.refl _ | exact LE.sl _ _ | refine LE.agg ?_)); done) | refine LE.of_eq ?_))
   all_goals (refine congrArg D.b ?_; rw [Bool.eq_iff_iff, beq_iff_eq, beq_iff_eq]; omega)
theorem i64_and1 (a : Nat) (ha : a ≤ 9223372036854775807) : bits .and .i64 (a : Int) 1 = ((a % 2 : Nat) : Int) := by
 have h1 : a &&& 1 = a % 2 := Nat.and_one_is_mod a
 show IntKind.i64.wrap ((BitVec.ofInt 64 (a : Int) &&& BitVec.ofInt 64 ((1 : Nat) : Int)).toNat : Int) = _
 rw [BitVec.toNat_and, ofInt_i64 a (by omega), ofInt_i64 1 (by omega), h1]
 exact IntWalk.i64_in _ (by omega)
theorem Sch.bit_has (t k : Nat) (ht : t ≤ 9223372036854775807) : Sch.bit t k = Sch.has t k := by
 unfold Sch.bit Sch.has
 have : ((t : Int) / 2 ^ ((k : Int).toNat)) = ((t / 2 ^ k : Nat) : Int) := by
  rw [Int.toNat_natCast]; simp
 rw [this, i64_and1 _ (Nat.le_trans (Nat.div_le_self _ _) ht)]
 rw [Bool.eq_iff_iff, beq_iff_eq, beq_iff_eq]; omega
theorem V.right_kind {k n : Int} {s : ByteArray} {l : List V} (h : (V.mk k n s l).right = true) : 0 ≤ k ∧ k ≤ 5 := by
 have := (V.right_iff.1 h).1
 rw [V.parts, Bool.and_eq_true, Bool.and_eq_true] at this
 have := this.1.1
 unfold V.sgl at this
 repeat' split at this
 all_goals (first | omega | exact absurd this (by decide))
theorem refFits10F (s : Sl) (v : V) (hok : v.Ok) (hn : v.nodes ≤ 1000) (hd : v.deep ≤ 1000) (ht : 0 ≤ s.types ∧ s.types ≤ 9223372036854775807) (st : St) : TrF Tryz.prog 190 [.agg s.cells, .agg v.cells] st fun x st' => x = .b (Sch.fits s v) ∧ st' = st := by
 have hR := refRightF v hok hn hd
 unfold Sch.fits
 obtain ⟨tn, htn⟩ := Int.eq_ofNat_of_zero_le ht.1
 rw [htn] at ht ⊢
 cases s with
 | mk nm ty rq dv =>
 dsimp only at htn
 subst htn
 cases hr : v.right with
 | false =>
  rw [hr] at hR
  cases v with
  | mk k n s l =>
  cases dv with
  | mk dk dn ds dl =>
  rw [V.cells_mk] at hR
  rw [Sl.cells_mk, V.cells_mk]
  replace hR := Lib.hid hR
  refine Qin [4] Tryz.func190 Tryz.results190 Tryz.ntmps190 ?_
  exact WR
 | true =>
  rw [hr] at hR
  cases v with
  | mk k n s l =>
  cases dv with
  | mk dk dn ds dl =>
  obtain ⟨hk1, hk2⟩ := V.right_kind hr
  obtain ⟨kn, rfl⟩ := Int.eq_ofNat_of_zero_le hk1
  have hH := refHasF tn kn (by omega) (by omega)
  dsimp only
  rw [Sch.bit_has tn kn (by omega)]
  rw [V.cells_mk] at hR
  rw [Sl.cells_mk, V.cells_mk]
  generalize Sch.has tn kn = q at *
  replace hR := Lib.hid hR
  replace hH := Lib.hid hH
  clear hr
  refine Qin [4] Tryz.func190 Tryz.results190 Tryz.ntmps190 ?_
  exact WR
end Go.Proofs.YtgcienlfpnpbgaaGreat
end
section
namespace Go.Proofs.YtgcienlfpnpbgaaGreat
set_option linter.unusedSimpArgs false
open Go.RowKit
mutual
inductive Frz (g n cap : Nat) (es : List (List D)) : D → D → Prop
 | same (d : D) : Frz g n cap es d d
 | ar : Frz g n cap es (.ar g 0 n cap) (.sl .shared es)
 | agg (cs cs' : List D) (h : FrzL g n cap es cs cs') : Frz g n cap es (.agg cs) (.agg cs')
 | tup (cs cs' : List D) (h : FrzL g n cap es cs cs') : Frz g n cap es (.tup cs) (.tup cs')
inductive FrzL (g n cap : Nat) (es : List (List D)) : List D → List D → Prop
 | nil : FrzL g n cap es [] []
 | cons (d d' : D) (l l' : List D) (h : Frz g n cap es d d') (k : FrzL g n cap es l l') : FrzL g n cap es (d :: l) (d' :: l')
end
section
variable {g n cap : Nat} {es : List (List D)} {O O' : Nat → Nat → Prop} {w : World}
mutual
theorem Frz.rep (he : Ext O w O' w) (hr : ∀ v, Rep O w v (.ar g 0 n cap) → Rep O' w v (.sl .shared es)) : ∀ {d d' : D}, Frz g n cap es d d' → ∀ v, Rep O w v d → Rep O' w v d'
 | _, _, .same d, v, h => h.ext he
 | _, _, .ar, v, h => hr v h
 | _, _, .agg cs cs' k, v, h => by
  cases h with
  | agg us _ h1 h2 =>
   obtain ⟨q1, q2⟩ := FrzL.rep he hr k us ⟨h1, h2⟩
   exact .agg us cs' q1 q2
 | _, _, .tup cs cs' k, v, h => by
  cases h with
  | tup us _ h1 h2 =>
   obtain ⟨q1, q2⟩ := FrzL.rep he hr k us ⟨h1, h2⟩
   exact .tup us cs' q1 q2
theorem FrzL.rep (he : Ext O w O' w) (hr : ∀ v, Rep O w v (.ar g 0 n cap) → Rep O' w v (.sl .shared es)) : ∀ {l l' : List D}, FrzL g n cap es l l' → ∀ us, RepL O w us l → RepL O' w us l'
 | _, _, .nil, us, h => by
  obtain rfl := h.inv_nil
  exact .nil
 | _, _, .cons d d' l l' h k, us, hh => by
  obtain ⟨u, t, rfl, k1, k2⟩ := hh.inv_cons
  exact .cons (Frz.rep he hr h u k1) (FrzL.rep he hr k t k2)
end
theorem row_rest {el : TypeId} {zs : List D} {s0 : St} {sz : Nat} (hh : Holds (.box g el (es.flatten ++ zs) :: s0) w) (hsz : 0 < sz) (hes : ∀ e ∈ es, e.length = sz) (hn : es.length = n) (v : Value) (hv : Rep (OwnS (.box g el (es.flatten ++ zs) :: s0)) w v (.ar g 0 n cap)) : Rep (OwnS s0) w v (.sl .shared es) := by
 have hch : chop sz n ((es.flatten ++ zs).drop 0) = es := by
  rw [List.drop_zero, ← hn]
  exact chop_row zs es hes
 have hr := frozen .shared (.inl rfl) (sz := sz) hh hv hsz (by rw [List.length_append, flat_len hes, hn]; omega) (by intro h; cases h)
 rwa [hch] at hr
end
section
variable {P : Program} {f : FuncId} {args : List D} {st : St}
theorem TrF.rest {ι : Type} {el : TypeId} {sz : Nat} {p : ι → Prop} {es : ι → List (List D)} {g n cap : ι → Nat} {F F' : ι → D} {zs : ι → List D} {S : ι → St} (hsz : 0 < sz) (hes : ∀ i, p i → (∀ e ∈ es i, e.length = sz) ∧ (es i).length = n i) (hF : ∀ i, Frz (g i) (n i) (cap i) (es i) (F i) (F' i))
 (h : TrF P f args st fun d st' => ∃ i, p i ∧ d = F i ∧ st' = .box (g i) el ((es i).flatten ++ zs i) :: S i) : TrF P f args st fun d st' => ∃ i, p i ∧ d = F' i ∧ st' = S i := by
 intro vs w h1 h2
 refine (h vs w h1 h2).mono fun _ w' ⟨v, ev, d, s, k1, k2, k3, i, hi, e1, e2⟩ => ?_
 subst e1 e2
 have he := Ext.drop (st := .box (g i) el ((es i).flatten ++ zs i) :: S i) (st' := S i) (fun _ h => List.mem_cons_of_mem _ h) w'
 exact ⟨v, ev, _, S i, (hF i).rep he (row_rest k2 hsz (hes i hi).1 (hes i hi).2) v k1, k2.sub (List.sublist_cons_self _ _), k3.trans he, i, hi, rfl, rfl⟩
end
section
variable {P : Program} {N : Nat} {r : Option Nat} {A : AA} {st : St} {Q : Exit → AA → St → Prop}
theorem tr_rest {c : Code} {g b n cap sz : Nat} {el ty : TypeId} {es : List (List D)} {zs cs cs' : List D} {s : St} (hp : st.Perm (.box g el (es.flatten ++ zs) :: .box b ty cs :: s)) (hsz : 0 < sz) (hes : ∀ e ∈ es, e.length = sz) (hn : es.length = n) (hF : FrzL g n cap es cs cs') (hl : ∀ d ∈ cs', d.leaf = true) (h : Tr P N r c A (.box b ty cs' :: s) Q) : Tr P N r c A st Q := by
 refine tr_perm hp ?_
 intro a w h1 h2
 obtain ⟨⟨us, hb, hr⟩, hlc⟩ := h2.2 (.box b ty cs) (List.mem_cons_of_mem _ (List.mem_cons_self ..))
 have he := Ext.drop (st := .box g el (es.flatten ++ zs) :: .box b ty cs :: s) (st' := .box b ty cs :: s) (fun _ h => List.mem_cons_of_mem _ h) w
 have hO : OwnS (.box b ty cs :: s) = OwnS (.box b ty cs' :: s) := by
  funext b' off; apply propext
  rw [OwnS.cons_iff, OwnS.cons_iff]; exact Iff.rfl
 have h3 := h2.sub (List.sublist_cons_self (.box g el (es.flatten ++ zs)) (.box b ty cs :: s))
 have hr' := hF.rep he (row_rest h2 hsz hes hn) us.toList hr
 have h4 : Holds (.box b ty cs' :: s) w := by
  refine ⟨List.pairwise_cons.2 ⟨fun x hx b' hb' => (List.pairwise_cons.1 h3.1).1 x hx b' hb', (List.pairwise_cons.1 h3.1).2⟩, fun x hx => ?_⟩
  rcases List.mem_cons.1 hx with rfl | hx
  · exact ⟨⟨us, hb, by rw [← hO]; exact hr'⟩, hl⟩
  · rw [← hO]; exact h3.2 x (List.mem_cons_of_mem _ hx)
 rw [hO] at he
 exact wpIn_mono (h a w (h1.ext he) h4) fun _ _ _ => PostA.ext he
end
end Go.Proofs.YtgcienlfpnpbgaaGreat
end
section
namespace Go.Proofs.YtgcienlfpnpbgaaGreat
attribute [local push_cast] encB encI encC V.cells_mk V.cells_len Nat.mul_one Int.sub_zero List.map_nil beq_self_eq_true List.head?_cons
open Go.RowKit
set_option maxHeartbeats 4000000
set_option maxRecDepth 10000
structure VQ (v : V) : Prop where
 ok : v.Ok
 nodes : v.nodes ≤ 1000
 deep : v.deep ≤ 1000
theorem refSoundF (s : Sl) (hv : VQ s.dv) (ht : -9223372036854775808 ≤ s.types ∧ s.types ≤ 9223372036854775807) (st : St) : TrF Tryz.prog 162 [.agg s.cells] st fun x st' => x = .b (Sch.sound s) ∧ st' = st := by
 have hN := Lib.hid (refIsNameF s.name)
 have hF : 0 ≤ s.types → Hid (∀ st, TrF Tryz.prog 190 [.agg s.cells, .agg s.dv.cells] st fun x st' => x = .b (Sch.fits s s.dv) ∧ st' = st) := fun h => refFits10F s s.dv hv.ok hv.nodes hv.deep ⟨h, ht.2⟩
 unfold Sch.sound Sch.takes
 cases s with
 | mk nm ty rq dv =>
 dsimp only at hN hF ht ⊢
 generalize V.isName nm.data.toList = q1 at *
 generalize Sch.fits (Sl.mk nm ty rq dv) dv = q3 at *
 clear hv
 cases dv with
 | mk k n s l =>
 rw [Sl.cells_mk] at *
 rw [V.cells_mk] at hF
 by_cases h1 : 0 < ty
 · have hF2 := hF (by omega)
   clear hF
   by_cases h2 : ty < 64
   · rw [decide_eq_true (show 1 ≤ ty by omega), decide_eq_true (show ty ≤ 63 by omega)]
     cases q1 <;> cases q3
     all_goals skip
     all_goals (
      refine Qin [2] Tryz.func162 Tryz.results162 Tryz.ntmps162 ?_
      exact WR)
   · rw [decide_eq_false (show ¬ ty ≤ 63 by omega), Bool.and_false, Bool.and_false, Bool.false_and]
     clear hF2
     cases q1
     all_goals skip
     all_goals (
      refine Qin [2] Tryz.func162 Tryz.results162 Tryz.ntmps162 ?_
      exact WR)
 · rw [decide_eq_false (show ¬ 1 ≤ ty by omega), Bool.false_and, Bool.and_false, Bool.false_and]
   clear hF
   cases q1
   all_goals skip
   all_goals (
    refine Qin [2] Tryz.func162 Tryz.results162 Tryz.ntmps162 ?_
    exact WR)
theorem refColF (slots : List Sl) (cols : List Nat) (name : ByteArray) (hl : slots.length ≤ 1000000) (hc : cols.length ≤ 1000000) (hcs : ∀ c ∈ cols, c < slots.length) (st : St) : TrF Tryz.prog 163 [.agg [.sl .shared (slots.map Sl.cells), .sl .shared (cols.map encC)], .str name] st fun x st' => x = .i (Sch.colL slots name cols) ∧ st' = st := by
 obtain ⟨B, hB⟩ : ∃ B, Sch.colL slots name cols = B := ⟨_, rfl⟩
 have HB : Hid (Sch.colL slots name (cols.drop 0) = B) := hB
 rw [hB]
 clear hB
 have hcs2 := Lib.hid hcs
 clear hcs
 refine Qin [4] Tryz.func163 Tryz.results163 Tryz.ntmps163 ?_
 repeat' (with_reducible first | refine Q1 ?_ | refine Qe ?_ | refine QQ ?_ | (refine al_go ?_; intro b) | (refine QD ?_ <;> (try constructor) <;> intro hb <;> try intro hb1) | fail)
 refine tr_loop (ι := Nat) (fun i A st' => i ≤ cols.length ∧ Hid (Sch.colL slots name (cols.drop i) = B) ∧ A.df = [] ∧ A.e 1 = .str name ∧ A.e 2 = .ip [.sl .shared (slots.map Sl.cells), .sl .shared (cols.map encC)] ∧ A.e 5 = .i i ∧ st = st') (fun i => cols.length - i) 0 ⟨Nat.zero_le _, HB, Qf, Qf, Qf, Qf, rfl⟩ ?_
 rintro i A st' ⟨hi, HT, hdf, e1, e2, e5, rfl⟩
 clear HB
 by_cases hlt : i < cols.length
 · obtain ⟨c, hx⟩ := gEx hlt
   have hcs := hcs2.out c (List.mem_of_getElem? hx)
   have HE := HT.out
   rw [colL_drop hx] at HE
   clear HT
   obtain ⟨s, hs⟩ := gEx hcs
   cases s with
   | mk nm ty rq dv =>
   cases dv with
   | mk k n sv l =>
   obtain ⟨q, hq⟩ : ∃ q, (nm.toList == name.toList) = q := ⟨_, rfl⟩
   have hnm : Sch.named slots name c = q := by
    unfold Sch.named
    rw [hs, ← hq]; rfl
   rw [hnm] at HE
   clear hnm
   have hcell : (slots.map Sl.cells)[c]? = some [.str nm, .i ty, .b rq, .i k, .i n, .str sv, .sl .shared (l.map V.cells)] := by
    rw [List.getElem?_map, hs, ← Sl.cells_mk]; rfl
   clear hs
   have hsl : (slots.map Sl.cells).length = slots.length := List.length_map ..
   generalize slots.map Sl.cells = SL at *
   cases q with
   | true =>
    rw [if_pos rfl] at HE
    rw [← HE]
    clear HE
    exact WR
   | false =>
    rw [if_neg (by decide)] at HE
    replace HE := Lib.hid HE
    repeat' (with_reducible first | refine Q1 ?_ | refine Qe ?_ | refine QQ ?_ | (refine al_go ?_; intro b) | (refine QD ?_ <;> (try constructor) <;> intro hb <;> try intro hb1) | fail)
    refine ⟨i + 1, ⟨hlt, HE, ?_, ?_, ?_, ?_, rfl⟩, ?_⟩
    all_goals exact Qf
 · have HE := HT.out
   rw [List.drop_of_length_le (by omega), Sch.colL] at HE
   rw [← HE]
   clear HE HT
   exact WR
def CopyR (x : Vr) (st : St) (d : D) (st' : St) : Prop := ∃ gs cS zS gc cC zC, VL cS zS cC zC x ∧ d = .agg [.ar gs 0 x.slots.length cS, .ar gc 0 x.cols.length cC] ∧ st' = .box gc 3 (colC x.cols ++ zC) :: .box gs 75 (slotC x.slots ++ zS) :: st
theorem refCopyF (x : Vr) (h1 : 1 ≤ x.slots.length) (h2 : 1 ≤ x.cols.length) (hl : x.slots.length ≤ 1000) (hc : x.cols.length ≤ 1000) (st : St) : TrF Tryz.prog 195 [.agg x.cells] st (CopyR x st) := by
 unfold CopyR VL Vr.cells
 have e1 := Lib.hid (slots_each x.slots)
 have e2 := Lib.hid (cols_each x.cols)
 have l1 : Hid ((x.slots.map Sl.cells).length = x.slots.length) := List.length_map ..
 have l2 : Hid ((x.cols.map encC).length = x.cols.length) := List.length_map ..
 have f1 : Hid ((x.slots.map Sl.cells).flatten = slotC x.slots) := rfl
 have f2 : Hid ((x.cols.map encC).flatten = colC x.cols) := rfl
 generalize slotC x.slots = R1 at *
 generalize colC x.cols = R2 at *
 generalize x.slots.map Sl.cells = L1 at *
 generalize x.cols.map encC = L2 at *
 generalize x.slots.length = m1 at *
 generalize x.cols.length = m2 at *
 refine trF_enterG (G := cellA 2 147 Tryz.prog) Tryz.func195 rfl (by rw [Tryz.ntmps195]; exact Nat.le_of_ble_eq_true rfl) (fun h1 h2 h3 => res_cell rfl h1 h2 h3) ?_
 simp only [Tryz.ntmps195]
 repeat' (first | (with_reducible first | refine Q1 ?_ | refine Qe ?_ | fail) | with_reducible refine s_appN ?_ | with_reducible refine rn_go ?_ | ((with_reducible apply (rn2_go (ys := L1))); (focus (have := l1.out; omega)); (focus exact e1.out); (focus (have := l1.out; omega)); (focus (have := l1.out; omega)); intro gl1 cl1 zl1 hcl1 hll1) | ((with_reducible apply (rn2_go (ys := L2))); (focus (have := l2.out; omega)); (focus exact e2.out); (focus (have := l2.out; omega)); (focus (have := l2.out; omega)); intro gl2 cl2 zl2 hcl2 hll2) | (with_reducible first | refine QQ ?_ | (refine al_go ?_; intro b) | (refine QD ?_ <;> (try constructor) <;> intro hb <;> try intro hb1) | fail) | fail)
 rw [l1.out] at *
 rw [l2.out] at *
 rw [f1.out] at *
 rw [f2.out] at *
 refine retG_mk (rs := []) (by first | exact .inl rfl | exact .inr rfl) (by first | rfl | assumption) (List.Perm.refl _) (cell_mk (by simp (disch := omega) only [push_cast, simprocAttr, *]; exact rfl) (by repeat (first | exact mm_h | apply mm_t)) (by simp (disch := omega) only [push_cast, simprocAttr, *]; exact rfl) (by (try simp (disch := omega) only [push_cast, simprocAttr, *]); (try exact rfl); done)) (by (repeat (first | exact List.Sublist.refl _ | with_reducible apply List.Sublist.cons_cons | apply List.Sublist.cons))) (LE.refl _) ⟨gl1, cl1, zl1, gl2, cl2, zl2, ⟨hll1, hll2⟩, rfl, rfl⟩
def Sch.restV (s : Stp) : Bool :=
 if s.kind = 1 then decide (s.order.length = 0) && (s.col == 0)
 else if s.kind = 2 then bare s.slot false false && decide (s.order.length = 0)
 else if s.kind = 3 then bare s.slot true false && decide (s.order.length = 0)
 else if s.kind = 4 then bare s.slot false true && decide (s.order.length = 0)
 else bare s.slot false false && (s.col == 0)
theorem refRestF (s : Stp) (hv : s.slot.dv.Ok) (hk : 1 ≤ s.kind ∧ s.kind ≤ 5) (ho : s.order.length ≤ 1000) (st : St) : TrF Tryz.prog 196 [.agg s.cells] st fun x st' => x = .b (Sch.restV s) ∧ st' = st := by
 have hS := refSameF s.slot.dv Sch.zeroV hv
 unfold Sch.restV Sch.bare Stp.cells
 cases s with
 | mk kd col slot order =>
 cases slot with
 | mk nm ty rq dv =>
 dsimp only at hS hk ho ⊢
 have hE := isE_eq nm
 generalize decide (nm.size = 0) = q1 at *
 generalize (dv.cmp Sch.zeroV == 0) = q3 at *
 unfold Sch.zeroV at hS
 clear hv
 cases dv with
 | mk k n sv l =>
 rw [V.cells_mk, V.cells_mk, List.map_nil] at hS
 rw [Sl.cells_mk]
 dsimp only [List.cons_append, List.nil_append]
 replace hS := Lib.hid hS
 obtain ⟨q2, h2⟩ : ∃ q2, (ty == 0) = q2 := ⟨_, rfl⟩
 have h2' : (ty != 0) = !q2 := by rw [← h2]; rfl
 rw [h2]
 have hno : (order.length = 0 ∧ ¬ (0 : Int) < order.length) ∨ (order.length ≠ 0 ∧ (0 : Int) < order.length) := by omega
 obtain ⟨hk1, hk2⟩ := hk
 have hkk : kd = 1 ∨ kd = 2 ∨ kd = 3 ∨ kd = 4 ∨ kd = 5 := by omega
 clear hk1 hk2
 rcases hno with ⟨h0, h0'⟩ | ⟨h0, h0'⟩
 · simp only [h0, decide_true, Bool.and_true, Bool.true_and]
   replace h0 := Lib.hid h0
   rcases hkk with rfl | rfl | rfl | rfl | rfl
   all_goals skip
   all_goals (
    refine Qin [2] Tryz.func196 Tryz.results196 Tryz.ntmps196 ?_
    repeat' (first | (with_reducible first | refine Q1 ?_ | refine Qe ?_ | refine QQ ?_ | (refine al_go ?_; intro b) | (refine QD ?_ <;> (try constructor) <;> intro hb <;> try intro hb1) | fail) | refine QL Tryz.call111 (hS.out _) ?_ | fail)
    all_goals (refine Qret (hd := ?_); (try simp (disch := omega) only [push_cast, simprocAttr, *]); try (first | exact LE.refl _ | exact LE.sl _ _ | ((first | refine LE.tup ?_ | refine LE.agg ?_); (repeat' (first | exact LEL.nil | refine LEL.cons ?_ ?_ | exact LE.refl _ | exact LE.sl _ _ | refine LE.agg ?_)); done) | refine LE.of_eq ?_))
    all_goals (first | done | (simp_all; done)))
 · simp only [h0, decide_false, Bool.and_false, Bool.false_and]
   replace h0 := Lib.hid h0
   rcases hkk with rfl | rfl | rfl | rfl | rfl
   all_goals skip
   all_goals (
    refine Qin [2] Tryz.func196 Tryz.results196 Tryz.ntmps196 ?_
    repeat' (first | (with_reducible first | refine Q1 ?_ | refine Qe ?_ | refine QQ ?_ | (refine al_go ?_; intro b) | (refine QD ?_ <;> (try constructor) <;> intro hb <;> try intro hb1) | fail) | refine QL Tryz.call111 (hS.out _) ?_ | fail)
    all_goals (refine Qret (hd := ?_); (try simp (disch := omega) only [push_cast, simprocAttr, *]); try (first | exact LE.refl _ | exact LE.sl _ _ | ((first | refine LE.tup ?_ | refine LE.agg ?_); (repeat' (first | exact LEL.nil | refine LEL.cons ?_ ?_ | exact LE.refl _ | exact LE.sl _ _ | refine LE.agg ?_)); done) | refine LE.of_eq ?_))
    all_goals (first | done | (simp_all; done)))
end Go.Proofs.YtgcienlfpnpbgaaGreat
end
section
namespace Go.Proofs.YtgcienlfpnpbgaaGreat
attribute [local push_cast] encB encI encC V.cells_mk V.cells_len Nat.mul_one Int.sub_zero List.map_nil beq_self_eq_true bne_self_eq_false List.head?_cons
open Go.RowKit
set_option maxHeartbeats 16000000
set_option maxRecDepth 10000
theorem zero_ok : V.zero.Ok := .mk (by omega) (by omega) (Nat.zero_le _) (Nat.zero_le _) fun x h => by cases h
theorem zero_cells : V.zero.cells = [.i 0, .i 0, .str ⟨#[]⟩, .sl .shared []] := by unfold V.zero; rw [V.cells_mk]; rfl
theorem ruleTestF (L : List Tm) (hL : ∀ t ∈ L, TOk t) (hl : L.length ≤ 1000000) (nm : ByteArray) (sal : Int) (PS AS : List (List D)) (r : Nat) (p : Pt) (t : Ts) (ht : VQ t.val) (B : List Int) (st : St) : TrF Tryz.prog 184 [.ip [.sl .shared (L.map Tm.cells), .str nm, .i sal, .sl .shared PS, .sl .shared AS, .mp r], .agg p.cells, .agg t.cells] (bmap r B :: st) fun d st' => d = .b (Rul.testB (Rul.slots L p.tmpl).length p.neg B t) ∧ st' = bmap r (if Rul.testB (Rul.slots L p.tmpl).length p.neg B t = true then Rul.testN B t else B) :: st := by
 have hS := ruleSlotsF L hL hl p.tmpl
 have hm : ((Rul.slots L p.tmpl).map Sl.cells).length = (Rul.slots L p.tmpl).length := List.length_map ..
 have hV := valSameB t.val V.zero ht.ok.bg zero_ok.bg
 have hR := valRightF t.val (by have := ht.nodes; omega)
 rw [zero_cells] at hV
 generalize (Rul.slots L p.tmpl).map Sl.cells = SS at *
 generalize (Rul.slots L p.tmpl).length = ns at *
 generalize L.map Tm.cells = LS at *
 clear hL ht hl
 cases p with
 | mk tmpl neg tests =>
 cases t with
 | mk kind slot var val =>
 unfold Pt.cells
 dsimp only at *
 generalize tests.map Ts.cells = TS at *
 have eT : Rul.testB ns neg B ⟨kind, slot, var, val⟩ = ((decide (0 ≤ slot) && decide (slot < ns)) && (if kind = 1 ∨ kind = 2 ∨ kind = 3 ∨ kind = 4 then (var == 0) && val.right
  else if kind = 5 then (val.cmp V.zero == 0) && ((decide (0 ≤ var) && decide (var < 8)) && (!neg && decide (var ∉ B)))
  else if kind = 6 ∨ kind = 7 ∨ kind = 8 ∨ kind = 9 then (val.cmp V.zero == 0) && ((decide (0 ≤ var) && decide (var < 8)) && decide (var ∈ B)) else false)) := rfl
 have eN : Rul.testN B ⟨kind, slot, var, val⟩ = if kind = 5 then B ++ [var] else B := rfl
 rw [eT, eN]
 clear eT eN
 generalize (val.cmp V.zero == 0) = qv at *
 generalize val.right = qr at *
 have hnot : decide (var ∉ B) = !decide (var ∈ B) := by simp
 have hins : decide (var ∈ B) = false → insK B var = B ++ [var] := fun h => if_neg (of_decide_eq_false h)
 rw [hnot]
 clear hnot
 generalize hqb : decide (var ∈ B) = qb at *
 cases val with
 | mk k1 n1 s1 l1 =>
 rw [Ts.cells_mk]
 rw [V.cells_mk] at hV hR
 generalize l1.map V.cells = VL at *
 replace hS := Lib.hid hS
 replace hV := Lib.hid hV
 replace hR := Lib.hid hR
 replace hins := Lib.hid hins
 by_cases hs0 : slot < 0
 · rw [decide_eq_false (show ¬ 0 ≤ slot by omega), Bool.false_and, Bool.false_and, if_neg Bool.false_ne_true]
   refine Qin [6] Tryz.func184 Tryz.results184 Tryz.ntmps184 ?_
   repeat' (first | (with_reducible first | refine Q1 ?_ | refine Qe ?_ | refine QQ ?_ | (refine al_go ?_; intro b) | (refine QD ?_ <;> (try constructor) <;> intro hb <;> try intro hb1) | fail) | refine QL Tryz.call140 (hV.out _) ?_ | fail)
   all_goals exact Qret
 by_cases hs1 : (ns : Int) ≤ slot
 · rw [decide_eq_false (show ¬ slot < ns by omega), Bool.and_false, Bool.false_and, if_neg Bool.false_ne_true]
   refine Qin [6] Tryz.func184 Tryz.results184 Tryz.ntmps184 ?_
   repeat' (first | (with_reducible first | refine Q1 ?_ | refine Qe ?_ | refine QQ ?_ | (refine al_go ?_; intro b) | (refine QD ?_ <;> (try constructor) <;> intro hb <;> try intro hb1) | fail) | refine QL Tryz.call140 (hV.out _) ?_ | fail)
   all_goals exact Qret
 rw [decide_eq_true (show 0 ≤ slot by omega), decide_eq_true (show slot < ns by omega), Bool.true_and, Bool.true_and]
 by_cases k14 : kind = 1 ∨ kind = 2 ∨ kind = 3 ∨ kind = 4
 · rw [if_pos k14, if_neg (show ¬ kind = 5 by omega), ite_self]
   by_cases hv : var = 0
   · rw [beq_iff_eq.2 hv, Bool.true_and]
     rcases k14 with rfl | rfl | rfl | rfl
     all_goals (
      refine Qin [6] Tryz.func184 Tryz.results184 Tryz.ntmps184 ?_
      repeat' (first | (with_reducible first | refine Q1 ?_ | refine Qe ?_ | refine QQ ?_ | (refine al_go ?_; intro b) | (refine QD ?_ <;> (try constructor) <;> intro hb <;> try intro hb1) | fail) | refine QL Tryz.call140 (hV.out _) ?_ | fail)
      all_goals exact Qret)
   · rw [beq_eq_false_iff_ne.2 hv, Bool.false_and]
     have hv2 : (var == 0) = false := beq_eq_false_iff_ne.2 hv
     rcases k14 with rfl | rfl | rfl | rfl
     all_goals (
      refine Qin [6] Tryz.func184 Tryz.results184 Tryz.ntmps184 ?_
      repeat' (first | (with_reducible first | refine Q1 ?_ | refine Qe ?_ | refine QQ ?_ | (refine al_go ?_; intro b) | (refine QD ?_ <;> (try constructor) <;> intro hb <;> try intro hb1) | fail) | refine QL Tryz.call140 (hV.out _) ?_ | fail)
      all_goals exact Qret)
 rw [if_neg k14]
 by_cases hk0 : kind < 1
 · rw [if_neg (by omega), if_neg (by omega), if_neg Bool.false_ne_true]
   have b1 : (kind == 1) = false := beq_eq_false_iff_ne.2 (by omega)
   have b2 : (kind == 2) = false := beq_eq_false_iff_ne.2 (by omega)
   have b3 : (kind == 3) = false := beq_eq_false_iff_ne.2 (by omega)
   have b4 : (kind == 4) = false := beq_eq_false_iff_ne.2 (by omega)
   have b5 : (kind == 5) = false := beq_eq_false_iff_ne.2 (by omega)
   have b6 : (kind == 6) = false := beq_eq_false_iff_ne.2 (by omega)
   have b7 : (kind == 7) = false := beq_eq_false_iff_ne.2 (by omega)
   have b8 : (kind == 8) = false := beq_eq_false_iff_ne.2 (by omega)
   have b9 : (kind == 9) = false := beq_eq_false_iff_ne.2 (by omega)
   refine Qin [6] Tryz.func184 Tryz.results184 Tryz.ntmps184 ?_
   repeat' (first | (with_reducible first | refine Q1 ?_ | refine Qe ?_ | refine QQ ?_ | (refine al_go ?_; intro b) | (refine QD ?_ <;> (try constructor) <;> intro hb <;> try intro hb1) | fail) | refine QL Tryz.call140 (hV.out _) ?_ | fail)
   all_goals exact Qret
 have hbad : qv = false ∨ var < 0 ∨ 8 ≤ var ∨ (qv = true ∧ 0 ≤ var ∧ var < 8) := by
  cases qv
  · exact .inl rfl
  · rcases Int.lt_or_le var 0 with h | h
    · exact .inr (.inl h)
    · rcases Int.lt_or_le var 8 with h' | h'
      · exact .inr (.inr (.inr ⟨rfl, h, h'⟩))
      · exact .inr (.inr (.inl h'))
 have hno : (qv = false ∨ var < 0 ∨ 8 ≤ var) → ∀ q : Bool, (qv && ((decide (0 ≤ var) && decide (var < 8)) && q)) = false := fun h q => by
  rcases h with h | h | h
  · rw [h]; rfl
  · rw [decide_eq_false (show ¬ 0 ≤ var by omega)]; simp
  · rw [decide_eq_false (show ¬ var < 8 by omega)]; simp
 rcases hbad with hb | hb | hb | ⟨hq, hv0, hv8⟩
 · rw [hno (.inl hb), hno (.inl hb), ite_self, ite_self, if_neg Bool.false_ne_true]
   clear hno
   try subst hb
   have g5 : ¬ kind < 5 := by omega
   refine Qin [6] Tryz.func184 Tryz.results184 Tryz.ntmps184 ?_
   repeat' (first | (with_reducible first | refine Q1 ?_ | refine Qe ?_ | refine QQ ?_ | (refine al_go ?_; intro b) | (refine QD ?_ <;> (try constructor) <;> intro hb <;> try intro hb1) | fail) | refine QL Tryz.call140 (hV.out _) ?_ | fail)
   all_goals exact Qret
 · rw [hno (.inr (.inl hb)), hno (.inr (.inl hb)), ite_self, ite_self, if_neg Bool.false_ne_true]
   clear hno
   try subst hb
   have g5 : ¬ kind < 5 := by omega
   refine Qin [6] Tryz.func184 Tryz.results184 Tryz.ntmps184 ?_
   repeat' (first | (with_reducible first | refine Q1 ?_ | refine Qe ?_ | refine QQ ?_ | (refine al_go ?_; intro b) | (refine QD ?_ <;> (try constructor) <;> intro hb <;> try intro hb1) | fail) | refine QL Tryz.call140 (hV.out _) ?_ | fail)
   all_goals exact Qret
 · rw [hno (.inr (.inr hb)), hno (.inr (.inr hb)), ite_self, ite_self, if_neg Bool.false_ne_true]
   clear hno
   try subst hb
   have g5 : ¬ kind < 5 := by omega
   refine Qin [6] Tryz.func184 Tryz.results184 Tryz.ntmps184 ?_
   repeat' (first | (with_reducible first | refine Q1 ?_ | refine Qe ?_ | refine QQ ?_ | (refine al_go ?_; intro b) | (refine QD ?_ <;> (try constructor) <;> intro hb <;> try intro hb1) | fail) | refine QL Tryz.call140 (hV.out _) ?_ | fail)
   all_goals exact Qret
 clear hno
 subst hq
 rw [decide_eq_true hv0, decide_eq_true hv8, Bool.true_and, Bool.true_and, Bool.true_and, Bool.true_and]
 by_cases k5 : kind = 5
 · subst k5
   rw [if_pos rfl, if_pos rfl]
   cases neg with
   | true =>
    rw [Bool.not_true, Bool.false_and, if_neg Bool.false_ne_true]
    refine Qin [6] Tryz.func184 Tryz.results184 Tryz.ntmps184 ?_
    repeat' (first | (with_reducible first | refine Q1 ?_ | refine Qe ?_ | refine QQ ?_ | (refine al_go ?_; intro b) | (refine QD ?_ <;> (try constructor) <;> intro hb <;> try intro hb1) | fail) | refine QL Tryz.call140 (hV.out _) ?_ | fail)
    all_goals exact Qret
   | false =>
    rw [Bool.not_false, Bool.true_and]
    cases qb with
    | true =>
     rw [Bool.not_true, if_neg Bool.false_ne_true]
     refine Qin [6] Tryz.func184 Tryz.results184 Tryz.ntmps184 ?_
     repeat' (first | (with_reducible first | refine Q1 ?_ | refine Qe ?_ | refine QQ ?_ | (refine al_go ?_; intro b) | (refine QD ?_ <;> (try constructor) <;> intro hb <;> try intro hb1) | fail) | refine QL Tryz.call140 (hV.out _) ?_ | fail)
     all_goals exact Qret
    | false =>
     rw [Bool.not_false, if_pos rfl]
     have hi := hins.out rfl
     have hmem : decide (var ∈ insK B var) = true := by rw [hi]; simp
     rw [← hi]
     clear hi hins
     refine Qin [6] Tryz.func184 Tryz.results184 Tryz.ntmps184 ?_
     repeat' (first | (with_reducible first | refine Q1 ?_ | refine Qe ?_ | refine QQ ?_ | (refine al_go ?_; intro b) | (refine QD ?_ <;> (try constructor) <;> intro hb <;> try intro hb1) | fail) | refine QL Tryz.call140 (hV.out _) ?_ | fail)
     all_goals exact Qret
 rw [if_neg k5, if_neg k5, ite_self]
 by_cases k69 : kind = 6 ∨ kind = 7 ∨ kind = 8 ∨ kind = 9
 · rw [if_pos k69]
   rcases k69 with rfl | rfl | rfl | rfl
   all_goals (
    refine Qin [6] Tryz.func184 Tryz.results184 Tryz.ntmps184 ?_
    repeat' (first | (with_reducible first | refine Q1 ?_ | refine Qe ?_ | refine QQ ?_ | (refine al_go ?_; intro b) | (refine QD ?_ <;> (try constructor) <;> intro hb <;> try intro hb1) | fail) | refine QL Tryz.call140 (hV.out _) ?_ | fail)
    all_goals exact Qret)
 rw [if_neg k69]
 have b5 : (kind == 5) = false := beq_eq_false_iff_ne.2 k5
 have b1 : (kind == 1) = false := beq_eq_false_iff_ne.2 (by omega)
 have b2 : (kind == 2) = false := beq_eq_false_iff_ne.2 (by omega)
 have b3 : (kind == 3) = false := beq_eq_false_iff_ne.2 (by omega)
 have b4 : (kind == 4) = false := beq_eq_false_iff_ne.2 (by omega)
 have b6 : (kind == 6) = false := beq_eq_false_iff_ne.2 (by omega)
 have b7 : (kind == 7) = false := beq_eq_false_iff_ne.2 (by omega)
 have b8 : (kind == 8) = false := beq_eq_false_iff_ne.2 (by omega)
 have b9 : (kind == 9) = false := beq_eq_false_iff_ne.2 (by omega)
 refine Qin [6] Tryz.func184 Tryz.results184 Tryz.ntmps184 ?_
 repeat' (first | (with_reducible first | refine Q1 ?_ | refine Qe ?_ | refine QQ ?_ | (refine al_go ?_; intro b) | (refine QD ?_ <;> (try constructor) <;> intro hb <;> try intro hb1) | fail) | refine QL Tryz.call140 (hV.out _) ?_ | fail)
 all_goals exact Qret
end Go.Proofs.YtgcienlfpnpbgaaGreat
end
section
namespace Go.Proofs.YtgcienlfpnpbgaaGreat
attribute [local push_cast] encB encI encC V.cells_mk V.cells_len Nat.mul_one Int.sub_zero List.map_nil beq_self_eq_true bne_self_eq_false List.head?_cons
open Go.RowKit
set_option maxHeartbeats 8000000
set_option maxRecDepth 10000
abbrev lookC (LS : List (List D)) (nm : ByteArray) (sal : Int) (PS AS : List (List D)) (r : Nat) : List D := [.sl .shared LS, .str nm, .i sal, .sl .shared PS, .sl .shared AS, .mp r]
namespace Rul
def testS (ns : Int) (neg : Bool) (B : List Int) (t : Ts) : Bool × List Int := (!testB ns neg B t, if testB ns neg B t = true then testN B t else B)
theorem anyS_tests (ns : Int) (neg : Bool) : ∀ (l : List Ts) (B : List Int), anyS (testS ns neg) B l = (!(testsF ns neg l B).1, (testsF ns neg l B).2)
 | [], B => rfl
 | t :: l, B => by
  rw [anyS, testsF]
  unfold testS
  cases h : testB ns neg B t with
  | true =>
   dsimp only
   rw [if_neg (by decide), if_pos rfl, if_pos rfl]
   exact anyS_tests ns neg l _
  | false => rfl
def patS (L : List Tm) (B : List Int) (p : Pt) : Bool × List Int := (!(patF L B p).1, (patF L B p).2)
theorem anyS_pats (L : List Tm) : ∀ (l : List Pt) (B : List Int), anyS (patS L) B l = (!(patsF L l B).1, (patsF L l B).2)
 | [], B => rfl
 | p :: l, B => by
  rw [anyS, patsF]
  unfold patS
  cases h : (patF L B p).1 with
  | true =>
   dsimp only
   rw [if_neg (by decide), if_pos rfl]
   exact anyS_pats L l _
  | false => rfl
end Rul
theorem rulePat1F (L : List Tm) (hL : ∀ t ∈ L, TOk t) (hl : L.length ≤ 1000000) (nm : ByteArray) (sal : Int) (PS AS : List (List D)) (r : Nat) (p : Pt) (t : Ts) (ht : VQ t.val) (B : List Int) (st : St) : TrF Tryz.prog 183 [.agg t.cells, .ip [.ip (lookC (L.map Tm.cells) nm sal PS AS r)], .ip p.cells] (bmap r B :: st) fun d st' => d = .b (Rul.testS (Rul.slots L p.tmpl).length p.neg B t).1 ∧ st' = bmap r (Rul.testS (Rul.slots L p.tmpl).length p.neg B t).2 :: st := by
 have hT := ruleTestF L hL hl nm sal PS AS r p t ht B st
 unfold Rul.testS
 dsimp only
 generalize (if Rul.testB _ _ _ _ = true then Rul.testN B t else B) = B2 at *
 generalize Rul.testB _ _ _ _ = q at *
 generalize L.map Tm.cells = LS at *
 cases p with
 | mk tmpl neg tests =>
 cases t with
 | mk kind slot var val =>
 cases val with
 | mk k1 n1 s1 l1 =>
 unfold Pt.cells at *
 rw [Ts.cells_mk] at *
 dsimp only at *
 generalize tests.map Ts.cells = TS at *
 replace hT := Lib.hid hT
 refine Qin [4] Tryz.func183 Tryz.results183 Tryz.ntmps183 ?_
 repeat' (first | (with_reducible first | refine Q1 ?_ | refine Qe ?_ | refine QQ ?_ | (refine al_go ?_; intro b) | (refine QD ?_ <;> (try constructor) <;> intro hb <;> try intro hb1) | fail) | refine Qc Tryz.call184 hT.out ?_ | fail)
 all_goals exact Qret
theorem rulePatF (L : List Tm) (hL : ∀ t ∈ L, TOk t) (hl : L.length ≤ 1000000) (nm : ByteArray) (sal : Int) (PS AS : List (List D)) (r : Nat) (p : Pt) (ht : ∀ t ∈ p.tests, VQ t.val) (htl : p.tests.length ≤ 1000000) (B : List Int) (st : St) : TrF Tryz.prog 151 [.ip (lookC (L.map Tm.cells) nm sal PS AS r), .agg p.cells] (bmap r B :: st) fun d st' => d = .b (Rul.patF L B p).1 ∧ st' = bmap r (Rul.patF L B p).2 :: st := by
 have hC := conFTest 183 [.ip [.ip (lookC (L.map Tm.cells) nm sal PS AS r)], .ip p.cells] Tryz.call183 p.tests htl (Rul.testS (Rul.slots L p.tmpl).length p.neg) (fun B => bmap r B :: st) (fun t h B => rulePat1F L hL hl nm sal PS AS r p t (ht t h) B st) B
 rw [Rul.anyS_tests] at hC
 unfold Rul.patF
 have hm : (L.map Tm.cells).length = L.length := List.length_map ..
 have hm2 : (p.tests.map Ts.cells).length = p.tests.length := List.length_map ..
 dsimp only at hC
 generalize Rul.testsF _ _ _ _ = q at *
 obtain ⟨q, B2⟩ := q
 dsimp only at *
 generalize L.map Tm.cells = LS at *
 clear ht hL
 cases p with
 | mk tmpl neg tests =>
 unfold Pt.cells at *
 dsimp only at *
 generalize tests.map Ts.cells = TS at *
 replace hC := Lib.hid hC
 by_cases h1 : tmpl < 0
 · rw [if_neg (by omega)]
   refine Qin [4] Tryz.func151 Tryz.results151 Tryz.ntmps151 ?_
   exact WR
 by_cases h2 : (L.length : Int) ≤ tmpl
 · rw [if_neg (by omega)]
   refine Qin [4] Tryz.func151 Tryz.results151 Tryz.ntmps151 ?_
   exact WR
 by_cases h3 : 6 < (tests.length : Int)
 · rw [if_neg (by omega)]
   refine Qin [4] Tryz.func151 Tryz.results151 Tryz.ntmps151 ?_
   exact WR
 rw [if_pos (by omega)]
 cases q
 all_goals (
  refine Qin [4] Tryz.func151 Tryz.results151 Tryz.ntmps151 ?_
  repeat' (first | (with_reducible first | refine Q1 ?_ | refine Qe ?_ | refine QQ ?_ | (refine al_go ?_; intro b) | (refine QD ?_ <;> (try constructor) <;> intro hb <;> try intro hb1) | fail) | refine Qc Tryz.call182 hC.out ?_ | fail)
  all_goals exact Qret)
theorem ruleOne1F (L : List Tm) (hL : ∀ t ∈ L, TOk t) (hl : L.length ≤ 1000000) (nm : ByteArray) (sal : Int) (PS AS : List (List D)) (r b : Nat) (p : Pt) (ht : ∀ t ∈ p.tests, VQ t.val) (htl : p.tests.length ≤ 1000000) (B : List Int) (st : St) : TrF Tryz.prog 150 [.agg p.cells, .ptr b 0] (.box b 172 [.ip (lookC (L.map Tm.cells) nm sal PS AS r)] :: bmap r B :: st) fun d st' => d = .b (Rul.patS L B p).1 ∧ st' = .box b 172 [.ip (lookC (L.map Tm.cells) nm sal PS AS r)] :: bmap r (Rul.patS L B p).2 :: st := by
 have hP := rulePatF L hL hl nm sal PS AS r p ht htl B
 unfold Rul.patS
 generalize Rul.patF L B p = q at *
 obtain ⟨q, B2⟩ := q
 dsimp only at *
 generalize L.map Tm.cells = LS at *
 clear ht hL htl
 cases p with
 | mk tmpl neg tests =>
 unfold Pt.cells at *
 dsimp only at *
 generalize tests.map Ts.cells = TS at *
 replace hP := Lib.hid hP
 cases q
 all_goals (
  refine Qin [3] Tryz.func150 Tryz.results150 Tryz.ntmps150 ?_
  exact WR)
theorem ruleExprF (LS : List (List D)) (nm : ByteArray) (sal : Int) (PS AS : List (List D)) (r : Nat) (e : Ex) (s : Sl) (he : VQ e.val) (B : List Int) (st : St) : TrF Tryz.prog 186 [.ip (lookC LS nm sal PS AS r), .agg e.cells, .agg s.cells] (bmap r B :: st) fun d st' => d = .b (Rul.exprB B e s) ∧ st' = bmap r B :: st := by
 have hV := valSameB e.val V.zero he.ok.bg zero_ok.bg
 have hF := schFitsF s.name s.types s.req s.dv e.val (by have := he.nodes; omega)
 rw [zero_cells] at hV
 cases e with
 | mk iv var val =>
 cases s with
 | mk sn sty srq sdv =>
 unfold Rul.exprB
 dsimp only at *
 generalize (val.cmp V.zero == 0) = qv at *
 generalize Sch.fits _ val = qf at *
 generalize hqb : decide (var ∈ B) = qb at *
 clear he
 cases val with
 | mk k1 n1 s1 l1 =>
 cases sdv with
 | mk k2 n2 s2 l2 =>
 rw [Ex.cells_mk]
 rw [Sl.cells_mk] at *
 rw [V.cells_mk] at hV hF
 generalize l1.map V.cells = VL at *
 generalize l2.map V.cells = VL2 at *
 replace hV := Lib.hid hV
 replace hF := Lib.hid hF
 cases iv with
 | true =>
  rw [if_pos rfl]
  cases qb
  all_goals (
   refine Qin [6] Tryz.func186 Tryz.results186 Tryz.ntmps186 ?_
   repeat' (first | (with_reducible first | refine Q1 ?_ | refine Qe ?_ | refine QQ ?_ | (refine al_go ?_; intro b) | (refine QD ?_ <;> (try constructor) <;> intro hb <;> try intro hb1) | fail) | refine QL Tryz.call140 (hV.out _) ?_ | fail)
   all_goals exact Qret)
 | false =>
  rw [if_neg Bool.false_ne_true]
  by_cases hv : var = 0
  · rw [beq_iff_eq.2 hv, Bool.true_and]
    refine Qin [6] Tryz.func186 Tryz.results186 Tryz.ntmps186 ?_
    exact WR
  · have hv2 : (var == 0) = false := beq_eq_false_iff_ne.2 hv
    rw [hv2, Bool.false_and]
    refine Qin [6] Tryz.func186 Tryz.results186 Tryz.ntmps186 ?_
    exact WR
theorem rulePosF (LS : List (List D)) (nm : ByteArray) (sal : Int) (ps : List Pt) (AS : List (List D)) (r : Nat) (k : Int) (st : St) : TrF Tryz.prog 187 [.ip (lookC LS nm sal (ps.map Pt.cells) AS r), .i k] st fun d st' => d = .b (Rul.posB ps k) ∧ st' = st := by
 have hm : (ps.map Pt.cells).length = ps.length := List.length_map ..
 unfold Rul.posB
 by_cases h0 : k < 0
 · rw [decide_eq_false (show ¬ 0 ≤ k by omega), Bool.false_and, Bool.false_and]
   generalize ps.map Pt.cells = PS at *
   refine Qin [4] Tryz.func187 Tryz.results187 Tryz.ntmps187 ?_
   exact WR
 by_cases h1 : (ps.length : Int) ≤ k
 · rw [decide_eq_false (show ¬ k < ps.length by omega), Bool.and_false, Bool.false_and]
   generalize ps.map Pt.cells = PS at *
   refine Qin [4] Tryz.func187 Tryz.results187 Tryz.ntmps187 ?_
   exact WR
 rw [decide_eq_true (show 0 ≤ k by omega), decide_eq_true (show k < ps.length by omega), Bool.true_and, Bool.true_and]
 obtain ⟨n, rfl⟩ : ∃ n : Nat, (n : Int) = k := ⟨k.toNat, Int.toNat_of_nonneg (by omega)⟩
 obtain ⟨p, hp⟩ := gEx (l := ps) (i := n) (by omega)
 have hc : (ps.map Pt.cells)[n]? = some p.cells := by rw [List.getElem?_map, hp]; rfl
 rw [Int.toNat_natCast, hp, Option.any_some]
 clear hp
 generalize ps.map Pt.cells = PS at *
 cases p with
 | mk tmpl neg tests =>
 unfold Pt.cells at *
 dsimp only at *
 generalize tests.map Ts.cells = TS at *
 refine Qin [4] Tryz.func187 Tryz.results187 Tryz.ntmps187 ?_
 exact WR
end Go.Proofs.YtgcienlfpnpbgaaGreat
end
section
namespace Go.Proofs.YtgcienlfpnpbgaaGreat
attribute [local push_cast] encB encI encC V.cells_mk V.cells_len Nat.mul_one Int.sub_zero List.map_nil beq_self_eq_true bne_self_eq_false List.head?_cons
open Go.RowKit
set_option maxHeartbeats 16000000
set_option maxRecDepth 10000
namespace Rul
theorem exprsB_drop {B : List Int} {l : List Ex} {m : List Sl} {i : Nat} {e : Ex} {s : Sl} (h1 : l[i]? = some e) (h2 : m[i]? = some s) : exprsB B (l.drop i) (m.drop i) = (exprB B e s && exprsB B (l.drop (i + 1)) (m.drop (i + 1))) := by
 obtain ⟨k1, rfl⟩ := List.getElem?_eq_some_iff.1 h1
 obtain ⟨k2, rfl⟩ := List.getElem?_eq_some_iff.1 h2
 rw [List.drop_eq_getElem_cons k1, List.drop_eq_getElem_cons k2, exprsB]
end Rul
theorem ruleActMakeF (L : List Tm) (hL : ∀ t ∈ L, TOk t) (hl : L.length ≤ 1000000) (nm : ByteArray) (sal : Int) (ps : List Pt) (AS : List (List D)) (r : Nat) (pat tmpl slot : Int) (vals : List Ex) (ha : ∀ e ∈ vals, VQ e.val) (hvl : vals.length ≤ 1000000) (B : List Int) (st : St) : TrF Tryz.prog 154 [.ip (lookC (L.map Tm.cells) nm sal (ps.map Pt.cells) AS r), .agg (Ac.mk 1 pat tmpl slot vals).cells] (bmap r B :: st) fun d st' => d = .b (Rul.actB L ps B ⟨1, pat, tmpl, slot, vals⟩) ∧ st' = bmap r B :: st := by
 have hS := ruleSlotsF L hL hl tmpl
 have e0 : Rul.actB L ps B ⟨1, pat, tmpl, slot, vals⟩ = (((pat == 0) && (slot == 0)) && ((decide ((Rul.slots L tmpl).length ≠ 0) && decide (vals.length = (Rul.slots L tmpl).length)) && Rul.exprsB B vals (Rul.slots L tmpl))) := rfl
 rw [e0]
 clear e0 hL hl
 generalize Rul.slots L tmpl = SL at *
 generalize L.map Tm.cells = LS at *
 generalize ps.map Pt.cells = PS at *
 unfold Ac.cells
 dsimp only
 have hm1 : (vals.map Ex.cells).length = vals.length := List.length_map ..
 have hm2 : (SL.map Sl.cells).length = SL.length := List.length_map ..
 have hc1 := hMp Ex.cells vals
 have hc2 := hMp Sl.cells SL
 have hE := Lib.hid fun (e : Ex) (he : e ∈ vals) (s : Sl) => ruleExprF LS nm sal PS AS r e s (ha e he) B
 clear ha
 generalize vals.map Ex.cells = ES at *
 generalize SL.map Sl.cells = SS at *
 replace hS := Lib.hid hS
 by_cases h1 : pat = 0
 rotate_left
 · have b1 : (pat == 0) = false := beq_eq_false_iff_ne.2 h1
   rw [b1, Bool.false_and, Bool.false_and]
   refine Qin [4] Tryz.func154 Tryz.results154 Tryz.ntmps154 ?_
   exact WR
 subst h1
 by_cases h2 : slot = 0
 rotate_left
 · have b2 : (slot == 0) = false := beq_eq_false_iff_ne.2 h2
   rw [b2, Bool.and_false, Bool.false_and]
   refine Qin [4] Tryz.func154 Tryz.results154 Tryz.ntmps154 ?_
   exact WR
 subst h2
 rw [beq_self_eq_true, Bool.true_and, Bool.true_and]
 by_cases h3 : SL.length = 0
 · rw [decide_eq_false (fun h => h h3), Bool.false_and, Bool.false_and]
   refine Qin [4] Tryz.func154 Tryz.results154 Tryz.ntmps154 ?_
   exact WR
 by_cases h4 : vals.length = SL.length
 rotate_left
 · rw [decide_eq_false h4, Bool.and_false, Bool.false_and]
   have h5 : ¬ (vals.length : Int) = (SL.length : Int) := by omega
   refine Qin [4] Tryz.func154 Tryz.results154 Tryz.ntmps154 ?_
   exact WR
 rw [decide_eq_true h3, decide_eq_true h4, Bool.true_and, Bool.true_and]
 obtain ⟨Q, hQ⟩ : ∃ Q, Rul.exprsB B vals SL = Q := ⟨_, rfl⟩
 rw [hQ]
 have HQ : Hid (Rul.exprsB B (vals.drop 0) (SL.drop 0) = Q) := hQ
 clear hQ
 have h5 : (vals.length : Int) = (SL.length : Int) := by omega
 have h6 : ¬ (SL.length : Int) = 0 := by omega
 refine Qin [4] Tryz.func154 Tryz.results154 Tryz.ntmps154 ?_
 repeat' (with_reducible first | refine Q1 ?_ | refine Qe ?_ | refine QQ ?_ | (refine al_go ?_; intro b) | (refine QD ?_ <;> (try constructor) <;> intro hb <;> try intro hb1) | fail)
 clear hS
 refine tr_loopd (ι := Nat) (fun i A st' => i ≤ vals.length ∧ Hid (Rul.exprsB B (vals.drop i) (SL.drop i) = Q) ∧ A.df = [] ∧ A.e 0 = .ip (lookC LS nm sal PS AS r) ∧ A.e 5 = .sl .shared SS ∧ A.e 42 = .sl .shared ES ∧ A.e 43 = .i vals.length ∧ A.e 44 = .i i ∧ st' = bmap r B :: st) (fun i => vals.length - i) 0 ⟨Nat.zero_le _, HQ, Qf, Qf, Qf, Qf, Qf, Qf, rfl⟩ ?_
 clear HQ
 rintro i A st' ⟨hi, HT, hdf, e0, e5, e42, e43, e44, rfl⟩
 by_cases hlt : i < vals.length
 · obtain ⟨e, he⟩ := gEx hlt
   obtain ⟨s, hs⟩ := gEx (l := SL) (i := i) (by omega)
   have g1 := hc1.out i e he
   have g2 := hc2.out i s hs
   have hF := hE.out e (List.mem_of_getElem? he) s
   have HE := HT.out
   rw [Rul.exprsB_drop he hs] at HE
   clear HT he hs hE hc1 hc2
   obtain ⟨G, hGG⟩ : ∃ G, Rul.exprsB B (vals.drop (i + 1)) (SL.drop (i + 1)) = G := ⟨_, rfl⟩
   rw [hGG] at HE
   replace hGG := Lib.hid hGG
   generalize Rul.exprB B e s = q at *
   cases e with
   | mk iv var val =>
   cases s with
   | mk an at_ ar av =>
   cases val with
   | mk k1 n1 s1 l1 =>
   cases av with
   | mk k2 n2 s2 l2 =>
   rw [Ex.cells_mk] at g1 hF
   rw [Sl.cells_mk] at g2 hF
   replace hF := Lib.hid hF
   have hi5 : i < SL.length := by omega
   cases q with
   | true =>
    rw [Bool.true_and] at HE
    replace HE := Lib.hid (hGG.out.trans HE)
    clear hGG
    repeat' (first | (with_reducible first | refine Q1 ?_ | refine Qe ?_ | fail) | ((with_reducible refine w_drawRN ?_ ?_ ?_ ?_); (iterate 3 (focus kernel_rfl)); intro hne; simp only [nes, ne1, and_assoc] at hne; repeat (have hq := hne.1; replace hne := hne.2)) | (with_reducible first | refine QQ ?_ | (refine al_go ?_; intro b) | (refine QD ?_ <;> (try constructor) <;> intro hb <;> try intro hb1) | fail) | fail)
    refine ⟨i + 1, bmap r B :: st, (by (repeat (first | exact List.Sublist.refl _ | apply List.Sublist.cons))), ⟨hlt, HE, ?_, ?_, ?_, ?_, ?_, ?_, rfl⟩, by omega⟩
    all_goals exact Qf
   | false =>
    rw [Bool.false_and] at HE
    subst HE
    clear hGG
    repeat' (first | (with_reducible first | refine Q1 ?_ | refine Qe ?_ | fail) | ((with_reducible refine w_drawRN ?_ ?_ ?_ ?_); (iterate 3 (focus kernel_rfl)); intro hne; simp only [nes, ne1, and_assoc] at hne; repeat (have hq := hne.1; replace hne := hne.2)) | (with_reducible first | refine QQ ?_ | (refine al_go ?_; intro b) | (refine QD ?_ <;> (try constructor) <;> intro hb <;> try intro hb1) | fail) | fail)
    all_goals exact Qret
 · have HE := HT.out
   rw [List.drop_of_length_le (by omega), Rul.exprsB] at HE
   · subst HE
     clear HT
     exact WR
   · intro _ _ _ _ h; cases h
theorem ruleActF (L : List Tm) (hL : ∀ t ∈ L, TOk t) (hl : L.length ≤ 1000000) (nm : ByteArray) (sal : Int) (ps : List Pt) (AS : List (List D)) (r : Nat) (a : Ac) (ha : ∀ e ∈ a.vals, VQ e.val) (hvl : a.vals.length ≤ 1000000) (B : List Int) (st : St) : TrF Tryz.prog 154 [.ip (lookC (L.map Tm.cells) nm sal (ps.map Pt.cells) AS r), .agg a.cells] (bmap r B :: st) fun d st' => d = .b (Rul.actB L ps B a) ∧ st' = bmap r B :: st := by
 cases a with
 | mk kind pat tmpl slot vals =>
 by_cases k1 : kind = 1
 · subst k1
   exact ruleActMakeF L hL hl nm sal ps AS r pat tmpl slot vals ha hvl B st
 have hP := rulePosF (L.map Tm.cells) nm sal ps AS r pat
 have hm1 : (vals.map Ex.cells).length = vals.length := List.length_map ..
 have b1 : (kind == 1) = false := beq_eq_false_iff_ne.2 k1
 by_cases k2 : kind = 2
 · subst k2
   have e0 : Rul.actB L ps B ⟨2, pat, tmpl, slot, vals⟩ = (Rul.posB ps pat && ((tmpl == 0) && ((slot == 0) && decide (vals.length = 0)))) := rfl
   rw [e0]
   unfold Ac.cells
   dsimp only
   generalize Rul.posB ps pat = q at *
   generalize L.map Tm.cells = LS at *
   generalize ps.map Pt.cells = PS at *
   generalize vals.map Ex.cells = ES at *
   replace hP := Lib.hid hP
   cases q with
   | false =>
    rw [Bool.false_and]
    refine Qin [4] Tryz.func154 Tryz.results154 Tryz.ntmps154 ?_
    exact WR
   | true =>
   rw [Bool.true_and]
   by_cases h1 : tmpl = 0
   rotate_left
   · have b1 : (tmpl == 0) = false := beq_eq_false_iff_ne.2 h1
     rw [b1, Bool.false_and]
     refine Qin [4] Tryz.func154 Tryz.results154 Tryz.ntmps154 ?_
     exact WR
   subst h1
   by_cases h2 : slot = 0
   rotate_left
   · have b2 : (slot == 0) = false := beq_eq_false_iff_ne.2 h2
     rw [b2, Bool.false_and, Bool.and_false]
     refine Qin [4] Tryz.func154 Tryz.results154 Tryz.ntmps154 ?_
     exact WR
   subst h2
   rw [beq_self_eq_true, Bool.true_and, Bool.true_and]
   by_cases h3 : vals.length = 0
   · rw [decide_eq_true h3]
     have h4 : (vals.length : Int) = 0 := by omega
     refine Qin [4] Tryz.func154 Tryz.results154 Tryz.ntmps154 ?_
     exact WR
   · rw [decide_eq_false h3]
     have h4 : ¬ (vals.length : Int) = 0 := by omega
     have h5 : ((vals.length : Int) == 0) = false := beq_eq_false_iff_ne.2 h4
     refine Qin [4] Tryz.func154 Tryz.results154 Tryz.ntmps154 ?_
     exact WR
 have b2 : (kind == 2) = false := beq_eq_false_iff_ne.2 k2
 by_cases k3 : kind = 3
 · subst k3
   have e0 : Rul.actB L ps B ⟨3, pat, tmpl, slot, vals⟩ = ((Rul.posB ps pat && ((tmpl == 0) && decide (vals.length = 1))) && (match (generalizing := false) ps[pat.toNat]?, vals with
    | some p, [e] => decide (0 ≤ slot) && (decide (slot < (Rul.slots L p.tmpl).length) && (match (Rul.slots L p.tmpl)[slot.toNat]? with | some s => Rul.exprB B e s | none => false))
    | _, _ => false)) := rfl
   rw [e0]
   clear e0
   cases hq : Rul.posB ps pat with
   | false =>
    rw [hq] at hP
    rw [Bool.false_and, Bool.false_and]
    unfold Ac.cells
    dsimp only
    generalize L.map Tm.cells = LS at *
    generalize ps.map Pt.cells = PS at *
    generalize vals.map Ex.cells = ES at *
    replace hP := Lib.hid hP
    refine Qin [4] Tryz.func154 Tryz.results154 Tryz.ntmps154 ?_
    exact WR
   | true =>
   rw [hq] at hP
   rw [Bool.true_and]
   by_cases h1 : tmpl = 0
   rotate_left
   · have b1 : (tmpl == 0) = false := beq_eq_false_iff_ne.2 h1
     rw [b1, Bool.false_and, Bool.false_and]
     unfold Ac.cells
     dsimp only
     generalize L.map Tm.cells = LS at *
     generalize ps.map Pt.cells = PS at *
     generalize vals.map Ex.cells = ES at *
     replace hP := Lib.hid hP
     refine Qin [4] Tryz.func154 Tryz.results154 Tryz.ntmps154 ?_
     exact WR
   subst h1
   rw [beq_self_eq_true, Bool.true_and]
   by_cases h2 : vals.length = 1
   rotate_left
   · rw [decide_eq_false h2, Bool.false_and]
     have h3 : ¬ (vals.length : Int) = 1 := by omega
     unfold Ac.cells
     dsimp only
     generalize L.map Tm.cells = LS at *
     generalize ps.map Pt.cells = PS at *
     generalize vals.map Ex.cells = ES at *
     replace hP := Lib.hid hP
     refine Qin [4] Tryz.func154 Tryz.results154 Tryz.ntmps154 ?_
     exact WR
   rw [decide_eq_true h2, Bool.true_and]
   obtain ⟨e, rfl⟩ : ∃ e, vals = [e] := List.length_eq_one_iff.1 h2
   unfold Rul.posB at hq
   rw [Bool.and_eq_true, Bool.and_eq_true, decide_eq_true_eq, decide_eq_true_eq] at hq
   obtain ⟨⟨hp0, hp1⟩, -⟩ := hq
   obtain ⟨n, rfl⟩ : ∃ n : Nat, (n : Int) = pat := ⟨pat.toNat, Int.toNat_of_nonneg hp0⟩
   obtain ⟨p, hp⟩ := gEx (l := ps) (i := n) (by omega)
   have hpc : (ps.map Pt.cells)[n]? = some p.cells := by rw [List.getElem?_map, hp]; rfl
   have hpl : (ps.map Pt.cells).length = ps.length := List.length_map ..
   rw [Int.toNat_natCast, hp]
   dsimp only
   have hS := ruleSlotsF L hL hl p.tmpl
   have hE := fun s => ruleExprF (L.map Tm.cells) nm sal (ps.map Pt.cells) AS r e s (ha e (List.mem_singleton.2 rfl)) B
   have hm2 : ((Rul.slots L p.tmpl).map Sl.cells).length = (Rul.slots L p.tmpl).length := List.length_map ..
   have hc2 : ∀ (i : Nat) (v : Sl), (Rul.slots L p.tmpl)[i]? = some v → ((Rul.slots L p.tmpl).map Sl.cells)[i]? = some v.cells := fun i v h => by rw [List.getElem?_map, h]; rfl
   generalize Rul.slots L p.tmpl = SL at *
   clear hp ha hL hl hvl h2 hm1
   generalize L.map Tm.cells = LS at *
   generalize ps.map Pt.cells = PS at *
   generalize SL.map Sl.cells = SS at *
   unfold Ac.cells Pt.cells at *
   dsimp only at *
   rw [List.map_cons, List.map_nil]
   cases p with
   | mk ptm pneg pts =>
   dsimp only at *
   generalize pts.map Ts.cells = TS at *
   replace hP := Lib.hid hP
   replace hS := Lib.hid hS
   cases e with
   | mk iv var val =>
   cases val with
   | mk ek en es el =>
   rw [Ex.cells_mk] at *
   by_cases s0 : slot < 0
   · rw [decide_eq_false (show ¬ 0 ≤ slot by omega), Bool.false_and]
     clear hE hc2
     refine Qin [4] Tryz.func154 Tryz.results154 Tryz.ntmps154 ?_
     repeat' (first | (with_reducible first | refine Q1 ?_ | refine Qe ?_ | fail) | ((with_reducible refine w_drawRN ?_ ?_ ?_ ?_); (iterate 3 (focus kernel_rfl)); intro hne; simp only [nes, ne1, and_assoc] at hne; repeat (have hq := hne.1; replace hne := hne.2)) | (with_reducible first | refine QQ ?_ | (refine al_go ?_; intro b) | (refine QD ?_ <;> (try constructor) <;> intro hb <;> try intro hb1) | fail) | fail)
     all_goals exact Qret
   by_cases s1 : (SL.length : Int) ≤ slot
   · rw [decide_eq_false (show ¬ slot < SL.length by omega), Bool.false_and, Bool.and_false]
     clear hE hc2
     refine Qin [4] Tryz.func154 Tryz.results154 Tryz.ntmps154 ?_
     repeat' (first | (with_reducible first | refine Q1 ?_ | refine Qe ?_ | fail) | ((with_reducible refine w_drawRN ?_ ?_ ?_ ?_); (iterate 3 (focus kernel_rfl)); intro hne; simp only [nes, ne1, and_assoc] at hne; repeat (have hq := hne.1; replace hne := hne.2)) | (with_reducible first | refine QQ ?_ | (refine al_go ?_; intro b) | (refine QD ?_ <;> (try constructor) <;> intro hb <;> try intro hb1) | fail) | fail)
     all_goals exact Qret
   rw [decide_eq_true (show 0 ≤ slot by omega), decide_eq_true (show slot < SL.length by omega), Bool.true_and, Bool.true_and]
   obtain ⟨m, rfl⟩ : ∃ m : Nat, (m : Int) = slot := ⟨slot.toNat, Int.toNat_of_nonneg (by omega)⟩
   obtain ⟨s, hs⟩ := gEx (l := SL) (i := m) (by omega)
   have hsc := hc2 m s hs
   have hF := hE s
   rw [Int.toNat_natCast, hs]
   dsimp only
   clear hE hc2 hs
   generalize Rul.exprB B _ s = q at *
   cases s with
   | mk an at_ ar av =>
   cases av with
   | mk k2 n2 s2 l2 =>
   rw [Sl.cells_mk] at hsc hF
   replace hF := Lib.hid hF
   have hm3 : m < SL.length := by omega
   have hn3 : n < ps.length := by omega
   refine Qin [4] Tryz.func154 Tryz.results154 Tryz.ntmps154 ?_
   repeat' (first | (with_reducible first | refine Q1 ?_ | refine Qe ?_ | fail) | ((with_reducible refine w_drawRN ?_ ?_ ?_ ?_); (iterate 3 (focus kernel_rfl)); intro hne; simp only [nes, ne1, and_assoc] at hne; repeat (have hq := hne.1; replace hne := hne.2)) | (with_reducible first | refine QQ ?_ | (refine al_go ?_; intro b) | (refine QD ?_ <;> (try constructor) <;> intro hb <;> try intro hb1) | fail) | fail)
   all_goals exact Qret
 have b3 : (kind == 3) = false := beq_eq_false_iff_ne.2 k3
 have e0 : Rul.actB L ps B ⟨kind, pat, tmpl, slot, vals⟩ = ((kind == 4) && ((pat == 0) && ((tmpl == 0) && ((slot == 0) && decide (vals.length = 0))))) := by
  unfold Rul.actB
  rw [if_neg k1, if_neg k2, if_neg k3]
 rw [e0]
 unfold Ac.cells
 dsimp only
 clear e0 hP ha
 generalize L.map Tm.cells = LS at *
 generalize ps.map Pt.cells = PS at *
 generalize vals.map Ex.cells = ES at *
 by_cases h0 : kind = 4
 rotate_left
 · have c1 : (kind == 4) = false := beq_eq_false_iff_ne.2 h0
   rw [c1, Bool.false_and]
   refine Qin [4] Tryz.func154 Tryz.results154 Tryz.ntmps154 ?_
   exact WR
 subst h0
 rw [beq_self_eq_true, Bool.true_and]
 by_cases h1 : pat = 0
 rotate_left
 · have c1 : (pat == 0) = false := beq_eq_false_iff_ne.2 h1
   rw [c1, Bool.false_and]
   refine Qin [4] Tryz.func154 Tryz.results154 Tryz.ntmps154 ?_
   exact WR
 subst h1
 rw [beq_self_eq_true, Bool.true_and]
 by_cases h2 : tmpl = 0
 rotate_left
 · have c1 : (tmpl == 0) = false := beq_eq_false_iff_ne.2 h2
   rw [c1, Bool.false_and]
   refine Qin [4] Tryz.func154 Tryz.results154 Tryz.ntmps154 ?_
   exact WR
 subst h2
 rw [beq_self_eq_true, Bool.true_and]
 by_cases h3 : slot = 0
 rotate_left
 · have c1 : (slot == 0) = false := beq_eq_false_iff_ne.2 h3
   rw [c1, Bool.false_and]
   refine Qin [4] Tryz.func154 Tryz.results154 Tryz.ntmps154 ?_
   exact WR
 subst h3
 rw [beq_self_eq_true, Bool.true_and]
 by_cases h3 : vals.length = 0
 · rw [decide_eq_true h3]
   have h4 : (vals.length : Int) = 0 := by omega
   refine Qin [4] Tryz.func154 Tryz.results154 Tryz.ntmps154 ?_
   exact WR
 · rw [decide_eq_false h3]
   have h4 : ¬ (vals.length : Int) = 0 := by omega
   have h5 : ((vals.length : Int) == 0) = false := beq_eq_false_iff_ne.2 h4
   refine Qin [4] Tryz.func154 Tryz.results154 Tryz.ntmps154 ?_
   exact WR
namespace Rul
def actS (L : List Tm) (ps : List Pt) (B : List Int) (a : Ac) : Bool × List Int := (!actB L ps B a, B)
theorem anyS_acts (L : List Tm) (ps : List Pt) (B : List Int) : ∀ l : List Ac, anyS (actS L ps) B l = (!(l.all fun a => actB L ps B a), B)
 | [] => rfl
 | a :: l => by
  rw [anyS, List.all_cons]
  unfold actS
  cases h : actB L ps B a with
  | true =>
   dsimp only
   rw [if_neg (by decide), Bool.true_and]
   exact anyS_acts L ps B l
  | false => rfl
structure RK (x : Rl) : Prop where
 nm : x.name.size ≤ 900000
 np : x.pats.length ≤ 100
 na : x.acts.length ≤ 100
 nt : ∀ p ∈ x.pats, p.tests.length ≤ 100
 nv : ∀ a ∈ x.acts, a.vals.length ≤ 100
 vt : ∀ p ∈ x.pats, ∀ t ∈ p.tests, VQ t.val
 va : ∀ a ∈ x.acts, ∀ e ∈ a.vals, VQ e.val
end Rul
theorem ruleOne2F (L : List Tm) (hL : ∀ t ∈ L, TOk t) (hl : L.length ≤ 1000000) (nm : ByteArray) (sal : Int) (ps : List Pt) (AS : List (List D)) (r b : Nat) (a : Ac) (ha : ∀ e ∈ a.vals, VQ e.val) (hvl : a.vals.length ≤ 1000000) (B : List Int) (st : St) : TrF Tryz.prog 153 [.agg a.cells, .ptr b 0] (.box b 172 [.ip (lookC (L.map Tm.cells) nm sal (ps.map Pt.cells) AS r)] :: bmap r B :: st) fun d st' => d = .b (Rul.actS L ps B a).1 ∧ st' = .box b 172 [.ip (lookC (L.map Tm.cells) nm sal (ps.map Pt.cells) AS r)] :: bmap r (Rul.actS L ps B a).2 :: st := by
 have hP := ruleActF L hL hl nm sal ps AS r a ha hvl B
 unfold Rul.actS
 dsimp only
 generalize Rul.actB L ps B a = q at *
 generalize L.map Tm.cells = LS at *
 generalize ps.map Pt.cells = PS at *
 clear ha hL hl hvl
 cases a with
 | mk kind pat tmpl slot vals =>
 unfold Ac.cells at *
 dsimp only at *
 generalize vals.map Ex.cells = ES at *
 replace hP := Lib.hid hP
 cases q
 all_goals (
  refine Qin [3] Tryz.func153 Tryz.results153 Tryz.ntmps153 ?_
  exact WR)
theorem ruleOneF (L : List Tm) (hL : ∀ t ∈ L, TOk t) (hl : L.length ≤ 1000000) (x : Rl) (hx : Rul.RK x) (st : St) : TrF Tryz.prog 86 [.sl .shared (L.map Tm.cells), .agg x.cells] st fun d st' => d = .b (Rul.oneB L x) ∧ st' = st := by
 have hC := fun (r b : Nat) => conFPat 150 [.ptr b 0] Tryz.call150 x.pats (by have := hx.np; omega) (Rul.patS L) (fun B => .box b 172 [.ip (lookC (L.map Tm.cells) x.name x.sal (x.pats.map Pt.cells) (x.acts.map Ac.cells) r)] :: bmap r B :: st) (fun p h B => ruleOne1F L hL hl x.name x.sal _ _ r b p (hx.vt p h) (by have := hx.nt p h; omega) B st) []
 have hA := fun (r b : Nat) => conFAct 153 [.ptr b 0] Tryz.call153 x.acts (by have := hx.na; omega) (Rul.actS L x.pats) (fun B => .box b 172 [.ip (lookC (L.map Tm.cells) x.name x.sal (x.pats.map Pt.cells) (x.acts.map Ac.cells) r)] :: bmap r B :: st) (fun a h B => ruleOne2F L hL hl x.name x.sal x.pats _ r b a (hx.va a h) (by have := hx.nv a h; omega) B st) (Rul.patsF L x.pats []).2
 have hN := valIsNameF x.name
 have hm1 : (x.pats.map Pt.cells).length = x.pats.length := List.length_map ..
 have hm2 : (x.acts.map Ac.cells).length = x.acts.length := List.length_map ..
 have hc0 : ∀ p, x.pats[0]? = some p → (x.pats.map Pt.cells)[0]? = some p.cells := fun p h => by rw [List.getElem?_map, h]; rfl
 rw [Rul.anyS_pats] at hC
 rw [Rul.anyS_acts] at hA
 unfold Rul.oneB Rul.headB
 dsimp only at hC hA
 generalize (x.acts.all fun a => Rul.actB L x.pats (Rul.patsF L x.pats []).2 a) = q2 at *
 generalize Rul.patsF L x.pats [] = qq at *
 obtain ⟨q1, B2⟩ := qq
 dsimp only at *
 cases x with
 | mk nm sal ps acts =>
 unfold Rl.cells
 dsimp only at *
 clear hx hL
 generalize V.isName nm.data.toList = qn at *
 generalize L.map Tm.cells = LS at *
 generalize ps.map Pt.cells = PS at *
 generalize acts.map Ac.cells = AS at *
 replace hN := Lib.hid hN
 replace hC := Lib.hid hC
 replace hA := Lib.hid hA
 cases qn with
 | false =>
  rw [Bool.false_and, Bool.false_and]
  refine Qin [4] Tryz.func86 Tryz.results86 Tryz.ntmps86 ?_
  exact WR
 | true =>
 rw [Bool.true_and]
 by_cases s1 : sal < -100
 · rw [decide_eq_false (show ¬ -100 ≤ sal by omega), Bool.false_and, Bool.false_and, Bool.false_and]
   refine Qin [4] Tryz.func86 Tryz.results86 Tryz.ntmps86 ?_
   exact WR
 by_cases s2 : 100 < sal
 · rw [decide_eq_false (show ¬ sal ≤ 100 by omega), Bool.and_false, Bool.false_and, Bool.false_and]
   refine Qin [4] Tryz.func86 Tryz.results86 Tryz.ntmps86 ?_
   exact WR
 rw [decide_eq_true (show -100 ≤ sal by omega), decide_eq_true (show sal ≤ 100 by omega), Bool.true_and, Bool.true_and]
 by_cases s3 : (ps.length : Int) < 1
 · rw [decide_eq_false (show ¬ 1 ≤ ps.length by omega), Bool.false_and, Bool.false_and, Bool.false_and]
   refine Qin [4] Tryz.func86 Tryz.results86 Tryz.ntmps86 ?_
   exact WR
 by_cases s4 : 4 < (ps.length : Int)
 · rw [decide_eq_false (show ¬ ps.length ≤ 4 by omega), Bool.and_false, Bool.false_and, Bool.false_and]
   refine Qin [4] Tryz.func86 Tryz.results86 Tryz.ntmps86 ?_
   exact WR
 rw [decide_eq_true (show 1 ≤ ps.length by omega), decide_eq_true (show ps.length ≤ 4 by omega), Bool.true_and, Bool.true_and]
 obtain ⟨p, hp⟩ := gEx (l := ps) (i := 0) (by omega)
 have hpc := hc0 p hp
 rw [hp, Option.any_some]
 clear hp hc0
 unfold Pt.cells at hpc
 cases p with
 | mk ptm png pts =>
 dsimp only at *
 generalize pts.map Ts.cells = TS at *
 cases png with
 | true =>
  rw [Bool.not_true, Bool.false_and, Bool.false_and]
  refine Qin [4] Tryz.func86 Tryz.results86 Tryz.ntmps86 ?_
  exact WR
 | false =>
 rw [Bool.not_false, Bool.true_and]
 by_cases s5 : 4 < (acts.length : Int)
 · rw [decide_eq_false (show ¬ acts.length ≤ 4 by omega), Bool.false_and]
   refine Qin [4] Tryz.func86 Tryz.results86 Tryz.ntmps86 ?_
   exact WR
 rw [decide_eq_true (show acts.length ≤ 4 by omega), Bool.true_and]
 cases q1 with
 | false =>
  rw [Bool.false_and]
  refine Qin [4] Tryz.func86 Tryz.results86 Tryz.ntmps86 ?_
  repeat' (first | (with_reducible first | refine Q1 ?_ | refine Qe ?_ | fail) | ((with_reducible refine mm_go ?_); intro bm) | (with_reducible first | refine QQ ?_ | (refine al_go ?_; intro b) | (refine QD ?_ <;> (try constructor) <;> intro hb <;> try intro hb1) | fail) | refine Qc Tryz.call149 (hC.out _ _) ?_ | fail)
  all_goals exact Qret
 | true =>
 rw [Bool.true_and]
 cases q2
 all_goals (
  refine Qin [4] Tryz.func86 Tryz.results86 Tryz.ntmps86 ?_
  repeat' (first | (with_reducible first | refine Q1 ?_ | refine Qe ?_ | fail) | ((with_reducible refine mm_go ?_); intro bm) | (with_reducible first | refine QQ ?_ | (refine al_go ?_; intro b) | (refine QD ?_ <;> (try constructor) <;> intro hb <;> try intro hb1) | fail) | refine Qc Tryz.call149 (hC.out _ _) ?_ | refine Qc Tryz.call152 (hA.out _ _) ?_ | fail)
  all_goals exact Qret)
theorem ruleRight1F (x y : Rl) (b : Nat) (st : St) : TrF Tryz.prog 88 [.agg y.cells, .ptr b 0] (.box b 55 x.cells :: st) fun d st' => d = .b (y.name.toList == x.name.toList) ∧ st' = .box b 55 x.cells :: st := by
 unfold Rl.cells
 cases x with
 | mk nm sal ps acts =>
 cases y with
 | mk nm2 sal2 ps2 acts2 =>
 dsimp only
 generalize ps.map Pt.cells = PS at *
 generalize acts.map Ac.cells = AS at *
 generalize ps2.map Pt.cells = PS2 at *
 generalize acts2.map Ac.cells = AS2 at *
 refine Qin [3] Tryz.func88 Tryz.results88 Tryz.ntmps88 ?_
 exact WR
namespace Rul
def nmS (x : Rl) (s : Unit) (y : Rl) : Bool × Unit := (y.name.toList == x.name.toList, s)
theorem anyS_nm (x : Rl) : ∀ l : List Rl, anyS (nmS x) () l = (l.any fun y => y.name.toList == x.name.toList, ())
 | [] => rfl
 | y :: l => by
  rw [anyS, List.any_cons]
  unfold nmS
  cases h : (y.name.toList == x.name.toList) with
  | true => rfl
  | false =>
   dsimp only
   rw [if_neg Bool.false_ne_true, Bool.false_or]
   exact anyS_nm x l
theorem rightL_drop {L : List Tm} {R l : List Rl} {i : Nat} {x : Rl} (h : l[i]? = some x) : rightL L R (l.drop i) i = (oneB L x && (!((R.take i).any fun y => y.name.toList == x.name.toList) && rightL L R (l.drop (i + 1)) (i + 1))) := by
 obtain ⟨h1, rfl⟩ := List.getElem?_eq_some_iff.1 h
 rw [List.drop_eq_getElem_cons h1, rightL]
end Rul
theorem ruleRightF (L : List Tm) (hL : ∀ t ∈ L, TOk t) (hl : L.length ≤ 1000000) (R : List Rl) (hR : ∀ x ∈ R, Rul.RK x) (hRl : R.length ≤ 1000000) (st : St) : TrF Tryz.prog 34 [.sl .shared (L.map Tm.cells), .sl .shared (R.map Rl.cells)] st fun d st' => d = .b (Rul.right L R) ∧ st' = st := by
 have hReg := regRightF L hL hl
 have hO := Lib.hid fun (x : Rl) (h : x ∈ R) => ruleOneF L hL hl x (hR x h)
 have hC := Lib.hid fun (x : Rl) (i b : Nat) => conFRule 88 [.ptr b 0] Tryz.call88 (R.take i) (by rw [List.length_take]; omega) (Rul.nmS x) (fun _ => .box b 55 x.cells :: st) (fun y h s => ruleRight1F x y b st) ()
 have hm : (R.map Rl.cells).length = R.length := List.length_map ..
 have hc := hMp Rl.cells R
 have htk : Hid (∀ i : Nat, (R.take i).map Rl.cells = (R.map Rl.cells).take i) := fun i => List.map_take
 unfold Rul.right
 generalize L.map Tm.cells = LS at *
 obtain ⟨RS, hRS⟩ : ∃ RS, R.map Rl.cells = RS := ⟨_, rfl⟩
 rw [hRS] at hm hc htk ⊢
 have hall : (RS.all fun e => e.length == 4) = true := by
  rw [← hRS, List.all_eq_true]
  intro e he
  obtain ⟨x, -, rfl⟩ := List.mem_map.1 he
  rfl
 clear hRS hR
 cases hq : Reg.right L with
 | false =>
  rw [hq] at hReg
  rw [Bool.false_and]
  replace hReg := Lib.hid hReg
  refine Qin [4] Tryz.func34 Tryz.results34 Tryz.ntmps34 ?_
  exact WR
 | true =>
 rw [hq] at hReg
 rw [Bool.true_and]
 replace hReg := Lib.hid hReg
 by_cases h8 : 8 < (R.length : Int)
 · rw [decide_eq_false (show ¬ R.length ≤ 8 by omega), Bool.false_and]
   refine Qin [4] Tryz.func34 Tryz.results34 Tryz.ntmps34 ?_
   exact WR
 rw [decide_eq_true (show R.length ≤ 8 by omega), Bool.true_and]
 obtain ⟨Q, hQ⟩ : ∃ Q, Rul.rightL L R R 0 = Q := ⟨_, rfl⟩
 rw [hQ]
 have HQ : Hid (Rul.rightL L R (R.drop 0) 0 = Q) := hQ
 clear hQ
 refine Qin [4] Tryz.func34 Tryz.results34 Tryz.ntmps34 ?_
 repeat' (with_reducible first | refine Q1 ?_ | refine Qe ?_ | refine QQ ?_ | (refine al_go ?_; intro b) | (refine QD ?_ <;> (try constructor) <;> intro hb <;> try intro hb1) | fail)
 clear hReg
 refine tr_loopd (ι := Nat) (fun i A st' => i ≤ R.length ∧ Hid (Rul.rightL L R (R.drop i) i = Q) ∧ A.df = [] ∧ A.e 0 = .sl .shared LS ∧ A.e 1 = .sl .shared RS ∧ A.e 15 = .sl .shared RS ∧ A.e 16 = .i R.length ∧ A.e 17 = .i i ∧ st = st') (fun i => R.length - i) 0 ⟨Nat.zero_le _, HQ, Qf, Qf, Qf, Qf, Qf, Qf, rfl⟩ ?_
 rintro i A st' ⟨hi, HT, hdf, e0, e1, e15, e16, e17, rfl⟩
 clear HQ
 by_cases hlt : i < R.length
 · have hle : (i : Int) ≤ R.length := by omega
   have hle2 : i ≤ R.length := by omega
   obtain ⟨x, hx⟩ := gEx hlt
   have h1 := hc.out i x hx
   have hOx := hO.out x (List.mem_of_getElem? hx)
   have hCx := hC.out x i
   have HE := HT.out
   rw [Rul.rightL_drop hx] at HE
   have htki := htk.out i
   rw [htki, Rul.anyS_nm] at hCx
   dsimp only at hCx
   clear HT hx hO hC hc htk htki
   obtain ⟨G, hGG⟩ : ∃ G, Rul.rightL L R (R.drop (i + 1)) (i + 1) = G := ⟨_, rfl⟩
   rw [hGG] at HE
   replace hGG := Lib.hid hGG
   generalize Rul.oneB L x = q1 at *
   generalize ((R.take i).any fun y => y.name.toList == x.name.toList) = q2 at *
   unfold Rl.cells at h1 hOx hCx
   generalize x.pats.map Pt.cells = PS at *
   generalize x.acts.map Ac.cells = AS at *
   generalize x.name = nm at *
   generalize x.sal = sal at *
   replace hOx := Lib.hid hOx
   replace hCx := Lib.hid hCx
   cases q1 with
   | false =>
    rw [Bool.false_and] at HE
    subst HE
    clear hGG
    exact WR
   | true =>
    rw [Bool.true_and] at HE
    cases q2 with
    | true =>
     rw [Bool.not_true, Bool.false_and] at HE
     subst HE
     clear hGG
     repeat' (first | (with_reducible first | refine Q1 ?_ | refine Qe ?_ | refine QQ ?_ | (refine al_go ?_; intro b) | (refine QD ?_ <;> (try constructor) <;> intro hb <;> try intro hb1) | fail) | refine Qc Tryz.call87 ((hCx.out _)) ?_ | fail)
     skip
     all_goals exact Qret
    | false =>
     rw [Bool.not_false, Bool.true_and] at HE
     replace HE := Lib.hid (hGG.out.trans HE)
     clear hGG
     repeat' (first | (with_reducible first | refine Q1 ?_ | refine Qe ?_ | refine QQ ?_ | (refine al_go ?_; intro b) | (refine QD ?_ <;> (try constructor) <;> intro hb <;> try intro hb1) | fail) | refine Qc Tryz.call87 ((hCx.out _)) ?_ | fail)
     refine ⟨i + 1, st, (by (repeat (first | exact List.Sublist.refl _ | apply List.Sublist.cons))), ⟨hlt, HE, ?_, ?_, ?_, ?_, ?_, ?_, rfl⟩, by omega⟩
     all_goals exact Qf
 · have HE := HT.out
   rw [List.drop_of_length_le (by omega), Rul.rightL] at HE
   subst HE
   clear HT
   exact WR
end Go.Proofs.YtgcienlfpnpbgaaGreat
end
section
namespace Go.Proofs.YtgcienlfpnpbgaaGreat
set_option linter.unusedSimpArgs false
attribute [local push_cast] encB encI Nat.mul_one Int.sub_zero
open Go.RowKit
set_option maxRecDepth 10000
set_option maxHeartbeats 4000000
def encBs (b : List UInt8) : List D := [.sl .shared (b.map encB)]
attribute [local push_cast] encBs
theorem growBF (n : Nat) (hn : n ≤ 1000000) (st : St) : TrF Tryz.prog 176 [.sl .tight [], .i n] st fun d st' => ∃ o', o' ≠ .shared ∧ d = .sl o' [] ∧ st' = .room o' 5 1 ([] : List (List D)).length :: st := by
 refine Qin [4] Tryz.func176 Tryz.results176 Tryz.ntmps176 ?_
 by_cases h0 : n = 0
 · subst h0
   refine tr_room 5 1 0 ?_
   repeat' (with_reducible first | refine Q1 ?_ | refine Qe ?_ | refine QQ ?_ | (refine al_go ?_; intro b) | (refine Qa ?_; intro o' ho') | (refine Qp ?_; intro o' ho') | (refine QD ?_ <;> (try constructor) <;> intro hb <;> try intro hb1) | fail)
   all_goals ((apply ret_own (by simp) (by first | rfl | assumption)); (focus ((try simp (disch := omega) only [push_cast, simprocAttr, *]); (try exact rfl); done)); (focus (first | assumption | (intro h; cases h))); (focus ((repeat (first | exact List.Sublist.refl _ | apply List.Sublist.cons)); done)))
   all_goals rfl
 · have h1 : (0 : Int) < n := by omega
   have h2 : 0 < n := by omega
   repeat' (first | (with_reducible first | refine Q1 ?_ | refine Qe ?_ | fail) | (refine tr_cutB 6 (fun A' st' => ∃ (g cap : Nat) (cs : List D), A'.df = [] ∧ A'.e 0 = .ar g 0 0 cap ∧ cs.length = cap * 1 ∧ st' = .box g 5 cs :: st) ?_ ?_) | ((with_reducible apply s_sliceT); (focus ((try simp (disch := omega) only [push_cast, simprocAttr, *]); (try exact rfl); done)); (focus ((try simp (disch := omega) only [push_cast, simprocAttr, *]); (try exact rfl); done)); (focus ((try simp (disch := omega) only [push_cast, simprocAttr, *]); (try exact rfl); done))) | with_reducible refine s_zeros ?_ | with_reducible refine zr_go ?_ | ((with_reducible apply zr2_go); (focus omega); (focus omega); (focus omega); (focus exact rfl); intro g cap hgc) | (with_reducible first | refine QQ ?_ | (refine al_go ?_; intro b) | (refine Qa ?_; intro o' ho') | (refine Qp ?_; intro o' ho') | (refine QD ?_ <;> (try constructor) <;> intro hb <;> try intro hb1) | fail) | fail)
   · refine ⟨g, cap, _, Qf, Qf, ?_, rfl⟩
     rw [List.length_replicate, Nat.mul_one]
   · rintro A' st' ⟨g, cap, cs, hdf, e0, hcl, rfl⟩
     refine tr_reroomA [0] 1 (.refl _) (by omega) hcl (fun t ht => by rw [List.mem_singleton.1 ht]; exact e0) fun A2 hdf2 q1 q2 => ?_
     have e0' := q1 0 (List.mem_singleton.2 rfl)
     rw [hdf] at hdf2
     clear q1 q2 e0 hdf
     repeat' (with_reducible first | refine Q1 ?_ | refine Qe ?_ | refine QQ ?_ | (refine al_go ?_; intro b) | (refine Qa ?_; intro o' ho') | (refine Qp ?_; intro o' ho') | (refine QD ?_ <;> (try constructor) <;> intro hb <;> try intro hb1) | fail)
     all_goals ((apply ret_own (by simp) (by first | rfl | assumption)); (focus ((try simp (disch := omega) only [push_cast, simprocAttr, *]); (try exact rfl); done)); (focus (first | assumption | (intro h; cases h))); (focus ((repeat (first | exact List.Sublist.refl _ | apply List.Sublist.cons)); done)))
     all_goals rfl
theorem concatBF (o : Own) (bs : List (List UInt8)) (hl : bs.flatten.length ≤ 1000000) (hb : bs.length ≤ 1000000) (st : St) : TrF Tryz.prog 135 [.sl o (bs.map encBs)] st fun d st' => ∃ o', o' ≠ .shared ∧ d = .sl o' (bs.flatten.map encB) ∧ st' = .room o' 5 1 (bs.flatten.map encB).length :: st := by
 have hF : ∀ i x, bs[i]? = some x → (bs.take (i + 1)).flatten = (bs.take i).flatten ++ x ∧ (bs.take (i + 1)).flatten.length ≤ 1000000 := fun i x hx => by
  have h1 : (bs.take (i + 1)).flatten = (bs.take i).flatten ++ x := by rw [List.take_succ, hx]; simp
  refine ⟨h1, ?_⟩
  have h2 := congrArg List.length (congrArg List.flatten (List.take_append_drop (i + 1) bs))
  rw [List.flatten_append, List.length_append] at h2
  omega
 refine Qin [2] Tryz.func135 Tryz.results135 Tryz.ntmps135 ?_
 repeat' (with_reducible first | refine Q1 ?_ | refine Qe ?_ | refine QQ ?_ | (refine al_go ?_; intro b) | (refine Qa ?_; intro o' ho') | (refine Qp ?_; intro o' ho') | (refine QD ?_ <;> (try constructor) <;> intro hb <;> try intro hb1) | fail)
 refine tr_loop (ι := Nat) (fun i A st' => i ≤ bs.length ∧ A.df = [] ∧ A.e 0 = .sl o (bs.map encBs) ∧ A.e 9 = .sl o (bs.map encBs) ∧ A.e 10 = .i bs.length ∧ A.e 11 = .i i ∧ A.e 3 = .i (bs.take i).flatten.length ∧ st = st') (fun i => bs.length - i) 0 ⟨Nat.zero_le _, Qf, Qf, Qf, Qf, Qf, Qf, rfl⟩ ?_
 rintro i A st' ⟨hi, hdf, e0, e9, e10, e11, e3, rfl⟩
 by_cases hlt : i < bs.length
 · obtain ⟨x, hx⟩ := gEx hlt
   obtain ⟨hf, hfl⟩ := hF i x hx
   have hfl2 : ((bs.take (i + 1)).flatten.length : Int) = (bs.take i).flatten.length + x.length := by rw [hf, List.length_append]; omega
   clear hF hf
   obtain ⟨q1, hq1⟩ : ∃ q, (bs.take (i + 1)).flatten.length = q := ⟨_, rfl⟩
   rw [hq1] at hfl hfl2
   generalize (bs.take i).flatten.length = q0 at *
   repeat' (with_reducible first | refine Q1 ?_ | refine Qe ?_ | refine QQ ?_ | (refine al_go ?_; intro b) | (refine Qa ?_; intro o' ho') | (refine Qp ?_; intro o' ho') | (refine QD ?_ <;> (try constructor) <;> intro hb <;> try intro hb1) | fail)
   refine ⟨i + 1, ⟨hlt, ?_, ?_, ?_, ?_, ?_, ?_, rfl⟩, ?_⟩
   all_goals exact Qf
 · rw [List.take_of_length_le (by omega)] at e3
   have hG := fun st => growBF bs.flatten.length hl st
   replace hF := Lib.hid hF
   replace hG := Lib.hid hG
   repeat' (first | (with_reducible first | refine Q1 ?_ | refine Qe ?_ | refine QQ ?_ | (refine al_go ?_; intro b) | (refine Qa ?_; intro o' ho') | (refine Qp ?_; intro o' ho') | (refine QD ?_ <;> (try constructor) <;> intro hb <;> try intro hb1) | fail) | (refine QE Tryz.call176 (hG.out _) ?_; intro o1 ho1) | fail)
   refine tr_loopd (ι := Nat) (fun i A st' => i ≤ bs.length ∧ A.df = [] ∧ A.e 25 = .sl o (bs.map encBs) ∧ A.e 26 = .i bs.length ∧ A.e 27 = .i i ∧ ∃ o' B, o' ≠ .shared ∧ Hid (B = (bs.take i).flatten) ∧ B.length = (bs.take i).flatten.length ∧ A.e 6 = .sl o' (B.map encB) ∧ st' = .room o' 5 1 (B.map encB).length :: st) (fun i => bs.length - i) 0 ⟨Nat.zero_le _, Qf, Qf, Qf, Qf, o1, [], ho1, rfl, rfl, Qf, rfl⟩ ?_
   clear hlt hi e0 e3 e9 e10 e11 hdf A i hG o1 ho1
   rintro i A st' ⟨hi, hdf, e25, e26, e27, o', B, ho', HB, hBl, e6, rfl⟩
   by_cases hlt : i < bs.length
   · obtain ⟨x, hx⟩ := gEx hlt
     obtain ⟨hf, hfl⟩ := hF.out i x hx
     have HB2 : Hid (B ++ x = (bs.take (i + 1)).flatten) := by show _ = _; rw [hf, HB.out]
     have hBl2 : (B ++ x).length = (bs.take (i + 1)).flatten.length := by rw [hf, List.length_append, List.length_append, hBl]
     have hBx : B.length + x.length ≤ 1000000 := by
      have := hBl2
      rw [List.length_append] at this; omega
     replace hBl2 := Lib.hid hBl2
     clear hF hf HB hfl hBl
     repeat' (with_reducible first | refine Q1 ?_ | refine Qe ?_ | refine QQ ?_ | (refine al_go ?_; intro b) | (refine Qa ?_; intro o' ho') | (refine Qp ?_; intro o' ho') | (refine QD ?_ <;> (try constructor) <;> intro hb <;> try intro hb1) | fail)
     refine ⟨i + 1, .room o' 5 1 ((B ++ x).map encB).length :: st, ?_, ⟨hlt, ?_, ?_, ?_, ?_, o', B ++ x, ho', HB2, hBl2.out, ?_, rfl⟩, ?_⟩
     · rw [List.map_append]; (repeat (first | exact List.Sublist.refl _ | apply List.Sublist.cons))
     all_goals exact Qf
   · have hBe := HB.out
     rw [List.take_of_length_le (by omega)] at hBe
     rw [← hBe]
     clear hBe HB hBl hF
     repeat' (with_reducible first | refine Q1 ?_ | refine Qe ?_ | refine QQ ?_ | (refine al_go ?_; intro b) | (refine Qa ?_; intro o' ho') | (refine Qp ?_; intro o' ho') | (refine QD ?_ <;> (try constructor) <;> intro hb <;> try intro hb1) | fail)
     all_goals ((apply ret_own (by simp) (by first | rfl | assumption)); (focus ((try simp (disch := omega) only [push_cast, simprocAttr, *]); (try exact rfl); done)); (focus (first | assumption | (intro h; cases h))); (focus ((repeat (first | exact List.Sublist.refl _ | apply List.Sublist.cons)); done)))
     all_goals rfl
end Go.Proofs.YtgcienlfpnpbgaaGreat
end
section
namespace Go.Proofs.YtgcienlfpnpbgaaGreat
attribute [local push_cast] encB encI encBs V.cells_mk V.cells_take V.cells_len Nat.mul_one Int.sub_zero
open Go.RowKit B
set_option maxHeartbeats 4000000
set_option maxRecDepth 10000
theorem bytesF (o o' : Own) (a b : List UInt8) (st : St) : TrF Tryz.prog 18 [.sl o (a.map encB), .sl o' (b.map encB)] st fun d st' => d = .b (decide (a = b)) ∧ st' = st :=
 trF_pure fun vs w hv => by
  obtain ⟨v, v', rfl, h1, h2⟩ := args2 hv
  exact ⟨_, fun _ _ => .s _ rfl, (bytes_any v v' a b w (sees_bytes h1) (sees_bytes h2)).mono fun _ _ ⟨h, n, e⟩ => ⟨h, by subst e; exact ⟨rfl, rfl, rfl, Nat.le_refl _, fun _ _ => rfl⟩⟩⟩
theorem binAllF (o : Own) (bs : List (List UInt8)) (hl : bs.flatten.length ≤ 1000000) (hb : bs.length ≤ 1000000) (st : St) : TrF Tryz.prog 54 [.sl o (bs.map encBs)] st fun d st' => ∃ o', o' ≠ .shared ∧ d = .sl o' (bs.flatten.map encB) ∧ st' = .room o' 5 1 (bs.flatten.map encB).length :: st := by
 have hC := Lib.hid (concatBF o bs hl hb)
 generalize bs.flatten = l at *
 refine Qin [2] Tryz.func54 Tryz.results54 Tryz.ntmps54 ?_
 repeat' (first | (with_reducible first | refine Q1 ?_ | refine Qe ?_ | refine QQ ?_ | (refine al_go ?_; intro b) | (refine Qa ?_; intro o' ho') | (refine Qp ?_; intro o' ho') | (refine QD ?_ <;> (try constructor) <;> intro hb <;> try intro hb1) | fail) | (refine QE Tryz.call135 (hC.out _) ?_; intro o1 ho1) | fail)
 all_goals ((apply ret_own (by simp) (by first | rfl | assumption)); (focus ((try simp (disch := omega) only [push_cast, simprocAttr, *]); (try exact rfl); done)); (focus (first | assumption | (intro h; cases h))); (focus ((repeat (first | exact List.Sublist.refl _ | apply List.Sublist.cons)); done)))
 all_goals rfl
end Go.Proofs.YtgcienlfpnpbgaaGreat
end
section
namespace Go.Proofs.YtgcienlfpnpbgaaGreat
attribute [local push_cast] encB encI encC encBs V.cells_mk V.cells_len Nat.mul_one Int.sub_zero List.map_nil beq_self_eq_true bne_self_eq_false List.head?_cons
open Go.RowKit B
set_option maxHeartbeats 8000000
set_option maxRecDepth 10000
namespace Reg
def byteB (n : Int) : List UInt8 := if 0 ≤ n ∧ n ≤ 255 then [UInt8.ofNat n.toNat] else []
def slotP (s : Sl) : List (List UInt8) := [tx s.name.data.toList, byteB s.types, byteB (if s.req then 1 else 0), s.dv.bin]
def slotB (s : Sl) : List UInt8 := (slotP s).flatten
theorem bin_len (v : V) : v.bin.length ≤ 20500 := by
 unfold V.bin
 split
 · rename_i h
   obtain ⟨hp, -, hn⟩ := V.right_iff.1 h
   have := V.put_le v hp
   omega
 · exact Nat.zero_le _
end Reg
namespace Reg
def b8 (n : Int) : UInt8 := UInt8.ofNat (n % 256).toNat
def stepA (p : Stp) : List UInt8 :=
 if p.kind = 1 then [byteB p.kind, slotB p.slot].flatten
 else if p.kind = 2 ∨ p.kind = 3 ∨ p.kind = 4 then [byteB p.kind, byteB p.col].flatten
 else if p.kind = 5 then [byteB p.kind, be 4 p.order.length].flatten ++ p.order.map b8
 else byteB p.kind
def stepB (p : Stp) : List UInt8 :=
 if p.kind = 3 then [stepA p, tx p.slot.name.data.toList].flatten
 else if p.kind = 4 then [stepA p, byteB p.slot.types].flatten
 else stepA p
end Reg
theorem u8_wrapI (n : Int) : IntKind.u8.wrap n = ((Reg.b8 n).toNat : Int) := by
 have h1 : 0 ≤ n % 256 := Int.emod_nonneg _ (by decide)
 have h2 : n % 256 < 256 := Int.emod_lt_of_pos _ (by decide)
 have h3 : IntKind.u8.wrap n = IntKind.u8.wrap ((n % 256).toNat : Int) := by
  rw [Int.toNat_of_nonneg h1]
  unfold IntKind.wrap
  have e : (2 : Int) ^ IntKind.u8.bits = 256 := by decide
  rw [e, Int.emod_emod_of_dvd n (Int.dvd_refl 256)]
 rw [h3, u8_wrap]; rfl
end Go.Proofs.YtgcienlfpnpbgaaGreat
end
section
namespace Go.Proofs.YtgcienlfpnpbgaaGreat
attribute [local push_cast] encB encI encC encBs V.cells_mk V.cells_len Nat.mul_one Int.sub_zero List.map_nil beq_self_eq_true bne_self_eq_false List.head?_cons
open Go.RowKit B
set_option maxHeartbeats 16000000
set_option maxRecDepth 10000
abbrev penR (pb : Nat) (o : Own) (X : List UInt8) (q : Bool) (s : St) : St := .box pb 119 [.sl o (X.map encB), .b q] :: .room o 5 1 (X.map encB).length :: s
def PenC (f : FuncId) (args : List D) (pb : Nat) (X Y : List UInt8) (q q' : Bool) : Prop := ∀ (o : Own), o ≠ .shared → ∀ s, TrF Tryz.prog f args (penR pb o X q s) fun d st' => ∃ o', o' ≠ .shared ∧ d = .tup [] ∧ st' = penR pb o' (X ++ Y) (q || q') s
namespace Rul
def badN (n : Int) : Bool := decide (n < 0) || decide (255 < n)
end Rul
theorem penBytesF (pb : Nat) (l : List Int) (hl : l.length ≤ 100) (X : List UInt8) (q : Bool) (hX : X.length + l.length ≤ 10000000000000) : PenC 97 [.ptr pb 0, .sl .shared (l.map encI)] pb X (l.map Reg.b8) q (l.any Rul.badN) := by
 intro o ho s
 have hm : (l.map encI).length = l.length := List.length_map ..
 have hc : Hid (∀ (i : Nat) (n : Int), l[i]? = some n → (l.map encI)[i]? = some [.i n]) := fun i n h => by rw [List.getElem?_map, h]; rfl
 have hX2 : Hid (X ++ l.map Reg.b8 = X ++ (l.take l.length).map Reg.b8) := Lib.hid (by rw [List.take_length])
 have hq2 : Hid ((q || l.any Rul.badN) = (q || (l.take l.length).any Rul.badN)) := Lib.hid (by rw [List.take_length])
 rw [hX2.out, hq2.out]
 clear hX2 hq2
 generalize l.map encI = LI at *
 refine Qin [] Tryz.func97 Tryz.results97 Tryz.ntmps97 ?_
 repeat' (with_reducible first | refine Q1 ?_ | refine Qe ?_ | refine QQ ?_ | (refine al_go ?_; intro b) | (refine Qa ?_; intro o' ho') | (refine Qp ?_; intro o' ho') | (refine QD ?_ <;> (try constructor) <;> intro hb <;> try intro hb1) | fail)
 refine tr_loopd (ι := Nat) (fun i A st' => i ≤ l.length ∧ A.df = [] ∧ A.e 0 = .ptr pb 0 ∧ A.e 6 = .sl .shared LI ∧ A.e 7 = .i l.length ∧ A.e 8 = .i i ∧ ∃ (o' : Own) (X2 : List UInt8) (q2 : Bool), o' ≠ .shared ∧ Hid (X2 = X ++ (l.take i).map Reg.b8) ∧ X2.length = X.length + i ∧ Hid (q2 = (q || (l.take i).any Rul.badN)) ∧ st' = penR pb o' X2 q2 s) (fun i => l.length - i) 0 ⟨Nat.zero_le _, Qf, Qf, Qf, Qf, Qf, o, X, q, ho, Lib.hid (by simp), rfl, Lib.hid (by simp), rfl⟩ ?_
 clear ho
 rintro i A st' ⟨hi, hdf, e0, e6, e7, e8, o, X2, q2, ho, hXe, hXl, hqe, rfl⟩
 by_cases hlt : i < l.length
 · obtain ⟨n, hn⟩ := gEx hlt
   have h1 := hc.out i n hn
   have hX3 : Hid (X2 ++ [Reg.b8 n] = X ++ (l.take (i + 1)).map Reg.b8) := Lib.hid (by rw [List.take_add_one, hn, Option.toList_some, List.map_append, ← List.append_assoc, ← hXe.out]; rfl)
   have hq3 : Hid ((q2 || Rul.badN n) = (q || (l.take (i + 1)).any Rul.badN)) := Lib.hid (by rw [List.take_add_one, hn, Option.toList_some, List.any_append, ← Bool.or_assoc, ← hqe.out]; simp)
   have hw := u8_wrapI n
   have hXm : (X2.map encB).length = X2.length := List.length_map ..
   clear hXe hqe hn hc
   unfold Rul.badN at hq3
   generalize Reg.b8 n = w at *
   have hXb : X2.length ≤ 10000000000000 := by omega
   have hXl3 : (X2 ++ [w]).length = X.length + (i + 1) := by rw [List.length_append]; show _ + 1 = _; omega
   cases q2 with
   | true =>
    rw [Bool.true_or] at hq3
    repeat' (with_reducible first | refine Q1 ?_ | refine Qe ?_ | refine QQ ?_ | (refine al_go ?_; intro b) | (refine Qa ?_; intro o' ho') | (refine Qp ?_; intro o' ho') | (refine QD ?_ <;> (try constructor) <;> intro hb <;> try intro hb1) | fail)
    refine ⟨i + 1, .box pb 119 [.sl o' (X2.map encB ++ [encB w]), .b true] :: .room o' 5 1 (X2.map encB ++ [encB w]).length :: s, (by (repeat (first | exact List.Sublist.refl _ | with_reducible apply List.Sublist.cons_cons | apply List.Sublist.cons))), ⟨hlt, ?_, ?_, ?_, ?_, ?_, o', X2 ++ [w], true, ho', hX3, hXl3, hq3, ?_⟩, ?_⟩
    rotate_right 2
    · unfold penR; rw [List.map_append]; rfl
    all_goals exact Qf
   | false =>
    rw [Bool.false_or] at hq3
    by_cases n0 : n < 0
    · rw [decide_eq_true n0, Bool.true_or] at hq3
      repeat' (with_reducible first | refine Q1 ?_ | refine Qe ?_ | refine QQ ?_ | (refine al_go ?_; intro b) | (refine Qa ?_; intro o' ho') | (refine Qp ?_; intro o' ho') | (refine QD ?_ <;> (try constructor) <;> intro hb <;> try intro hb1) | fail)
      refine ⟨i + 1, .box pb 119 [.sl o' (X2.map encB ++ [encB w]), .b true] :: .room o' 5 1 (X2.map encB ++ [encB w]).length :: s, (by (repeat (first | exact List.Sublist.refl _ | with_reducible apply List.Sublist.cons_cons | apply List.Sublist.cons))), ⟨hlt, ?_, ?_, ?_, ?_, ?_, o', X2 ++ [w], true, ho', hX3, hXl3, hq3, ?_⟩, ?_⟩
      rotate_right 2
      · unfold penR; rw [List.map_append]; rfl
      all_goals exact Qf
    · rw [decide_eq_false n0, Bool.false_or] at hq3
      by_cases n2 : 255 < n
      · rw [decide_eq_true n2] at hq3
        repeat' (with_reducible first | refine Q1 ?_ | refine Qe ?_ | refine QQ ?_ | (refine al_go ?_; intro b) | (refine Qa ?_; intro o' ho') | (refine Qp ?_; intro o' ho') | (refine QD ?_ <;> (try constructor) <;> intro hb <;> try intro hb1) | fail)
        refine ⟨i + 1, .box pb 119 [.sl o' (X2.map encB ++ [encB w]), .b true] :: .room o' 5 1 (X2.map encB ++ [encB w]).length :: s, (by (repeat (first | exact List.Sublist.refl _ | with_reducible apply List.Sublist.cons_cons | apply List.Sublist.cons))), ⟨hlt, ?_, ?_, ?_, ?_, ?_, o', X2 ++ [w], true, ho', hX3, hXl3, hq3, ?_⟩, ?_⟩
        rotate_right 2
        · unfold penR; rw [List.map_append]; rfl
        all_goals exact Qf
      · rw [decide_eq_false n2] at hq3
        repeat' (with_reducible first | refine Q1 ?_ | refine Qe ?_ | refine QQ ?_ | (refine al_go ?_; intro b) | (refine Qa ?_; intro o' ho') | (refine Qp ?_; intro o' ho') | (refine QD ?_ <;> (try constructor) <;> intro hb <;> try intro hb1) | fail)
        refine ⟨i + 1, .box pb 119 [.sl o' (X2.map encB ++ [encB w]), .b false] :: .room o' 5 1 (X2.map encB ++ [encB w]).length :: s, (by (repeat (first | exact List.Sublist.refl _ | with_reducible apply List.Sublist.cons_cons | apply List.Sublist.cons))), ⟨hlt, ?_, ?_, ?_, ?_, ?_, o', X2 ++ [w], false, ho', hX3, hXl3, hq3, ?_⟩, ?_⟩
        rotate_right 2
        · unfold penR; rw [List.map_append]; rfl
        all_goals exact Qf
 · obtain rfl : i = l.length := by omega
   repeat' (with_reducible first | refine Q1 ?_ | refine Qe ?_ | refine QQ ?_ | (refine al_go ?_; intro b) | (refine Qa ?_; intro o' ho') | (refine Qp ?_; intro o' ho') | (refine QD ?_ <;> (try constructor) <;> intro hb <;> try intro hb1) | fail)
   all_goals (refine retA_mk (by simp) (by first | rfl | assumption) (List.Sublist.refl _) (LE.of_eq rfl) ⟨o, ho, rfl, ?_⟩; rw [hXe.out, hqe.out])
theorem penValueF (pb : Nat) (v : V) (hv : VQ v) (X : List UInt8) (q : Bool) (hX : X.length ≤ 10000000000000) : PenC 101 [.ptr pb 0, .agg v.cells] pb X v.bin q (decide (v.bin = [])) := by
 intro o ho s
 have hB := binValueF v.nodes v (Nat.le_refl _) (by have := hv.nodes; omega) hv.ok
 have hbl := Reg.bin_len v
 have hm : (v.bin.map encB).length = v.bin.length := List.length_map ..
 have hXm : (X.map encB).length = X.length := List.length_map ..
 have hn : Hid (decide (v.bin = []) = decide ((v.bin.length : Int) = 0)) := Lib.hid (by
  cases v.bin with
  | nil => rfl
  | cons a l => rw [decide_eq_false (by intro h; cases h), decide_eq_false (by rw [List.length_cons]; omega)])
 rw [hn.out]
 clear hn
 generalize v.bin = Y at *
 cases v with
 | mk k n sv lv =>
 rw [V.cells_mk] at *
 generalize lv.map V.cells = VL at *
 clear hv
 replace hB := Lib.hid hB
 have happ : (X ++ Y).map encB = X.map encB ++ Y.map encB := List.map_append ..
 by_cases h0 : (Y.length : Int) = 0
 · rw [decide_eq_true h0, Bool.or_true]
   cases q
   all_goals (
    refine Qin [] Tryz.func101 Tryz.results101 Tryz.ntmps101 ?_
    repeat' (first | (with_reducible first | refine Q1 ?_ | refine Qe ?_ | refine QQ ?_ | (refine al_go ?_; intro b) | (refine Qa ?_; intro o' ho') | (refine Qp ?_; intro o' ho') | (refine QD ?_ <;> (try constructor) <;> intro hb <;> try intro hb1) | fail) | (refine QE Tryz.call138 (hB.out _) ?_; intro o1 ho1) | fail)
    all_goals (refine retA_mk (by simp) (by first | rfl | assumption) (st' := .box pb 119 [.sl o' (X.map encB ++ Y.map encB), .b true] :: .room o' 5 1 (X.map encB ++ Y.map encB).length :: s) (by (repeat (first | exact List.Sublist.refl _ | with_reducible apply List.Sublist.cons_cons | apply List.Sublist.cons))) (LE.of_eq rfl) ⟨o', ho', rfl, ?_⟩; unfold penR; rw [happ]))
 · rw [decide_eq_false h0, Bool.or_false]
   have h0b : ((Y.length : Int) == 0) = false := beq_eq_false_iff_ne.2 h0
   cases q
   all_goals (
    refine Qin [] Tryz.func101 Tryz.results101 Tryz.ntmps101 ?_
    repeat' (first | (with_reducible first | refine Q1 ?_ | refine Qe ?_ | refine QQ ?_ | (refine al_go ?_; intro b) | (refine Qa ?_; intro o' ho') | (refine Qp ?_; intro o' ho') | (refine QD ?_ <;> (try constructor) <;> intro hb <;> try intro hb1) | fail) | (refine QE Tryz.call138 (hB.out _) ?_; intro o1 ho1) | fail)
    all_goals (refine retA_mk (by simp) (by first | rfl | assumption) (st' := .box pb 119 [.sl o' (X.map encB ++ Y.map encB), .b _] :: .room o' 5 1 (X.map encB ++ Y.map encB).length :: s) (by (repeat (first | exact List.Sublist.refl _ | with_reducible apply List.Sublist.cons_cons | apply List.Sublist.cons))) (LE.of_eq rfl) ⟨o', ho', rfl, ?_⟩; unfold penR; rw [happ]))
end Go.Proofs.YtgcienlfpnpbgaaGreat
end
section
namespace Go.Proofs.YtgcienlfpnpbgaaGreat
attribute [local push_cast] encB encI encC encBs V.cells_mk V.cells_len Nat.mul_one Int.sub_zero List.map_nil beq_self_eq_true bne_self_eq_false List.head?_cons
open Go.RowKit B
set_option maxHeartbeats 8000000
set_option maxRecDepth 10000
namespace Reg
def SlP (s : Sl) : Prop := s.name.size ≤ 300 ∧ s.dv.nodes ≤ 1000 ∧ s.dv.Ok
def StP (p : Stp) : Prop := SlP p.slot ∧ p.order.length ≤ 1000
structure TmP (t : Tm) : Prop where
 nm : t.name.size ≤ 300
 ls : t.slots.length ≤ 8
 lt : t.steps.length ≤ 8
 os : ∀ s ∈ t.slots, SlP s
 ot : ∀ s ∈ t.steps, StP s
def listB {α : Type} (f : α → List UInt8) (l : List α) : List UInt8 := be 4 l.length ++ (l.map f).flatten
theorem listB_len {α : Type} (f : α → List UInt8) (k : Nat) : ∀ (l : List α), (∀ x ∈ l, (f x).length ≤ k) → (listB f l).length ≤ 4 + l.length * k := fun l h => by
 unfold listB
 rw [List.length_append, be_len]
 have : ∀ l : List α, (∀ x ∈ l, (f x).length ≤ k) → (l.map f).flatten.length ≤ l.length * k := fun l => by
  induction l with
  | nil => intro _; simp
  | cons a l ih =>
   intro h
   have h1 := ih fun x hx => h x (List.mem_cons_of_mem _ hx)
   have h2 := h a (List.mem_cons_self ..)
   rw [List.map_cons, List.flatten_cons, List.length_append, List.length_cons, Nat.add_mul]
   omega
 have := this l h
 omega
def tmP (t : Tm) : List (List UInt8) := [tx t.name.data.toList, listB slotB t.slots, listB stepB t.steps]
def tmB (t : Tm) : List UInt8 := (tmP t).flatten
def put (L : List Tm) : List UInt8 := if right L = true then listB tmB L else []
end Reg
end Go.Proofs.YtgcienlfpnpbgaaGreat
end
section
namespace Go.Proofs.YtgcienlfpnpbgaaGreat
attribute [local push_cast] encB encI encC V.cells_mk V.cells_len Nat.mul_one Int.sub_zero List.map_nil beq_self_eq_true bne_self_eq_false List.head?_cons
open Go.RowKit
set_option maxHeartbeats 8000000
set_option maxRecDepth 10000
namespace Reg
def all2 {α : Type} (f : α → α → Bool) : List α → List α → Bool
 | [], [] => true
 | a :: l, b :: m => f a b && all2 f l m
 | _, _ => false
theorem all2_len {α : Type} {f : α → α → Bool} : ∀ (a b : List α), all2 f a b = true → a.length = b.length
 | [], [], _ => rfl
 | s :: a, v :: b, h => by
  rw [all2, Bool.and_eq_true] at h
  rw [List.length_cons, List.length_cons, all2_len a b h.2]
 | [], _ :: _, h => by cases h
 | _ :: _, [], h => by cases h
theorem all2_drop {α : Type} {f : α → α → Bool} {a b : List α} {i : Nat} {s v : α} (h1 : a[i]? = some s) (h2 : b[i]? = some v) : all2 f (a.drop i) (b.drop i) = (f s v && all2 f (a.drop (i + 1)) (b.drop (i + 1))) := by
 obtain ⟨k1, rfl⟩ := List.getElem?_eq_some_iff.1 h1
 obtain ⟨k2, rfl⟩ := List.getElem?_eq_some_iff.1 h2
 rw [List.drop_eq_getElem_cons k1, List.drop_eq_getElem_cons k2, all2]
def slotS (a b : Sl) : Bool := (a.name.toList == b.name.toList) && ((a.types == b.types) && ((a.req == b.req) && (a.dv.cmp b.dv == 0)))
def stepS (a b : Stp) : Bool := (a.kind == b.kind) && ((a.col == b.col) && (slotS a.slot b.slot && all2 (· == ·) a.order b.order))
def tmS (a b : Tm) : Bool := (a.name.toList == b.name.toList) && (all2 slotS a.slots b.slots && all2 stepS a.steps b.steps)
def same (a b : List Tm) : Bool := all2 tmS a b
structure TmQ (t : Tm) : Prop where
 ls : t.slots.length ≤ 1000000
 lt : t.steps.length ≤ 1000000
 os : ∀ s ∈ t.slots, s.dv.Bg
 ot : ∀ s ∈ t.steps, s.slot.dv.Bg ∧ s.order.length ≤ 1000000
end Reg
end Go.Proofs.YtgcienlfpnpbgaaGreat
end
section
namespace Go.Proofs.YtgcienlfpnpbgaaGreat
open Go.RowKit
namespace RS
theorem vals_nodes {f : RS → V × RS} {B : Nat} (hf : ∀ s, (f s).1.nodes ≤ B) : ∀ n s, V.nodesL (vals f n s).1 ≤ n * B
 | 0, s => by rw [vals]; simp [V.nodesL]
 | n + 1, s => by
  rw [vals]
  split
  · simp [V.nodesL]
  · have h1 := vals_nodes hf n (f s).2
    have h2 := hf s
    dsimp only
    rw [V.nodesL, Nat.succ_mul]
    omega
theorem body_nodes {f : Option (RS → V × RS)} {B : Nat} (hf : ∀ g, f = some g → ∀ s, (g s).1.nodes ≤ B) (s : RS) : (body f s).1.nodes ≤ 1 + 20 * B := by
 unfold body
 split
 · simp [V.nodes, V.nodesL]
 split
 · simp [V.nodes, V.nodesL]
 split
 · simp [V.nodes, V.nodesL]
 split
 · unfold list5
   cases f with
   | none => simp [V.nodes, V.nodesL]
   | some g =>
    dsimp only
    split
    · simp [V.nodes, V.nodesL]
    · rename_i hn
      have h1 := vals_nodes (hf g rfl) s.byte.2.rnum.1.toNat s.byte.2.rnum.2
      have h2 : s.byte.2.rnum.1.toNat * B ≤ 20 * B := Nat.mul_le_mul_right _ (by omega)
      dsimp only
      rw [V.nodes]
      omega
 · simp [V.nodes, V.nodesL]
theorem value_nodes4 (s : RS) : (value 4 s).1.nodes ≤ 4611686018427387904 := by
 have h0 := fun s => body_nodes (f := none) (B := 0) (fun g h => by cases h) s
 have h1 := fun s => body_nodes (f := some (value 0)) (B := 1 + 20 * 0) (fun g h => by cases h; exact h0) s
 have h2 := fun s => body_nodes (f := some (value 1)) (B := 1 + 20 * (1 + 20 * 0)) (fun g h => by cases h; exact h1) s
 have h3 := fun s => body_nodes (f := some (value 2)) (B := 1 + 20 * (1 + 20 * (1 + 20 * 0))) (fun g h => by cases h; exact h2) s
 have h4 := body_nodes (f := some (value 3)) (B := 1 + 20 * (1 + 20 * (1 + 20 * (1 + 20 * 0)))) (fun g h => by cases h; exact h3) s
 exact Nat.le_trans h4 (by decide)
end RS
end Go.Proofs.YtgcienlfpnpbgaaGreat
end
section
namespace Go.Proofs.YtgcienlfpnpbgaaGreat
attribute [local push_cast] encB encI RS.cells V.cells_mk V.cells_len Nat.mul_one Int.sub_zero List.map_nil beq_self_eq_true bne_self_eq_false List.head?_cons
open Go.RowKit B
set_option maxHeartbeats 8000000
set_option maxRecDepth 10000
namespace Reg
def rdL {α : Type} (f : RS → α × RS) : Nat → RS → List α × RS
 | 0, s => ([], s)
 | n + 1, s => if s.bad = true then ([], s) else ((f s).1 :: (rdL f n (f s).2).1, (rdL f n (f s).2).2)
def rlist {α : Type} (f : RS → α × RS) (k : Int) (s : RS) : List α × RS := rdL f (if k < s.rnum.1 then k else s.rnum.1).toNat s.rnum.2
def slot0 : Sl := ⟨⟨#[]⟩, 0, false, V.zero⟩
def getSlot (s : RS) : Sl × RS :=
 (⟨if 1 < s.text.2.byte.2.byte.1 then ⟨#[]⟩ else s.text.1, s.text.2.byte.1, s.text.2.byte.2.byte.1 == 1, s.text.2.byte.2.byte.2.val.1⟩, s.text.2.byte.2.byte.2.val.2)
def getStep (s : RS) : Stp × RS :=
 if s.byte.1 = 1 then (⟨1, 0, (getSlot s.byte.2).1, []⟩, (getSlot s.byte.2).2)
 else if s.byte.1 = 2 then (⟨2, s.byte.2.byte.1, slot0, []⟩, s.byte.2.byte.2)
 else if s.byte.1 = 3 then (⟨3, s.byte.2.byte.1, { slot0 with name := s.byte.2.byte.2.text.1 }, []⟩, s.byte.2.byte.2.text.2)
 else if s.byte.1 = 4 then (⟨4, s.byte.2.byte.1, { slot0 with types := s.byte.2.byte.2.byte.1 }, []⟩, s.byte.2.byte.2.byte.2)
 else if s.byte.1 = 5 then (⟨5, 0, slot0, (rlist RS.byte 9 s.byte.2).1⟩, (rlist RS.byte 9 s.byte.2).2)
 else (⟨s.byte.1, 0, slot0, []⟩, s.byte.2)
def getTm (s : RS) : Tm × RS :=
 (⟨s.text.1, (rlist getSlot 9 s.text.2).1, (rlist getStep 9 (rlist getSlot 9 s.text.2).2).1⟩, (rlist getStep 9 (rlist getSlot 9 s.text.2).2).2)
def read (s : RS) : Option (List Tm) × RS :=
 if (rlist getTm 7 s).2.bad = true ∨ right (rlist getTm 7 s).1 = false then (none, (rlist getTm 7 s).2) else (some (rlist getTm 7 s).1, (rlist getTm 7 s).2)
end Reg
theorem Stp.cells_mk (kind col : Int) (nm : ByteArray) (ty : Int) (rq : Bool) (k n : Int) (sv : ByteArray) (lv : List V) (order : List Int) : (Stp.mk kind col (Sl.mk nm ty rq (.mk k n sv lv)) order).cells = [.i kind, .i col, .str nm, .i ty, .b rq, .i k, .i n, .str sv, .sl .shared (lv.map V.cells), .sl .shared (order.map encI)] := by
 unfold Stp.cells
 rw [Sl.cells_mk]; rfl
theorem Tm.cells_mk (nm : ByteArray) (ss : List Sl) (tt : List Stp) : (Tm.mk nm ss tt).cells = [.str nm, .sl .shared (ss.map Sl.cells), .sl .shared (tt.map Stp.cells)] := rfl
namespace Reg
def get (b : List UInt8) : Option (List Tm) := if (read ⟨.shared, b, false⟩).1.isSome = true ∧ (read ⟨.shared, b, false⟩).2.bad = false ∧ (read ⟨.shared, b, false⟩).2.l.length = 0 then (read ⟨.shared, b, false⟩).1 else none
end Reg
theorem cloneB2F (o : Own) (l : List UInt8) (hl : l.length ≤ 10000000) (st : St) : TrF Tryz.prog 72 [.sl o (l.map encB)] st fun d st' => d = .sl .shared (l.map encB) ∧ st' = st := by
 refine Qin [2] Tryz.func72 Tryz.results72 Tryz.ntmps72 ?_
 refine tr_room 5 1 0 ?_
 repeat' (first | (with_reducible first | refine Q1 ?_ | refine Qe ?_ | fail) | ((with_reducible apply s_isNil); (focus ((try simp (disch := omega) only [push_cast, simprocAttr, *]); (try exact rfl); done)); (focus ((try simp (disch := omega) only [push_cast, simprocAttr, *]); (try exact rfl); done)); intro bn hbn) | (with_reducible first | refine QQ ?_ | (refine al_go ?_; intro b) | (refine Qa ?_; intro o' ho') | (refine Qp ?_; intro o' ho') | (refine QD ?_ <;> (try constructor) <;> intro hb <;> try intro hb1) | fail) | fail)
 · have h := hbn hb
   rw [h]
   clear hbn hb h
   exact Qret
 · exact Qret
theorem binRead2F (o : Own) (l : List UInt8) (hl : l.length ≤ 10000000) (st : St) : TrF Tryz.prog 27 [.sl o (l.map encB)] st fun d st' => ∃ b, d = .ptr b 0 ∧ st' = rdR b ⟨.shared, l, false⟩ :: st := by
 have hC := Lib.hid (cloneB2F o l hl)
 refine Qin [2] Tryz.func27 Tryz.results27 Tryz.ntmps27 ?_
 repeat' (with_reducible first | refine Q1 ?_ | refine Qe ?_ | refine s_boxP ?_ | refine QQ ?_ | (refine al_go ?_; intro b) | (refine Qa ?_; intro o' ho') | (refine Qp ?_; intro o' ho') | (refine QD ?_ <;> (try constructor) <;> intro hb <;> try intro hb1) | fail)
 refine ret_new (b := b) (B := fun b => rdR b ⟨.shared, l, false⟩) (by first | exact .inl rfl | exact .inr rfl) (Qf) (Qf) (.refl _)
end Go.Proofs.YtgcienlfpnpbgaaGreat
end
section
namespace Go.Proofs.YtgcienlfpnpbgaaGreat
open Go.RowKit B
namespace B
theorem fold_num : ∀ (l : List UInt8) (a : Nat), l.foldl (fun n c => n * 256 + c.toNat) a = a * 256 ^ l.length + num l
 | [], a => by simp [num]
 | c :: l, a => by
  have h1 := fold_num l (a * 256 + c.toNat)
  have h2 := fold_num l (0 * 256 + c.toNat)
  unfold num
  rw [List.foldl_cons, List.foldl_cons, h1, h2, List.length_cons, Nat.pow_succ, Nat.zero_mul, Nat.zero_add, Nat.add_mul, Nat.mul_assoc, Nat.mul_comm 256 (256 ^ l.length)]
  omega
theorem num_cons (c : UInt8) (l : List UInt8) : num (c :: l) = c.toNat * 256 ^ l.length + num l := by
 have := fold_num l (0 * 256 + c.toNat)
 rw [Nat.zero_mul, Nat.zero_add] at this
 rw [← this]; unfold num; rw [List.foldl_cons, Nat.zero_mul, Nat.zero_add]
theorem num_be : ∀ m x, num (be m x) = x % 256 ^ m
 | 0, x => by simp [be, num, Nat.mod_one]
 | m + 1, x => by
  rw [be, num_cons, be_len, num_be m x, UInt8.toNat_ofNat', show 256 ^ (m + 1) = 256 ^ m * 256 from Nat.pow_succ .., Nat.mod_mul (x := x) (a := 256 ^ m) (b := 256), Nat.mul_comm, Nat.add_comm]
end B
namespace RS
theorem byte_cons (o : Own) (c : UInt8) (l : List UInt8) : byte ⟨o, c :: l, false⟩ = ((c.toNat : Int), (⟨.shared, l, false⟩ : RS)) := rfl
theorem rnum_be (o : Own) (n : Nat) (hn : n ≤ 2147483647) (l : List UInt8) : rnum ⟨o, be 4 n ++ l, false⟩ = ((n : Int), (⟨.shared, l, false⟩ : RS)) := by
 have h4 := be_len 4 n
 unfold rnum
 dsimp only
 rw [if_neg (by rw [List.length_append, h4]; simp <;> omega), show (be 4 n ++ l).take 4 = be 4 n from List.take_left' h4, num_be]
 have : n % 256 ^ 4 = n := Nat.mod_eq_of_lt (by omega)
 rw [this, if_pos hn]
 unfold cut
 dsimp only
 rw [show (be 4 n ++ l).drop 4 = l from List.drop_left' h4]
theorem wrap_wrap (m : Int) (hm : -9223372036854775808 ≤ m ∧ m ≤ 9223372036854775807) : IntKind.i64.wrap ((IntKind.u64.wrap m).toNat : Int) = m := by
 simp [IntKind.wrap, IntKind.bits, IntKind.signed]; omega
theorem long_be (o : Own) (m : Int) (hm : -9223372036854775808 ≤ m ∧ m ≤ 9223372036854775807) (l : List UInt8) : long ⟨o, be 8 (IntKind.u64.wrap m).toNat ++ l, false⟩ = (m, (⟨.shared, l, false⟩ : RS)) := by
 have h8 := be_len 8 (IntKind.u64.wrap m).toNat
 unfold long
 dsimp only
 rw [if_neg (by rw [List.length_append, h8]; simp <;> omega), show (be 8 (IntKind.u64.wrap m).toNat ++ l).take 8 = be 8 (IntKind.u64.wrap m).toNat from List.take_left' h8, num_be]
 have : (IntKind.u64.wrap m).toNat % 256 ^ 8 = (IntKind.u64.wrap m).toNat := Nat.mod_eq_of_lt (by simp [IntKind.wrap, IntKind.bits, IntKind.signed] <;> omega)
 rw [this, wrap_wrap m hm]
 unfold cut
 dsimp only
 rw [show (be 8 (IntKind.u64.wrap m).toNat ++ l).drop 8 = l from List.drop_left' h8]
theorem text_tx (o : Own) (s : ByteArray) (hs : s.size ≤ 2147483647) (l : List UInt8) : text ⟨o, tx s.data.toList ++ l, false⟩ = (s, (⟨.shared, l, false⟩ : RS)) := by
 have hl : s.data.toList.length = s.size := by simp
 unfold text tx
 rw [List.append_assoc, hl, rnum_be o s.size hs]
 unfold textN
 dsimp only
 rw [if_neg (by rw [List.length_append, hl]; simp <;> omega), Int.toNat_natCast]
 unfold cut
 dsimp only
 rw [show (s.data.toList ++ l).take s.size = s.data.toList from List.take_left' hl, show (s.data.toList ++ l).drop s.size = l from List.drop_left' hl]
theorem vals_put {f : RS → V × RS} (l0 : List UInt8) : ∀ (l : List V), (∀ x ∈ l, ∀ r, f ⟨.shared, x.put ++ r, false⟩ = (x, ⟨.shared, r, false⟩)) → vals f l.length ⟨.shared, V.putL l ++ l0, false⟩ = (l, ⟨.shared, l0, false⟩)
 | [], _ => by simp [vals, V.putL]
 | x :: l, h => by
  rw [List.length_cons, vals, if_neg (by simp), V.putL, List.append_assoc, h x (List.mem_cons_self ..)]
  dsimp only
  rw [vals_put l0 l fun y hy => h y (List.mem_cons_of_mem _ hy)]
theorem empty_of {s : ByteArray} (h : s.size = 0) : s = ⟨#[]⟩ := by
 apply ByteArray.ext
 apply Array.ext'
 have : s.data.toList.length = s.size := by simp
 exact List.eq_nil_of_length_eq_zero (by omega)
theorem deepL_mem {x : V} : ∀ {l : List V}, x ∈ l → x.deep ≤ V.deepL l
 | y :: l, h => by
  rw [V.deepL]
  rcases List.mem_cons.1 h with rfl | h
  · omega
  · have := deepL_mem h; omega
theorem value_put : ∀ (d : Nat) (v : V), v.parts = true → v.deep ≤ d → v.Ok → ∀ (o : Own) (r : List UInt8), value d ⟨o, v.put ++ r, false⟩ = (v, (⟨.shared, r, false⟩ : RS)) := fun d => by
 induction d using Nat.strongRecOn with
 | _ d IH =>
 intro v
 cases v with
 | mk k n s l =>
 intro hp hd hok o r
 obtain ⟨-, hkn, -, -, hall⟩ := hok
 obtain ⟨h1, h2, h3⟩ := V.parts_facts hp
 obtain ⟨f1, f2, f3, f4, f5, f6⟩ := V.sgl_facts h1
 have hsub : value d = body (match d with | 0 => none | e + 1 => some (value e)) := by cases d <;> rfl
 rw [hsub, V.put, List.cons_append]
 have hkb : ((UInt8.ofNat k.toNat).toNat : Int) = k := by rw [UInt8.toNat_ofNat']; omega
 unfold body
 rw [byte_cons, hkb]
 dsimp only
 have hse : k ≠ 3 ∧ k ≠ 4 → s = ⟨#[]⟩ := fun h => empty_of (f5 h)
 have hle : k ≠ 5 → l = [] := fun h => h2.resolve_left h
 have hn0 : k ≠ 1 ∧ k ≠ 2 → n = 0 := fun h => by
  unfold V.sgl at h1
  by_cases k0 : k = 0
  · subst k0; simp at h1; exact h1.1
  rw [if_neg k0, if_neg h.1, if_neg h.2] at h1
  by_cases k3 : k = 3
  · subst k3; simp at h1; exact h1.1
  rw [if_neg k3] at h1
  by_cases k4 : k = 4
  · subst k4; simp at h1; exact h1.1
  rw [if_neg k4] at h1
  by_cases k5 : k = 5
  · subst k5; simp at h1; exact h1.1
  rw [if_neg k5] at h1; cases h1
 by_cases k1 : k = 1
 · subst k1
   have hn := f3 (by omega)
   have hnb : ((UInt8.ofNat n.toNat).toNat : Int) = n := by rw [UInt8.toNat_ofNat']; omega
   rw [if_pos rfl, if_pos rfl, List.singleton_append, byte_cons, hnb, hse (by omega), hle (by omega)]
 rw [if_neg k1, if_neg k1]
 by_cases k2 : k = 2
 · subst k2
   rw [if_pos rfl, if_pos rfl, long_be _ n hkn, hse (by omega), hle (by omega)]
 rw [if_neg k2, if_neg k2]
 by_cases k34 : k = 3 ∨ k = 4
 · rw [if_pos k34, if_pos k34, text_tx _ s (by omega), hn0 (by omega), hle (by omega)]
 rw [if_neg k34, if_neg k34]
 by_cases k5 : k = 5
 · subst k5
   rw [if_pos rfl, if_pos rfl, List.append_assoc, rnum_be _ l.length (by have := f6 rfl; omega)]
   dsimp only
   rw [V.deep, if_pos (.inl rfl)] at hd
   obtain ⟨e, rfl⟩ : ∃ e, d = e + 1 := ⟨d - 1, by omega⟩
   unfold list5
   dsimp only
   rw [if_neg (by have := f6 rfl; omega), Int.toNat_natCast, vals_put r l fun x hx r => IH e (by omega) x (h3 x hx) (by
    have := deepL_mem hx
    omega) (hall x hx) _ r, hn0 (by omega), hse (by omega)]
 · rw [if_neg k5, if_neg k5, List.nil_append, hn0 (by omega), hse (by omega), hle k5]
theorem val_put {v : V} (hr : v.right = true) (hok : v.Ok) (o : Own) (r : List UInt8) : val ⟨o, v.put ++ r, false⟩ = (v, (⟨.shared, r, false⟩ : RS)) := by
 obtain ⟨h1, h2, h3⟩ := V.right_iff.1 hr
 unfold val
 rw [if_neg (by simp), value_put 4 v h1 h2 hok, if_neg (by simp [hr])]
end RS
namespace RS
def Ex {α : Type} (f : RS → α × RS) : Prop := ∀ o l x o' r, f ⟨o, l, false⟩ = (x, ⟨o', r, false⟩) → ∀ q, f ⟨o, l ++ q, false⟩ = (x, ⟨o', r ++ q, false⟩)
def Bd {α : Type} (f : RS → α × RS) : Prop := ∀ s, s.bad = true → (f s).2.bad = true
end RS
end Go.Proofs.YtgcienlfpnpbgaaGreat
end
section
namespace Go.Proofs.YtgcienlfpnpbgaaGreat
open Go.RowKit
namespace Sch
def cut (t : Tm) (k : Nat) : Tm := ⟨t.name, t.slots, t.steps.take k⟩
theorem last_len {t : Tm} (h : 0 < last t) : (vers t).length = t.steps.length + 1 ∧ last t = t.steps.length + 1 := by
 unfold last at h ⊢
 split at h
 · rename_i hl
   rw [if_pos hl]; exact ⟨hl, rfl⟩
 · omega
theorem modify_get {α : Type} {l : List α} {f : α → α} {i j : Nat} {y : α} (h : l[j]? = some y) : (l.modify i f)[j]? = some (if i = j then f y else y) := by
 rw [List.getElem?_modify, h]
 split <;> rfl
theorem step_dv {Q : V → Prop} {x y : Vr} {s : Stp} (hx : ∀ z ∈ x.slots, Q z.dv) (hs : Q s.slot.dv) (h : stepV x s = some y) : ∀ z ∈ y.slots, Q z.dv := by
 have hmod : ∀ (l : List Sl) (f : Sl → Sl) (i : Nat), (∀ z, (f z).dv = z.dv) → (∀ z ∈ l, Q z.dv) → ∀ z ∈ l.modify i f, Q z.dv := by
  intro l f i hf hl z hz
  obtain ⟨j, hj⟩ := List.getElem?_of_mem hz
  cases hlj : l[j]? with
  | none => rw [List.getElem?_modify, hlj] at hj; simp at hj
  | some w =>
   rw [modify_get hlj] at hj
   have hw := hl w (List.mem_of_getElem? hlj)
   cases hj
   split
   · rw [hf]; exact hw
   · exact hw
 unfold stepV at h
 split at h
 · unfold addS at h
   split at h
   · cases h
     intro z hz
     rcases List.mem_append.1 hz with h | h
     · exact hx z h
     · rw [List.mem_singleton] at h
       subst h; exact hs
   · cases h
 · split at h
   · unfold loseS at h
     split at h
     · cases h; exact hx
     · cases h
   · split at h
     · unfold renameS at h
       split at h
       · cases h; exact hmod _ _ _ (fun _ => rfl) hx
       · cases h
     · split at h
       · unfold widenS at h
         split at h
         · cases h; exact hmod _ _ _ (fun _ => rfl) hx
         · cases h
       · split at h
         · unfold reorderS at h
           split at h
           · cases hr : reo x.cols s.order [] with
             | none => rw [hr] at h; cases h
             | some r => rw [hr] at h; cases h; exact hx
           · cases h
         · cases h
theorem versL_dv {Q : V → Prop} : ∀ (l : List Stp) (x : Vr), (∀ z ∈ x.slots, Q z.dv) → (∀ s ∈ l, Q s.slot.dv) → ∀ y ∈ versL x l, ∀ z ∈ y.slots, Q z.dv
 | [], _, _, _, y, hy => by cases hy
 | s :: l, x, hx, hl, y, hy => by
  rw [versL] at hy
  cases hs : stepV x s with
  | none => rw [hs] at hy; cases hy
  | some z =>
   rw [hs] at hy
   have hz := step_dv hx (hl s (List.mem_cons_self ..)) hs
   rcases List.mem_cons.1 hy with rfl | hy
   · exact hz
   · exact versL_dv l z hz (fun s hs => hl s (List.mem_cons_of_mem _ hs)) y hy
theorem vers_dv {Q : V → Prop} {t : Tm} (hs : ∀ s ∈ t.slots, Q s.dv) (ht : ∀ s ∈ t.steps, Q s.slot.dv) : ∀ y ∈ vers t, ∀ z ∈ y.slots, Q z.dv := by
 intro y hy
 unfold vers at hy
 split at hy
 · cases hy
 · rename_i x hx
   obtain ⟨-, k3, -⟩ := first_vi hx
   rcases List.mem_cons.1 hy with rfl | hy
   · rw [k3]; exact hs
   · exact versL_dv _ _ (by rw [k3]; exact hs) ht y hy
end Sch
structure Rc where
 v : Int
 s : List V
def Rc.cells (r : Rc) : List D := [.i r.v, .sl .shared (r.s.map V.cells)]
namespace Sch
structure Grow (a b : List Sl) : Prop where
 len : a.length ≤ b.length
 old : ∀ (i : Nat) (s : Sl), a[i]? = some s → ∃ s', b[i]? = some s' ∧ s'.dv = s.dv ∧ ∀ v, fits s v = true → fits s' v = true
theorem Grow.refl (a : List Sl) : Grow a a := ⟨Nat.le_refl _, fun _ s h => ⟨s, h, rfl, fun _ h => h⟩⟩
theorem Grow.trans {a b c : List Sl} (h : Grow a b) (k : Grow b c) : Grow a c := by
 refine ⟨Nat.le_trans h.len k.len, fun i s hs => ?_⟩
 obtain ⟨s1, h1, h2, h3⟩ := h.old i s hs
 obtain ⟨s2, k1, k2, k3⟩ := k.old i s1 h1
 exact ⟨s2, k1, k2.trans h2, fun v hv => k3 v (h3 v hv)⟩
structure SOk (s : Sl) : Prop where
 name : V.isName s.name.data.toList = true
 types : takes s.types = true
 def_ : fits s s.dv = true
theorem sound_ok {s : Sl} (h : sound s = true) : SOk s := by
 unfold sound at h
 rw [Bool.and_eq_true, Bool.and_eq_true] at h
 exact ⟨h.1.1, h.1.2, h.2⟩
theorem takes_iff {t : Int} : takes t = true ↔ 1 ≤ t ∧ t ≤ 63 := by
 unfold takes
 rw [Bool.and_eq_true, decide_eq_true_eq, decide_eq_true_eq]
theorem or_has (a b k : Nat) : has (a ||| b) k = (has a k || has b k) := by
 unfold has
 have h := Nat.testBit_or a b k
 simp only [Nat.testBit, Nat.shiftRight_eq_div_pow, Nat.one_and_eq_mod_two] at h
 rw [Bool.eq_iff_iff] at h ⊢
 simp only [bne_iff_ne, ne_eq, Bool.or_eq_true, beq_iff_eq] at h ⊢
 omega
theorem widen_nat {a b : Int} (ha : takes a = true) (hb : takes b = true) : ∃ (m n : Nat), a = m ∧ b = n ∧ m < 64 ∧ n < 64 ∧ bits .or .i64 a b = ((m ||| n : Nat) : Int) ∧ m ||| n < 64 := by
 rw [takes_iff] at ha hb
 obtain ⟨m, rfl⟩ := Int.eq_ofNat_of_zero_le (show 0 ≤ a by omega)
 obtain ⟨n, rfl⟩ := Int.eq_ofNat_of_zero_le (show 0 ≤ b by omega)
 have h := Nat.or_lt_two_pow (x := m) (y := n) (n := 6) (by omega) (by omega)
 exact ⟨m, n, rfl, rfl, by omega, by omega, i64_or_nat m n (by omega) (by omega), by omega⟩
theorem fits_types {s s' : Sl} {v : V} (h : ∀ k n sv l, v = .mk k n sv l → bit s.types k = true → bit s'.types k = true) (hv : fits s v = true) : fits s' v = true := by
 unfold fits at hv ⊢
 rw [Bool.and_eq_true] at hv ⊢
 cases v with
 | mk k n sv l => exact ⟨hv.1, h k n sv l rfl hv.2⟩
theorem step_grow {x y : Vr} {s : Stp} (hx : ∀ z ∈ x.slots, SOk z) (h : stepV x s = some y) : Grow x.slots y.slots ∧ ∀ z ∈ y.slots, SOk z := by
 unfold stepV at h
 split at h
 · unfold addS at h
   split at h
   · rename_i hc
     cases h
     refine ⟨⟨by simp, fun i z hz => ⟨z, ?_, rfl, fun _ h => h⟩⟩, fun z hz => ?_⟩
     · have := (List.getElem?_eq_some_iff.1 hz).1
       show (x.slots ++ [s.slot])[i]? = _
       rw [List.getElem?_append_left this]; exact hz
     · rcases List.mem_append.1 hz with h | h
       · exact hx z h
       · rw [List.mem_singleton] at h
         subst h; exact sound_ok hc.2.2.2.1
   · cases h
 · split at h
   · unfold loseS at h
     split at h
     · cases h; exact ⟨Grow.refl _, hx⟩
     · cases h
   · split at h
     · unfold renameS at h
       split at h
       · rename_i hc
         cases h
         refine ⟨⟨by simp, fun i z hz => ⟨_, modify_get hz, ?_, fun v hv => ?_⟩⟩, fun z hz => ?_⟩
         · split <;> rfl
         · split
           · exact hv
           · exact hv
         · obtain ⟨j, hj⟩ := List.getElem?_of_mem hz
           cases hlj : x.slots[j]? with
           | none => rw [List.getElem?_modify, hlj] at hj; simp at hj
           | some w =>
            rw [modify_get hlj] at hj
            have hw := hx w (List.mem_of_getElem? hlj)
            cases hj
            split
            · exact ⟨hc.2.2.1, hw.types, hw.def_⟩
            · exact hw
       · cases h
     · split at h
       · unfold widenS at h
         split at h
         · rename_i hc
           cases h
           have hbit : ∀ w : Sl, SOk w → ∀ v, fits w v = true → fits { w with types := bits .or .i64 w.types s.slot.types } v = true := fun w hw v hv => by
            obtain ⟨m, n, e1, e2, l1, l2, e3, l3⟩ := widen_nat hw.types hc.2.2.1
            refine fits_types (fun k nn sv l hve hb => ?_) hv
            subst hve
            have hr : (V.mk k nn sv l).right = true := by
             unfold fits at hv
             rw [Bool.and_eq_true] at hv
             exact hv.1
            obtain ⟨k1, k2⟩ := V.right_kind hr
            obtain ⟨kn, rfl⟩ := Int.eq_ofNat_of_zero_le k1
            show bit (bits .or .i64 w.types s.slot.types) kn = true
            rw [e3, bit_has _ _ (by omega), or_has]
            rw [e1, bit_has _ _ (by omega)] at hb
            rw [hb, Bool.true_or]
           refine ⟨⟨by simp, fun i z hz => ⟨_, modify_get hz, ?_, fun v hv => ?_⟩⟩, fun z hz => ?_⟩
           · split <;> rfl
           · split
             · exact hbit z (hx z (List.mem_of_getElem? hz)) v hv
             · exact hv
           · obtain ⟨j, hj⟩ := List.getElem?_of_mem hz
             cases hlj : x.slots[j]? with
             | none => rw [List.getElem?_modify, hlj] at hj; simp at hj
             | some w =>
              rw [modify_get hlj] at hj
              have hw := hx w (List.mem_of_getElem? hlj)
              cases hj
              split
              · refine ⟨hw.name, ?_, hbit w hw _ hw.def_⟩
                obtain ⟨m, n, e1, e2, l1, l2, e3, l3⟩ := widen_nat hw.types hc.2.2.1
                show takes (bits .or .i64 w.types s.slot.types) = true
                rw [e3, takes_iff]
                have hm : 1 ≤ m := by have := (takes_iff.1 hw.types).1; omega
                have : m ≤ m ||| n := Nat.left_le_or
                omega
              · exact hw
         · cases h
       · split at h
         · unfold reorderS at h
           split at h
           · cases hr : reo x.cols s.order [] with
             | none => rw [hr] at h; cases h
             | some r => rw [hr] at h; cases h; exact ⟨Grow.refl _, hx⟩
           · cases h
         · cases h
end Sch
end Go.Proofs.YtgcienlfpnpbgaaGreat
end
section
namespace Go.Proofs.YtgcienlfpnpbgaaGreat
open Go.RowKit B
set_option maxHeartbeats 4000000
namespace Reg
theorem byte_put (o : Own) (n : Int) (h : 0 ≤ n ∧ n ≤ 255) (l : List UInt8) : RS.byte ⟨o, byteB n ++ l, false⟩ = (n, (⟨.shared, l, false⟩ : RS)) := by
 have e : byteB n = [UInt8.ofNat n.toNat] := if_pos h
 rw [e, List.singleton_append, RS.byte_cons]
 have : ((UInt8.ofNat n.toNat).toNat : Int) = n := by
  rw [UInt8.toNat_ofNat']; omega
 rw [this]
theorem b8_put (o : Own) (n : Int) (h : 0 ≤ n ∧ n ≤ 255) (l : List UInt8) : RS.byte ⟨o, [b8 n] ++ l, false⟩ = (n, (⟨.shared, l, false⟩ : RS)) := by
 rw [List.singleton_append, RS.byte_cons]
 have : ((b8 n).toNat : Int) = n := by
  unfold b8
  rw [UInt8.toNat_ofNat']; omega
 rw [this]
theorem rdL_put {α : Type} {f : RS → α × RS} {g : α → List UInt8} (r : List UInt8) : ∀ (l : List α), (∀ x ∈ l, ∀ o r, f ⟨o, g x ++ r, false⟩ = (x, ⟨.shared, r, false⟩)) → rdL f l.length ⟨.shared, (l.map g).flatten ++ r, false⟩ = (l, (⟨.shared, r, false⟩ : RS))
 | [], _ => rfl
 | x :: l, h => by
  rw [List.length_cons, rdL, if_neg Bool.false_ne_true, List.map_cons, List.flatten_cons, List.append_assoc, h x (List.mem_cons_self ..)]
  dsimp only
  rw [rdL_put r l fun y hy => h y (List.mem_cons_of_mem _ hy)]
theorem rlist_put {α : Type} {f : RS → α × RS} {g : α → List UInt8} (k : Int) (l : List α) (hl : (l.length : Int) ≤ k) (hk : k ≤ 1000) (h : ∀ x ∈ l, ∀ o r, f ⟨o, g x ++ r, false⟩ = (x, ⟨.shared, r, false⟩)) (o : Own) (r : List UInt8) : rlist f k ⟨o, listB g l ++ r, false⟩ = (l, (⟨.shared, r, false⟩ : RS)) := by
 unfold rlist listB
 rw [List.append_assoc, RS.rnum_be o l.length (by omega)]
 dsimp only
 rw [if_neg (by omega), Int.toNat_natCast, rdL_put r l h]
structure SlG (s : Sl) : Prop where
 nm : s.name.size ≤ 300
 ty : 0 ≤ s.types ∧ s.types ≤ 255
 dv : s.dv.right = true
 ok : s.dv.Ok
def StG (p : Stp) : Prop :=
 (p.kind = 1 ∧ p.col = 0 ∧ SlG p.slot ∧ p.order = []) ∨ (p.kind = 2 ∧ (0 ≤ p.col ∧ p.col ≤ 255) ∧ p.slot = slot0 ∧ p.order = []) ∨
 (p.kind = 3 ∧ (0 ≤ p.col ∧ p.col ≤ 255) ∧ p.slot = { slot0 with name := p.slot.name } ∧ p.slot.name.size ≤ 300 ∧ p.order = []) ∨
 (p.kind = 4 ∧ (0 ≤ p.col ∧ p.col ≤ 255) ∧ p.slot = { slot0 with types := p.slot.types } ∧ (0 ≤ p.slot.types ∧ p.slot.types ≤ 255) ∧ p.order = []) ∨
 (p.kind = 5 ∧ p.col = 0 ∧ p.slot = slot0 ∧ p.order.length ≤ 8 ∧ ∀ k ∈ p.order, 0 ≤ k ∧ k ≤ 255)
structure TmG (t : Tm) : Prop where
 nm : t.name.size ≤ 300
 ls : t.slots.length ≤ 8
 lt : t.steps.length ≤ 8
 os : ∀ s ∈ t.slots, SlG s
 ot : ∀ s ∈ t.steps, StG s
theorem getSlot_put (s : Sl) (h : SlG s) (o : Own) (r : List UInt8) : getSlot ⟨o, slotB s ++ r, false⟩ = (s, (⟨.shared, r, false⟩ : RS)) := by
 have e : slotB s ++ r = tx s.name.data.toList ++ (byteB s.types ++ (byteB (if s.req then 1 else 0) ++ (s.dv.put ++ r))) := by
  unfold slotB slotP V.bin
  rw [if_pos h.dv]
  simp only [List.flatten_cons, List.flatten_nil, List.append_nil, List.append_assoc]
 have hq : (0 : Int) ≤ (if s.req then 1 else 0) ∧ (if s.req then 1 else 0 : Int) ≤ 255 := by split <;> omega
 unfold getSlot
 rw [e, RS.text_tx _ _ (by have := h.nm; omega)]
 dsimp only
 rw [byte_put _ _ h.ty]
 dsimp only
 rw [byte_put _ _ hq]
 dsimp only
 rw [RS.val_put h.dv h.ok]
 dsimp only
 cases s with
 | mk nm ty rq dv => cases rq <;> rfl
theorem getStep_put (p : Stp) (h : StG p) (o : Own) (r : List UInt8) : getStep ⟨o, stepB p ++ r, false⟩ = (p, (⟨.shared, r, false⟩ : RS)) := by
 cases p with
 | mk kind col slot order =>
 unfold StG at h
 dsimp only at h
 have f2 : ∀ a b : List UInt8, [a, b].flatten = a ++ b := fun a b => by simp
 unfold getStep
 rcases h with ⟨rfl, rfl, hs, rfl⟩ | ⟨rfl, hc, rfl, rfl⟩ | ⟨rfl, hc, hs, hn, rfl⟩ | ⟨rfl, hc, hs, hn, rfl⟩ | ⟨rfl, rfl, rfl, hl, hk⟩
 · rw [show stepB ⟨1, 0, slot, []⟩ = byteB 1 ++ slotB slot from f2 .., List.append_assoc, byte_put _ _ (by decide)]
   dsimp only
   rw [if_pos rfl, getSlot_put slot hs]
 · rw [show stepB ⟨2, col, slot0, []⟩ = byteB 2 ++ byteB col from f2 .., List.append_assoc, byte_put _ _ (by decide)]
   dsimp only
   rw [if_neg (by decide), if_pos rfl, byte_put _ _ hc]
 · rw [show stepB ⟨3, col, slot, []⟩ = (byteB 3 ++ byteB col) ++ tx slot.name.data.toList by unfold stepB; rw [if_pos rfl, f2]; exact congrArg (· ++ _) (f2 ..), List.append_assoc, List.append_assoc, byte_put _ _ (by decide)]
   dsimp only
   rw [if_neg (by decide), if_neg (by decide), if_pos rfl, byte_put _ _ hc]
   dsimp only
   rw [RS.text_tx _ _ (by omega)]
   dsimp only
   rw [← hs]
 · rw [show stepB ⟨4, col, slot, []⟩ = (byteB 4 ++ byteB col) ++ byteB slot.types by unfold stepB; rw [if_neg (by show ¬ (4 : Int) = 3; decide), if_pos rfl, f2]; exact congrArg (· ++ _) (f2 ..), List.append_assoc, List.append_assoc, byte_put _ _ (by decide)]
   dsimp only
   rw [if_neg (by decide), if_neg (by decide), if_neg (by decide), if_pos rfl, byte_put _ _ hc]
   dsimp only
   rw [byte_put _ _ hn]
   dsimp only
   rw [← hs]
 · have hm : order.map b8 = (order.map fun k => [b8 k]).flatten := by
    clear hl hk
    induction order with
    | nil => rfl
    | cons a l ih => rw [List.map_cons, List.map_cons, List.flatten_cons, ← ih]; rfl
   rw [show stepB ⟨5, 0, slot0, order⟩ = byteB 5 ++ listB (fun k => [b8 k]) order by unfold stepB; rw [if_neg (by show ¬ (5 : Int) = 3; decide), if_neg (by show ¬ (5 : Int) = 4; decide)]; unfold listB; rw [← hm, ← List.append_assoc]; exact congrArg (· ++ _) (f2 ..), List.append_assoc, byte_put _ _ (by decide)]
   dsimp only
   rw [if_neg (by decide), if_neg (by decide), if_neg (by decide), if_neg (by decide), if_pos rfl, rlist_put 9 order (by omega) (by decide) fun k hk2 o r => b8_put o k (hk k hk2) r]
theorem getTm_put (t : Tm) (h : TmG t) (o : Own) (r : List UInt8) : getTm ⟨o, tmB t ++ r, false⟩ = (t, (⟨.shared, r, false⟩ : RS)) := by
 have e : tmB t ++ r = tx t.name.data.toList ++ (listB slotB t.slots ++ (listB stepB t.steps ++ r)) := by
  unfold tmB tmP
  simp only [List.flatten_cons, List.flatten_nil, List.append_nil, List.append_assoc]
 unfold getTm
 rw [e, RS.text_tx _ _ (by have := h.nm; omega)]
 dsimp only
 rw [rlist_put 9 t.slots (by have := h.ls; omega) (by decide) fun s hs o r => getSlot_put s (h.os s hs) o r]
 dsimp only
 rw [rlist_put 9 t.steps (by have := h.lt; omega) (by decide) fun s hs o r => getStep_put s (h.ot s hs) o r]
theorem rlist_tms (L : List Tm) (hl : L.length ≤ 6) (h : ∀ t ∈ L, TmG t) (o : Own) (r : List UInt8) : rlist getTm 7 ⟨o, listB tmB L ++ r, false⟩ = (L, (⟨.shared, r, false⟩ : RS)) :=
 rlist_put 7 L (by omega) (by decide) (fun t ht o r => getTm_put t (h t ht) o r) o r
theorem read_put (L : List Tm) (hr : right L = true) (hl : L.length ≤ 6) (h : ∀ t ∈ L, TmG t) (o : Own) (r : List UInt8) : read ⟨o, put L ++ r, false⟩ = (some L, (⟨.shared, r, false⟩ : RS)) := by
 unfold read put
 rw [if_pos hr, rlist_tms L hl h o r]
 dsimp only
 rw [if_neg (by rintro (h | h); cases h; rw [hr] at h; cases h)]
end Reg
namespace Sch
theorem fits_right {s : Sl} {v : V} (h : fits s v = true) : v.right = true := by
 unfold fits at h
 rw [Bool.and_eq_true] at h
 exact h.1
theorem bare_slot {s : Sl} {a b : Bool} (h : bare s a b = true) : (a = true ∨ s.name = ⟨#[]⟩) ∧ (b = true ∨ s.types = 0) ∧ s.req = false ∧ s.dv = V.zero := by
 unfold bare at h
 rw [Bool.and_eq_true, Bool.and_eq_true, Bool.and_eq_true, Bool.or_eq_true, Bool.or_eq_true, decide_eq_true_eq, beq_iff_eq, beq_iff_eq] at h
 obtain ⟨⟨⟨h1, h2⟩, h3⟩, h4⟩ := h
 refine ⟨h1.imp id RS.empty_of, h2, ?_, V.cmp_eq _ _ h4⟩
 cases hr : s.req with
 | false => rfl
 | true => rw [hr] at h3; cases h3
theorem name_le {s : ByteArray} (h : V.isName s.data.toList = true) : s.size ≤ 40 := by
 unfold V.isName at h
 rw [Bool.and_eq_true, Bool.and_eq_true, decide_eq_true_eq, decide_eq_true_eq] at h
 have : s.data.toList.length = s.size := by simp
 omega
theorem sound_good {s : Sl} (h : sound s = true) (ho : s.dv.Ok) : Reg.SlG s := by
 have k := sound_ok h
 have := takes_iff.1 k.types
 exact ⟨by have := name_le k.name; omega, by omega, fits_right k.def_, ho⟩
theorem reo_ge {cols : List Nat} : ∀ (l : List Int) (out r : List Nat), reo cols l out = some r → ∀ k ∈ l, 0 ≤ k ∧ k < cols.length
 | [], _, _, _, _, h => by cases h
 | a :: l, out, r, h, k, hk => by
  rw [reo] at h
  split at h
  · rename_i hc
    rcases List.mem_cons.1 hk with rfl | hk
    · exact ⟨hc.1, hc.2.1⟩
    · exact reo_ge l _ r h k hk
  · cases h
theorem step_good {n : Nat} {x y : Vr} {s : Stp} (hx : VI n x) (h : stepV x s = some y) (ho : s.slot.dv.Ok) : Reg.StG s := by
 have hlc := hx.lc
 unfold stepV at h
 have hcol : column x s = true → (0 ≤ s.col ∧ s.col ≤ 255) ∧ s.order = [] := fun hc => by
  unfold column at hc
  rw [Bool.and_eq_true, Bool.and_eq_true, decide_eq_true_eq, decide_eq_true_eq, decide_eq_true_eq] at hc
  exact ⟨by omega, List.eq_nil_of_length_eq_zero hc.2⟩
 cases s with
 | mk kind col slot order =>
 cases slot with
 | mk nm ty rq dv =>
 dsimp only at h hcol ho
 split at h
 · rename_i hk
   unfold addS at h
   split at h
   · rename_i hc
     exact .inl ⟨hk, hc.1, sound_good hc.2.2.2.1 ho, List.eq_nil_of_length_eq_zero hc.2.1⟩
   · cases h
 split at h
 · rename_i hk
   unfold loseS at h
   split at h
   · rename_i hc
     obtain ⟨c1, c2⟩ := hcol hc.1
     obtain ⟨b1, b2, b3, b4⟩ := bare_slot hc.2.1
     simp only [Bool.false_eq_true, false_or] at b1 b2
     dsimp only at b1 b2 b3 b4
     subst b1 b2 b3 b4
     exact .inr (.inl ⟨hk, c1, rfl, c2⟩)
   · cases h
 split at h
 · rename_i hk
   unfold renameS at h
   split at h
   · rename_i hc
     obtain ⟨c1, c2⟩ := hcol hc.1
     obtain ⟨b1, b2, b3, b4⟩ := bare_slot hc.2.1
     simp only [Bool.false_eq_true, false_or] at b2
     dsimp only at b2 b3 b4
     subst b2 b3 b4
     exact .inr (.inr (.inl ⟨hk, c1, rfl, by have := name_le hc.2.2.1; dsimp only at *; omega, c2⟩))
   · cases h
 split at h
 · rename_i hk
   unfold widenS at h
   split at h
   · rename_i hc
     obtain ⟨c1, c2⟩ := hcol hc.1
     obtain ⟨b1, b2, b3, b4⟩ := bare_slot hc.2.1
     simp only [Bool.false_eq_true, false_or] at b1
     dsimp only at b1 b3 b4
     subst b1 b3 b4
     have := takes_iff.1 hc.2.2.1
     exact .inr (.inr (.inr (.inl ⟨hk, c1, rfl, by dsimp only at *; omega, c2⟩)))
   · cases h
 split at h
 · rename_i hk
   unfold reorderS at h
   split at h
   · rename_i hc
     obtain ⟨b1, b2, b3, b4⟩ := bare_slot hc.2.1
     simp only [Bool.false_eq_true, false_or] at b1 b2
     dsimp only at b1 b2 b3 b4
     subst b1 b2 b3 b4
     cases hr : reo x.cols order [] with
     | none => rw [show (Stp.mk kind col _ order).order = order from rfl, hr] at h; cases h
     | some r => exact .inr (.inr (.inr (.inr ⟨hk, hc.1, rfl, by have := hc.2.2; dsimp only at *; omega, fun k hk => by have := reo_ge _ _ _ hr k hk; omega⟩)))
   · cases h
 · cases h
theorem firstL_good : ∀ (l : List Sl) (x y : Vr), firstL l x = some y → ∀ s ∈ l, sound s = true
 | [], _, _, _, _, h => by cases h
 | a :: l, x, y, h, s, hs => by
  rw [firstL] at h
  split at h
  · rename_i hc
    rcases List.mem_cons.1 hs with rfl | hs
    · exact hc.1
    · exact firstL_good l _ y h s hs
  · cases h
theorem versL_good : ∀ (l : List Stp) (n : Nat) (x : Vr), VI n x → (versL x l).length = l.length → (∀ s ∈ l, s.slot.dv.Ok) → ∀ s ∈ l, Reg.StG s
 | [], _, _, _, _, _, _, h => by cases h
 | a :: l, n, x, hx, hl, ho, s, hs => by
  rw [versL] at hl
  cases hv : stepV x a with
  | none => rw [hv] at hl; cases hl
  | some y =>
   rw [hv] at hl
   rcases List.mem_cons.1 hs with rfl | hs
   · exact step_good hx hv (ho _ (List.mem_cons_self ..))
   · exact versL_good l (n + 1) y (step_vi hx hv) (by simpa using hl) (fun s h => ho s (List.mem_cons_of_mem _ h)) s hs
theorem last_good {t : Tm} (h : 0 < last t) (hs : ∀ s ∈ t.slots, s.dv.Ok) (hp : ∀ s ∈ t.steps, s.slot.dv.Ok) : Reg.TmG t := by
 have h1 : (vers t).length = t.steps.length + 1 := by
  unfold last at h
  split at h
  · assumption
  · omega
 unfold vers at h1
 cases hf : firstV t with
 | none => rw [hf] at h1; cases h1
 | some x =>
  rw [hf] at h1
  obtain ⟨k1, k2, k3⟩ := first_vi hf
  have h2 : (versL x t.steps).length = t.steps.length := by simpa using h1
  have hg := versL_good t.steps 8 x k1 h2 hp
  unfold firstV at hf
  split at hf
  · rename_i hc
    exact ⟨by have := name_le hc.1; omega, hc.2.2.1, hc.2.2.2, fun s hs' => sound_good (firstL_good _ _ _ hf s hs') (hs s hs'), hg⟩
  · cases hf
end Sch
theorem Reg.TmG.put {t : Tm} (h : Reg.TmG t) (hs : ∀ s ∈ t.steps, s.slot.name.size ≤ 300 ∧ s.slot.dv.nodes ≤ 1000 ∧ s.slot.dv.Ok) : Reg.TmP t :=
 ⟨h.nm, h.ls, h.lt, fun s k => ⟨(h.os s k).nm, by have := (V.right_iff.1 (h.os s k).dv).2.2; omega, (h.os s k).ok⟩, fun s k => ⟨hs s k, by
  rcases h.ot s k with h | h | h | h | h
  · rw [h.2.2.2]; exact Nat.zero_le _
  · rw [h.2.2.2]; exact Nat.zero_le _
  · rw [h.2.2.2.2]; exact Nat.zero_le _
  · rw [h.2.2.2.2]; exact Nat.zero_le _
  · have := h.2.2.2.1; omega⟩⟩
namespace Reg
theorem findL_spec (nm : ByteArray) : ∀ (l : List Tm) (i : Nat), (findL nm l i = -1 ∧ ∀ t ∈ l, ¬ t.name.toList = nm.toList) ∨ ∃ (j : Nat) (t : Tm), l[j]? = some t ∧ t.name.toList = nm.toList ∧ findL nm l i = ((i + j : Nat) : Int) ∧ ∀ (k : Nat) (u : Tm), k < j → l[k]? = some u → ¬ u.name.toList = nm.toList
 | [], i => .inl ⟨rfl, fun t h => by cases h⟩
 | t :: l, i => by
  rw [findL]
  by_cases h : t.name.toList = nm.toList
  · rw [if_pos (beq_iff_eq.2 h)]
    exact .inr ⟨0, t, rfl, h, rfl, fun k u hk => by omega⟩
  · rw [if_neg (fun k => h (beq_iff_eq.1 k))]
    rcases findL_spec nm l (i + 1) with ⟨h1, h2⟩ | ⟨j, u, h1, h2, h3, h4⟩
    · exact .inl ⟨h1, fun u hu => by
       rcases List.mem_cons.1 hu with rfl | hu
       · exact h
       · exact h2 u hu⟩
    · refine .inr ⟨j + 1, u, h1, h2, by rw [h3]; congr 1; omega, fun k v hk hv => ?_⟩
      cases k with
      | zero => cases hv; exact h
      | succ k => exact h4 k v (by omega) hv
theorem find_at {L : List Tm} {nm : ByteArray} {i : Nat} {t : Tm} (ht : L[i]? = some t) (hn : t.name.toList = nm.toList) (h : ∀ (k : Nat) (u : Tm), k < i → L[k]? = some u → ¬ u.name.toList = nm.toList) : find L nm = i := by
 unfold find
 rcases findL_spec nm L 0 with ⟨h1, h2⟩ | ⟨j, u, h1, h2, h3, h4⟩
 · exact absurd hn (h2 t (List.mem_of_getElem? ht))
 · rw [h3, Nat.zero_add]
   rcases Nat.lt_trichotomy i j with hl | he | hl
   · exact absurd hn (h4 i t hl ht)
   · rw [he]
   · exact absurd h2 (h j u hl h1)
def Apart (L : List Tm) : Prop := ∀ (i j : Nat) (t u : Tm), L[i]? = some t → L[j]? = some u → t.name.toList = u.name.toList → i = j
theorem apart_find {L : List Tm} : Apart L ↔ ∀ (i : Nat) (t : Tm), L[i]? = some t → find L t.name = i := by
 constructor
 · intro h i t ht
   exact find_at ht rfl fun k u hk hu he => by have := h k i u t hu ht he; omega
 · intro h i j t u ht hu he
   have h1 := h i t ht
   have h2 := h j u hu
   have e : find L t.name = find L u.name := by
    have : ∀ (l : List Tm) (i : Nat), findL t.name l i = findL u.name l i := fun l => by
     induction l with
     | nil => intro _; rfl
     | cons a l ih => intro i; rw [findL, findL, he, ih]
    exact this L 0
   rw [h1, h2] at e
   exact Int.ofNat.inj e
theorem rightL_iff (L : List Tm) : ∀ (l : List Tm) (i : Nat), rightL L l i = true ↔ ∀ (j : Nat) (t : Tm), l[j]? = some t → i + j < 6 ∧ 0 < Sch.last t ∧ find L t.name = ((i + j : Nat) : Int)
 | [], i => ⟨fun _ j t h => (by cases h), fun _ => rfl⟩
 | t :: l, i => by
  rw [rightL, Bool.and_eq_true, Bool.and_eq_true, Bool.and_eq_true, decide_eq_true_eq, decide_eq_true_eq, beq_iff_eq, rightL_iff L l (i + 1)]
  constructor
  · rintro ⟨h1, h2, h3, h4⟩ j u hu
    cases j with
    | zero => cases hu; exact ⟨h1, h2, h3⟩
    | succ j =>
     have := h4 j u hu
     rw [show i + 1 + j = i + (j + 1) by omega] at this
     exact this
  · intro h
    have h0 := h 0 t rfl
    refine ⟨h0.1, h0.2.1, h0.2.2, fun j u hu => ?_⟩
    have := h (j + 1) u hu
    rw [show i + (j + 1) = i + 1 + j by omega] at this
    exact this
theorem right_iff {L : List Tm} : right L = true ↔ L.length ≤ 6 ∧ (∀ t ∈ L, 0 < Sch.last t) ∧ Apart L := by
 unfold right
 rw [rightL_iff, apart_find]
 constructor
 · intro h
   refine ⟨?_, ?_, ?_⟩
   · rcases Nat.lt_or_ge 6 L.length with hl | hl
     · obtain ⟨t, ht⟩ := gEx hl
       have := (h 6 t ht).1
       omega
     · exact hl
   · intro t ht
     obtain ⟨i, hi⟩ := List.getElem?_of_mem ht
     exact (h i t hi).2.1
   · intro i t ht
     have := (h i t ht).2.2
     rwa [Nat.zero_add] at this
 · rintro ⟨h1, h2, h3⟩ j t ht
   have hj := (List.getElem?_eq_some_iff.1 ht).1
   exact ⟨by omega, h2 t (List.mem_of_getElem? ht), by rw [Nat.zero_add]; exact h3 j t ht⟩
end Reg
end Go.Proofs.YtgcienlfpnpbgaaGreat
end
section
namespace Go.Proofs.YtgcienlfpnpbgaaGreat
attribute [local push_cast] encB encI encC V.cells_mk V.cells_len Nat.mul_one Int.sub_zero List.map_nil beq_self_eq_true List.head?_cons
open Go.RowKit
set_option maxHeartbeats 4000000
set_option maxRecDepth 10000
abbrev RI := Nat × Nat × List D
theorem refCopySF (x : Vr) (h1 : 1 ≤ x.slots.length) (h2 : 1 ≤ x.cols.length) (hl : x.slots.length ≤ 1000) (hc : x.cols.length ≤ 1000) (st : St) : TrF Tryz.prog 195 [.agg x.cells] st fun d st' => ∃ i : Nat × Nat × List D, (slotC x.slots ++ i.2.2).length = i.2.1 * 7 ∧ d = .agg [.ar i.1 0 x.slots.length i.2.1, .sl .shared (x.cols.map encC)] ∧ st' = .box i.1 75 (slotC x.slots ++ i.2.2) :: st := by
 have h := (refCopyF x h1 h2 hl hc st).mono (R' := fun d st' => ∃ i : (Nat × Nat × List D) × (Nat × Nat × List D), VL i.1.2.1 i.1.2.2 i.2.2.1 i.2.2.2 x ∧ d = .agg [.ar i.1.1 0 x.slots.length i.1.2.1, .ar i.2.1 0 x.cols.length i.2.2.1] ∧ st' = .box i.2.1 3 ((x.cols.map encC).flatten ++ i.2.2.2) :: .box i.1.1 75 (slotC x.slots ++ i.1.2.2) :: st) (fun d st' ⟨gs, cS, zS, gc, cC, zC, k1, k2, k3⟩ => ⟨((gs, cS, zS), (gc, cC, zC)), k1, k2, k3⟩)
 have h' := TrF.rest (ι := RI × RI) (g := fun i => i.2.1) (n := fun _ => x.cols.length) (cap := fun i => i.2.2.1) (es := fun _ => x.cols.map encC) (F' := fun i => .agg [.ar i.1.1 0 x.slots.length i.1.2.1, .sl .shared (x.cols.map encC)]) (sz := 1) (by decide) (fun i _ => ⟨cols_each x.cols, List.length_map ..⟩) (fun i => .agg _ _ (.cons _ _ _ _ (.same _) (.cons _ _ _ _ .ar .nil))) h
 exact h'.mono fun d st' ⟨i, k1, k2, k3⟩ => ⟨i.1, k1.1, k2, k3⟩
theorem refCopyAF (x : Vr) (h1 : 1 ≤ x.slots.length) (h2 : 1 ≤ x.cols.length) (hl : x.slots.length ≤ 1000) (hc : x.cols.length ≤ 1000) (st : St) : TrF Tryz.prog 195 [.agg x.cells] st fun d st' => d = .agg x.cells ∧ st' = st := by
 have h' := TrF.rest (ι := RI) (el := 75) (p := fun i : Nat × Nat × List D => (slotC x.slots ++ i.2.2).length = i.2.1 * 7) (g := fun i => i.1) (n := fun _ => x.slots.length) (cap := fun i => i.2.1) (es := fun _ => x.slots.map Sl.cells) (F := fun i => .agg [.ar i.1 0 x.slots.length i.2.1, .sl .shared (x.cols.map encC)]) (zs := fun i => i.2.2) (S := fun _ => st) (F' := fun _ => .agg x.cells) (sz := 7) (by decide) (fun i _ => ⟨slots_each x.slots, List.length_map ..⟩) (fun i => .agg _ _ (.cons _ _ _ _ .ar (.cons _ _ _ _ (.same _) .nil))) (refCopySF x h1 h2 hl hc st)
 exact h'.mono fun d st' ⟨i, k1, k2, k3⟩ => ⟨k2, k3⟩
theorem refCopyCF (x : Vr) (h1 : 1 ≤ x.slots.length) (h2 : 1 ≤ x.cols.length) (hl : x.slots.length ≤ 1000) (hc : x.cols.length ≤ 1000) (st : St) : TrF Tryz.prog 195 [.agg x.cells] st fun d st' => ∃ i : Nat × Nat × List D, (colC x.cols ++ i.2.2).length = i.2.1 * 1 ∧ d = .agg [.sl .shared (x.slots.map Sl.cells), .ar i.1 0 x.cols.length i.2.1] ∧ st' = .box i.1 3 (colC x.cols ++ i.2.2) :: st := by
 intro vs w q1 q2
 refine (refCopyF x h1 h2 hl hc st vs w q1 q2).mono fun _ w' ⟨v, ev, d, s, k1, k2, k3, gs, cS, zS, gc, cC, zC, k4, e1, e2⟩ => ?_
 subst e1 e2
 have hp : (Res.box gc 3 (colC x.cols ++ zC) :: .box gs 75 (slotC x.slots ++ zS) :: st).Perm (.box gs 75 (slotC x.slots ++ zS) :: .box gc 3 (colC x.cols ++ zC) :: st) := .swap _ _ _
 have e := OwnS.perm hp
 have k2' := k2.perm hp
 have he := Ext.drop (st := .box gs 75 (slotC x.slots ++ zS) :: .box gc 3 (colC x.cols ++ zC) :: st) (st' := .box gc 3 (colC x.cols ++ zC) :: st) (fun _ h => List.mem_cons_of_mem _ h) w'
 rw [e] at k1 k3
 refine ⟨v, ev, .agg [.sl .shared (x.slots.map Sl.cells), .ar gc 0 x.cols.length cC], _, ?_, k2'.sub (List.sublist_cons_self _ _), k3.trans he, (gc, cC, zC), k4.2, rfl, rfl⟩
 exact (Frz.agg (g := gs) (n := x.slots.length) (cap := cS) (es := x.slots.map Sl.cells) _ _ (.cons _ _ _ _ .ar (.cons _ _ _ _ (.same _) .nil))).rep he (row_rest k2' (by decide) (slots_each x.slots) (List.length_map ..)) v k1
def RefStepR (x : Vr) (s : Stp) (st : St) (d : D) (st' : St) : Prop :=
 (Sch.stepV x s = none ∧ ∃ X1 X2, d = .tup [.agg [.sl .shared X1, .sl .shared X2], .b false] ∧ st' = st) ∨ ∃ y, Sch.stepV x s = some y ∧ d = .tup [.agg y.cells, .b true] ∧ st' = st
structure RefP (x : Vr) (s : Stp) : Prop where
 vi : Sch.VI 1000 x
 q : VQ s.slot.dv
 ty : -9223372036854775808 ≤ s.slot.types ∧ s.slot.types ≤ 9223372036854775807
 ord : s.order.length ≤ 1000
abbrev retR (o1 o2 : Own) (L1 L2 : List (List D)) (ok : Bool) : LE (.tup [.agg [.sl o1 L1, .sl o2 L2], .b ok]) (.tup [.agg [.sl .shared L1, .sl .shared L2], .b ok]) := LE.tup (l := [.agg [.sl o1 L1, .sl o2 L2], .b ok]) ⟨LE.agg (l := [.sl o1 L1, .sl o2 L2]) ⟨LE.sl _ _, LE.sl _ _, trivial⟩, LE.refl _, trivial⟩
theorem copyR_ex (x : Vr) (st : St) : ∃ d st', CopyR x st d st' := ⟨_, _, 0, x.slots.length, [], 0, x.cols.length, [], ⟨by rw [List.append_nil, slotC_len], by rw [List.append_nil, colC_len]⟩, rfl, rfl⟩
def Raw2 (x : Vr) (s : Stp) (st : St) (d : D) (st' : St) : Prop := ∃ i : (Bool × Vr) × (Nat × Nat × List D) × (Nat × Nat × List D), (Sch.stepV x s = if i.1.1 then some i.1.2 else none) ∧ d = .tup [.agg [.ar i.2.1.1 0 i.1.2.slots.length i.2.1.2.1, .ar i.2.2.1 0 i.1.2.cols.length i.2.2.2.1], .b i.1.1] ∧ st' = .box i.2.1.1 75 ((i.1.2.slots.map Sl.cells).flatten ++ i.2.1.2.2) :: .box i.2.2.1 3 ((i.1.2.cols.map encC).flatten ++ i.2.2.2.2) :: st
theorem raw2_rest {x : Vr} {s : Stp} {st : St} {f : FuncId} {args : List D} (h : TrF Tryz.prog f args st (Raw2 x s st)) : TrF Tryz.prog f args st (RefStepR x s st) := by
 have h1 := TrF.rest (ι := (Bool × Vr) × RI × RI) (g := fun i => i.2.1.1) (n := fun i => i.1.2.slots.length) (cap := fun i => i.2.1.2.1) (es := fun i => i.1.2.slots.map Sl.cells) (F' := fun i => .tup [.agg [.sl .shared (i.1.2.slots.map Sl.cells), .ar i.2.2.1 0 i.1.2.cols.length i.2.2.2.1], .b i.1.1]) (sz := 7) (by decide) (fun i _ => ⟨slots_each i.1.2.slots, List.length_map ..⟩) (fun i => .tup _ _ (.cons _ _ _ _ (.agg _ _ (.cons _ _ _ _ .ar (.cons _ _ _ _ (.same _) .nil))) (.cons _ _ _ _ (.same _) .nil))) h
 have h2 := TrF.rest (ι := (Bool × Vr) × RI × RI) (g := fun i => i.2.2.1) (n := fun i => i.1.2.cols.length) (cap := fun i => i.2.2.2.1) (es := fun i => i.1.2.cols.map encC) (F' := fun i => .tup [.agg i.1.2.cells, .b i.1.1]) (sz := 1) (by decide) (fun i _ => ⟨cols_each i.1.2.cols, List.length_map ..⟩) (fun i => .tup _ _ (.cons _ _ _ _ (.agg _ _ (.cons _ _ _ _ (.same _) (.cons _ _ _ _ .ar .nil))) (.cons _ _ _ _ (.same _) .nil))) h1
 refine h2.mono fun d st' ⟨i, k1, k2, k3⟩ => ?_
 obtain ⟨⟨ok, y⟩, i2⟩ := i
 cases ok with
 | true => exact .inr ⟨y, k1, k2, k3⟩
 | false => exact .inl ⟨k1, _, _, k2, k3⟩
theorem perm_321 (a b c : Res) (l : St) : (a :: b :: c :: l).Perm (c :: b :: a :: l) := (List.Perm.cons a (.swap c b l)).trans ((List.Perm.swap c a (b :: l)).trans (.cons c (.swap b a l)))
theorem refAddF (x : Vr) (s : Stp) (h : RefP x s) (hk : s.kind = 1) (st : St) : TrF Tryz.prog 164 [.agg x.cells, .agg s.cells] st (RefStepR x s st) := by
 refine raw2_rest ?_
 obtain ⟨⟨hl, hp, hcp, hcl, hcs⟩, hq, hty, ho⟩ := h
 have hC := refCopyF x hp hcp hl (by omega)
 have hE := copyR_ex x
 have hR := refRestF s hq.ok (by omega) ho
 have hS := refSoundF s.slot hq hty
 have hL := refColF x.slots x.cols s.slot.name (by omega) (by omega) hcs []
 have hF : Hid (Sch.stepV x s = if s.col = 0 ∧ s.order.length = 0 ∧ x.cols.length < 8 ∧ Sch.sound s.slot = true ∧ s.slot.req = false ∧ Sch.colL x.slots s.slot.name x.cols < 0 then some ⟨x.slots ++ [s.slot], x.cols ++ [x.slots.length]⟩ else none) := Lib.hid (by unfold Sch.stepV; rw [if_pos hk]; rfl)
 have hrv : Sch.restV s = (decide (s.order.length = 0) && (s.col == 0)) := by unfold Sch.restV; rw [if_pos hk]
 rw [hrv] at hR
 clear hrv
 unfold Raw2
 unfold CopyR VL at hC hE
 have hr1 := slotC_len x.slots
 have hr2 := colC_len x.cols
 have e1 := Lib.hid (slots_each x.slots)
 have e2 := Lib.hid (cols_each x.cols)
 have f1 : Hid ((x.slots.map Sl.cells).flatten = slotC x.slots) := rfl
 have f2 : Hid ((x.cols.map encC).flatten = colC x.cols) := rfl
 have l1 : Hid ((x.slots.map Sl.cells).length = x.slots.length) := List.length_map ..
 have l2 : Hid ((x.cols.map encC).length = x.cols.length) := List.length_map ..
 obtain ⟨y, hy⟩ : ∃ y : Vr, y = ⟨x.slots ++ [s.slot], x.cols ++ [x.slots.length]⟩ := ⟨_, rfl⟩
 have g1 : Hid ((y.slots.map Sl.cells).flatten = slotC x.slots ++ [s.slot.cells].flatten) := Lib.hid (by rw [hy, ← slotC_add]; rfl)
 have g2 : Hid ((y.cols.map encC).flatten = colC x.cols ++ [[.i x.slots.length]].flatten) := Lib.hid (by rw [hy, ← colC_add]; rfl)
 have g3 : Hid (y.slots.length = x.slots.length + 1) := Lib.hid (by rw [hy]; simp)
 have g4 : Hid (y.cols.length = x.cols.length + 1) := Lib.hid (by rw [hy]; simp)
 rw [← hy] at hF
 unfold Vr.cells Stp.cells at *
 clear hy hcs hq hty
 generalize Sch.stepV x s = F at *
 cases s with
 | mk kd col slot order =>
 cases slot with
 | mk nm ty rq dv =>
 cases dv with
 | mk k n sv lv =>
 dsimp only at hC hE hR hS hL hF hk ho g1 ⊢
 subst hk
 generalize Sch.sound _ = q at *
 generalize Sch.colL _ _ _ = cv at *
 rw [Sl.cells_mk] at *
 dsimp only [List.cons_append, List.nil_append] at *
 obtain ⟨R1, r1e⟩ : ∃ R1, slotC x.slots = R1 := ⟨_, rfl⟩
 obtain ⟨R2, r2e⟩ : ∃ R2, colC x.cols = R2 := ⟨_, rfl⟩
 obtain ⟨m1, m1e⟩ : ∃ m1, x.slots.length = m1 := ⟨_, rfl⟩
 obtain ⟨m2, m2e⟩ : ∃ m2, x.cols.length = m2 := ⟨_, rfl⟩
 generalize hL1 : x.slots.map Sl.cells = L1 at *
 generalize hL2 : x.cols.map encC = L2 at *
 simp only [r1e, r2e, m1e, m2e] at hC hE hr1 hr2 f1 f2 l1 l2 g1 g2 g3 g4 hF hp hl hcp hcl
 replace r1e : Hid ((x.slots.map Sl.cells).flatten = R1) := r1e
 replace r2e : Hid ((x.cols.map encC).flatten = R2) := r2e
 replace m1e := Lib.hid m1e
 replace m2e := Lib.hid m2e
 replace hL1 := Lib.hid hL1
 replace hL2 := Lib.hid hL2
 replace hC := Lib.hid hC
 replace hE := Lib.hid hE
 replace hS := Lib.hid hS
 replace hL := Lib.hid hL
 have hol : (decide (order.length = 0) && (col == 0)) = true ∨ (decide (order.length = 0) && (col == 0)) = false := by
  cases (decide (order.length = 0) && (col == 0)) <;> simp
 rcases hol with hrr | hrr
 · rw [hrr] at hR
   replace hR := Lib.hid hR
   rw [Bool.and_eq_true, decide_eq_true_eq, beq_iff_eq] at hrr
   obtain ⟨h01, rfl⟩ := hrr
   refine trF_enterG (G := twoA Tryz.prog (.cell 4 147) (.tmp 5)) Tryz.func164 rfl (by rw [Tryz.ntmps164]; exact Nat.le_of_ble_eq_true rfl) (fun h1 h2 h3 => res_two rfl h1 h2 h3) ?_
   simp only [Tryz.ntmps164]
   repeat' (first | (with_reducible first | refine Q1 ?_ | refine Qe ?_ | fail) | with_reducible refine s_appR ?_ | with_reducible refine rk_go ?_ | ((with_reducible apply (r2_go hr1 hz1)); (focus (intro g' cs'; repeat (first | exact ra_h | apply ra_t))); (focus exact len_one rfl); (focus (simp only [List.length_cons, List.length_nil]; omega)); (focus (simp only [List.length_cons, List.length_nil]; omega)); intro gs' cS' zS' hcs hls) | ((with_reducible apply (r2_go hr2 hz2)); (focus (intro g' cs'; repeat (first | exact ra_h | apply ra_t))); (focus exact len_one rfl); (focus (simp only [List.length_cons, List.length_nil]; omega)); (focus (simp only [List.length_cons, List.length_nil]; omega)); intro gc' cC' zC' hcc hlc) | (with_reducible first | refine QQ ?_ | (refine al_go ?_; intro b) | (refine QD ?_ <;> (try constructor) <;> intro hb <;> try intro hb1) | fail) | ((with_reducible apply (ck_gen Tryz.call195)); (focus exact List.Perm.refl _); (focus exact hC.out _); (focus exact LEL.refl _); (focus exact hE.out _); (rintro d st' ⟨gs, cS, zS, gc, cC, zC, ⟨hz1, hz2⟩, rfl, rfl⟩)) | ((with_reducible apply (ck_lend Tryz.call163)); (focus exact hL.out); (focus exact ⟨Lend.agg ⟨Lend.rowE (by repeat (first | exact mm_h | apply mm_t)) f1.out (by decide) e1.out l1.out, Lend.rowE (by repeat (first | exact mm_h | apply mm_t)) f2.out (by decide) e2.out l2.out, trivial⟩, Lend.refl _, trivial⟩)) | fail)
   all_goals first
    | ((refine retG_mk (rs := []) (by first | exact .inl rfl | exact .inr rfl) (by first | rfl | assumption) (perm_321 _ _ _ _) ⟨_, _, rfl, cell_mk (by simp (disch := omega) only [push_cast, simprocAttr, *]; exact rfl) (by repeat (first | exact mm_h | apply mm_t)) (by simp (disch := omega) only [push_cast, simprocAttr, *]; exact rfl) (by (try simp (disch := omega) only [push_cast, simprocAttr, *]); (try exact rfl); done), (by show _ = _; (try simp (disch := omega) only [push_cast, simprocAttr, *]); (try exact rfl); done)⟩ (((List.Sublist.refl _).cons _).cons _ |>.cons_cons _ |>.cons_cons _) (LE.refl _) ⟨((false, x), (gs, cS, zS), (gc, cC, zC)), ?_, by simp only [m1e.out, m2e.out], by simp only [r1e.out, r2e.out]⟩); (focus (rw [hF.out]; refine if_neg ?_; rintro ⟨h1, h2, h3, h4, h5, h6⟩; (first | omega | exact Bool.noConfusion (h4.symm.trans (by assumption) : true = false) | exact Bool.noConfusion (h5.symm.trans (by assumption) : false = true)))))
    | ((refine retG_mk (rs := []) (by first | exact .inl rfl | exact .inr rfl) (by first | rfl | assumption) (perm_321 _ _ _ _) ⟨_, _, rfl, cell_mk (by simp (disch := omega) only [push_cast, simprocAttr, *]; exact rfl) (by repeat (first | exact mm_h | apply mm_t)) (by simp (disch := omega) only [push_cast, simprocAttr, *]; exact rfl) (by (try simp (disch := omega) only [push_cast, simprocAttr, *]); (try exact rfl); done), (by show _ = _; (try simp (disch := omega) only [push_cast, simprocAttr, *]); (try exact rfl); done)⟩ (((List.Sublist.refl _).cons _).cons _ |>.cons_cons _ |>.cons_cons _) (LE.refl _) ⟨((true, y), (gs', cS', zS'), (gc', cC', zC')), ?_, by simp only [g3.out, g4.out], by simp only [g1.out, g2.out, (by assumption : rq = false)]⟩); (focus (rw [hF.out]; exact if_pos (by (try rw [h01]); refine ⟨rfl, rfl, ?_, ?_, ?_, ?_⟩ <;> first | assumption | omega))))
 · rw [hrr] at hR
   replace hR := Lib.hid hR
   have hFn : Hid (F = none) := Lib.hid (by
    rw [hF.out, if_neg]
    rintro ⟨h1, h2, -⟩
    rw [h1, h2] at hrr
    exact Bool.noConfusion hrr)
   clear hF hrr
   refine trF_enterG (G := twoA Tryz.prog (.cell 4 147) (.tmp 5)) Tryz.func164 rfl (by rw [Tryz.ntmps164]; exact Nat.le_of_ble_eq_true rfl) (fun h1 h2 h3 => res_two rfl h1 h2 h3) ?_
   simp only [Tryz.ntmps164]
   repeat' (first | (with_reducible first | refine Q1 ?_ | refine Qe ?_ | refine QQ ?_ | (refine al_go ?_; intro b) | (refine QD ?_ <;> (try constructor) <;> intro hb <;> try intro hb1) | fail) | ((with_reducible apply (ck_gen Tryz.call195)); (focus exact List.Perm.refl _); (focus exact hC.out _); (focus exact LEL.refl _); (focus exact hE.out _); (rintro d st' ⟨gs, cS, zS, gc, cC, zC, ⟨hz1, hz2⟩, rfl, rfl⟩)) | fail)
   all_goals ((refine retG_mk (rs := []) (by first | exact .inl rfl | exact .inr rfl) (by first | rfl | assumption) (perm_321 _ _ _ _) ⟨_, _, rfl, cell_mk (by simp (disch := omega) only [push_cast, simprocAttr, *]; exact rfl) (by repeat (first | exact mm_h | apply mm_t)) (by simp (disch := omega) only [push_cast, simprocAttr, *]; exact rfl) (by (try simp (disch := omega) only [push_cast, simprocAttr, *]); (try exact rfl); done), (by show _ = _; (try simp (disch := omega) only [push_cast, simprocAttr, *]); (try exact rfl); done)⟩ (((List.Sublist.refl _).cons _).cons _ |>.cons_cons _ |>.cons_cons _) (LE.refl _) ⟨((false, x), (gs, cS, zS), (gc, cC, zC)), ?_, by simp only [m1e.out, m2e.out], by simp only [r1e.out, r2e.out]⟩); (focus (exact hFn.out)))
theorem refLoseF (x : Vr) (s : Stp) (h : RefP x s) (hk : s.kind = 2) (st : St) : TrF Tryz.prog 164 [.agg x.cells, .agg s.cells] st (RefStepR x s st) := by
 obtain ⟨⟨hl, hp, hcp, hcl, hcs⟩, hq, hty, ho⟩ := h
 have hC := refCopyAF x hp hcp hl (by omega)
 have hR := refRestF s hq.ok (by omega) ho
 have hF : Hid (Sch.stepV x s = if Sch.column x s = true ∧ Sch.bare s.slot false false = true ∧ x.cols.length ≠ 1 then some ⟨x.slots, x.cols.eraseIdx s.col.toNat⟩ else none) := Lib.hid (by unfold Sch.stepV; rw [if_neg (show ¬ s.kind = 1 by omega), if_pos hk]; rfl)
 have hrv : Sch.restV s = (Sch.bare s.slot false false && decide (s.order.length = 0)) := by unfold Sch.restV; rw [if_neg (show ¬ s.kind = 1 by omega), if_pos hk]
 rw [hrv] at hR
 clear hrv
 unfold RefStepR
 have l2 : (x.cols.map encC).length = x.cols.length := List.length_map ..
 have hEr : Hid (∀ c : Nat, c < x.cols.length → List.take c (x.cols.map encC) ++ List.take (x.cols.length - (c + 1)) (List.drop (c + 1) (x.cols.map encC)) = (x.cols.eraseIdx c).map encC) := fun c hc => by
  rw [List.eraseIdx_eq_take_drop_succ, List.map_append, List.map_take, List.map_drop, List.take_of_length_le (l := List.drop _ _) (by rw [List.length_drop, l2]; omega)]
 have hall : (x.cols.map encC).all (fun e => e.length == 1) = true := by
  rw [List.all_eq_true]
  intro e he
  obtain ⟨n, -, rfl⟩ := List.mem_map.1 he
  rfl
 have e2 := cols_each x.cols
 have ht1 : ∀ c : Nat, ∀ e ∈ List.take c (x.cols.map encC), e.length = 1 := fun c e he => e2 e (List.mem_of_mem_take he)
 have ht2 : ∀ a b : Nat, ∀ e ∈ List.take a (List.drop b (x.cols.map encC)), e.length = 1 := fun a b e he => e2 e (List.mem_of_mem_drop (List.mem_of_mem_take he))
 unfold Sch.column at hF
 by_cases hb : Sch.bare s.slot false false = true ∧ s.order.length = 0
 · obtain ⟨hb1, hb2⟩ := hb
   rw [hb1, hb2] at hR hF
   by_cases hcr : 0 ≤ s.col ∧ s.col < x.cols.length
   · obtain ⟨hc1, hc2⟩ := hcr
     obtain ⟨c, hcE⟩ := Int.eq_ofNat_of_zero_le hc1
     have hclt : c < x.cols.length := by omega
     by_cases hm : x.cols.length = 1
     · have hFn : Hid (Sch.stepV x s = none) := Lib.hid (by rw [hF.out, if_neg]; rintro ⟨-, -, h⟩; exact h hm)
       clear hF hEr hcs ht1 ht2
       unfold Vr.cells Stp.cells at *
       generalize Sch.stepV x s = F at *
       cases s with
       | mk kd col slot order =>
       cases slot with
       | mk nm ty rq dv =>
       cases dv with
       | mk k n sv lv =>
       dsimp only at hC hR hk ho hcE hb2 hc1 hc2 ⊢
       subst hk hcE
       rw [Sl.cells_mk] at *
       dsimp only [List.cons_append, List.nil_append] at *
       generalize x.slots.map Sl.cells = L1 at *
       generalize x.cols.map encC = L2 at *
       generalize x.cols.length = m2 at *
       replace hC := Lib.hid hC
       replace hR := Lib.hid hR
       replace hb1 := Lib.hid hb1
       replace hb2 := Lib.hid hb2
       refine trF_enterG (G := twoA Tryz.prog (.cell 4 147) (.tmp 5)) Tryz.func164 rfl (by rw [Tryz.ntmps164]; exact Nat.le_of_ble_eq_true rfl) (fun h1 h2 h3 => res_two rfl h1 h2 h3) ?_
       simp only [Tryz.ntmps164]
       repeat' (with_reducible first | refine Q1 ?_ | refine Qe ?_ | refine QQ ?_ | (refine al_go ?_; intro b) | (refine Qa ?_; intro o' ho') | (refine Qp ?_; intro o' ho') | (refine QD ?_ <;> (try constructor) <;> intro hb <;> try intro hb1) | fail)
       all_goals (refine retG_mk (rs := []) (by first | exact .inl rfl | exact .inr rfl) (by first | rfl | assumption) (List.Perm.refl _) ⟨_, _, rfl, cell_mk (by simp (disch := omega) only [push_cast, simprocAttr, *]; exact rfl) (by repeat (first | exact mm_h | apply mm_t)) (by simp (disch := omega) only [push_cast, simprocAttr, *]; exact rfl) (by (try simp (disch := omega) only [push_cast, simprocAttr, *]); (try exact rfl); done), (by show _ = _; (try simp (disch := omega) only [push_cast, simprocAttr, *]); (try exact rfl); done)⟩ (by (repeat (first | exact List.Sublist.refl _ | with_reducible apply List.Sublist.cons_cons | apply List.Sublist.cons))) (LE.refl _) (.inl ⟨hFn.out, _, _, rfl, rfl⟩))
     · have hFs : Hid (Sch.stepV x s = some ⟨x.slots, x.cols.eraseIdx c⟩) := Lib.hid (by
        rw [hF.out, if_pos ⟨by simp [hc1, hc2], rfl, hm⟩, hcE, Int.toNat_natCast])
       have hEr2 := Lib.hid (hEr.out c hclt)
       clear hF hEr hcs
       obtain ⟨y, hy⟩ : ∃ y : Vr, y = ⟨x.slots, x.cols.eraseIdx c⟩ := ⟨_, rfl⟩
       have hyc : Hid (y.cells = [.sl .shared (x.slots.map Sl.cells), .sl .shared ((x.cols.eraseIdx c).map encC)]) := Lib.hid (by rw [hy]; rfl)
       rw [← hy] at hFs
       rw [← hEr2.out] at hyc
       clear hy hEr2
       unfold Vr.cells Stp.cells at *
       generalize Sch.stepV x s = F at *
       cases s with
       | mk kd col slot order =>
       cases slot with
       | mk nm ty rq dv =>
       cases dv with
       | mk k n sv lv =>
       dsimp only at hC hR hk ho hcE hb2 hc1 hc2 ⊢
       subst hk hcE
       rw [Sl.cells_mk] at *
       dsimp only [List.cons_append, List.nil_append] at *
       generalize x.slots.map Sl.cells = L1 at *
       generalize x.cols.map encC = L2 at *
       generalize x.cols.length = m2 at *
       replace hC := Lib.hid hC
       replace hR := Lib.hid hR
       replace hb1 := Lib.hid hb1
       replace hb2 := Lib.hid hb2
       have t1 := ht1 c
       have t2 := ht2 (m2 - (c + 1)) (c + 1)
       have t3 : (List.take c L2).length ≤ 1000 ∧ (List.take (m2 - (c + 1)) (List.drop (c + 1) L2)).length ≤ 1000 := by
        rw [List.length_take, List.length_take]; omega
       obtain ⟨t3, t4⟩ := t3
       obtain ⟨c1, hcc⟩ : ∃ c1, c + 1 = c1 := ⟨_, rfl⟩
       have hcI : (c : Int) + 1 = (c1 : Int) := by omega
       have hc1l : c1 ≤ m2 := by omega
       rw [hcc] at t2 t4 hyc
       replace hcc := Lib.hid hcc
       clear ht1 ht2 e2
       refine trF_enterG (G := twoA Tryz.prog (.cell 4 147) (.tmp 5)) Tryz.func164 rfl (by rw [Tryz.ntmps164]; exact Nat.le_of_ble_eq_true rfl) (fun h1 h2 h3 => res_two rfl h1 h2 h3) ?_
       simp only [Tryz.ntmps164]
       refine tr_room 3 1 ([] : List (List D)).length ?_
       repeat' (first | (with_reducible first | refine Q1 ?_ | refine Qe ?_ | fail) | ((with_reducible apply (w_drawN [(b, [.sl .shared L1, .sl .shared L2])])); (iterate 3 (focus kernel_rfl)); (focus ((repeat (first | exact keep_nil | refine keep_more (by (repeat (first | exact mm_h | apply mm_t)); done) ?_)); done)); intro hne; simp only [nes, ne1, and_assoc] at hne; repeat (have hq := hne.1; replace hne := hne.2)) | ((with_reducible refine And.intro ?_ ?_); (focus ((repeat (first | exact keep_nil | refine keep_more (by (repeat (first | exact mm_h | apply mm_t)); done) ?_)); done))) | (with_reducible first | refine QQ ?_ | (refine al_go ?_; intro b) | (refine Qa ?_; intro o' ho') | (refine Qp ?_; intro o' ho') | (refine QD ?_ <;> (try constructor) <;> intro hb <;> try intro hb1) | fail) | fail)
       all_goals (refine retG_mk (rs := []) (by first | exact .inl rfl | exact .inr rfl) (by first | rfl | assumption) (List.Perm.refl _) ⟨_, _, rfl, cell_mk (by simp (disch := omega) only [push_cast, simprocAttr, *]; exact rfl) (by repeat (first | exact mm_h | apply mm_t)) (by simp (disch := omega) only [push_cast, simprocAttr, *]; exact rfl) (by (try simp (disch := omega) only [push_cast, simprocAttr, *]); (try exact rfl); done), (by show _ = _; (try simp (disch := omega) only [push_cast, simprocAttr, *]); (try exact rfl); done)⟩ (by (repeat (first | exact List.Sublist.refl _ | with_reducible apply List.Sublist.cons_cons | apply List.Sublist.cons))) (retR _ _ _ _ _) (.inr ⟨y, hFs.out, by rw [hyc.out], rfl⟩))
   · have hFn : Hid (Sch.stepV x s = none) := Lib.hid (by
      rw [hF.out, if_neg]
      rintro ⟨h1, -⟩
      simp at h1
      omega)
     clear hF hEr hcs ht1 ht2
     unfold Vr.cells Stp.cells at *
     generalize Sch.stepV x s = F at *
     cases s with
     | mk kd col slot order =>
     cases slot with
     | mk nm ty rq dv =>
     cases dv with
     | mk k n sv lv =>
     dsimp only at hC hR hk ho hb2 hcr ⊢
     subst hk
     rw [Sl.cells_mk] at *
     dsimp only [List.cons_append, List.nil_append] at *
     generalize x.slots.map Sl.cells = L1 at *
     generalize x.cols.map encC = L2 at *
     generalize x.cols.length = m2 at *
     replace hC := Lib.hid hC
     replace hR := Lib.hid hR
     replace hb1 := Lib.hid hb1
     replace hb2 := Lib.hid hb2
     have hcr' : col < 0 ∨ (0 ≤ col ∧ (m2 : Int) ≤ col) := by omega
     clear hcr
     rcases hcr' with h1 | ⟨h1, h2⟩
     all_goals skip
     all_goals (
      refine trF_enterG (G := twoA Tryz.prog (.cell 4 147) (.tmp 5)) Tryz.func164 rfl (by rw [Tryz.ntmps164]; exact Nat.le_of_ble_eq_true rfl) (fun h1 h2 h3 => res_two rfl h1 h2 h3) ?_
      simp only [Tryz.ntmps164]
      repeat' (with_reducible first | refine Q1 ?_ | refine Qe ?_ | refine QQ ?_ | (refine al_go ?_; intro b) | (refine Qa ?_; intro o' ho') | (refine Qp ?_; intro o' ho') | (refine QD ?_ <;> (try constructor) <;> intro hb <;> try intro hb1) | fail)
      all_goals (refine retG_mk (rs := []) (by first | exact .inl rfl | exact .inr rfl) (by first | rfl | assumption) (List.Perm.refl _) ⟨_, _, rfl, cell_mk (by simp (disch := omega) only [push_cast, simprocAttr, *]; exact rfl) (by repeat (first | exact mm_h | apply mm_t)) (by simp (disch := omega) only [push_cast, simprocAttr, *]; exact rfl) (by (try simp (disch := omega) only [push_cast, simprocAttr, *]); (try exact rfl); done), (by show _ = _; (try simp (disch := omega) only [push_cast, simprocAttr, *]); (try exact rfl); done)⟩ (by (repeat (first | exact List.Sublist.refl _ | with_reducible apply List.Sublist.cons_cons | apply List.Sublist.cons))) (LE.refl _) (.inl ⟨hFn.out, _, _, rfl, rfl⟩)))
 · have hrr : (Sch.bare s.slot false false && decide (s.order.length = 0)) = false := by
    cases h1 : Sch.bare s.slot false false with
    | false => rfl
    | true => rw [Bool.true_and, decide_eq_false fun h2 => hb ⟨h1, h2⟩]
   rw [hrr] at hR
   have hFn : Hid (Sch.stepV x s = none) := Lib.hid (by
    rw [hF.out, if_neg]
    rintro ⟨h1, h2, -⟩
    simp at h1
    exact hb ⟨h2, by rw [h1.2]; rfl⟩)
   clear hF hEr hcs ht1 ht2 hb hrr
   unfold Vr.cells Stp.cells at *
   generalize Sch.stepV x s = F at *
   cases s with
   | mk kd col slot order =>
   cases slot with
   | mk nm ty rq dv =>
   cases dv with
   | mk k n sv lv =>
   dsimp only at hC hR hk ho ⊢
   subst hk
   rw [Sl.cells_mk] at *
   dsimp only [List.cons_append, List.nil_append] at *
   generalize x.slots.map Sl.cells = L1 at *
   generalize x.cols.map encC = L2 at *
   generalize x.cols.length = m2 at *
   replace hC := Lib.hid hC
   replace hR := Lib.hid hR
   refine trF_enterG (G := twoA Tryz.prog (.cell 4 147) (.tmp 5)) Tryz.func164 rfl (by rw [Tryz.ntmps164]; exact Nat.le_of_ble_eq_true rfl) (fun h1 h2 h3 => res_two rfl h1 h2 h3) ?_
   simp only [Tryz.ntmps164]
   repeat' (with_reducible first | refine Q1 ?_ | refine Qe ?_ | refine QQ ?_ | (refine al_go ?_; intro b) | (refine Qa ?_; intro o' ho') | (refine Qp ?_; intro o' ho') | (refine QD ?_ <;> (try constructor) <;> intro hb <;> try intro hb1) | fail)
   all_goals (refine retG_mk (rs := []) (by first | exact .inl rfl | exact .inr rfl) (by first | rfl | assumption) (List.Perm.refl _) ⟨_, _, rfl, cell_mk (by simp (disch := omega) only [push_cast, simprocAttr, *]; exact rfl) (by repeat (first | exact mm_h | apply mm_t)) (by simp (disch := omega) only [push_cast, simprocAttr, *]; exact rfl) (by (try simp (disch := omega) only [push_cast, simprocAttr, *]); (try exact rfl); done), (by show _ = _; (try simp (disch := omega) only [push_cast, simprocAttr, *]); (try exact rfl); done)⟩ (by (repeat (first | exact List.Sublist.refl _ | with_reducible apply List.Sublist.cons_cons | apply List.Sublist.cons))) (LE.refl _) (.inl ⟨hFn.out, _, _, rfl, rfl⟩))
def CopyS (x : Vr) (st : St) (d : D) (st' : St) : Prop := ∃ gs cS zS, (slotC x.slots ++ zS).length = cS * 7 ∧ d = D.agg [.ar gs 0 x.slots.length cS, .sl .shared (x.cols.map encC)] ∧ st' = Res.box gs 75 (slotC x.slots ++ zS) :: st
theorem copyS_ex (x : Vr) (st : St) : ∃ d st', CopyS x st d st' := ⟨_, _, 0, x.slots.length, [], by rw [List.append_nil, slotC_len], rfl, rfl⟩
theorem refCopySF' (x : Vr) (h1 : 1 ≤ x.slots.length) (h2 : 1 ≤ x.cols.length) (hl : x.slots.length ≤ 1000) (hc : x.cols.length ≤ 1000) (st : St) : TrF Tryz.prog 195 [.agg x.cells] st (CopyS x st) :=
 (refCopySF x h1 h2 hl hc st).mono fun d st' ⟨⟨gs, cS, zS⟩, k1, k2, k3⟩ => ⟨gs, cS, zS, k1, k2, k3⟩
def Raw1 (x : Vr) (s : Stp) (st : St) (d : D) (st' : St) : Prop := ∃ i : (Bool × Vr) × RI, (Sch.stepV x s = if i.1.1 then some i.1.2 else none) ∧ d = .tup [.agg [.ar i.2.1 0 i.1.2.slots.length i.2.2.1, .sl .shared (i.1.2.cols.map encC)], .b i.1.1] ∧ st' = .box i.2.1 75 ((i.1.2.slots.map Sl.cells).flatten ++ i.2.2.2) :: st
theorem raw1_rest {x : Vr} {s : Stp} {st : St} {f : FuncId} {args : List D} (h : TrF Tryz.prog f args st (Raw1 x s st)) : TrF Tryz.prog f args st (RefStepR x s st) := by
 have h1 := TrF.rest (ι := (Bool × Vr) × RI) (g := fun i => i.2.1) (n := fun i => i.1.2.slots.length) (cap := fun i => i.2.2.1) (es := fun i => i.1.2.slots.map Sl.cells) (F' := fun i => .tup [.agg i.1.2.cells, .b i.1.1]) (sz := 7) (by decide) (fun i _ => ⟨slots_each i.1.2.slots, List.length_map ..⟩) (fun i => .tup _ _ (.cons _ _ _ _ (.agg _ _ (.cons _ _ _ _ .ar (.cons _ _ _ _ (.same _) .nil))) (.cons _ _ _ _ (.same _) .nil))) h
 refine h1.mono fun d st' ⟨i, k1, k2, k3⟩ => ?_
 obtain ⟨⟨ok, y⟩, i2⟩ := i
 cases ok with
 | true => exact .inr ⟨y, k1, k2, k3⟩
 | false => exact .inl ⟨k1, _, _, k2, k3⟩
theorem refRenameF (x : Vr) (s : Stp) (h : RefP x s) (hk : s.kind = 3) (st : St) : TrF Tryz.prog 164 [.agg x.cells, .agg s.cells] st (RefStepR x s st) := by
 refine raw1_rest ?_
 obtain ⟨⟨hl, hp, hcp, hcl, hcs⟩, hq, hty, ho⟩ := h
 have hC := refCopySF' x hp hcp hl (by omega)
 have hE := copyS_ex x
 have hR := refRestF s hq.ok (by omega) ho
 have hF : Hid (Sch.stepV x s = Sch.renameS x s) := Lib.hid (by unfold Sch.stepV; rw [if_neg (show ¬ s.kind = 1 by omega), if_neg (show ¬ s.kind = 2 by omega), if_pos hk])
 have hrv : Sch.restV s = (Sch.bare s.slot true false && decide (s.order.length = 0)) := by unfold Sch.restV; rw [if_neg (show ¬ s.kind = 1 by omega), if_neg (show ¬ s.kind = 2 by omega), if_pos hk]
 rw [hrv] at hR
 clear hrv
 unfold Raw1
 have hC := fun st => hC st
 unfold CopyS at hC hE
 have l2 : (x.cols.map encC).length = x.cols.length := List.length_map ..
 have hN := Lib.hid (refIsNameF s.slot.name)
 have hL := Lib.hid (refColF x.slots x.cols s.slot.name (by omega) (by omega) hcs [])
 have e1 := Lib.hid (slots_each x.slots)
 have f1 : Hid ((x.slots.map Sl.cells).flatten = slotC x.slots) := rfl
 have l1 : Hid ((x.slots.map Sl.cells).length = x.slots.length) := List.length_map ..
 unfold Sch.renameS Sch.col at hF
 by_cases hb : Sch.bare s.slot true false = true ∧ s.order.length = 0
 · obtain ⟨hb1, hb2⟩ := hb
   rw [hb1, hb2] at hR
   rw [hb1] at hF
   by_cases hcr : 0 ≤ s.col ∧ s.col < x.cols.length
   · obtain ⟨hc1, hc2⟩ := hcr
     have hcol : Sch.column x s = true := by unfold Sch.column; simp [hc1, hc2, hb2]
     rw [hcol] at hF
     obtain ⟨i, hi⟩ := Int.eq_ofNat_of_zero_le hc1
     have hilt : i < x.cols.length := by omega
     obtain ⟨c, hc⟩ := gEx hilt
     have hcm : c < x.slots.length := hcs c (List.mem_of_getElem? hc)
     obtain ⟨z, hz⟩ := gEx hcm
     have hat : Sch.at_ x s = c := by
      unfold Sch.at_
      rw [hi, Int.toNat_natCast, List.getD_eq_getElem?_getD, hc]; rfl
     rw [hat, modify_set hz] at hF
     have hL2i : (x.cols.map encC)[i]? = some [D.i c] := by rw [List.getElem?_map, hc]; rfl
     have hL1c : (x.slots.map Sl.cells)[c]? = some z.cells := by rw [List.getElem?_map, hz]; rfl
     obtain ⟨y, hy⟩ : ∃ y : Vr, y = ⟨x.slots.set c { z with name := s.slot.name }, x.cols⟩ := ⟨_, rfl⟩
     rw [← hy] at hF
     have hsp : Hid (∀ zS, List.take (c * 7) (slotC x.slots ++ zS) ++ [D.str s.slot.name] ++ List.drop (c * 7 + 1) (slotC x.slots ++ zS) = (y.slots.map Sl.cells).flatten ++ zS) := fun zS => by
      have h := row_splice (o := 0) (ds := [D.str s.slot.name]) zS _ c (slots_each x.slots) hL1c (by simp)
      rw [show splice z.cells 0 [D.str s.slot.name] = Sl.cells { z with name := s.slot.name } from rfl, show (x.slots.map Sl.cells).set c (Sl.cells { z with name := s.slot.name }) = (x.slots.set c { z with name := s.slot.name }).map Sl.cells from (List.map_set ..).symm] at h
      rw [hy]
      exact h
     have hys : Hid (y.slots.length = x.slots.length) := Lib.hid (by rw [hy]; simp)
     have hyc : Hid (y.cols.map encC = x.cols.map encC) := Lib.hid (by rw [hy])
     have hrl := slotC_len x.slots
     have hle : Hid (∀ (zS : List D) (cS : Nat), (slotC x.slots ++ zS).length = cS * 7 → c * 7 + 1 ≤ cS * 7) := fun zS cS h => by
      rw [List.length_append] at h
      omega
     clear hy hcs hq hty hat hc hz hL1c hcol
     unfold Vr.cells Stp.cells at *
     generalize Sch.stepV x s = F at *
     cases s with
     | mk kd col slot order =>
     cases slot with
     | mk nm ty rq dv =>
     cases dv with
     | mk k n sv lv =>
     dsimp only at hC hE hR hF hk ho hi hb2 hc1 hc2 hsp hN hL ⊢
     subst hk
     rw [Sl.cells_mk] at *
     dsimp only [List.cons_append, List.nil_append] at *
     generalize r1e : slotC x.slots = R1 at *
     generalize m1e : x.slots.length = m1 at *
     generalize m2e : x.cols.length = m2 at *
     generalize hL1 : x.slots.map Sl.cells = L1 at *
     generalize hL2 : x.cols.map encC = L2 at *
     have r1e : Hid ((x.slots.map Sl.cells).flatten = R1) := r1e
     replace m1e := Lib.hid m1e
     replace m2e := Lib.hid m2e
     replace hL1 := Lib.hid hL1
     replace hL2 := Lib.hid hL2
     replace hC := Lib.hid hC
     replace hE := Lib.hid hE
     replace hR := Lib.hid hR
     subst hi
     replace hb1 := Lib.hid hb1
     replace hb2 := Lib.hid hb2
     generalize V.isName nm.data.toList = qn at *
     generalize Sch.colL x.slots nm x.cols = cv at *
     refine trF_enterG (G := twoA Tryz.prog (.cell 4 147) (.tmp 5)) Tryz.func164 rfl (by rw [Tryz.ntmps164]; exact Nat.le_of_ble_eq_true rfl) (fun h1 h2 h3 => res_two rfl h1 h2 h3) ?_
     simp only [Tryz.ntmps164]
     repeat' (first | (with_reducible first | refine Q1 ?_ | refine Qe ?_ | fail) | ((with_reducible apply (w_drawN [(b, [.ar gs 0 m1 cS, .sl .shared L2])])); (iterate 3 (focus kernel_rfl)); (focus ((repeat (first | exact keep_nil | refine keep_more (by (repeat (first | exact mm_h | apply mm_t)); done) ?_)); done)); intro hne; simp only [nes, ne1, and_assoc] at hne; repeat (have hq := hne.1; replace hne := hne.2)) | ((with_reducible refine And.intro ?_ ?_); (focus ((repeat (first | exact keep_nil | refine keep_more (by (repeat (first | exact mm_h | apply mm_t)); done) ?_)); done))) | (with_reducible first | refine QQ ?_ | (refine al_go ?_; intro b) | (refine QD ?_ <;> (try constructor) <;> intro hb <;> try intro hb1) | fail) | ((with_reducible apply (ck_gen Tryz.call195)); (focus exact List.Perm.refl _); (focus exact hC.out _); (focus exact LEL.refl _); (focus exact hE.out _); (rintro d st' ⟨gs, cS, zS, hz1, rfl, rfl⟩); (have hle2 := hle.out zS cS hz1; have hsp2 := hsp.out zS)) | ((with_reducible apply (ck_lend Tryz.call163)); (focus exact hL.out); (focus exact ⟨Lend.agg ⟨Lend.rowE (by repeat (first | exact mm_h | apply mm_t)) f1.out (by decide) e1.out l1.out, Lend.refl _, trivial⟩, Lend.refl _, trivial⟩)) | fail)
     all_goals first
      | ((refine retG_mk (rs := []) (by first | exact .inl rfl | exact .inr rfl) (by first | rfl | assumption) (.swap _ _ _) ⟨_, _, rfl, cell_mk (by simp (disch := omega) only [push_cast, simprocAttr, *]; exact rfl) (by repeat (first | exact mm_h | apply mm_t)) (by simp (disch := omega) only [push_cast, simprocAttr, *]; exact rfl) (by (try simp (disch := omega) only [push_cast, simprocAttr, *]); (try exact rfl); done), (by show _ = _; (try simp (disch := omega) only [push_cast, simprocAttr, *]); (try exact rfl); done)⟩ (((List.Sublist.refl _).cons _).cons _ |>.cons_cons _) (LE.refl _) ⟨((false, x), (gs, cS, zS)), ?_, by simp only [m1e.out, hL2.out], by simp only [r1e.out]⟩); (rw [hF.out]; refine if_neg ?_; rintro ⟨h1, h2, h3, h4⟩; first | omega | exact Bool.noConfusion (h3.symm.trans (by assumption) : true = false)))
      | ((refine retG_mk (rs := []) (by first | exact .inl rfl | exact .inr rfl) (by first | rfl | assumption) (.swap _ _ _) ⟨_, _, rfl, cell_mk (by simp (disch := omega) only [push_cast, simprocAttr, *]; exact rfl) (by repeat (first | exact mm_h | apply mm_t)) (by simp (disch := omega) only [push_cast, simprocAttr, *]; exact rfl) (by (try simp (disch := omega) only [push_cast, simprocAttr, *]); (try exact rfl); done), (by show _ = _; (try simp (disch := omega) only [push_cast, simprocAttr, *]); (try exact rfl); done)⟩ (((List.Sublist.refl _).cons _).cons _ |>.cons_cons _) (LE.refl _) ⟨((true, y), (gs, cS, zS)), ?_, by simp only [hys.out, hyc.out], rfl⟩); (rw [hF.out]; exact if_pos (by refine ⟨rfl, rfl, ?_, ?_⟩ <;> first | assumption | omega)))
   · have hFn : Hid (Sch.stepV x s = none) := Lib.hid (by
      rw [hF.out, if_neg]
      rintro ⟨h1, -⟩
      unfold Sch.column at h1
      simp at h1
      omega)
     clear hF hcs hN hL hq hty
     unfold Vr.cells Stp.cells at *
     generalize Sch.stepV x s = F at *
     cases s with
     | mk kd col slot order =>
     cases slot with
     | mk nm ty rq dv =>
     cases dv with
     | mk k n sv lv =>
     dsimp only at hC hE hR hk ho hb2 hcr ⊢
     subst hk
     rw [Sl.cells_mk] at *
     dsimp only [List.cons_append, List.nil_append] at *
     generalize r1e : slotC x.slots = R1 at *
     generalize m1e : x.slots.length = m1 at *
     generalize m2e : x.cols.length = m2 at *
     generalize hL1 : x.slots.map Sl.cells = L1 at *
     generalize hL2 : x.cols.map encC = L2 at *
     have r1e : Hid ((x.slots.map Sl.cells).flatten = R1) := r1e
     replace m1e := Lib.hid m1e
     replace m2e := Lib.hid m2e
     replace hL1 := Lib.hid hL1
     replace hL2 := Lib.hid hL2
     replace hC := Lib.hid hC
     replace hE := Lib.hid hE
     replace hR := Lib.hid hR
     replace hb1 := Lib.hid hb1
     replace hb2 := Lib.hid hb2
     have hcr' : col < 0 ∨ (0 ≤ col ∧ (m2 : Int) ≤ col) := by omega
     clear hcr
     rcases hcr' with h1 | ⟨h1, h2⟩
     all_goals skip
     all_goals (
      refine trF_enterG (G := twoA Tryz.prog (.cell 4 147) (.tmp 5)) Tryz.func164 rfl (by rw [Tryz.ntmps164]; exact Nat.le_of_ble_eq_true rfl) (fun h1 h2 h3 => res_two rfl h1 h2 h3) ?_
      simp only [Tryz.ntmps164]
      repeat' (first | (with_reducible first | refine Q1 ?_ | refine Qe ?_ | refine QQ ?_ | (refine al_go ?_; intro b) | (refine QD ?_ <;> (try constructor) <;> intro hb <;> try intro hb1) | fail) | ((with_reducible apply (ck_gen Tryz.call195)); (focus exact List.Perm.refl _); (focus exact hC.out _); (focus exact LEL.refl _); (focus exact hE.out _); (rintro d st' ⟨gs, cS, zS, hz1, rfl, rfl⟩)) | fail)
      all_goals (refine retG_mk (rs := []) (by first | exact .inl rfl | exact .inr rfl) (by first | rfl | assumption) (.swap _ _ _) ⟨_, _, rfl, cell_mk (by simp (disch := omega) only [push_cast, simprocAttr, *]; exact rfl) (by repeat (first | exact mm_h | apply mm_t)) (by simp (disch := omega) only [push_cast, simprocAttr, *]; exact rfl) (by (try simp (disch := omega) only [push_cast, simprocAttr, *]); (try exact rfl); done), (by show _ = _; (try simp (disch := omega) only [push_cast, simprocAttr, *]); (try exact rfl); done)⟩ (((List.Sublist.refl _).cons _).cons _ |>.cons_cons _) (LE.refl _) ⟨((false, x), (gs, cS, zS)), hFn.out, by simp only [m1e.out, hL2.out], by simp only [r1e.out]⟩))
 · have hrr : (Sch.bare s.slot true false && decide (s.order.length = 0)) = false := by
    cases h1 : Sch.bare s.slot true false with
    | false => rfl
    | true => rw [Bool.true_and, decide_eq_false fun h2 => hb ⟨h1, h2⟩]
   rw [hrr] at hR
   have hFn : Hid (Sch.stepV x s = none) := Lib.hid (by
    rw [hF.out, if_neg]
    rintro ⟨h1, h2, -⟩
    unfold Sch.column at h1
    simp at h1
    exact hb ⟨h2, by rw [h1.2]; rfl⟩)
   clear hF hcs hN hL hb hrr hq hty
   unfold Vr.cells Stp.cells at *
   generalize Sch.stepV x s = F at *
   cases s with
   | mk kd col slot order =>
   cases slot with
   | mk nm ty rq dv =>
   cases dv with
   | mk k n sv lv =>
   dsimp only at hC hE hR hk ho ⊢
   subst hk
   rw [Sl.cells_mk] at *
   dsimp only [List.cons_append, List.nil_append] at *
   generalize r1e : slotC x.slots = R1 at *
   generalize m1e : x.slots.length = m1 at *
   generalize m2e : x.cols.length = m2 at *
   generalize hL1 : x.slots.map Sl.cells = L1 at *
   generalize hL2 : x.cols.map encC = L2 at *
   have r1e : Hid ((x.slots.map Sl.cells).flatten = R1) := r1e
   replace m1e := Lib.hid m1e
   replace m2e := Lib.hid m2e
   replace hL1 := Lib.hid hL1
   replace hL2 := Lib.hid hL2
   replace hC := Lib.hid hC
   replace hE := Lib.hid hE
   replace hR := Lib.hid hR
   refine trF_enterG (G := twoA Tryz.prog (.cell 4 147) (.tmp 5)) Tryz.func164 rfl (by rw [Tryz.ntmps164]; exact Nat.le_of_ble_eq_true rfl) (fun h1 h2 h3 => res_two rfl h1 h2 h3) ?_
   simp only [Tryz.ntmps164]
   repeat' (first | (with_reducible first | refine Q1 ?_ | refine Qe ?_ | refine QQ ?_ | (refine al_go ?_; intro b) | (refine QD ?_ <;> (try constructor) <;> intro hb <;> try intro hb1) | fail) | ((with_reducible apply (ck_gen Tryz.call195)); (focus exact List.Perm.refl _); (focus exact hC.out _); (focus exact LEL.refl _); (focus exact hE.out _); (rintro d st' ⟨gs, cS, zS, hz1, rfl, rfl⟩)) | fail)
   all_goals (refine retG_mk (rs := []) (by first | exact .inl rfl | exact .inr rfl) (by first | rfl | assumption) (.swap _ _ _) ⟨_, _, rfl, cell_mk (by simp (disch := omega) only [push_cast, simprocAttr, *]; exact rfl) (by repeat (first | exact mm_h | apply mm_t)) (by simp (disch := omega) only [push_cast, simprocAttr, *]; exact rfl) (by (try simp (disch := omega) only [push_cast, simprocAttr, *]); (try exact rfl); done), (by show _ = _; (try simp (disch := omega) only [push_cast, simprocAttr, *]); (try exact rfl); done)⟩ (((List.Sublist.refl _).cons _).cons _ |>.cons_cons _) (LE.refl _) ⟨((false, x), (gs, cS, zS)), hFn.out, by simp only [m1e.out, hL2.out], by simp only [r1e.out]⟩)
def wt (t s : Nat) : Nat → Nat
 | 0 => t
 | k + 1 => if Sch.has s k && !Sch.has (wt t s k) k then wt t s k + 2 ^ k else wt t s k
def wm (t s : Nat) : Nat → Bool
 | 0 => false
 | k + 1 => if Sch.has s k && !Sch.has (wt t s k) k then true else wm t s k
theorem wt_all : ∀ t s : Fin 64, wt t s 6 = t.val ||| s.val ∧ wm t s 6 = (t.val ||| s.val != t.val) := by decide +kernel
theorem wt_le (t s : Nat) : ∀ k, wt t s k + 1 ≤ t + 2 ^ k
 | 0 => by rw [wt]; omega
 | k + 1 => by
  have := wt_le t s k
  rw [wt, Nat.pow_succ]
  split <;> omega
theorem refWidenF (x : Vr) (s : Stp) (h : RefP x s) (hxt : ∀ z ∈ x.slots, Sch.takes z.types = true) (hk : s.kind = 4) (st : St) : TrF Tryz.prog 164 [.agg x.cells, .agg s.cells] st (RefStepR x s st) := by
 refine raw1_rest ?_
 obtain ⟨⟨hl, hp, hcp, hcl, hcs⟩, hq, hty, ho⟩ := h
 have hC := refCopySF' x hp hcp hl (by omega)
 have hE := copyS_ex x
 have hR := refRestF s hq.ok (by omega) ho
 have hF : Hid (Sch.stepV x s = Sch.widenS x s) := Lib.hid (by unfold Sch.stepV; rw [if_neg (show ¬ s.kind = 1 by omega), if_neg (show ¬ s.kind = 2 by omega), if_neg (show ¬ s.kind = 3 by omega), if_pos hk])
 have hrv : Sch.restV s = (Sch.bare s.slot false true && decide (s.order.length = 0)) := by unfold Sch.restV; rw [if_neg (show ¬ s.kind = 1 by omega), if_neg (show ¬ s.kind = 2 by omega), if_neg (show ¬ s.kind = 3 by omega), if_pos hk]
 rw [hrv] at hR
 clear hrv
 unfold Raw1
 have hC := fun st => hC st
 unfold CopyS at hC hE
 have l2 : (x.cols.map encC).length = x.cols.length := List.length_map ..
 unfold Sch.widenS at hF
 by_cases hb : Sch.bare s.slot false true = true ∧ s.order.length = 0
 · obtain ⟨hb1, hb2⟩ := hb
   rw [hb1, hb2] at hR
   rw [hb1] at hF
   by_cases hcr : 0 ≤ s.col ∧ s.col < x.cols.length
   · obtain ⟨hc1, hc2⟩ := hcr
     have hcol : Sch.column x s = true := by unfold Sch.column; simp [hc1, hc2, hb2]
     rw [hcol] at hF
     obtain ⟨i, hi⟩ := Int.eq_ofNat_of_zero_le hc1
     have hilt : i < x.cols.length := by omega
     obtain ⟨c, hc⟩ := gEx hilt
     have hcm : c < x.slots.length := hcs c (List.mem_of_getElem? hc)
     obtain ⟨z, hz⟩ := gEx hcm
     have hat : Sch.at_ x s = c := by
      unfold Sch.at_
      rw [hi, Int.toNat_natCast, List.getD_eq_getElem?_getD, hc]; rfl
     have hzt := hxt z (List.mem_of_getElem? hz)
     by_cases htk : Sch.takes s.slot.types = true
     · obtain ⟨tn, sn, ht1, hs1, htl, hsl, hor, hol⟩ := Sch.widen_nat hzt htk
       have hall := wt_all ⟨tn, htl⟩ ⟨sn, hsl⟩
       dsimp only at hall
       obtain ⟨hw1, hw2⟩ := hall
       rw [hat, modify_set hz, hz, Option.any_some, htk, hor] at hF
       have hL2i : (x.cols.map encC)[i]? = some [D.i c] := by rw [List.getElem?_map, hc]; rfl
       have hL1c : (x.slots.map Sl.cells)[c]? = some z.cells := by rw [List.getElem?_map, hz]; rfl
       obtain ⟨w, hw⟩ : ∃ w, tn ||| sn = w := ⟨_, rfl⟩
       rw [hw] at hF hw1 hw2 hol
       obtain ⟨y, hy⟩ : ∃ y : Vr, y = ⟨x.slots.set c { z with types := (w : Int) }, x.cols⟩ := ⟨_, rfl⟩
       rw [← hy] at hF
       have hFw : Hid (Sch.stepV x s = if (w != tn) = true then some y else none) := Lib.hid (by
        rw [hF.out]
        by_cases hwt : w = tn
        · rw [if_neg (by rw [ht1]; simp [hwt]), if_neg (by simp [hwt])]
        · rw [if_pos (by refine ⟨rfl, rfl, rfl, ?_⟩; rw [ht1, bne_iff_ne]; omega), if_pos (by simp [hwt])])
       have hsp : Hid (∀ zS, List.take (c * 7 + 1) (slotC x.slots ++ zS) ++ [D.i w] ++ List.drop (c * 7 + 1 + 1) (slotC x.slots ++ zS) = (y.slots.map Sl.cells).flatten ++ zS) := fun zS => by
        have h := row_splice (o := 1) (ds := [D.i w]) zS _ c (slots_each x.slots) hL1c (by simp)
        rw [show splice z.cells 1 [D.i w] = Sl.cells { z with types := (w : Int) } from rfl, show (x.slots.map Sl.cells).set c (Sl.cells { z with types := (w : Int) }) = (x.slots.set c { z with types := (w : Int) }).map Sl.cells from (List.map_set ..).symm] at h
        rw [hy]
        exact h
       have hld : Hid (∀ zS, ∃ tl, List.drop (c * 7 + 1) (slotC x.slots ++ zS) = D.i tn :: tl) := fun zS => by
        obtain ⟨tl, h⟩ := row_drop (sz := 7) (o := 1) zS _ c (slots_each x.slots) hL1c (by omega)
        rw [show z.cells.drop 1 = D.i z.types :: z.cells.drop 2 from rfl, ht1] at h
        exact ⟨_, h⟩
       have hys : Hid (y.slots.length = x.slots.length) := Lib.hid (by rw [hy]; simp)
       have hyc : Hid (y.cols.map encC = x.cols.map encC) := Lib.hid (by rw [hy])
       have hrl := slotC_len x.slots
       have hle : Hid (∀ (zS : List D) (cS : Nat), (slotC x.slots ++ zS).length = cS * 7 → c * 7 + 1 + 1 ≤ cS * 7) := fun zS cS h => by
        rw [List.length_append] at h
        omega
       have hHs := Lib.hid fun k (h : k ≤ 6) => refHasF sn k (by omega) (by omega)
       have hHt := Lib.hid fun k (h : k ≤ 6) => refHasF (wt tn sn k) k (by omega) (by have := wt_le tn sn k; have : 2 ^ k ≤ 2 ^ 6 := Nat.pow_le_pow_right (by decide) h; omega)
       have hwb : Hid (∀ k, k ≤ 6 → wt tn sn k ≤ 200 ∧ 2 ^ k ≤ 64) := fun k h => by
        have := wt_le tn sn k
        have : 2 ^ k ≤ 2 ^ 6 := Nat.pow_le_pow_right (by decide) h
        omega
       replace htk := Sch.takes_iff.1 htk
       clear hy hcs hq hty hat hc hz hL1c hcol hF hor hzt hxt ht1
       replace hw1 := Lib.hid hw1
       replace hw2 := Lib.hid hw2
       replace hw := Lib.hid hw
       unfold Vr.cells Stp.cells at *
       generalize Sch.stepV x s = F at *
       cases s with
       | mk kd col slot order =>
       cases slot with
       | mk nm ty rq dv =>
       cases dv with
       | mk k n sv lv =>
       dsimp only at hC hE hR hFw hk ho hi hb2 hc1 hc2 hsp hs1 htk ⊢
       subst hk
       rw [Sl.cells_mk] at *
       dsimp only [List.cons_append, List.nil_append] at *
       generalize r1e : slotC x.slots = R1 at *
       generalize m1e : x.slots.length = m1 at *
       generalize m2e : x.cols.length = m2 at *
       generalize hL1 : x.slots.map Sl.cells = L1 at *
       generalize hL2 : x.cols.map encC = L2 at *
       have r1e : Hid ((x.slots.map Sl.cells).flatten = R1) := r1e
       replace m1e := Lib.hid m1e
       replace m2e := Lib.hid m2e
       replace hL1 := Lib.hid hL1
       replace hL2 := Lib.hid hL2
       replace hC := Lib.hid hC
       replace hE := Lib.hid hE
       replace hR := Lib.hid hR
       subst hi hs1
       replace hb1 := Lib.hid hb1
       replace hb2 := Lib.hid hb2
       refine trF_enterG (G := twoA Tryz.prog (.cell 4 147) (.tmp 5)) Tryz.func164 rfl (by rw [Tryz.ntmps164]; exact Nat.le_of_ble_eq_true rfl) (fun h1 h2 h3 => res_two rfl h1 h2 h3) ?_
       simp only [Tryz.ntmps164]
       repeat' (first | (with_reducible first | refine Q1 ?_ | refine Qe ?_ | fail) | ((with_reducible apply (w_drawN [(b, [.ar gs 0 m1 cS, .sl .shared L2]), (gs, R1 ++ zS)])); (iterate 3 (focus kernel_rfl)); (focus ((repeat (first | exact keep_nil | refine keep_more (by (repeat (first | exact mm_h | apply mm_t)); done) ?_)); done)); intro hne; simp only [nes, ne1, and_assoc] at hne; repeat (have hq := hne.1; replace hne := hne.2)) | ((with_reducible refine And.intro ?_ ?_); (focus ((repeat (first | exact keep_nil | refine keep_more (by (repeat (first | exact mm_h | apply mm_t)); done) ?_)); done))) | (with_reducible first | refine QQ ?_ | (refine al_go ?_; intro b) | (refine QD ?_ <;> (try constructor) <;> intro hb <;> try intro hb1) | fail) | ((with_reducible apply (ck_gen Tryz.call195)); (focus exact List.Perm.refl _); (focus exact hC.out _); (focus exact LEL.refl _); (focus exact hE.out _); (rintro d st' ⟨gs, cS, zS, hz1, rfl, rfl⟩); (have hle2 := hle.out zS cS hz1; have hsp2 := hsp.out zS; obtain ⟨t2, hld2⟩ := hld.out zS; obtain ⟨b4, rfl⟩ : ∃ q, q = b := ⟨_, rfl⟩)) | fail)
       obtain ⟨b6, rfl⟩ : ∃ q, q = b := ⟨_, rfl⟩
       have hL2i' := hL2i
       refine tr_loopd (ι := Nat) (fun k' A st' => k' ≤ 6 ∧ A.df = [] ∧ A.e 3 = .ip [.i 4, .i i, .str nm, .i sn, .b rq, .i k, .i n, .str sv, .sl .shared (lv.map V.cells), .sl .shared (order.map encI)] ∧ A.e 4 = .ptr b4 0 ∧ A.e 6 = .ptr b6 0 ∧ A.e 10 = .i k' ∧ (∃ tk bk : Nat, Hid (wt tn sn k' = tk) ∧ Hid (2 ^ k' = bk) ∧ A.e 7 = .i tk ∧ A.e 8 = .i bk) ∧ (∃ mk : Bool, Hid (wm tn sn k' = mk) ∧ A.e 9 = .b mk) ∧
        st' = .box b6 147 [.ar gs 0 m1 cS, .sl .shared L2] :: .box gs 75 (R1 ++ zS) :: .box b4 147 [.sl .tight [], .sl .tight []] :: st) (fun k' => 6 - k') 0 ⟨Nat.zero_le _, Qf, Qf, Qf, Qf, Qf, ⟨tn, 1, rfl, rfl, Qf, Qf⟩, ⟨false, rfl, Qf⟩, rfl⟩ ?_
       rintro k' A st' ⟨hk', hdf, e3, e4, e6, e10, ⟨tk, bk, ht, hbk, e7, e8⟩, ⟨mk, hm, e9⟩, rfl⟩
       by_cases hlt : k' < 6
       · have hH1 := hHs.out k' hk'
         have hH2 := hHt.out k' hk'
         have hb := hwb.out k' hk'
         have hb' := hwb.out (k' + 1) hlt
         have hs1 : wt tn sn (k' + 1) = if Sch.has sn k' && !Sch.has (wt tn sn k') k' then wt tn sn k' + 2 ^ k' else wt tn sn k' := rfl
         have hs2 : wm tn sn (k' + 1) = if Sch.has sn k' && !Sch.has (wt tn sn k') k' then true else wm tn sn k' := rfl
         rw [Nat.pow_succ] at hb'
         have hp2 : 2 ^ (k' + 1) = bk * 2 := by rw [Nat.pow_succ, hbk.out]
         rw [hbk.out] at hb hb' hs1
         rw [ht.out] at hH2 hb hs1 hs2
         rw [hm.out] at hs2
         obtain ⟨hb7, hb8⟩ := hb
         clear hb'
         generalize Sch.has sn k' = q1 at *
         generalize Sch.has tk k' = q2 at *
         replace hH1 := Lib.hid hH1
         replace hH2 := Lib.hid hH2
         replace hp2 := Lib.hid hp2
         replace hs1 := Lib.hid hs1
         replace hs2 := Lib.hid hs2
         cases q1 <;> cases q2
         all_goals skip
         all_goals (
          repeat' (with_reducible first | refine Q1 ?_ | refine Qe ?_ | refine QQ ?_ | (refine al_go ?_; intro b) | (refine QD ?_ <;> (try constructor) <;> intro hb <;> try intro hb1) | fail)
          refine ⟨k' + 1, _, List.Sublist.refl _, ⟨hlt, ?_, ?_, ?_, ?_, ?_, ⟨_, _, hs1.out, hp2.out, ?_, ?_⟩, ⟨_, hs2.out, ?_⟩, rfl⟩, by omega⟩
          all_goals exact Qf)
       · have hk6 : k' = 6 := by omega
         subst hk6
         have ht2 : tk = w := ht.out.symm.trans hw1.out
         have hm2 : mk = (w != tn) := hm.out.symm.trans hw2.out
         subst ht2
         subst hm2
         have hFw2 := hFw.out
         cases hwq : (tk != tn) with
         | true =>
          rw [hwq, if_pos rfl] at hFw2
          rw [hwq] at e9
          replace hFw2 := Lib.hid hFw2
          replace hwq := Lib.hid hwq
          repeat' (first | (with_reducible first | refine Q1 ?_ | refine Qe ?_ | fail) | ((with_reducible apply (w_drawN [(b6, [.ar gs 0 m1 cS, .sl .shared L2])])); (iterate 3 (focus kernel_rfl)); (focus ((repeat (first | exact keep_nil | refine keep_more (by (repeat (first | exact mm_h | apply mm_t)); done) ?_)); done)); intro hne; simp only [nes, ne1, and_assoc] at hne; repeat (have hq := hne.1; replace hne := hne.2)) | ((with_reducible refine And.intro ?_ ?_); (focus ((repeat (first | exact keep_nil | refine keep_more (by (repeat (first | exact mm_h | apply mm_t)); done) ?_)); done))) | (with_reducible first | refine QQ ?_ | (refine al_go ?_; intro b) | (refine QD ?_ <;> (try constructor) <;> intro hb <;> try intro hb1) | fail) | fail)
          all_goals (refine retG_mk (rs := []) (by first | exact .inl rfl | exact .inr rfl) (by first | rfl | assumption) (.swap _ _ _) ⟨_, _, rfl, cell_mk (by simp (disch := omega) only [push_cast, simprocAttr, *]; exact rfl) (by repeat (first | exact mm_h | apply mm_t)) (by simp (disch := omega) only [push_cast, simprocAttr, *]; exact rfl) (by (try simp (disch := omega) only [push_cast, simprocAttr, *]); (try exact rfl); done), (by show _ = _; (try simp (disch := omega) only [push_cast, simprocAttr, *]); (try exact rfl); done)⟩ (((List.Sublist.refl _).cons _).cons _ |>.cons_cons _) (LE.refl _) ⟨((true, y), (gs, cS, zS)), hFw2.out, by simp only [hys.out, hyc.out], rfl⟩)
         | false =>
          rw [hwq, if_neg Bool.false_ne_true] at hFw2
          rw [hwq] at e9
          have hFn := Lib.hid hFw2
          replace hFw2 := Lib.hid hFw2
          replace hwq := Lib.hid hwq
          repeat' (with_reducible first | refine Q1 ?_ | refine Qe ?_ | refine QQ ?_ | (refine al_go ?_; intro b) | (refine QD ?_ <;> (try constructor) <;> intro hb <;> try intro hb1) | fail)
          all_goals (refine retG_mk (rs := []) (by first | exact .inl rfl | exact .inr rfl) (by first | rfl | assumption) (.swap _ _ _) ⟨_, _, rfl, cell_mk (by simp (disch := omega) only [push_cast, simprocAttr, *]; exact rfl) (by repeat (first | exact mm_h | apply mm_t)) (by simp (disch := omega) only [push_cast, simprocAttr, *]; exact rfl) (by (try simp (disch := omega) only [push_cast, simprocAttr, *]); (try exact rfl); done), (by show _ = _; (try simp (disch := omega) only [push_cast, simprocAttr, *]); (try exact rfl); done)⟩ (((List.Sublist.refl _).cons _).cons _ |>.cons_cons _) (LE.refl _) ⟨((false, x), (gs, cS, zS)), hFn.out, by simp only [m1e.out, hL2.out], by simp only [r1e.out]⟩)
     · have hFn : Hid (Sch.stepV x s = none) := Lib.hid (by
        rw [hF.out, if_neg]
        rintro ⟨-, -, h3, -⟩
        exact htk h3)
       have htk' : s.slot.types < 1 ∨ (1 ≤ s.slot.types ∧ 63 < s.slot.types) := by
        have : ¬ (1 ≤ s.slot.types ∧ s.slot.types ≤ 63) := fun h => htk (Sch.takes_iff.2 h)
        omega
       clear hF hcs hq hty hat hc hz hcol hzt hxt htk
       unfold Vr.cells Stp.cells at *
       generalize Sch.stepV x s = F at *
       cases s with
       | mk kd col slot order =>
       cases slot with
       | mk nm ty rq dv =>
       cases dv with
       | mk k n sv lv =>
       dsimp only at hC hE hR hk ho hi hb2 hc1 hc2 htk' ⊢
       subst hk
       rw [Sl.cells_mk] at *
       dsimp only [List.cons_append, List.nil_append] at *
       generalize r1e : slotC x.slots = R1 at *
       generalize m1e : x.slots.length = m1 at *
       generalize m2e : x.cols.length = m2 at *
       generalize hL1 : x.slots.map Sl.cells = L1 at *
       generalize hL2 : x.cols.map encC = L2 at *
       have r1e : Hid ((x.slots.map Sl.cells).flatten = R1) := r1e
       replace m1e := Lib.hid m1e
       replace m2e := Lib.hid m2e
       replace hL1 := Lib.hid hL1
       replace hL2 := Lib.hid hL2
       replace hC := Lib.hid hC
       replace hE := Lib.hid hE
       replace hR := Lib.hid hR
       subst hi
       replace hb1 := Lib.hid hb1
       replace hb2 := Lib.hid hb2
       rcases htk' with h1 | ⟨h1, h2⟩
       all_goals skip
       all_goals (
        refine trF_enterG (G := twoA Tryz.prog (.cell 4 147) (.tmp 5)) Tryz.func164 rfl (by rw [Tryz.ntmps164]; exact Nat.le_of_ble_eq_true rfl) (fun h1 h2 h3 => res_two rfl h1 h2 h3) ?_
        simp only [Tryz.ntmps164]
        repeat' (first | (with_reducible first | refine Q1 ?_ | refine Qe ?_ | refine QQ ?_ | (refine al_go ?_; intro b) | (refine QD ?_ <;> (try constructor) <;> intro hb <;> try intro hb1) | fail) | ((with_reducible apply (ck_gen Tryz.call195)); (focus exact List.Perm.refl _); (focus exact hC.out _); (focus exact LEL.refl _); (focus exact hE.out _); (rintro d st' ⟨gs, cS, zS, hz1, rfl, rfl⟩)) | fail)
        all_goals (refine retG_mk (rs := []) (by first | exact .inl rfl | exact .inr rfl) (by first | rfl | assumption) (.swap _ _ _) ⟨_, _, rfl, cell_mk (by simp (disch := omega) only [push_cast, simprocAttr, *]; exact rfl) (by repeat (first | exact mm_h | apply mm_t)) (by simp (disch := omega) only [push_cast, simprocAttr, *]; exact rfl) (by (try simp (disch := omega) only [push_cast, simprocAttr, *]); (try exact rfl); done), (by show _ = _; (try simp (disch := omega) only [push_cast, simprocAttr, *]); (try exact rfl); done)⟩ (((List.Sublist.refl _).cons _).cons _ |>.cons_cons _) (LE.refl _) ⟨((false, x), (gs, cS, zS)), hFn.out, by simp only [m1e.out, hL2.out], by simp only [r1e.out]⟩))
   · have hFn : Hid (Sch.stepV x s = none) := Lib.hid (by
      rw [hF.out, if_neg]
      rintro ⟨h1, -⟩
      unfold Sch.column at h1
      simp at h1
      omega)
     clear hF hcs hq hty hxt
     unfold Vr.cells Stp.cells at *
     generalize Sch.stepV x s = F at *
     cases s with
     | mk kd col slot order =>
     cases slot with
     | mk nm ty rq dv =>
     cases dv with
     | mk k n sv lv =>
     dsimp only at hC hE hR hk ho hb2 hcr ⊢
     subst hk
     rw [Sl.cells_mk] at *
     dsimp only [List.cons_append, List.nil_append] at *
     generalize r1e : slotC x.slots = R1 at *
     generalize m1e : x.slots.length = m1 at *
     generalize m2e : x.cols.length = m2 at *
     generalize hL1 : x.slots.map Sl.cells = L1 at *
     generalize hL2 : x.cols.map encC = L2 at *
     have r1e : Hid ((x.slots.map Sl.cells).flatten = R1) := r1e
     replace m1e := Lib.hid m1e
     replace m2e := Lib.hid m2e
     replace hL1 := Lib.hid hL1
     replace hL2 := Lib.hid hL2
     replace hC := Lib.hid hC
     replace hE := Lib.hid hE
     replace hR := Lib.hid hR
     replace hb1 := Lib.hid hb1
     replace hb2 := Lib.hid hb2
     have hcr' : col < 0 ∨ (0 ≤ col ∧ (m2 : Int) ≤ col) := by omega
     clear hcr
     rcases hcr' with h1 | ⟨h1, h2⟩
     all_goals skip
     all_goals (
      refine trF_enterG (G := twoA Tryz.prog (.cell 4 147) (.tmp 5)) Tryz.func164 rfl (by rw [Tryz.ntmps164]; exact Nat.le_of_ble_eq_true rfl) (fun h1 h2 h3 => res_two rfl h1 h2 h3) ?_
      simp only [Tryz.ntmps164]
      repeat' (first | (with_reducible first | refine Q1 ?_ | refine Qe ?_ | refine QQ ?_ | (refine al_go ?_; intro b) | (refine QD ?_ <;> (try constructor) <;> intro hb <;> try intro hb1) | fail) | ((with_reducible apply (ck_gen Tryz.call195)); (focus exact List.Perm.refl _); (focus exact hC.out _); (focus exact LEL.refl _); (focus exact hE.out _); (rintro d st' ⟨gs, cS, zS, hz1, rfl, rfl⟩)) | fail)
      all_goals (refine retG_mk (rs := []) (by first | exact .inl rfl | exact .inr rfl) (by first | rfl | assumption) (.swap _ _ _) ⟨_, _, rfl, cell_mk (by simp (disch := omega) only [push_cast, simprocAttr, *]; exact rfl) (by repeat (first | exact mm_h | apply mm_t)) (by simp (disch := omega) only [push_cast, simprocAttr, *]; exact rfl) (by (try simp (disch := omega) only [push_cast, simprocAttr, *]); (try exact rfl); done), (by show _ = _; (try simp (disch := omega) only [push_cast, simprocAttr, *]); (try exact rfl); done)⟩ (((List.Sublist.refl _).cons _).cons _ |>.cons_cons _) (LE.refl _) ⟨((false, x), (gs, cS, zS)), hFn.out, by simp only [m1e.out, hL2.out], by simp only [r1e.out]⟩))
 · have hrr : (Sch.bare s.slot false true && decide (s.order.length = 0)) = false := by
    cases h1 : Sch.bare s.slot false true with
    | false => rfl
    | true => rw [Bool.true_and, decide_eq_false fun h2 => hb ⟨h1, h2⟩]
   rw [hrr] at hR
   have hFn : Hid (Sch.stepV x s = none) := Lib.hid (by
    rw [hF.out, if_neg]
    rintro ⟨h1, h2, -⟩
    unfold Sch.column at h1
    simp at h1
    exact hb ⟨h2, by rw [h1.2]; rfl⟩)
   clear hF hcs hb hrr hq hty hxt
   unfold Vr.cells Stp.cells at *
   generalize Sch.stepV x s = F at *
   cases s with
   | mk kd col slot order =>
   cases slot with
   | mk nm ty rq dv =>
   cases dv with
   | mk k n sv lv =>
   dsimp only at hC hE hR hk ho ⊢
   subst hk
   rw [Sl.cells_mk] at *
   dsimp only [List.cons_append, List.nil_append] at *
   generalize r1e : slotC x.slots = R1 at *
   generalize m1e : x.slots.length = m1 at *
   generalize m2e : x.cols.length = m2 at *
   generalize hL1 : x.slots.map Sl.cells = L1 at *
   generalize hL2 : x.cols.map encC = L2 at *
   have r1e : Hid ((x.slots.map Sl.cells).flatten = R1) := r1e
   replace m1e := Lib.hid m1e
   replace m2e := Lib.hid m2e
   replace hL1 := Lib.hid hL1
   replace hL2 := Lib.hid hL2
   replace hC := Lib.hid hC
   replace hE := Lib.hid hE
   replace hR := Lib.hid hR
   refine trF_enterG (G := twoA Tryz.prog (.cell 4 147) (.tmp 5)) Tryz.func164 rfl (by rw [Tryz.ntmps164]; exact Nat.le_of_ble_eq_true rfl) (fun h1 h2 h3 => res_two rfl h1 h2 h3) ?_
   simp only [Tryz.ntmps164]
   repeat' (first | (with_reducible first | refine Q1 ?_ | refine Qe ?_ | refine QQ ?_ | (refine al_go ?_; intro b) | (refine QD ?_ <;> (try constructor) <;> intro hb <;> try intro hb1) | fail) | ((with_reducible apply (ck_gen Tryz.call195)); (focus exact List.Perm.refl _); (focus exact hC.out _); (focus exact LEL.refl _); (focus exact hE.out _); (rintro d st' ⟨gs, cS, zS, hz1, rfl, rfl⟩)) | fail)
   all_goals (refine retG_mk (rs := []) (by first | exact .inl rfl | exact .inr rfl) (by first | rfl | assumption) (.swap _ _ _) ⟨_, _, rfl, cell_mk (by simp (disch := omega) only [push_cast, simprocAttr, *]; exact rfl) (by repeat (first | exact mm_h | apply mm_t)) (by simp (disch := omega) only [push_cast, simprocAttr, *]; exact rfl) (by (try simp (disch := omega) only [push_cast, simprocAttr, *]); (try exact rfl); done), (by show _ = _; (try simp (disch := omega) only [push_cast, simprocAttr, *]); (try exact rfl); done)⟩ (((List.Sublist.refl _).cons _).cons _ |>.cons_cons _) (LE.refl _) ⟨((false, x), (gs, cS, zS)), hFn.out, by simp only [m1e.out, hL2.out], by simp only [r1e.out]⟩)
end Go.Proofs.YtgcienlfpnpbgaaGreat
end
section
namespace Go.Proofs.YtgcienlfpnpbgaaGreat
open Go.RowKit
namespace Sch
theorem all_len : ∀ (m : Nat) (l : List Int), l.length = m → (∀ k : Nat, k < m → (k : Int) ∈ l) → l.Nodup ∧ ∀ a ∈ l, 0 ≤ a ∧ a < m
 | 0, l, h, _ => by
  obtain rfl := List.eq_nil_of_length_eq_zero h
  exact ⟨List.nodup_nil, fun a h => by cases h⟩
 | m + 1, l, h, hk => by
  have hm := hk m (Nat.lt_succ_self m)
  have hp := List.perm_cons_erase hm
  have hl : (l.erase (m : Int)).length = m := by rw [List.length_erase_of_mem hm]; omega
  obtain ⟨h1, h2⟩ := all_len m _ hl fun k hk' => (List.mem_erase_of_ne (by omega)).2 (hk k (by omega))
  have hn : (m : Int) ∉ l.erase (m : Int) := fun h => by have := (h2 _ h).2; omega
  refine ⟨hp.nodup_iff.2 (List.nodup_cons.2 ⟨hn, h1⟩), fun a ha => ?_⟩
  rcases List.mem_cons.1 (hp.mem_iff.1 ha) with rfl | h
  · omega
  · have := h2 a h; omega
theorem nodup_len : ∀ (m : Nat) (l : List Int), l.Nodup → (∀ a ∈ l, 0 ≤ a ∧ a < m) → l.length ≤ m
 | 0, l, _, h => by
  cases l with
  | nil => exact Nat.le_refl _
  | cons a l => have := h a (List.mem_cons_self ..); omega
 | m + 1, l, hn, h => by
  by_cases hm : (m : Int) ∈ l
  · have hp := List.perm_cons_erase hm
    have hn' := List.nodup_cons.1 (hp.nodup_iff.1 hn)
    have hl : (l.erase (m : Int)).length = l.length - 1 := List.length_erase_of_mem hm
    have := nodup_len m _ hn'.2 fun a ha => by
     have h1 := h a (List.mem_of_mem_erase ha)
     have : a ≠ m := fun e => hn'.1 (e ▸ ha)
     omega
    omega
  · have := nodup_len m l hn fun a ha => by
     have h1 := h a ha
     have : a ≠ m := fun e => hm (e ▸ ha)
     omega
    omega
def put (cols : List Nat) (l : List Int) : List Nat := l.map fun o => cols.getD o.toNat 0
theorem getD_inj {cols : List Nat} (hn : cols.Nodup) {a b : Int} (ha : 0 ≤ a ∧ a < cols.length) (hb : 0 ≤ b ∧ b < cols.length) (h : cols.getD a.toNat 0 = cols.getD b.toNat 0) : a = b := by
 have h1 : a.toNat < cols.length := by omega
 have h2 : b.toNat < cols.length := by omega
 rw [List.getD_eq_getElem?_getD, List.getD_eq_getElem?_getD, List.getElem?_eq_getElem h1, List.getElem?_eq_getElem h2, Option.getD_some, Option.getD_some] at h
 have h3 : a.toNat = b.toNat := (List.getElem?_inj h1 hn).1 (by rw [List.getElem?_eq_getElem h1, List.getElem?_eq_getElem h2, h])
 omega
theorem reo_yes {cols : List Nat} (hn : cols.Nodup) : ∀ (l p : List Int), (p ++ l).Nodup → (∀ a ∈ p ++ l, 0 ≤ a ∧ a < cols.length) → reo cols l (put cols p) = some (put cols (p ++ l))
 | [], p, _, _ => by rw [reo, List.append_nil]
 | k :: l, p, h, hr => by
  have hk := hr k (by simp)
  rw [reo, if_pos]
  · have := reo_yes hn l (p ++ [k]) (by simpa using h) (by simpa using hr)
    rw [show put cols p ++ [cols.getD k.toNat 0] = put cols (p ++ [k]) by unfold put; simp]
    simpa using this
  · refine ⟨hk.1, hk.2, fun hm => ?_⟩
    obtain ⟨a, ha, he⟩ := List.mem_map.1 hm
    have := getD_inj hn (hr a (by simp [ha])) hk he
    subst this
    rw [List.nodup_append] at h
    exact h.2.2 a ha a (by simp) rfl
theorem reo_no {cols : List Nat} : ∀ (l p : List Int) (r : List Nat), reo cols l (put cols p) = some r → p.Nodup → (∀ a ∈ p, 0 ≤ a ∧ a < cols.length) → (p ++ l).Nodup ∧ ∀ a ∈ p ++ l, 0 ≤ a ∧ a < cols.length
 | [], p, _, _, hn, hr => by rw [List.append_nil]; exact ⟨hn, hr⟩
 | k :: l, p, r, h, hn, hr => by
  rw [reo] at h
  split at h
  · rename_i hc
    rw [show put cols p ++ [cols.getD k.toNat 0] = put cols (p ++ [k]) by unfold put; simp] at h
    have := reo_no l (p ++ [k]) r h (by
     rw [List.nodup_append]
     refine ⟨hn, by simp, fun a ha b hb e => ?_⟩
     rw [List.mem_singleton] at hb
     subst hb e
     exact hc.2.2 (List.mem_map.2 ⟨a, ha, rfl⟩)) (fun a ha => by
     rcases List.mem_append.1 ha with h | h
     · exact hr a h
     · rw [List.mem_singleton] at h
       subst h; omega)
    simpa using this
  · cases h
theorem reo_count {cols : List Nat} (hn : cols.Nodup) {l : List Int} (hl : l.length = cols.length) : reo cols l [] = if ∀ k : Nat, k < cols.length → l.count (k : Int) = 1 then some (put cols l) else none := by
 split
 · rename_i h
   obtain ⟨h1, h2⟩ := all_len cols.length l hl fun k hk => List.count_pos_iff.1 (by rw [h k hk]; omega)
   exact reo_yes hn l [] (by simpa using h1) (by simpa using h2)
 · rename_i h
   cases hr : reo cols l [] with
   | none => rfl
   | some r =>
    exfalso
    obtain ⟨h1, h2⟩ := reo_no l [] r hr List.nodup_nil (fun a h => by cases h)
    rw [List.nil_append] at h1 h2
    refine h fun k hk => ?_
    have hm : (k : Int) ∈ l := by
     refine Decidable.by_contra fun hm => ?_
     have := nodup_len cols.length ((k : Int) :: l) (List.nodup_cons.2 ⟨hm, h1⟩) fun a ha => by
      rcases List.mem_cons.1 ha with rfl | h
      · omega
      · exact h2 a h
     rw [List.length_cons] at this
     omega
    rw [h1.count, if_pos hm]
end Sch
end Go.Proofs.YtgcienlfpnpbgaaGreat
end
