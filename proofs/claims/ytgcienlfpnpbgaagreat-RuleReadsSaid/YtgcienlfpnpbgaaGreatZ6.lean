/- Texts put together. No statement is proved here. -/
import Derived.Test.YtgcienlfpnpbgaaGreatShelf
import Derived.Deep.QuietTactic
import Derived.BigQuiet
import Derived.Test.YtgcienlfpnpbgaaGreatZ5
set_option linter.all false
set_option maxRecDepth 10000
set_option maxHeartbeats 8000000
namespace Go.Proofs.YtgcienlfpnpbgaaGreat
open Go.RowKit
section
attribute [local push_cast] encB encI V.cells_mk V.cells_take V.cells_len isE_eq
namespace V
mutual
def cmp : V → V → Int
 | .mk k n s l, .mk k' n' s' l' => ors [sgn k k', sgn n n', cmpB s.data.toList s'.data.toList, cmpL l l']
def cmpL : List V → List V → Int
 | [], [] => 0
 | [], _ :: _ => -1
 | _ :: _, [] => 1
 | x :: a, y :: b => if x.cmp y = 0 then cmpL a b else x.cmp y
end
theorem cmpL_end (a b : List V) (i : Nat) (ha : i ≤ a.length) (hb : i ≤ b.length) (h : i = a.length ∨ i = b.length) : cmpL (a.drop i) (b.drop i) = sgn a.length b.length := by
 have h1 : (a.drop i).length = a.length - i := List.length_drop
 have h2 : (b.drop i).length = b.length - i := List.length_drop
 cases hx : a.drop i with
 | nil =>
  rw [hx] at h1
  cases hy : b.drop i with
  | nil => rw [hy] at h2; simp at h1 h2; rw [cmpL, sgn, if_neg q_o, if_neg q_o]
  | cons y t => rw [hy] at h2; simp at h1 h2; rw [cmpL, sgn, if_pos q_o]
 | cons x s =>
  rw [hx] at h1
  cases hy : b.drop i with
  | nil => rw [hy] at h2; simp at h1 h2; rw [cmpL, sgn, if_neg q_o, if_pos q_o]
  | cons y t => rw [hy] at h2; simp at h1 h2; omega
inductive Sm : V → Prop
 | mk {k n : Int} {s : ByteArray} {l : List V} (hs : s.size ≤ 1000000) (hl : l.length ≤ 1000000) (h : ∀ x ∈ l, Sm x) : Sm (.mk k n s l)
inductive Bg : V → Prop
 | mk {k n : Int} {s : ByteArray} {l : List V} (hs : s.size ≤ maxLen) (hl : l.length ≤ maxLen) (h : ∀ x ∈ l, Bg x) : Bg (.mk k n s l)
theorem Ok.bg {v : V} (h : Ok v) : Bg v := by
 induction h with
 | mk _ _ hs hl _ ih => exact .mk hs hl ih
end V
open V in
theorem listsVF (a b : List V) (ha : a.length ≤ maxLen) (IH : ∀ x ∈ a, ∀ y ∈ b, ∀ st, TrF Tryz.prog 178 [.agg x.cells, .agg y.cells] st fun r st' => r = .i (x.cmp y) ∧ st' = st) (st : St) : TrF Tryz.prog 207 [.sl .shared (a.map V.cells), .sl .shared (b.map V.cells), .fn (.func 178) [] []] st fun x st' => x = .i (cmpL a b) ∧ st' = st := by
 unfold maxLen at ha
 obtain ⟨B, hB⟩ : ∃ B, cmpL a b = B := ⟨_, rfl⟩
 have HB : Hid (cmpL (a.drop 0) (b.drop 0) = B) := hB
 rw [hB]
 clear hB
 obtain ⟨m, hm, hm1, hm2, hm3⟩ : ∃ m : Nat, (if b.length < a.length then (b.length : Int) else a.length) = m ∧ m ≤ a.length ∧ m ≤ b.length ∧ (m = a.length ∨ m = b.length) := by
  by_cases h : b.length < a.length
  · exact ⟨b.length, by rw [if_pos h], by omega, by omega, by omega⟩
  · exact ⟨a.length, by rw [if_neg h], by omega, by omega, by omega⟩
 have IH := Lib.hid IH
 refine Qin [6] Tryz.func207 Tryz.results207 Tryz.ntmps207 ?_
 repeat' (first | refine QX ?_ | (refine QB ?_; intro b) | (with_reducible refine QZ ?_ <;> (try constructor) <;> intro hb <;> try intro hb1) | fail)
 refine tr_loop (ι := Nat) (fun i A st' => i ≤ m ∧ Hid (cmpL (a.drop i) (b.drop i) = B) ∧ A.df = [] ∧ A.e 0 = .sl .shared (a.map V.cells) ∧ A.e 1 = .sl .shared (b.map V.cells) ∧ A.e 2 = .fn (.func 178) [] [] ∧ A.e 13 = .i m ∧ A.e 14 = .i i ∧ st = st') (fun i => m - i) 0 ⟨Nat.zero_le _, HB, Qf, Qf, Qf, Qf, Qf, Qf, rfl⟩ ?_
 clear hm
 rintro i A st' ⟨hi, HT, hdf, e0, e1, e2, e13, e14, rfl⟩
 by_cases hlt : i < m
 · obtain ⟨x, hx⟩ := gEx (l := a) (i := i) q_o
   obtain ⟨y, hy⟩ := gEx (l := b) (i := i) q_o
   have HE := HT.out
   rw [V.drop_cons hx, V.drop_cons hy, cmpL] at HE
   have hC := IH.out x (mem_of hx) y (mem_of hy)
   clear HT HB IH
   cases x with
   | mk k1 n1 s1 l1 =>
   cases y with
   | mk k2 n2 s2 l2 =>
   rw [V.cells_mk, V.cells_mk] at hC
   generalize V.cmp _ _ = q at *
   have hC := Lib.hid hC
   by_cases h0 : q = 0
   · rw [if_pos h0] at HE
     have HE := Lib.hid HE
     subst h0
     repeat' (first | refine QX ?_ | (refine QB ?_; intro b) | (with_reducible refine QZ ?_ <;> (try constructor) <;> intro hb <;> try intro hb1) | fail)
     refine ⟨i + 1, ⟨hlt, HE, ?_, ?_, ?_, ?_, ?_, ?_, rfl⟩, ?_⟩
     all_goals exact Qf
   · rw [if_neg h0] at HE
     rw [← HE]
     clear HE
     exact WR
 · have HE := HT.out
   rw [cmpL_end a b i q_o q_o q_o] at HE
   rw [← HE]
   clear HE HT HB IH
   repeat' (first | refine QX ?_ | (refine QB ?_; intro b) | (with_reducible refine QZ ?_ <;> (try constructor) <;> intro hb <;> try intro hb1) | refine Qc Tryz.call204 (cmpIF _ _ _) ?_ | fail)
   all_goals exact Qret
open V in
theorem valCompareB : ∀ (N : Nat) (a b : V), a.nodes ≤ N → a.Bg → b.Bg → ∀ st, TrF Tryz.prog 178 [.agg a.cells, .agg b.cells] st fun x st' => x = .i (a.cmp b) ∧ st' = st
 | 0, a, b, h, _, _ => by have := a.nodes_pos; omega
 | N + 1, .mk k n s l, .mk k' n' s' l', hN, hok, hok' => by
  intro st
  obtain ⟨hs, hl, hall⟩ := hok
  obtain ⟨hs', hl', hall'⟩ := hok'
  have IH := fun x (hx : x ∈ l) y (hy : y ∈ l') => valCompareB N x y (by have := nodes_lt (k := k) (n := n) (s := s) hx; omega) (hall x hx) (hall' y hy)
  have hL := Lib.hid (listsVF l l' hl IH)
  have hSL : s.data.toList.length = s.size := by simp
  have hB := Lib.hid fun o o' => listsBF o o' s.data.toList s'.data.toList q_o
  rw [V.cells_mk, V.cells_mk, show (V.mk k n s l).cmp (V.mk k' n' s' l') = ors [sgn k k', sgn n n', cmpB s.data.toList s'.data.toList, cmpL l l'] from cmp.eq_1 ..]
  clear IH hall hall' hN
  have hs : s.size ≤ 9223372036854775807 := hs
  have hs' : s'.size ≤ 9223372036854775807 := hs'
  generalize cmpL l l' = c4 at *
  generalize cmpB s.data.toList s'.data.toList = c3 at *
  obtain ⟨bs, hbs⟩ : ∃ bs, s.data.toList = bs := ⟨_, rfl⟩
  obtain ⟨bs', hbs'⟩ : ∃ bs, s'.data.toList = bs := ⟨_, rfl⟩
  rw [hbs] at hSL
  rw [hbs, hbs'] at hB
  refine Qin [4] Tryz.func178 Tryz.results178 Tryz.ntmps178 ?_
  repeat' (first | refine QX ?_ | (refine QB ?_; intro b) | (with_reducible refine QZ ?_ <;> (try constructor) <;> intro hb <;> try intro hb1) | refine Qc Tryz.call204 (cmpIF _ _ _) ?_ | refine Qc Tryz.call205 (cmpLF _ _ _) ?_ | refine Qc Tryz.call206 (hB.out _ _ _) ?_ | refine Qc Tryz.call203 (orF _ [sgn k k', sgn n n', c3, c4] (by simp) _) ?_ | fail)
  all_goals exact Qret
open V in
theorem valSameB (a b : V) (ha : a.Bg) (hb : b.Bg) (st : St) : TrF Tryz.prog 140 [.agg a.cells, .agg b.cells] st fun x st' => x = .b (a.cmp b == 0) ∧ st' = st := by
 have hC := Lib.hid (valCompareB a.nodes a b (Nat.le_refl _) ha hb)
 cases a with
 | mk k n s l =>
 cases b with
 | mk k' n' s' l' =>
 rw [V.cells_mk, V.cells_mk] at *
 generalize V.cmp _ _ = q at *
 refine Qin [4] Tryz.func140 Tryz.results140 Tryz.ntmps140 ?_
 exact WR
end
section
attribute [local push_cast] encB encI V.cells_mk V.cells_take V.cells_len isE_eq
namespace V
theorem sgn_self (a : Int) : sgn a a = 0 := by unfold sgn; rw [if_neg q_o, if_neg q_o]
theorem sgn_lt {a b : Int} (h : a < b) : sgn a b = -1 := by unfold sgn; rw [if_pos h]
theorem sgn_gt {a b : Int} (h : b < a) : sgn a b = 1 := by unfold sgn; rw [if_neg q_o, if_pos h]
theorem sgn_zero {a b : Int} : sgn a b = 0 ↔ a = b := by
 unfold sgn
 split
 · omega
 · split <;> omega
theorem ors_cons {x : Int} {l : List Int} (h : x ≠ 0) : ors (x :: l) = x := by rw [ors, if_neg h]
theorem ors_zero {l : List Int} : ors (0 :: l) = ors l := by rw [ors, if_pos rfl]
theorem ors_one {x : Int} : ors [x] = x := by
 rw [ors]; split
 · rename_i h; rw [h]; rfl
 · rfl
end V
open V in
theorem refCompareF : ∀ (N : Nat) (a b : V), a.nodes ≤ N → a.Ok → ∀ st, TrF Tryz.prog 160 [.agg a.cells, .agg b.cells] st fun x st' => x = .i (a.cmp b) ∧ st' = st
 | 0, a, b, h, _ => by have := a.nodes_pos; omega
 | N + 1, .mk k n s l, .mk k' n' s' l', hN, hok => by
  intro st
  obtain ⟨hk, hn, hs, hl, hall⟩ := hok
  unfold maxLen at hs hl
  have IH := Lib.hid fun x (hx : x ∈ l) y => refCompareF N x y (by have := nodes_lt (k := k) (n := n) (s := s) hx; omega) (hall x hx)
  rw [V.cells_mk, V.cells_mk, show (V.mk k n s l).cmp (V.mk k' n' s' l') = ors [sgn k k', sgn n n', cmpB s.data.toList s'.data.toList, cmpL l l'] from cmp.eq_1 ..]
  clear hall hN hk hn
  have hSL : s.data.toList.length = s.size := by simp
  have hSL' : s'.data.toList.length = s'.size := by simp
  have hCL : Hid (cmpL (l.drop 0) (l'.drop 0) = cmpL l l') := rfl
  have hCB : Hid (cmpB (s.data.toList.drop 0) (s'.data.toList.drop 0) = cmpB s.data.toList s'.data.toList) := rfl
  generalize cmpL l l' = c4 at *
  generalize cmpB s.data.toList s'.data.toList = c3 at *
  refine Qin [4] Tryz.func160 Tryz.results160 Tryz.ntmps160 ?_
  by_cases hk : k = k'
  case neg =>
   rw [ors_cons (fun h => hk (sgn_zero.1 h))]
   have hk1 : (k != k') = true := by simpa using hk
   clear hSL hSL'
   repeat' (first | refine QX ?_ | (refine QB ?_; intro b) | (with_reducible refine QZ ?_ <;> (try constructor) <;> intro hb <;> try intro hb1) | fail)
   all_goals (refine Qret (hd := ?_); (try simp (disch := omega) only [push_cast, simprocAttr, *]); try (first | exact q_e | refine LE.of_eq ?_))
   · rw [sgn_lt (by assumption)]
   · rw [sgn_gt q_o]
  subst hk
  rw [sgn_self, ors_zero]
  by_cases hn : n = n'
  case neg =>
   rw [ors_cons (fun h => hn (sgn_zero.1 h))]
   have hn1 : (n != n') = true := by simpa using hn
   have hkk : (k != k) = false := by simp
   clear hSL hSL'
   repeat' (first | refine QX ?_ | (refine QB ?_; intro b) | (with_reducible refine QZ ?_ <;> (try constructor) <;> intro hb <;> try intro hb1) | fail)
   all_goals (refine Qret (hd := ?_); (try simp (disch := omega) only [push_cast, simprocAttr, *]); try (first | exact q_e | refine LE.of_eq ?_))
   · rw [sgn_lt (by assumption)]
   · rw [sgn_gt q_o]
  subst hn
  rw [sgn_self, ors_zero]
  have hkk : (k != k) = false := by simp
  have hnn : (n != n) = false := by simp
  repeat' (first | refine QX ?_ | (refine QB ?_; intro b) | (with_reducible refine QZ ?_ <;> (try constructor) <;> intro hb <;> try intro hb1) | fail)
  refine tr_loop (ι := Nat) (fun i A st' => i ≤ s.size ∧ i ≤ s'.size ∧ Hid (cmpB (s.data.toList.drop i) (s'.data.toList.drop i) = c3) ∧ A.df = [] ∧ A.e 2 = .ip [.i k, .i n, .str s, .sl .shared (l.map V.cells)] ∧ A.e 3 = .ip [.i k, .i n, .str s', .sl .shared (l'.map V.cells)] ∧ A.e 5 = .i i ∧ st = st') (fun i => s.size - i) 0 ⟨Nat.zero_le _, Nat.zero_le _, hCB, Qf, Qf, Qf, Qf, rfl⟩ ?_
  clear hkk hnn hCB
  rintro i A st' ⟨hi, hi', HT, hdf, e2, e3, e5, rfl⟩
  by_cases hlt : (i : Int) < s.size ∧ (i : Int) < s'.size
  · obtain ⟨hlt, hlt'⟩ := hlt
    obtain ⟨x, hx⟩ := gEx (l := s.data.toList) (i := i) q_o
    obtain ⟨y, hy⟩ : ∃ y, s'.data.toList[i]? = some y := ⟨_, List.getElem?_eq_getElem q_o⟩
    have HE := HT.out
    rw [V.drop_cons hx, V.drop_cons hy, cmpB] at HE
    clear HT
    by_cases h1 : (x.toNat : Int) < y.toNat
    · rw [sgn_lt h1, if_neg (by decide)] at HE
      rw [← HE, ors_cons (by decide)]
      clear HE
      exact WR
    by_cases h2 : (y.toNat : Int) < x.toNat
    · rw [sgn_gt h2, if_neg (by decide)] at HE
      rw [← HE, ors_cons (by decide)]
      clear HE
      exact WR
    rw [show sgn (x.toNat : Int) y.toNat = 0 from sgn_zero.2 q_o, if_pos rfl] at HE
    have HE := Lib.hid HE
    repeat' (first | refine QX ?_ | (refine QB ?_; intro b) | (with_reducible refine QZ ?_ <;> (try constructor) <;> intro hb <;> try intro hb1) | fail)
    refine ⟨i + 1, ⟨by omega, by omega, HE, ?_, ?_, ?_, ?_, rfl⟩, ?_⟩
    all_goals exact Qf
  · have HE := HT.out
    rw [cmpB_end _ _ i q_o q_o q_o, hSL, hSL'] at HE
    clear HT hSL hSL'
    by_cases h1 : (s.size : Int) < s'.size
    · rw [sgn_lt h1] at HE
      rw [← HE, ors_cons (by decide)]
      clear HE
      have h3 : ((s.size : Int) != s'.size) = true := by simp; omega
      have hlt : ¬ (i : Int) < s.size := by omega
      exact WR
    by_cases h2 : (s'.size : Int) < s.size
    · rw [sgn_gt h2] at HE
      rw [← HE, ors_cons (by decide)]
      clear HE
      have h3 : ((s.size : Int) != s'.size) = true := by simp; omega
      have hlt : ¬ (i : Int) < s'.size := by omega
      exact WR
    rw [show sgn (s.size : Int) s'.size = 0 from sgn_zero.2 q_o] at HE
    rw [← HE, ors_zero, ors_one]
    have h3 : ((s.size : Int) != s'.size) = false := by simp; omega
    have hlt2 : ¬ (i : Int) < s.size := by omega
    clear HE hlt h1 h2
    repeat' (first | refine QX ?_ | (refine QB ?_; intro b) | (with_reducible refine QZ ?_ <;> (try constructor) <;> intro hb <;> try intro hb1) | fail)
    refine tr_loop (ι := Nat) (fun i A st' => i ≤ l.length ∧ i ≤ l'.length ∧ Hid (cmpL (l.drop i) (l'.drop i) = c4) ∧ A.df = [] ∧ A.e 2 = .ip [.i k, .i n, .str s, .sl .shared (l.map V.cells)] ∧ A.e 3 = .ip [.i k, .i n, .str s', .sl .shared (l'.map V.cells)] ∧ A.e 6 = .i i ∧ st = st') (fun i => l.length - i) 0 ⟨Nat.zero_le _, Nat.zero_le _, hCL, Qf, Qf, Qf, Qf, rfl⟩ ?_
    clear h3 hlt2 hi hi' hdf e2 e3 e5 hCL i A
    rintro i A st' ⟨hi, hi', HT, hdf, e2, e3, e6, rfl⟩
    by_cases hlt : (i : Int) < l.length ∧ (i : Int) < l'.length
    · obtain ⟨hlt, hlt'⟩ := hlt
      obtain ⟨x, hx⟩ := gEx (l := l) (i := i) q_o
      obtain ⟨y, hy⟩ : ∃ y, l'[i]? = some y := ⟨_, List.getElem?_eq_getElem q_o⟩
      have HE := HT.out
      rw [V.drop_cons hx, V.drop_cons hy, cmpL] at HE
      have hC := IH.out x (mem_of hx) y
      clear HT IH
      cases x with
      | mk k1 n1 s1 l1 =>
      cases y with
      | mk k2 n2 s2 l2 =>
      rw [V.cells_mk, V.cells_mk] at hC
      generalize V.cmp _ _ = q at *
      have hC := Lib.hid hC
      by_cases h0 : q = 0
      · rw [if_pos h0] at HE
        have HE := Lib.hid HE
        subst h0
        repeat' (first | refine QX ?_ | (refine QB ?_; intro b) | (with_reducible refine QZ ?_ <;> (try constructor) <;> intro hb <;> try intro hb1) | fail)
        refine ⟨i + 1, ⟨by omega, by omega, HE, ?_, ?_, ?_, ?_, rfl⟩, ?_⟩
        all_goals exact Qf
      · rw [if_neg h0] at HE
        rw [← HE]
        clear HE
        have h0' : (q != 0) = true := by simpa using h0
        exact WR
    · have HE := HT.out
      rw [cmpL_end _ _ i q_o q_o q_o] at HE
      clear HT IH
      rw [← HE]
      clear HE
      by_cases h1 : (l.length : Int) < l'.length
      · rw [sgn_lt h1]
        have hlt : ¬ (i : Int) < l.length := by omega
        exact WR
      by_cases h2 : (l'.length : Int) < l.length
      · rw [sgn_gt h2]
        have hlt : ¬ (i : Int) < l'.length := by omega
        exact WR
      rw [show sgn (l.length : Int) l'.length = 0 from sgn_zero.2 q_o]
      have hlt : ¬ (i : Int) < l.length := by omega
      exact WR
open V in
theorem refSameF (a b : V) (ha : a.Ok) (st : St) : TrF Tryz.prog 111 [.agg a.cells, .agg b.cells] st fun x st' => x = .b (a.cmp b == 0) ∧ st' = st := by
 have hC := Lib.hid (refCompareF a.nodes a b (Nat.le_refl _) ha)
 cases a with
 | mk k n s l =>
 cases b with
 | mk k' n' s' l' =>
 rw [V.cells_mk, V.cells_mk] at *
 generalize V.cmp _ _ = q at *
 refine Qin [4] Tryz.func111 Tryz.results111 Tryz.ntmps111 ?_
 exact WR
end
namespace V
theorem cmpB_self : ∀ l : List UInt8, cmpB l l = 0
 | [] => rfl
 | x :: l => by rw [cmpB, sgn_self, if_pos rfl, cmpB_self l]
theorem ors_all {a b c d : Int} : ors [a, b, c, d] = 0 ↔ a = 0 ∧ b = 0 ∧ c = 0 ∧ d = 0 := by
 unfold ors ors ors ors ors
 constructor
 · intro h
   by_cases ha : a = 0
   · rw [if_pos ha] at h
     by_cases hb : b = 0
     · rw [if_pos hb] at h
       by_cases hc : c = 0
       · rw [if_pos hc] at h
         by_cases hd : d = 0
         · exact ⟨ha, hb, hc, hd⟩
         · rw [if_neg hd] at h; exact absurd h hd
       · rw [if_neg hc] at h; exact absurd h hc
     · rw [if_neg hb] at h; exact absurd h hb
   · rw [if_neg ha] at h; exact absurd h ha
 · rintro ⟨rfl, rfl, rfl, rfl⟩; rfl
mutual
theorem cmp_self : ∀ v : V, v.cmp v = 0
 | .mk k n s l => by rw [cmp, ors_all]; exact ⟨sgn_self k, sgn_self n, cmpB_self _, cmpL_self l⟩
theorem cmpL_self : ∀ l : List V, cmpL l l = 0
 | [] => by rw [cmpL]
 | x :: l => by rw [cmpL, cmp_self x, if_pos rfl, cmpL_self l]
end
theorem cmpB_eq : ∀ a b : List UInt8, cmpB a b = 0 → a = b
 | [], [], _ => rfl
 | [], _ :: _, h => by rw [cmpB] at h; omega
 | _ :: _, [], h => by rw [cmpB] at h; omega
 | x :: a, y :: b, h => by
  rw [cmpB] at h
  split at h
  · rename_i h0
    have hxy : x.toNat = y.toNat := by have := sgn_zero.1 h0; omega
    rw [UInt8.toNat_inj.1 hxy, cmpB_eq a b h]
  · rename_i h0; exact absurd h h0
mutual
theorem cmp_eq : ∀ a b : V, a.cmp b = 0 → a = b
 | .mk k n s l, .mk k' n' s' l', h => by
  rw [cmp, ors_all] at h
  obtain ⟨h1, h2, h3, h4⟩ := h
  have hs : s = s' := by
   apply ByteArray.ext
   apply Array.ext'
   exact cmpB_eq _ _ h3
  rw [sgn_zero.1 h1, sgn_zero.1 h2, hs, cmpL_eq l l' h4]
theorem cmpL_eq : ∀ a b : List V, cmpL a b = 0 → a = b
 | [], [], _ => rfl
 | [], _ :: _, h => by rw [cmpL] at h; omega
 | _ :: _, [], h => by rw [cmpL] at h; omega
 | x :: a, y :: b, h => by
  rw [cmpL] at h
  split at h
  · rename_i h0
    rw [cmp_eq x y h0, cmpL_eq a b h]
  · rename_i h0; exact absurd h h0
end
end V
structure Sl where
 name : ByteArray
 types : Int
 req : Bool
 dv : V
def Sl.cells (s : Sl) : List D := .str s.name :: .i s.types :: .b s.req :: s.dv.cells
theorem Sl.cells_mk (nm : ByteArray) (ty : Int) (rq : Bool) (k n : Int) (s : ByteArray) (l : List V) : (Sl.mk nm ty rq (.mk k n s l)).cells = [.str nm, .i ty, .b rq, .i k, .i n, .str s, .sl .shared (l.map V.cells)] := by
 unfold Sl.cells; rw [V.cells_mk]
theorem Sl.cells_len (s : Sl) : s.cells.length = 7 := by
 unfold Sl.cells
 rw [List.length_cons, List.length_cons, List.length_cons, V.cells_len]
def Sl.Ok (s : Sl) : Prop := s.name.size ≤ maxLen ∧ (-9223372036854775808 ≤ s.types ∧ s.types ≤ 9223372036854775807) ∧ s.dv.Ok
structure Stp where
 kind : Int
 col : Int
 slot : Sl
 order : List Int
def Stp.cells (s : Stp) : List D := .i s.kind :: .i s.col :: (s.slot.cells ++ [.sl .shared (s.order.map encI)])
structure Tm where
 name : ByteArray
 slots : List Sl
 steps : List Stp
def Tm.cells (t : Tm) : List D := [.str t.name, .sl .shared (t.slots.map Sl.cells), .sl .shared (t.steps.map Stp.cells)]
structure Vr where
 slots : List Sl
 cols : List Nat
def encC (n : Nat) : List D := [.i n]
def Vr.cells (x : Vr) : List D := [.sl .shared (x.slots.map Sl.cells), .sl .shared (x.cols.map encC)]
namespace Sch
def zeroV : V := .mk 0 0 ⟨#[]⟩ []
def takes (t : Int) : Bool := decide (1 ≤ t) && decide (t ≤ 63)
def bit (t : Int) (k : Int) : Bool := bits .and .i64 (t / 2 ^ k.toNat) 1 == 1
def fits (s : Sl) (v : V) : Bool := v.right && bit s.types (match v with | .mk k _ _ _ => k)
def sound (s : Sl) : Bool := V.isName s.name.data.toList && takes s.types && fits s s.dv
def named (slots : List Sl) (name : ByteArray) (i : Nat) : Bool := (slots[i]?).any fun s => s.name.toList == name.toList
def colL (slots : List Sl) (name : ByteArray) : List Nat → Int
 | [] => -1
 | i :: l => if named slots name i then i else colL slots name l
def col (x : Vr) (name : ByteArray) : Int := colL x.slots name x.cols
def bare (s : Sl) (nm ty : Bool) : Bool := (nm || decide (s.name.size = 0)) && (ty || s.types == 0) && !s.req && (s.dv.cmp zeroV == 0)
def column (x : Vr) (s : Stp) : Bool := decide (0 ≤ s.col) && decide (s.col < x.cols.length) && decide (s.order.length = 0)
def addS (x : Vr) (s : Stp) : Option Vr :=
 if s.col = 0 ∧ s.order.length = 0 ∧ x.cols.length < 8 ∧ sound s.slot = true ∧ s.slot.req = false ∧ col x s.slot.name < 0 then some ⟨x.slots ++ [s.slot], x.cols ++ [x.slots.length]⟩ else none
def loseS (x : Vr) (s : Stp) : Option Vr :=
 if column x s = true ∧ bare s.slot false false = true ∧ x.cols.length ≠ 1 then some ⟨x.slots, x.cols.eraseIdx s.col.toNat⟩ else none
def at_ (x : Vr) (s : Stp) : Nat := x.cols.getD s.col.toNat 0
def renameS (x : Vr) (s : Stp) : Option Vr :=
 if column x s = true ∧ bare s.slot true false = true ∧ V.isName s.slot.name.data.toList = true ∧ col x s.slot.name < 0 then some ⟨x.slots.modify (at_ x s) fun y => { y with name := s.slot.name }, x.cols⟩ else none
def widenS (x : Vr) (s : Stp) : Option Vr :=
 if column x s = true ∧ bare s.slot false true = true ∧ takes s.slot.types = true ∧ (x.slots[at_ x s]?).any (fun y => bits .or .i64 y.types s.slot.types != y.types) = true then some ⟨x.slots.modify (at_ x s) fun y => { y with types := bits .or .i64 y.types s.slot.types }, x.cols⟩ else none
def reo (cols : List Nat) : List Int → List Nat → Option (List Nat)
 | [], out => some out
 | k :: l, out => if 0 ≤ k ∧ k < cols.length ∧ cols.getD k.toNat 0 ∉ out then reo cols l (out ++ [cols.getD k.toNat 0]) else none
def reorderS (x : Vr) (s : Stp) : Option Vr :=
 if s.col = 0 ∧ bare s.slot false false = true ∧ s.order.length = x.cols.length then (reo x.cols s.order []).map fun c => ⟨x.slots, c⟩ else none
def stepV (x : Vr) (s : Stp) : Option Vr :=
 if s.kind = 1 then addS x s else if s.kind = 2 then loseS x s else if s.kind = 3 then renameS x s else if s.kind = 4 then widenS x s else if s.kind = 5 then reorderS x s else none
def firstL : List Sl → Vr → Option Vr
 | [], x => some x
 | s :: l, x => if sound s = true ∧ col x s.name < 0 then firstL l ⟨x.slots ++ [s], x.cols ++ [x.slots.length]⟩ else none
def firstV (t : Tm) : Option Vr :=
 if V.isName t.name.data.toList = true ∧ 1 ≤ t.slots.length ∧ t.slots.length ≤ 8 ∧ t.steps.length ≤ 8 then firstL t.slots ⟨[], []⟩ else none
def versL : Vr → List Stp → List Vr
 | _, [] => []
 | x, s :: l => match stepV x s with
  | none => []
  | some y => y :: versL y l
def vers (t : Tm) : List Vr := match firstV t with
 | none => []
 | some x => x :: versL x t.steps
def last (t : Tm) : Nat := if (vers t).length = t.steps.length + 1 then t.steps.length + 1 else 0
def ver (t : Tm) (v : Int) : Option Vr := if 0 < last t ∧ 1 ≤ v then (vers t)[(v - 1).toNat]? else none
structure VOk (n : Nat) (x : Vr) : Prop where
 ls : x.slots.length ≤ n
 lc : 1 ≤ x.cols.length
 lc8 : x.cols.length ≤ 8
 cs : ∀ c ∈ x.cols, c < x.slots.length
 ok : ∀ s ∈ x.slots, s.Ok
end Sch
theorem readsIs : Reads Tryz.prog 50 (fun l : List Int => [D.sl .shared (l.map encI)]) fun l => (∀ x ∈ l, (Lit.int .i64 x).wf = true) ∧ l.length ≤ maxLen :=
 reads_slice' (sz := 1) Tryz.underlying50 (by kernel_rfl) q_o (reads_int (k := .i64) Tryz.underlying3) (fun _ => rfl) fun _ d hd => by
  rw [show ∀ x : Int, encI x = [D.i x] from fun _ => rfl, List.mem_singleton] at hd; subst hd; rfl
theorem Sl.cells_leaf (s : Sl) : ∀ d ∈ s.cells, d.leaf = true := by
 intro d hd
 unfold Sl.cells at hd
 simp only [List.mem_cons] at hd
 rcases hd with rfl | rfl | rfl | hd
 · rfl
 · rfl
 · rfl
 · exact V.cells_leaf _ d hd
theorem readsSl : Reads Tryz.prog 75 Sl.cells Sl.Ok := by
 intro n H enc W fuel cs x hf h
 obtain ⟨xs, m, rfl, -, hl, hn, hx⟩ := DataW.trod_struct Tryz.underlying75 h
 have hl7 : cs.length = 7 := hl.trans (by kernel_rfl)
 obtain ⟨a, a1, a2⟩ := struct_field (i := 0) (n := m) (f := fun a : ByteArray => [D.str a]) hx hn rfl (k := 1) (by kernel_rfl) (reads_string Tryz.underlying9 _) (Nat.le_refl _)
 obtain ⟨b, b1, b2⟩ := struct_field (i := 1) (n := m) (f := fun a : Int => [D.i a]) hx hn rfl (k := 1) (by kernel_rfl) (reads_int (k := .i64) Tryz.underlying3 _) (Nat.le_refl _)
 obtain ⟨c, c1, -⟩ := struct_field (i := 2) (n := m) (f := fun a : Bool => [D.b a]) hx hn rfl (k := 1) (by kernel_rfl) (reads_bool Tryz.underlying4 _) (Nat.le_refl _)
 obtain ⟨d, d1, d2⟩ := struct_field (i := 3) (n := m) (f := V.cells) hx hn rfl (k := 4) (by kernel_rfl) (readsV _) (Nat.le_refl _)
 refine ⟨⟨a, b, c, d⟩, ?_, a2, i64_bounds b2, d2⟩
 have := RepL.glue a1 (RepL.glue b1 (RepL.glue c1 (RepL.glue d1 (RepL.glue_end hl7))))
 rw [List.append_nil] at this
 exact this
def Stp.Wf (s : Stp) : Prop := (-9223372036854775808 ≤ s.kind ∧ s.kind ≤ 9223372036854775807) ∧ (-9223372036854775808 ≤ s.col ∧ s.col ≤ 9223372036854775807) ∧ s.slot.Ok ∧ s.order.length ≤ maxLen
theorem Stp.cells_len (s : Stp) : s.cells.length = 10 := by
 unfold Stp.cells
 rw [List.length_cons, List.length_cons, List.length_append, Sl.cells_len]; rfl
theorem Stp.cells_leaf (s : Stp) : ∀ d ∈ s.cells, d.leaf = true := by
 intro d hd
 unfold Stp.cells at hd
 simp only [List.mem_cons, List.mem_append, List.not_mem_nil, or_false] at hd
 rcases hd with rfl | rfl | hd | rfl
 · rfl
 · rfl
 · exact Sl.cells_leaf _ d hd
 · rfl
theorem readsStp : Reads Tryz.prog 79 Stp.cells Stp.Wf := by
 intro n H enc W fuel cs x hf h
 obtain ⟨xs, m, rfl, -, hl, hn, hx⟩ := DataW.trod_struct Tryz.underlying79 h
 have hl10 : cs.length = 10 := hl.trans (by kernel_rfl)
 obtain ⟨a, a1, a2⟩ := struct_field (i := 0) (n := m) (f := fun a : Int => [D.i a]) hx hn rfl (k := 1) (by kernel_rfl) (reads_int (k := .i64) Tryz.underlying3 _) (Nat.le_refl _)
 obtain ⟨b, b1, b2⟩ := struct_field (i := 1) (n := m) (f := fun a : Int => [D.i a]) hx hn rfl (k := 1) (by kernel_rfl) (reads_int (k := .i64) Tryz.underlying3 _) (Nat.le_refl _)
 obtain ⟨c, c1, c2⟩ := struct_field (i := 2) (n := m) (f := Sl.cells) hx hn rfl (k := 7) (by kernel_rfl) (readsSl _) (Nat.le_refl _)
 obtain ⟨d, d1, -, d2⟩ := struct_field (i := 3) (n := m) (f := fun l : List Int => [D.sl .shared (l.map encI)]) hx hn rfl (k := 1) (by kernel_rfl) (readsIs _) (Nat.le_refl _)
 refine ⟨⟨a, b, c, d⟩, ?_, i64_bounds a2, i64_bounds b2, c2, d2⟩
 have := RepL.glue a1 (RepL.glue b1 (RepL.glue c1 (RepL.glue d1 (RepL.glue_end hl10))))
 rw [List.append_nil] at this
 exact this
structure Tm.Wf (t : Tm) : Prop where
 nm : t.name.size ≤ maxLen
 ss : ∀ s ∈ t.slots, s.Ok
 sl : t.slots.length ≤ maxLen
 ps : ∀ s ∈ t.steps, s.Wf
 pl : t.steps.length ≤ maxLen
theorem readsSls : Reads Tryz.prog 33 (fun l : List Sl => [D.sl .shared (l.map Sl.cells)]) fun l => (∀ x ∈ l, x.Ok) ∧ l.length ≤ maxLen :=
 reads_slice' (sz := 7) Tryz.underlying33 (by kernel_rfl) q_o readsSl Sl.cells_len Sl.cells_leaf
theorem readsStps : Reads Tryz.prog 34 (fun l : List Stp => [D.sl .shared (l.map Stp.cells)]) fun l => (∀ x ∈ l, x.Wf) ∧ l.length ≤ maxLen :=
 reads_slice' (sz := 10) Tryz.underlying34 (by kernel_rfl) q_o readsStp Stp.cells_len Stp.cells_leaf
theorem readsTm : Reads Tryz.prog 36 Tm.cells Tm.Wf := by
 intro n H enc W fuel cs x hf h
 obtain ⟨xs, m, rfl, -, hl, hn, hx⟩ := DataW.trod_struct Tryz.underlying36 h
 have hl3 : cs.length = 3 := hl.trans (by kernel_rfl)
 obtain ⟨a, a1, a2⟩ := struct_field (i := 0) (n := m) (f := fun a : ByteArray => [D.str a]) hx hn rfl (k := 1) (by kernel_rfl) (reads_string Tryz.underlying9 _) (Nat.le_refl _)
 obtain ⟨b, b1, b2, b3⟩ := struct_field (i := 1) (n := m) (f := fun l : List Sl => [D.sl .shared (l.map Sl.cells)]) hx hn rfl (k := 1) (by kernel_rfl) (readsSls _) (Nat.le_refl _)
 obtain ⟨c, c1, c2, c3⟩ := struct_field (i := 2) (n := m) (f := fun l : List Stp => [D.sl .shared (l.map Stp.cells)]) hx hn rfl (k := 1) (by kernel_rfl) (readsStps _) (Nat.le_refl _)
 refine ⟨⟨a, b, c⟩, ?_, ⟨a2, b2, b3, c2, c3⟩⟩
 exact RepL.glue a1 (RepL.glue b1 (RepL.glue c1 (RepL.glue_end hl3)))
section
section
variable {P : Program} {r : Option Nat} {ro : Ro}
def freeL (ms : List Nat) (l : List Oper) (a c : Nat) (listed : Array Bool) : Bool := (List.range l.length).all fun i => i == a || i == c || listed.getD i false || match l[i]? with
 | some o => freeA o || waitsT ms i a || waitsT ms i c
 | none => true
theorem freeL_spec {ms : List Nat} {l : List Oper} {a c : Nat} {listed : Array Bool} (h : freeL ms l a c listed = true) {i : Nat} {o : Oper} (ho : l[i]? = some o) (ha : i ≠ a) (hc : i ≠ c) (hl : listed.getD i false = false) : freeA o = true ∨ waitsT ms i a = true ∨ waitsT ms i c = true := by
 have := List.all_eq_true.1 h i (List.mem_range.2 (List.getElem?_eq_some_iff.1 ho).1)
 rw [ho] at this
 simpa [ha, hc, hl, or_assoc] using this
theorem any_twoL {ms : List Nat} {l : List Oper} (hms : MOk .any l.toArray.toList ms) {a c : Nat} {Q : AA → St → Prop} (hac : a ≠ c) (hl1 : lastAll (addE l a c).toArray = true → lastAll l.toArray = true) (hl2 : lastAll (addE l c a).toArray = true → lastAll l.toArray = true) : ∀ (fuel : Nat) (listed : Array Bool) (A : AA) (st : St), listed.getD a false = false → listed.getD c false = false → DC .any l.toArray listed →
 (∀ (i : Nat) (o : Oper), l[i]? = some o → i ≠ a → i ≠ c → listed.getD i false = false → freeA o = true ∨ waitsT ms i a = true ∨ waitsT ms i c = true) →
 wpAnyA P r ro .any (addE l a c).toArray Q fuel listed A st → wpAnyA P r ro .any (addE l c a).toArray Q fuel listed A st → wpAnyA P r ro .any l.toArray Q fuel listed A st
 | 0, listed, A, st, ha, hc, hdc, hfr, h1, h2 => by
  refine ⟨List.eq_nil_iff_forall_not_mem.2 fun i hi => ?_, h1.2⟩
  by_cases hia : i = a
  · have := (ready_addE (l := l) (x := c) (y := a)).2 ⟨hi, fun e => absurd (hia.symm.trans e) hac⟩
    rw [h2.1] at this; cases this
  · have := (ready_addE (l := l) (x := a) (y := c)).2 ⟨hi, fun e => absurd e hia⟩
    rw [h1.1] at this; cases this
 | fuel + 1, listed, A, st, ha, hc, hdc, hfr, h1, h2 => by
  refine ⟨fun h0 => h1.1 (List.eq_nil_iff_forall_not_mem.2 fun i hi => ?_), fun i hi o ho => ?_⟩
  · have := (ready_addE.1 hi).1
    rw [h0] at this; cases this
  · have ho' : l[i]? = some o := by simpa using ho
    obtain ⟨o1, ho1, hs1⟩ := addE_same (x := a) (y := c) ho'
    obtain ⟨o2, ho2, hs2⟩ := addE_same (x := c) (y := a) ho'
    by_cases hia : i = a
    · subst hia
      exact mOpA_same hs2 (addE_dst l c i) (flag_addE hl2) (fun A st => any_listed hl2 fuel _ A st (listed_set hi)) (h2.2 i (ready_addE.2 ⟨hi, fun e => absurd e hac⟩) o2 (by simpa using ho2))
    · by_cases hic : i = c
      · subst hic
        exact mOpA_same hs1 (addE_dst l a i) (flag_addE hl1) (fun A st => any_listed hl1 fuel _ A st (listed_set hi)) (h1.2 i (ready_addE.2 ⟨hi, fun e => absurd e hia⟩) o1 (by simpa using ho1))
      · have hil : listed.getD i false = false := by
         have := (mem_ready.1 hi).1
         rw [Array.getD_eq_getD_getElem?] at this ⊢
         cases hg : listed[i]? with
         | none => rw [hg] at this; cases this
         | some b => rw [hg] at this; exact this
        have hfo : freeA o = true := by
         rcases hfr i o ho' hia hic hil with h | h | h
         · exact h
         · rw [hdc.ready hms ha hi] at h; cases h
         · rw [hdc.ready hms hc hi] at h; cases h
        have k1 := mOpA_same (f' := (decide (i + 1 = l.toArray.size) && lastAll l.toArray)) hs1 (addE_dst l a c) (flag_addE hl1) (fun _ _ h => h) (h1.2 i (ready_addE.2 ⟨hi, fun e => absurd e hia⟩) o1 (by simpa using ho1))
        have k2 := mOpA_same (f' := (decide (i + 1 = l.toArray.size) && lastAll l.toArray)) hs2 (addE_dst l c a) (flag_addE hl2) (fun _ _ h => h) (h2.2 i (ready_addE.2 ⟨hi, fun e => absurd e hic⟩) o2 (by simpa using ho2))
        refine mOpA_same (.refl o) (fun _ => rfl) id (fun A st h => ?_) (mOpA_and hfo k1 k2)
        refine any_twoL hms hac hl1 hl2 fuel _ A st (by rw [getD_set_ne false hia]; exact ha) (by rw [getD_set_ne false hic]; exact hc) (hdc.step hi) (fun j o hj h1 h2 h3 => hfr j o hj h1 h2 ?_) h.1 h.2
        cases hj2 : listed.getD j false with
        | false => rfl
        | true => rw [getD_set_true hj2] at h3; cases h3
theorem dc_addE {l : List Oper} {a c : Nat} {listed : Array Bool} (h : DC .any l.toArray listed) (ha : listed.getD a false = false) : DC .any (addE l a c).toArray listed := by
 intro k o ho hk e he hb
 by_cases hka : k = a
 · subst hka
   rw [hk] at ha; cases ha
 · rw [List.getElem?_toArray, addE_get, if_neg hka] at ho
   exact h k o (by rw [List.getElem?_toArray]; exact ho) hk e he hb
def endL (ks : List Nat) (listed : Array Bool) : Array Bool := ks.foldl (fun li k => li.setIfInBounds k true) listed
def preB (ms : List Nat) (ops : Array Oper) : List Nat → Array Bool → Bool
 | [], _ => true
 | k :: ks, listed => (Region.ready .any ops listed).contains k && mixFreeA ms ops listed k && preB ms ops ks (listed.setIfInBounds k true)
def W0 (P : Program) (r : Option Nat) (ro : Ro) (ops : Array Oper) (K : AA → St → Prop) : List Oper → AA → St → Prop
 | [], A, st => K A st
 | o :: l, A, st => mOpA P r ro false ops o (W0 P r ro ops K l) A st
def wpOrd0 (P : Program) (r : Option Nat) (ro : Ro) (ops : Array Oper) (K : AA → St → Prop) : List Nat → AA → St → Prop
 | [], A, st => K A st
 | k :: ks, A, st => ∀ o, ops[k]? = some o → mOpA P r ro false ops o (wpOrd0 P r ro ops K ks) A st
theorem any_pre {ops : Array Oper} {ms : List Nat} (hms : MOk .any ops.toList ms) (hL : LastW ms ops) {Q K : AA → St → Prop} {n : Nat} : ∀ (ks : List Nat) (listed : Array Bool) (A : AA) (st : St), Keeps ro st → DC .any ops listed →
 preB ms ops ks listed = true → (∀ A st, Keeps ro st → DC .any ops (endL ks listed) → K A st → wpAnyA P r ro .any ops Q n (endL ks listed) A st) → wpOrd0 P r ro ops K ks A st → wpAnyA P r ro .any ops Q (ks.length + n) listed A st
 | [], listed, A, st, hw, hdc, _, hk, h => by
  rw [List.length_nil, Nat.zero_add]
  exact hk A st hw hdc h
 | k :: ks, listed, A, st, hw, hdc, hB, hk, h => by
  simp only [preB, Bool.and_eq_true] at hB
  obtain ⟨⟨hr, hf⟩, hB'⟩ := hB
  have hr' : k ∈ Region.ready .any ops listed := by simpa using hr
  obtain ⟨-, o, h0, -⟩ := mem_ready.1 hr'
  rw [List.length_cons, Nat.succ_add]
  refine wpAnyA_first hms hL h0 (ks.length + n) listed A st hw hdc (mixFreeA_spec h0 hf) hr' ?_
  refine mOpA_same (.refl o) (fun _ => rfl) (f := false) (fun q => by cases q) (fun _ _ h => h) (mOpA_put hw (fun v w' hc hq => ?_) (h o h0))
  exact any_pre hms hL ks _ _ _ (hc.resolve_left (by simp)) (hdc.step hr') hB' hk hq
theorem ord0_of {l : List Oper} {ops : Array Oper} (hs : ∀ (i : Nat) (o : Oper), ops[i]? = some o → ∃ o', l[i]? = some o' ∧ SameOp o' o) (hd : ∀ j : Nat, (l.toArray[j]?).bind (fun o : Oper => o.dst) = (ops[j]?).bind (fun o : Oper => o.dst)) {K : AA → St → Prop} : ∀ (ks : List Nat) (A : AA) (st : St),
 W0 P r ro l.toArray K (ks.filterMap fun k => l[k]?) A st → wpOrd0 P r ro ops K ks A st
 | [], A, st, h => h
 | k :: ks, A, st, h => fun o ho => by
  obtain ⟨o', ho', hso⟩ := hs k o ho
  rw [List.filterMap_cons, ho'] at h
  exact mOpA_same hso hd id (fun A st => ord0_of hs hd ks A st) h
theorem w0_yes {ops : Array Oper} {o : Oper} {l : List Oper} {K : AA → St → Prop} {A : AA} {st : St} (hw : wantedA ops o A.e = true) (h : S P r (some ro) o A st fun d st' => W0 P r ro ops K l (A.put o.dst d) st') : W0 P r ro ops K (o :: l) A st := by
 show mOpA P r ro false ops o _ A st
 unfold mOpA
 rw [if_pos hw]
 replace h : if freeA o then ∃ d, frC P ro o A.e = some d ∧ _ else _ := h
 split
 · rename_i hf; rw [if_pos hf] at h; exact h
 · rename_i hf
   rw [if_neg hf] at h
   obtain ⟨h1, d, st', h2, h3⟩ := h
   exact ⟨h1.mono fun d st' hk => ⟨.inr hk.1, hk.2⟩, d, st', .inr h2, h3⟩
instance i_w0_step {ops : Array Oper} {K : AA → St → Prop} {A : AA} {st : St} {dst : Option Tmp} {op : Op} {ty : TypeId} {pos : String} {aft : Array Edge} {l : List Oper} : Go1 (W0 P r ro ops K (⟨dst, op, ty, pos, aft, none⟩ :: l) A st) (S P r (some ro) ⟨dst, op, ty, pos, aft, none⟩ A st fun d st' => W0 P r ro ops K l (A.put dst d) st') := ⟨w0_yes (wanted_none rfl)⟩
instance i_w0_nil {ops : Array Oper} {K : AA → St → Prop} {A : AA} {st : St} : Go1 (W0 P r ro ops K [] A st) (K A st) := ⟨id⟩
inductive Plan where
 | leaf (ks : List Nat)
 | node (ks : List Nat) (a c : Nat) (p q : Plan)
inductive PlanL where
 | leaf (t : List Oper)
 | node (t : List Oper) (p q : PlanL)
def Plan.n : Plan → Nat
 | .leaf ks => ks.length
 | .node ks _ _ p _ => ks.length + p.n
def pickL (l : List Oper) : List Nat → List Oper
 | [] => []
 | k :: ks => match l[k]? with
  | some o => o :: pickL l ks
  | none => pickL l ks
theorem pickL_eq (l : List Oper) : ∀ ks : List Nat, (ks.filterMap fun k => l[k]?) = pickL l ks
 | [] => rfl
 | k :: ks => by
  rw [List.filterMap_cons, pickL, pickL_eq l ks]
  cases l[k]? <;> rfl
def Plan.lists (l : List Oper) : Plan → PlanL
 | .leaf ks => .leaf (pickL l ks)
 | .node ks _ _ p q => .node (pickL l ks) (p.lists l) (q.lists l)
def Both (p q : Prop) : Prop := p ∧ q
theorem both_go {p q : Prop} (h : p) (k : q) : Both p q := ⟨h, k⟩
def wPL (P : Program) (r : Option Nat) (ro : Ro) (ops : Array Oper) (Q : AA → St → Prop) : PlanL → AA → St → Prop
 | .leaf t, A, st => W P r (some ro) ops Q t A st
 | .node t p q, A, st => W0 P r ro ops (fun A st => Both (wPL P r ro ops Q p A st) (wPL P r ro ops Q q A st)) t A st
def planB : Plan → List Oper → Array Bool → Bool
 | .leaf ks, l, listed => ks.all (fun k => decide (k < l.length)) && mixOrdA (masks .any l []) l.toArray ks listed
 | .node ks a c p q, l, listed => ks.all (fun k => decide (k < l.length)) && preB (masks .any l []) l.toArray ks listed && (a != c && !(endL ks listed).getD a false && !(endL ks listed).getD c false && freeL (masks .any l []) l a c (endL ks listed) && (lastAll (addE l a c).toArray == lastAll l.toArray) && (lastAll (addE l c a).toArray == lastAll l.toArray) && decide (p.n = q.n) && planB p (addE l a c) (endL ks listed) && planB q (addE l c a) (endL ks listed))
theorem SameOp.trans {a b c : Oper} (h : SameOp a b) (k : SameOp b c) : SameOp a c := ⟨h.dst.trans k.dst, h.op.trans k.op, h.type.trans k.type, h.pos.trans k.pos, h.guard.trans k.guard⟩
theorem lastw (l : List Oper) : LastW (masks .any l []) l.toArray := fun h j i hj hi hne => by
 unfold lastAll at h
 have := List.all_eq_true.1 h i (List.mem_range.2 q_o)
 rw [show l.toArray.size - 1 = j by omega] at this
 exact this
theorem plan_any (l0 : List Oper) {Q : AA → St → Prop} : ∀ (T : Plan) (l : List Oper) (listed : Array Bool) (A : AA) (st : St), l.length = l0.length → (∀ (i : Nat) (o : Oper), l[i]? = some o → ∃ o', l0[i]? = some o' ∧ SameOp o' o) → (∀ j : Nat, (l0.toArray[j]?).bind (fun o : Oper => o.dst) = (l.toArray[j]?).bind (fun o : Oper => o.dst)) → (lastAll l0.toArray = lastAll l.toArray) → Keeps ro st → DC .any l.toArray listed → planB T l listed = true →
 wPL P r ro l0.toArray Q (T.lists l0) A st → wpAnyA P r ro .any l.toArray Q T.n listed A st
 | .leaf ks, l, listed, A, st, hlen, hs, hd, hl, hC, hdc, hB, h => by
  simp only [planB, Bool.and_eq_true] at hB
  have hk : ∀ k ∈ ks, k < l0.length := fun k hk => by
   have := List.all_eq_true.1 hB.1 k hk
   rw [← hlen]; exact of_decide_eq_true this
  refine wpAnyA_ord (masks_ok (md := .any) l l [] (by simp) (fun k i h => by simp at h)) (lastw l) ks listed A st hC hdc hB.2 ?_
  refine ord_of_mix (l := l0) (fun i o ho => hs i o (by simpa using ho)) hd (fun h => by rw [← hl]; exact h) ks A st hk ?_
  rw [pickL_eq]
  exact h
 | .node ks a c p q, l, listed, A, st, hlen, hs, hd, hl, hC, hdc, hB, h => by
  simp only [planB, Bool.and_eq_true, Bool.not_eq_true', bne_iff_ne, ne_eq, decide_eq_true_eq, beq_iff_eq] at hB
  obtain ⟨⟨hB0, hB1⟩, ⟨⟨⟨⟨⟨⟨⟨⟨hac, hna⟩, hnc⟩, hfr⟩, hl1⟩, hl2⟩, hn⟩, hBp⟩, hBq⟩⟩ := hB
  have hk : ∀ k ∈ ks, k < l0.length := fun k hk => by
   have := List.all_eq_true.1 hB0 k hk
   rw [← hlen]; exact of_decide_eq_true this
  have hms : MOk .any l.toArray.toList (masks .any l []) := masks_ok (md := .any) l l [] (by simp) (fun k i h => by simp at h)
  have same : ∀ x y, (∀ (i : Nat) (o : Oper), (addE l x y)[i]? = some o → ∃ o', l0[i]? = some o' ∧ SameOp o' o) := fun x y i o ho => by
   have hi : i < l.length := by
    have := (List.getElem?_eq_some_iff.1 ho).1
    simpa [addE_len] using this
   obtain ⟨o1, ho1, hso⟩ := addE_same (x := x) (y := y) (List.getElem?_eq_getElem hi)
   rw [ho1] at ho
   cases ho
   obtain ⟨o', h1, h2⟩ := hs i _ (List.getElem?_eq_getElem hi)
   exact ⟨o', h1, h2.trans hso.symm⟩
  refine any_pre hms (lastw l) (n := p.n) ks listed A st hC hdc hB1 (fun A st hC hdc hK => ?_) (ord0_of (l := l0) (fun i o ho => hs i o (by simpa using ho)) hd ks A st (by rw [pickL_eq]; exact h))
  obtain ⟨hp, hq⟩ := hK
  refine any_twoL hms hac (fun h => by rw [← hl1]; exact h) (fun h => by rw [← hl2]; exact h) p.n _ A st hna hnc hdc (fun i o ho h1 h2 h3 => freeL_spec hfr ho h1 h2 h3) ?_ ?_
  · exact plan_any l0 p (addE l a c) _ A st (by rw [addE_len]; exact hlen) (same a c) (fun j => (hd j).trans (addE_dst l a c j).symm) (by rw [hl, hl1]) hC (dc_addE hdc hna) hBp hp
  · rw [hn]
    exact plan_any l0 q (addE l c a) _ A st (by rw [addE_len]; exact hlen) (same c a) (fun j => (hd j).trans (addE_dst l c a j).symm) (by rw [hl, hl2]) hC (dc_addE hdc hnc) hBq hq
def drawB (T : Plan) (l : List Oper) : Bool := decide (T.n = l.length) && planB T l (Array.replicate l.length false)
theorem w_drawT {N : Nat} {id : Nat} {l : List Oper} {X : PlanL} {A : AA} {st : St} {Q : Exit → AA → St → Prop} (T : Plan) (k : Tmp) (hk : l.head?.bind (fun o => o.dst) = some k) (hm : P.follows .mixedOrders = true) (hB : drawB T l = true) (hok : opsOk N l = true) (hX : T.lists l = X)
 (h : nes st → wPL P r (roOf st) l.toArray (Q .normal) X A st) : Tr P N r (.region id l.toArray true) A st Q := by
 clear hk
 refine tr_nes fun hne => ?_
 intro ac w hr hh
 replace h := h hne
 subst hX
 simp only [drawB, Bool.and_eq_true, decide_eq_true_eq] at hB
 obtain ⟨hn, hB⟩ := hB
 have hok' : ∀ (i : Nat) (o : Oper), l.toArray[i]? = some o → dstOk N o.dst = true ∧ guardOk N l.toArray o = true := fun i o ho => by
  have := List.all_eq_true.1 hok o (by simp at ho; exact List.mem_of_getElem? ho)
  simpa using this
 have he := Ext.drew (OwnS st) w
 have dc : DC .any l.toArray (Array.replicate l.length false) := fun k o _ hl => absurd hl (by rw [getD_rep]; exact Bool.false_ne_true)
 have hany := plan_any (P := P) (r := r) (ro := roOf st) l T l (Array.replicate l.length false) A st rfl (fun i o ho => ⟨o, ho, .refl o⟩) (fun _ => rfl) rfl (keeps_roOf st) dc hB h
 rw [hn] at hany
 refine wpIn_region_any hm ?_
 have hsz : l.toArray.size = l.length := by simp
 rw [hsz]
 exact wpAnyIn_of_A (masks_ok (md := .any) l l [] (by simp) (fun k i h => by simp at h)) (lastw l) hok' _ _ A st ac w.drew _ (.inl (keeps_roOf st)) dc (hr.ext he) (hh.drewN 1) hany fun A' st' a' w' q1 q2 q3 q5 => ⟨A', st', q1, q2, he.trans q3, q5⟩
class AppN (a b : List Oper) (c : outParam (List Oper)) : Prop where
 go : List.append a b = c
instance appN_nil {b : List Oper} : AppN [] b b := ⟨rfl⟩
instance appN_cons {o : Oper} {a b c : List Oper} [h : AppN a b c] : AppN (o :: a) b (o :: c) := ⟨congrArg (List.cons o) h.go⟩
instance i_w_app {m : Option Ro} {ops : Array Oper} {K : AA → St → Prop} {a b c : List Oper} {A : AA} {st : St} [h : AppN a b c] : Go2 (W P r m ops K (List.append a b) A st) (W P r m ops K c A st) := ⟨fun k => by rw [h.go]; exact k⟩
end
end
section
section
variable {P : Program} {st : St} {w : World}
theorem zero_mem {z : Array Value} {n : Nat} (hz : 0 < z.size) : ∀ v ∈ (Builtin.zeroCells z n).toList, v ∈ z.toList := by
 intro v hv
 unfold Builtin.zeroCells at hv
 rw [Array.toList_map, List.mem_map] at hv
 obtain ⟨i, -, rfl⟩ := hv
 have hlt : i % z.size < z.size := Nat.mod_lt _ hz
 rw [getElem!_pos z _ hlt]
 exact Array.getElem_mem_toList hlt
def zOk (v : Value) : Bool := noAgg v && (leafD v).leaf
theorem zOk_rep {O : Nat → Nat → Prop} {us : List Value} (h : ∀ v ∈ us, zOk v = true) : RepL O w us (us.map leafD) ∧ ∀ d ∈ us.map leafD, d.leaf = true := by
 have h1 : ∀ v ∈ us, noAgg v = true ∧ (leafD v).leaf = true := fun v hv => by
  have := h v hv
  unfold zOk at this
  rwa [Bool.and_eq_true] at this
 refine ⟨?_, fun d hd => ?_⟩
 · have := RepL.map (O := O) (w := w) (l := us) (f := id) (g := leafD) (fun x hx => leafD_rep (h1 x hx).1)
   rwa [List.map_id] at this
 · obtain ⟨v, hv, rfl⟩ := List.mem_map.1 hd
   exact (h1 v hv).2
theorem new_for {g : Nat} {e : TypeId} {cs : List D} {s0 : St} (h : Holds (.box g e cs :: s0) w) {us : List Value} {cs' : List D} (hr : RepL (OwnS (.box g e cs :: s0)) w us cs') (hl : ∀ d ∈ cs', d.leaf = true) :
 Holds (.box w.heap.size e cs' :: s0) (w.drew.alloc (.cells us.toArray e)) ∧ Ext (OwnS (.box g e cs :: s0)) w (OwnS (.box w.heap.size e cs' :: s0)) (w.drew.alloc (.cells us.toArray e)) := by
 have he := Ext.drewN (OwnS (.box g e cs :: s0)) w 1
 have := new_box (h.drewN 1) e (hr.ext he) hl
 have hs : (Res.box w.heap.size e cs' :: s0).Sublist (.box w.heap.size e cs' :: .box g e cs :: s0) := (List.sublist_cons_self _ _).cons₂ _
 exact ⟨this.1.sub hs, (he.trans this.2).trans (Ext.drop (fun _ h => hs.subset h) _)⟩
theorem run_appendRow (T ty e : TypeId) {i : TypeInfo} {zv : Value} (hd : P.underlying T = some (.slice e)) (hi : P.info? e = some i) (hzv : i.zero = some zv) (hzs : zv.cells.size = i.size) (hsz : 0 < i.size) (hz : ∀ v ∈ zv.cells.toList, zOk v = true)
 {g n cap : Nat} {ds zs : List D} {s0 : St} (h : Holds (.box g e (ds ++ zs) :: s0) w) (hn : n ≤ cap) (hc : cap ≤ maxLen) (hds : ds.length = n * i.size) (hl : (ds ++ zs).length = cap * i.size)
 {xad : Addr} {m xcap : Nat} {news : List Value} {yd : List D} (hnl : news.length = m * i.size) (hnews : ∀ j u, news[j]? = some u → w.cell? (xad.add j) = some u) (hrep : RepL (OwnS (.box g e (ds ++ zs) :: s0)) w news yd) (hleaf : ∀ d ∈ yd, d.leaf = true)
 (hb : (n + m) * i.bytes ≤ 140737488355328) (hm : n + m ≤ 140737488355328) :
 ∃ w' g' cap' zs', (Builtin.append_ #[T, T] ty #[.slice (some ⟨g, 0, none⟩) n cap, .slice (some xad) m xcap]).run P w = .ok (.slice (some ⟨g', 0, none⟩) (n + m) cap') w' ∧ n + m ≤ cap' ∧ cap' ≤ maxLen ∧ (ds ++ yd ++ zs').length = cap' * i.size ∧
  Holds (.box g' e (ds ++ yd ++ zs') :: s0) w' ∧ Ext (OwnS (.box g e (ds ++ zs) :: s0)) w (OwnS (.box g' e (ds ++ yd ++ zs') :: s0)) w' := by
 obtain ⟨⟨cur, hg, hr⟩, hlc⟩ := h.2 _ (List.mem_cons_self ..)
 have hcs : cur.toList.length = cap * i.size := hr.1.trans hl
 have hyl : yd.length = m * i.size := hrep.1.symm.trans hnl
 have hmul : n * i.size + m * i.size = (n + m) * i.size := (Nat.add_mul ..).symm
 have htk : RepL (OwnS (.box g e (ds ++ zs) :: s0)) w (cur.toList.take (n * i.size)) ds := by
  have := hr.take (n * i.size)
  rwa [List.take_append_of_le_length q_o, List.take_of_length_le (l := ds) q_o] at this
 have hdl : ∀ d ∈ ds, d.leaf = true := fun d hd => hlc d (List.mem_append_left _ hd)
 have hzl : ∀ d ∈ zs, d.leaf = true := fun d hd => hlc d (List.mem_append_right _ hd)
 by_cases hroom : n + m ≤ cap
 · have hle : (n + m) * i.size ≤ cap * i.size := Nat.mul_le_mul_right _ hroom
   have hrun := run_append_room (P := P) w T ty e i hd hi g n cap cur hg xad m xcap news hnl hnews (hrep.leafOne hleaf) hroom (by rw [← Array.length_toList]; omega)
   have hdr : RepL (OwnS (.box g e (ds ++ zs) :: s0)) w (cur.toList.drop (n * i.size + news.length)) (zs.drop (m * i.size)) := by
    have := hr.drop (n * i.size + news.length)
    rwa [List.drop_append, List.drop_of_length_le (l := ds) q_o, List.nil_append, show n * i.size + news.length - ds.length = m * i.size by omega] at this
   obtain ⟨q1, q2⟩ := set_row (us' := (cur.toList.take (n * i.size) ++ news ++ cur.toList.drop (n * i.size + news.length)).toArray) h hg (by
    rw [← Array.length_toList, ← Array.length_toList]
    simp only [List.length_append, List.length_take, List.length_drop]
    omega) ((htk.append hrep).append hdr) (fun d hd => by
     rw [List.mem_append, List.mem_append] at hd
     rcases hd with (hd | hd) | hd
     · exact hdl d hd
     · exact hleaf d hd
     · exact hzl d (List.mem_of_mem_drop hd))
   refine ⟨_, g, cap, zs.drop (m * i.size), hrun, hroom, hc, ?_, q1, q2⟩
   simp only [List.length_append, List.length_drop] at hl ⊢
   omega
 · have hrun := run_append_grow (P := P) w T ty e i zv hd hi hzv ⟨g, 0, none⟩ n cap (cur.toList.take (n * i.size)) (by rw [List.length_take]; have : n * i.size ≤ cap * i.size := Nat.mul_le_mul_right _ hn; omega) (fun j v hv => by
    rw [add_lit, Nat.zero_add, cell_of_row w g j cur e (0, 0) hg]
    rw [List.getElem?_take] at hv
    split at hv
    · rw [← hv]; simp
    · cases hv) xad m xcap news hnl hnews q_o q_o (growslice_fits q_o hb)
   have hge := grownCap_ge w (n + m) cap e
   have hcm := grownCap_le_maxLen w (n + m) cap e (by unfold maxLen; omega)
   generalize grownCap w (n + m) cap e = nc at *
   have hzm := zOk_rep (O := OwnS (.box g e (ds ++ zs) :: s0)) (w := w) fun v hv => hz v (zero_mem (n := nc - (n + m)) q_o v hv)
   have hq := new_for h ((htk.append hrep).append hzm.1) (fun d hd => by
    rw [List.mem_append, List.mem_append] at hd
    rcases hd with (hd | hd) | hd
    · exact hdl d hd
    · exact hleaf d hd
    · exact hzm.2 d hd)
   have heq : ((cur.toList.take (n * i.size)).toArray ++ news.toArray ++ Builtin.zeroCells zv.cells (nc - (n + m))) = ((cur.toList.take (n * i.size) ++ news) ++ (Builtin.zeroCells zv.cells (nc - (n + m))).toList).toArray := by simp
   rw [heq] at hrun
   refine ⟨_, w.heap.size, nc, _, hrun, hge, hcm, ?_, hq.1, hq.2⟩
   simp only [List.length_append, List.length_map, Array.length_toList, size_zeroCells, hzs]
   rw [hds, hyl, ← Nat.add_mul, ← Nat.add_mul]
   congr 1
   omega
theorem run_appendFirst (T ty e : TypeId) {i : TypeInfo} {zv : Value} (hd : P.underlying T = some (.slice e)) (hi : P.info? e = some i) (hzv : i.zero = some zv) (hzs : zv.cells.size = i.size) (hsz : 0 < i.size) (hz : ∀ v ∈ zv.cells.toList, zOk v = true)
 (h : Holds st w) {x : Value} (hx : Rep (OwnS st) w x (.sl .tight []))
 {xad : Addr} {m xcap : Nat} {news : List Value} {yd : List D} (hnl : news.length = m * i.size) (hnews : ∀ j u, news[j]? = some u → w.cell? (xad.add j) = some u) (hrep : RepL (OwnS st) w news yd) (hleaf : ∀ d ∈ yd, d.leaf = true)
 (hpos : 0 < m) (hb : m * i.bytes ≤ 140737488355328) (hm : m ≤ 140737488355328) :
 ∃ w' g' cap' zs', (Builtin.append_ #[T, T] ty #[x, .slice (some xad) m xcap]).run P w = .ok (.slice (some ⟨g', 0, none⟩) m cap') w' ∧ m ≤ cap' ∧ cap' ≤ maxLen ∧ (yd ++ zs').length = cap' * i.size ∧
  Holds (.box g' e (yd ++ zs') :: st) w' ∧ Ext (OwnS st) w (OwnS (.box g' e (yd ++ zs') :: st)) w' := by
 obtain ⟨a, cap, us, sz, rfl, c1, c2, c3, c4, c5, c6, c7, c8, c9, c10⟩ := calm_src hx
 have hcap : cap = 0 := c10
 subst hcap
 have hyl : yd.length = m * i.size := hrep.1.symm.trans hnl
 have hrun : ∃ old, (Builtin.append_ #[T, T] ty #[.slice a ([] : List (List D)).length 0, .slice (some xad) m xcap]).run P w = .ok (.slice (some ⟨w.heap.size, 0, none⟩) m (grownCap w m old e)) (w.drew.alloc (.cells (news.toArray ++ Builtin.zeroCells zv.cells (grownCap w m old e - m)) e)) := by
  cases a with
  | none => exact ⟨0, run_append_nil (P := P) w T ty e i zv hd hi hzv xad m xcap news hnl hnews hpos q_o q_o⟩
  | some ad =>
   refine ⟨0, ?_⟩
   have := run_append_grow (P := P) w T ty e i zv hd hi hzv ad 0 0 [] (by simp) (fun j v hv => by simp at hv) xad m xcap news hnl hnews q_o q_o (growslice_fits q_o (by rw [Nat.zero_add]; exact hb))
   simpa using this
 obtain ⟨old, hrun⟩ := hrun
 have hge := grownCap_ge w m old e
 have hcm := grownCap_le_maxLen w m old e (by unfold maxLen; omega)
 generalize grownCap w m old e = nc at *
 have hzm := zOk_rep (O := OwnS st) (w := w) fun v hv => hz v (zero_mem (n := nc - m) q_o v hv)
 have he := Ext.drewN (OwnS st) w 1
 have hq := new_box (h.drewN 1) e ((hrep.append hzm.1).ext he) (fun d hd => by
  rw [List.mem_append] at hd
  exact hd.elim (hleaf d) (hzm.2 d))
 have heq : (news.toArray ++ Builtin.zeroCells zv.cells (nc - m)) = (news ++ (Builtin.zeroCells zv.cells (nc - m)).toList).toArray := by simp
 rw [heq] at hrun
 refine ⟨_, w.heap.size, nc, _, hrun, hge, hcm, ?_, hq.1, he.trans hq.2⟩
 simp only [List.length_append, List.length_map, Array.length_toList, size_zeroCells, hzs]
 rw [hyl, ← Nat.add_mul]
 congr 1
 omega
end
section
variable {P : Program} {N : Nat} {r : Option Nat} {A : AA} {st : St} {Q : Exit → AA → St → Prop} {m : Option Ro} {k : D → St → Prop} {dst : Option Tmp} {ty : TypeId} {pos : String} {aft : Array Edge} {gd : Option (Nat × Bool)} {o : Oper} {w : World}
def rowT (P : Program) (t : TypeId) : Option (TypeId × Nat × Nat) := (tinfo P t).bind fun ti => match ti.k with
 | .slice el sz bytes z => if z.all zOk = true then some (el, sz, bytes) else none
 | _ => none
theorem rowT_spec {t el : TypeId} {sz bytes : Nat} (h : rowT P t = some (el, sz, bytes)) : P.underlying t = some (.slice el) ∧ ∃ i zv, P.info? el = some i ∧ i.zero = some zv ∧ zv.cells.size = i.size ∧ 0 < i.size ∧ i.size = sz ∧ i.bytes = bytes ∧ ∀ v ∈ zv.cells.toList, zOk v = true := by
 unfold rowT at h
 cases ht : tinfo P t with
 | none => rw [ht] at h; cases h
 | some ti =>
  rw [ht, Option.bind_some] at h
  split at h
  · rename_i el' sz' bytes' z hk
    split at h
    · rename_i hz
      cases h
      obtain ⟨hu, ii, zv, q1, q2, q3, q4, q5, q6, q7⟩ := (und_of_k ht).2.2.2.2.1 _ _ _ _ hk
      subst q4
      exact ⟨hu, ii, zv, q1, q2, q7, q6, rfl, q5, by rw [q3]; exact List.all_eq_true.1 hz⟩
    · cases h
  · cases h
def RowK (P : Program) (m : Option Ro) (t : TypeId) (p : D × D) (st : St) (k : D → St → Prop) : Prop :=
 ∃ (el : TypeId) (sz bytes : Nat) (g n cap : Nat) (ds zs : List D) (oy : Own) (ys : List (List D)) (s1 : Nat → List D → St), p = (.ar g 0 n cap, .sl oy ys) ∧ rowT P t = some (el, sz, bytes) ∧ (∀ g' cs', ResAt (.box g el (ds ++ zs)) (.box g' el cs') st (s1 g' cs')) ∧ ds.length = n * sz ∧ (ds ++ zs).length = cap * sz ∧ (∀ a ∈ ys, a.length = sz) ∧ (n + ys.length) * bytes ≤ 140737488355328 ∧ n + ys.length ≤ 140737488355328 ∧
  ∀ g' cap' zs', n + ys.length ≤ cap' → (ds ++ ys.flatten ++ zs').length = cap' * sz → Keep m (s1 g' (ds ++ ys.flatten ++ zs')) ∧ k (.ar g' 0 (n + ys.length) cap') (s1 g' (ds ++ ys.flatten ++ zs'))
theorem s_appR {t : TypeId} {x y : Operand} (h : Ev (pairX (ev A.e x) (ev A.e y)) fun p => RowK P m t p st k) : S P r m ⟨dst, .call ⟨.builtin .append, #[x, y], #[t, t]⟩, ty, pos, aft, gd⟩ A st k := by
 obtain ⟨p, h1, el, sz, bytes, g, n, cap, ds, zs, oy, ys, s1, rfl, h2, h3, h4, h5, h6, h7, h8, h9⟩ := h
 unfold pairX at h1
 split at h1
 · rename_i d d' hx hy
   cases h1
   refine s_chain (R := fun d st' => ∃ g' cap' zs', n + ys.length ≤ cap' ∧ (ds ++ ys.flatten ++ zs').length = cap' * sz ∧ d = .ar g' 0 (n + ys.length) cap' ∧ st' = s1 g' (ds ++ ys.flatten ++ zs')) rfl ?_ ⟨_, _, 0, n + ys.length, [], Nat.le_refl _, by rw [List.append_nil, List.length_append, flat_len h6, h4, Nat.add_mul], rfl, rfl⟩ fun d st' ⟨g', cap', zs', ha, hb, e1, e2⟩ => by subst e1 e2; exact h9 g' cap' zs' ha hb
   refine opC_val (by intro c hc; cases hc) fun ρ w hr hh => .inl ?_
   have v1 := hr _ (by simp [Op.operands, Call.operands]) _ hx
   have v2 := hr _ (by simp [Op.operands, Call.operands]) _ hy
   obtain ⟨q1, i, zv, q2, q3, q4, q5, rfl, rfl, q8⟩ := rowT_spec h2
   obtain ⟨s0, p1, -⟩ := (h3 g (ds ++ zs)).perm
   have hown := OwnS.perm p1
   have hh' := hh.perm p1
   unfold execOp
   simp only [resolve, invoke, builtin, Sem.run_bind, Sem.run_pure, Result.andThen_ok, List.map_toArray, List.map_cons, List.map_nil]
   generalize ρ x = xv at v1
   generalize ρ y = yv at v2
   cases v1 with
   | ar _ _ _ _ c1 c2 =>
   rw [hown] at v2
   obtain ⟨xa, xcap, xus, xsz, rfl, x1, x2, x3, x4, x5, x6, x7, x8, x9, -⟩ := calm_src v2
   by_cases hys : ys = []
   · subst hys
     have := run_append_zero (w := w) t ty el i q1 q2 (some ⟨g, 0, none⟩) n cap c1 xa xcap
     rw [show ([] : List (List D)).length = 0 from rfl]
     rw [this]
     obtain ⟨s0', p1', p2'⟩ := (h3 g (ds ++ zs)).perm
     refine ⟨_, w, rfl, _, s1 g (ds ++ zs), .ar g 0 n cap c1 c2, hh.perm (p1'.trans p2'.symm), ?_, g, cap, zs, by simpa using c1, by simpa using h5, by simp, by simp⟩
     rw [OwnS.perm (p1'.trans p2'.symm)]
     exact Ext.refl _ _
   · obtain ⟨xad, rfl⟩ : ∃ ad, xa = some ad := by
      cases xa with
      | none => have := x8 rfl; have : 0 < ys.length := List.length_pos_iff.2 hys; omega
      | some ad => exact ⟨ad, rfl⟩
     obtain ⟨w', g', cap', zs', e1, e2, e3, e4, e5, e6⟩ := run_appendRow t ty el q1 q2 q3 q4 q5 q8 hh' c1 c2 h4 h5 (xcap := xcap) (by rw [x6.1]; exact flat_len h6) (calm_own x9 rfl) x6 x7 h7 h8
     obtain ⟨s0', p1', p2'⟩ := (h3 g' (ds ++ ys.flatten ++ zs')).perm
     have hs : s0.Perm s0' := (List.perm_cons _).1 (p1.symm.trans p1')
     have p3 : (Res.box g' el (ds ++ ys.flatten ++ zs') :: s0).Perm (s1 g' (ds ++ ys.flatten ++ zs')) := (hs.cons _).trans p2'.symm
     rw [e1]
     refine ⟨_, w', rfl, _, _, .ar g' 0 _ cap' e2 e3, e5.perm p3, ?_, g', cap', zs', e2, e4, rfl, rfl⟩
     rw [hown, ← OwnS.perm p3]; exact e6
 · cases h1
def Row2 (m : Option Ro) (q : TypeId × Nat × Nat) (p : D × D) (st : St) (k : D → St → Prop) : Prop :=
 ∃ (g n cap : Nat) (ds zs : List D) (oy : Own) (ys : List (List D)) (s1 : Nat → List D → St), p = (.ar g 0 n cap, .sl oy ys) ∧ (∀ g' cs', ResAt (.box g q.1 (ds ++ zs)) (.box g' q.1 cs') st (s1 g' cs')) ∧ ds.length = n * q.2.1 ∧ (ds ++ zs).length = cap * q.2.1 ∧ (∀ a ∈ ys, a.length = q.2.1) ∧ (n + ys.length) * q.2.2 ≤ 140737488355328 ∧ n + ys.length ≤ 140737488355328 ∧
  ∀ g' cap' zs', n + ys.length ≤ cap' → (ds ++ ys.flatten ++ zs').length = cap' * q.2.1 → Keep m (s1 g' (ds ++ ys.flatten ++ zs')) ∧ k (.ar g' 0 (n + ys.length) cap') (s1 g' (ds ++ ys.flatten ++ zs'))
theorem rk_go {t : TypeId} {p : D × D} (h : Ev (rowT P t) fun q => Row2 m q p st k) : RowK P m t p st k := by
 obtain ⟨⟨el, sz, bytes⟩, h1, g, n, cap, ds, zs, oy, ys, s1, h2, h3, h4, h5, h6, h7, h8, h9⟩ := h
 exact ⟨el, sz, bytes, g, n, cap, ds, zs, oy, ys, s1, h2, h1, h3, h4, h5, h6, h7, h8, h9⟩
theorem r2_go {el : TypeId} {sz bytes g n cap : Nat} {ds zs : List D} {oy : Own} {ys : List (List D)} {s1 : Nat → List D → St} (h4 : ds.length = n * sz) (h5 : (ds ++ zs).length = cap * sz) (h3 : ∀ g' cs', ResAt (.box g el (ds ++ zs)) (.box g' el cs') st (s1 g' cs')) (h6 : ∀ a ∈ ys, a.length = sz) (h7 : (n + ys.length) * bytes ≤ 140737488355328) (h8 : n + ys.length ≤ 140737488355328)
 (h9 : ∀ g' cap' zs', n + ys.length ≤ cap' → (ds ++ ys.flatten ++ zs').length = cap' * sz → Keep m (s1 g' (ds ++ ys.flatten ++ zs')) ∧ k (.ar g' 0 (n + ys.length) cap') (s1 g' (ds ++ ys.flatten ++ zs'))) : Row2 m (el, sz, bytes) (.ar g 0 n cap, .sl oy ys) st k := ⟨g, n, cap, ds, zs, oy, ys, s1, rfl, h3, h4, h5, h6, h7, h8, h9⟩
def RowN (P : Program) (m : Option Ro) (t : TypeId) (p : D × D) (st : St) (k : D → St → Prop) : Prop :=
 ∃ (el : TypeId) (sz bytes : Nat) (oy : Own) (ys : List (List D)), p = (.sl .tight [], .sl oy ys) ∧ rowT P t = some (el, sz, bytes) ∧ 0 < ys.length ∧ (∀ a ∈ ys, a.length = sz) ∧ ys.length * bytes ≤ 140737488355328 ∧ ys.length ≤ 140737488355328 ∧
  ∀ g' cap' zs', ys.length ≤ cap' → (ys.flatten ++ zs').length = cap' * sz → Keep m (.box g' el (ys.flatten ++ zs') :: st) ∧ k (.ar g' 0 ys.length cap') (.box g' el (ys.flatten ++ zs') :: st)
theorem s_appN {t : TypeId} {x y : Operand} (h : Ev (pairX (ev A.e x) (ev A.e y)) fun p => RowN P m t p st k) : S P r m ⟨dst, .call ⟨.builtin .append, #[x, y], #[t, t]⟩, ty, pos, aft, gd⟩ A st k := by
 obtain ⟨p, h1, el, sz, bytes, oy, ys, rfl, h2, hpos, h6, h7, h8, h9⟩ := h
 unfold pairX at h1
 split at h1
 · rename_i d d' hx hy
   cases h1
   refine s_chain (R := fun d st' => ∃ g' cap' zs', ys.length ≤ cap' ∧ (ys.flatten ++ zs').length = cap' * sz ∧ d = .ar g' 0 ys.length cap' ∧ st' = .box g' el (ys.flatten ++ zs') :: st) rfl ?_ ⟨_, _, 0, ys.length, [], Nat.le_refl _, by rw [List.append_nil, flat_len h6], rfl, rfl⟩ fun d st' ⟨g', cap', zs', ha, hb, e1, e2⟩ => by subst e1 e2; exact h9 g' cap' zs' ha hb
   refine opC_val (by intro c hc; cases hc) fun ρ w hr hh => .inl ?_
   have v1 := hr _ (by simp [Op.operands, Call.operands]) _ hx
   have v2 := hr _ (by simp [Op.operands, Call.operands]) _ hy
   obtain ⟨q1, i, zv, q2, q3, q4, q5, rfl, rfl, q8⟩ := rowT_spec h2
   unfold execOp
   simp only [resolve, invoke, builtin, Sem.run_bind, Sem.run_pure, Result.andThen_ok, List.map_toArray, List.map_cons, List.map_nil]
   generalize ρ x = xv at v1
   generalize ρ y = yv at v2
   obtain ⟨xa, xcap, xus, xsz, rfl, x1, x2, x3, x4, x5, x6, x7, x8, x9, -⟩ := calm_src v2
   obtain ⟨xad, rfl⟩ : ∃ ad, xa = some ad := by
    cases xa with
    | none => have := x8 rfl; omega
    | some ad => exact ⟨ad, rfl⟩
   obtain ⟨w', g', cap', zs', e1, e2, e3, e4, e5, e6⟩ := run_appendFirst t ty el q1 q2 q3 q4 q5 q8 hh v1 (xcap := xcap) (by rw [x6.1]; exact flat_len h6) (calm_own x9 rfl) x6 x7 hpos h7 h8
   rw [e1]
   exact ⟨_, w', rfl, _, _, .ar g' 0 _ cap' e2 e3, e5, e6, g', cap', zs', e2, e4, rfl, rfl⟩
 · cases h1
def RowN2 (m : Option Ro) (q : TypeId × Nat × Nat) (p : D × D) (st : St) (k : D → St → Prop) : Prop :=
 ∃ (oy : Own) (ys : List (List D)), p = (.sl .tight [], .sl oy ys) ∧ 0 < ys.length ∧ (∀ a ∈ ys, a.length = q.2.1) ∧ ys.length * q.2.2 ≤ 140737488355328 ∧ ys.length ≤ 140737488355328 ∧
  ∀ g' cap' zs', ys.length ≤ cap' → (ys.flatten ++ zs').length = cap' * q.2.1 → Keep m (.box g' q.1 (ys.flatten ++ zs') :: st) ∧ k (.ar g' 0 ys.length cap') (.box g' q.1 (ys.flatten ++ zs') :: st)
theorem rn_go {t : TypeId} {p : D × D} (h : Ev (rowT P t) fun q => RowN2 m q p st k) : RowN P m t p st k := by
 obtain ⟨⟨el, sz, bytes⟩, h1, oy, ys, h2, h3, h4, h5, h6, h7⟩ := h
 exact ⟨el, sz, bytes, oy, ys, h2, h1, h3, h4, h5, h6, h7⟩
theorem rn2_go {el : TypeId} {sz bytes : Nat} {oy : Own} {ys : List (List D)} (h4 : 0 < ys.length) (h6 : ∀ a ∈ ys, a.length = sz) (h7 : ys.length * bytes ≤ 140737488355328) (h8 : ys.length ≤ 140737488355328)
 (h9 : ∀ g' cap' zs', ys.length ≤ cap' → (ys.flatten ++ zs').length = cap' * sz → Keep m (.box g' el (ys.flatten ++ zs') :: st) ∧ k (.ar g' 0 ys.length cap') (.box g' el (ys.flatten ++ zs') :: st)) : RowN2 m (el, sz, bytes) (.sl .tight [], .sl oy ys) st k := ⟨oy, ys, rfl, h4, h6, h7, h8, h9⟩
end
def Lend (st : St) (d d' : D) : Prop := ∀ w v, Holds st w → Rep (OwnS st) w v d → Rep (OwnS []) w v d'
def LendL (st : St) : List D → List D → Prop
 | [], [] => True
 | d :: l, d' :: l' => Lend st d d' ∧ LendL st l l'
 | _, _ => False
section
variable {st : St} {w : World}
theorem ext_nil (O : Nat → Nat → Prop) (w : World) : Ext O w (OwnS []) w := (Ext.refl O w).less fun b off h => absurd h (OwnS.nil b off)
theorem Lend.refl (d : D) : Lend st d d := fun w _ _ h => h.ext (ext_nil _ w)
theorem Lend.sl (o : Own) (es : List (List D)) : Lend st (.sl o es) (.sl .shared es) := fun w _ _ h => (h.ext (ext_nil _ w)).share
theorem LendL.nil : LendL st [] [] := trivial
theorem LendL.cons {d d' : D} {l l' : List D} (h : Lend st d d') (k : LendL st l l') : LendL st (d :: l) (d' :: l') := ⟨h, k⟩
theorem LendL.repL : ∀ {l l' : List D}, LendL st l l' → Holds st w → ∀ {us : List Value}, RepL (OwnS st) w us l → RepL (OwnS []) w us l'
 | [], [], _, _, us, h => by obtain rfl := h.inv_nil; exact .nil
 | d :: l, d' :: l', ⟨h1, h2⟩, hh, us, h => by
  obtain ⟨u, t, rfl, k1, k2⟩ := h.inv_cons
  exact .cons (h1 w u hh k1) (h2.repL hh k2)
 | [], _ :: _, h, _, _, _ => h.elim
 | _ :: _, [], h, _, _, _ => h.elim
theorem Lend.agg {l l' : List D} (h : LendL st l l') : Lend st (.agg l) (.agg l') := fun w v hh x => by
 cases x with
 | agg us cs h1 h2 => obtain ⟨k1, k2⟩ := h.repL (us := us) hh ⟨h1, h2⟩; exact .agg us l' k1 k2
theorem Lend.row {g : Nat} {el : TypeId} {es : List (List D)} {zs : List D} {sz n cap : Nat} (hm : Res.box g el (es.flatten ++ zs) ∈ st) (hsz : 0 < sz) (hes : ∀ e ∈ es, e.length = sz) (hn : es.length = n) : Lend st (.ar g 0 n cap) (.sl .shared es) := by
 intro w v hh hv
 obtain ⟨⟨us, hb, hr⟩, hlc⟩ := hh.2 _ hm
 cases hv with
 | ar _ _ _ _ h1 h2 =>
 subst hn
 have hfl := flat_len hes
 have hrl : RepL (OwnS st) w (us.toList.take (es.length * sz)) es.flatten := by
  have := hr.take (es.length * sz)
  rwa [List.take_append_of_le_length q_o, List.take_of_length_le (l := es.flatten) q_o] at this
 have hrl := hrl.ext (ext_nil _ w)
 refine .sl .shared es (some ⟨g, 0, none⟩) cap (us.toList.take (es.length * sz)) sz h1 h2 (fun e => by cases e) hsz hes hrl.1 (fun d hd => hlc d (List.mem_append_left _ hd)) (fun i hi => ⟨g, 0, rfl, (Array.getElem?_eq_some_iff.1 hb).1, OwnS.nil _ _, ?_⟩) hrl.2 trivial
 rw [Nat.zero_add, cell_of_row w g i us el (0, 0) hb]
 rw [List.getElem_take]
 simp at hi
 rw [Array.getElem?_eq_getElem q_o]
 simp
theorem Lend.rowE {st : St} {g : Nat} {el : TypeId} {es : List (List D)} {R zs : List D} {sz n cap : Nat} (hm : Res.box g el (R ++ zs) ∈ st) (hR : es.flatten = R) (hsz : 0 < sz) (hes : ∀ e ∈ es, e.length = sz) (hn : es.length = n) : Lend st (.ar g 0 n cap) (.sl .shared es) := by
 subst hR
 exact Lend.row hm hsz hes hn
theorem Lend.ptr {b : Nat} {ty : TypeId} {cs cs' : List D} (hm : Res.box b ty cs ∈ st) (hl : LendL st cs cs') (hleaf : ∀ d ∈ cs', d.leaf = true) : Lend st (.ptr b 0) (.ip cs') := by
 intro w v hh hv
 obtain ⟨⟨us, hb, hr⟩, hlc⟩ := hh.2 _ hm
 have hrl := hl.repL hh hr
 generalize hz : (0 : Nat) = z at hv
 cases hv with
 | ptr _ _ =>
 subst hz
 refine .ip b 0 us.toList cs' hrl.1 hleaf (fun i hi => ⟨(Array.getElem?_eq_some_iff.1 hb).1, OwnS.nil _ _, ?_⟩) hrl.2
 rw [Nat.zero_add, cell_of_row w b i us ty (0, 0) hb]
 rw [Array.getElem?_eq_getElem (by simpa using hi)]
 simp
end
section
variable {P : Program} {f : FuncId} {args args' : List D} {st : St} {m : Option Ro} {k : D → St → Prop}
theorem TrF.lend {x : Value} (h : TrF P f args' [] fun d st' => d = .s x ∧ st' = []) (hl : LendL st args args') : TrF P f args st fun d st' => d = .s x ∧ st' = st := by
 intro vs w h1 h2
 have h3 := hl.repL h2 h1
 have h0 : Holds [] w := h2.sub (List.nil_sublist _)
 refine (h vs w h3 h0).mono fun _ w' ⟨v, e, d, s, k1, k2, k3, e1, e2⟩ => ?_
 subst e1 e2
 have he : Ext (OwnS st) w (OwnS st) w' := by
  refine ⟨k3.os, k3.tape, k3.output, k3.size, fun _ _ _ h => h, fun b hb _ => k3.block b hb fun off => OwnS.nil b off, fun b c E fr hc => ?_⟩
  exact ⟨c, fr, (k3.block b (Array.getElem?_eq_some_iff.1 hc).1 fun off => OwnS.nil b off).trans hc, rfl, fun _ _ => rfl⟩
 refine ⟨v, e, .s x, st, ?_, ?_, he, rfl, rfl⟩
 · have := rep_s k1
   subst this
   cases k1 with
   | s _ hx => exact .s _ hx
 · exact ⟨h2.1, fun r hr => (h2.2 r hr).ext he fun b hb => k3.block b ((h2.2 r hr).lt hb) fun off => OwnS.nil b off⟩
theorem ck_lend {ds ds' : List D} {x : Value} (henter : ∀ args w, (callFunc f args).run P w = .ok (.enter f args) w) (h : TrF P f ds' [] fun d st' => d = .s x ∧ st' = []) (hl : LendL st ds ds') (hk : Keep m st ∧ k (.s x) st) : CallK P m (f, ds) st k :=
 ck_eq henter (h.lend hl) hk
end
section
variable {P : Program} {f : FuncId} {ds ds' : List D} {st : St} {m : Option Ro} {k : D → St → Prop}
end
attribute [push_cast] rowT zOk
end
section
section
variable {P : Program} {st : St} {w w' : World}
theorem set_any {b : Nat} {ty : TypeId} {cs cs' : List D} {us us' : Array Value} (h : Holds (.box b ty cs :: st) w) (hb : w.heap[b]? = some (.cells us ty (0, 0))) (hs : us'.size = us.size)
 (ho : w'.os = w.os) (ht : w'.tape = w.tape) (hout : w'.output = w.output) (hsz : w'.heap.size = w.heap.size) (hb' : w'.heap[b]? = some (.cells us' ty (0, 0))) (hoth : ∀ k, k ≠ b → w'.heap[k]? = w.heap[k]?)
 (hr : RepL (OwnS (.box b ty cs :: st)) w us'.toList cs') (hl : ∀ d ∈ cs', d.leaf = true) :
 Holds (.box b ty cs' :: st) w' ∧ Ext (OwnS (.box b ty cs :: st)) w (OwnS (.box b ty cs' :: st)) w' := by
 have hown : ∀ k off, OwnS (.box b ty cs' :: st) k off → OwnS (.box b ty cs :: st) k off := fun k off ho => by
  rw [OwnS.cons_iff] at ho ⊢
  exact ho
 have he : Ext (OwnS (.box b ty cs :: st)) w (OwnS (.box b ty cs' :: st)) w' := by
  refine ⟨ho, ht, hout, by omega, fun k off _ ho => hown k off ho, fun k hk hn => ?_, fun k c E fr hk => ?_⟩
  · refine hoth k fun e => ?_
    subst e
    exact hn 0 (OwnS.cons_iff.2 (.inl ⟨rfl, Nat.le_refl _⟩))
  · by_cases e : k = b
    · subst e
      rw [hb] at hk
      cases hk
      exact ⟨us', _, hb', hs, fun off hn => absurd (OwnS.cons_iff.2 (.inl ⟨rfl, Nat.zero_le _⟩)) hn⟩
    · exact ⟨c, fr, (hoth k e).trans hk, rfl, fun _ _ => rfl⟩
 refine ⟨h.put he (fun x hx k hk => hoth k fun e => ?_) ⟨⟨us', hb', hr.ext he⟩, hl⟩ (fun x hx => ?_), he⟩
 · subst e
   exact (List.pairwise_cons.1 h.1).1 x hx k rfl hk
 · exact (List.pairwise_cons.1 h.1).1 x hx
theorem chop_row {sz : Nat} (zs : List D) : ∀ es : List (List D), (∀ e ∈ es, e.length = sz) → chop sz es.length (es.flatten ++ zs) = es
 | [], _ => rfl
 | e :: es, h => by
  have he := h e (List.mem_cons_self ..)
  rw [List.length_cons, chop, List.flatten_cons, List.append_assoc, List.take_left' he, List.drop_left' he, chop_row zs es fun x hx => h x (List.mem_cons_of_mem _ hx)]
theorem TrF.freeze {f : FuncId} {args : List D} {el : TypeId} {es : List (List D)} {sz n : Nat} {s0 : St} (h : TrF P f args st fun d st' => ∃ g cap zs, d = .ar g 0 n cap ∧ st' = .box g el (es.flatten ++ zs) :: s0) (hsz : 0 < sz) (hes : ∀ e ∈ es, e.length = sz) (hn : es.length = n) : TrF P f args st fun d st' => d = .sl .shared es ∧ st' = s0 := by
 intro vs w h1 h2
 refine (h vs w h1 h2).mono fun _ w' ⟨v, ev, d, s, k1, k2, k3, g, cap, zs, e1, e2⟩ => ?_
 subst e1 e2
 have hch : chop sz n ((es.flatten ++ zs).drop 0) = es := by
  rw [List.drop_zero, ← hn]
  exact chop_row zs es hes
 have hr := frozen .shared (.inl rfl) (sz := sz) k2 k1 hsz (by rw [List.length_append, flat_len hes, hn]; omega) (by intro h; cases h)
 rw [hch] at hr
 have he := Ext.drop (st := .box g el (es.flatten ++ zs) :: s0) (st' := s0) (fun _ h => List.mem_cons_of_mem _ h) w'
 exact ⟨v, ev, _, s0, hr, k2.sub (List.sublist_cons_self _ _), k3.trans he, rfl, rfl⟩
end
section
variable {P : Program} {N : Nat} {r : Option Nat} {A : AA} {st : St} {Q : Exit → AA → St → Prop} {m : Option Ro} {k : D → St → Prop} {dst : Option Tmp} {ty : TypeId} {pos : String} {aft : Array Edge} {gd : Option (Nat × Bool)} {o : Oper} {w : World}
theorem s_isNilA {t t' : TypeId} {x : Operand} {g off n cap : Nat} {q : TypeId × Nat × Nat} (ht : sliceT P t = some q) (hx : ev A.e x = some (.ar g off n cap)) (hk : k (.b false) st) : S P r none ⟨dst, .binOp .eql t x (.const (.slice none 0 0)) t', ty, pos, aft, gd⟩ A st k := by
 refine opC_val (by intro c hc; cases hc) fun ρ w hr hh => .inl ?_
 have hv1 := hr _ (by simp [Op.operands]) _ hx
 have hv2 := hr.cst (.slice none 0 0)
 obtain ⟨el, sz, bytes⟩ := q
 obtain ⟨ti, z, h10, h11⟩ := sliceT_spec ht
 obtain ⟨hu, -⟩ := (und_of_k h10).2.2.2.2.1 _ _ _ _ h11
 generalize hxv : ρ x = xv at hv1
 cases hv1 with
 | ar _ _ _ _ c1 c2 =>
 refine ⟨.bool false, w, ?_, _, _, .s (.bool false) rfl, hh, Ext.refl _ _, hk⟩
 unfold execOp
 have hrun : (binOp .eql t (.slice (some ⟨g, off, none⟩) n cap) (.slice none 0 0)).run P w = .ok (.bool false) w := by
  simp only [binOp]
  simp [run_equal_slice_nil w t el (some ⟨g, off, none⟩) n cap hu]
 simp only [hxv, hv2, Sem.run_bind, guard_plain .eql t x (.const (.slice none 0 0)) (.slice (some ⟨g, off, none⟩) n cap) (.slice none 0 0) (fun u => by simp) (fun u v => by simp), hrun, Result.andThen_ok, Sem.run_pure]
def RowC (P : Program) (m : Option Ro) (t : TypeId) (p : D × D) (st : St) (k : D → St → Prop) : Prop :=
 ∃ (el : TypeId) (sz bytes : Nat) (g n cap : Nat) (ds zs : List D), p = (.sl .tight [], .ar g 0 n cap) ∧ rowT P t = some (el, sz, bytes) ∧ Res.box g el (ds ++ zs) ∈ st ∧ ds.length = n * sz ∧ 0 < n ∧ n * bytes ≤ 140737488355328 ∧ n ≤ 140737488355328 ∧
  ∀ g' cap' zs', n ≤ cap' → (ds ++ zs').length = cap' * sz → Keep m (.box g' el (ds ++ zs') :: st) ∧ k (.ar g' 0 n cap') (.box g' el (ds ++ zs') :: st)
theorem s_appC {t : TypeId} {x y : Operand} (h : Ev (pairX (ev A.e x) (ev A.e y)) fun p => RowC P m t p st k) : S P r m ⟨dst, .call ⟨.builtin .append, #[x, y], #[t, t]⟩, ty, pos, aft, gd⟩ A st k := by
 obtain ⟨p, h1, el, sz, bytes, g, n, cap, ds, zs, rfl, h2, hm, hds, hpos, h7, h8, h9⟩ := h
 unfold pairX at h1
 split at h1
 · rename_i d d' hx hy
   cases h1
   refine s_chain (R := fun d st' => ∃ g' cap' zs', n ≤ cap' ∧ (ds ++ zs').length = cap' * sz ∧ d = .ar g' 0 n cap' ∧ st' = .box g' el (ds ++ zs') :: st) rfl ?_ ⟨_, _, 0, n, [], Nat.le_refl _, by rw [List.append_nil, hds], rfl, rfl⟩ fun d st' ⟨g', cap', zs', ha, hb, e1, e2⟩ => by subst e1 e2; exact h9 g' cap' zs' ha hb
   refine opC_val (by intro c hc; cases hc) fun ρ w hr hh => .inl ?_
   have v1 := hr _ (by simp [Op.operands, Call.operands]) _ hx
   have v2 := hr _ (by simp [Op.operands, Call.operands]) _ hy
   obtain ⟨q1, i, zv, q2, q3, q4, q5, rfl, rfl, q8⟩ := rowT_spec h2
   unfold execOp
   simp only [resolve, invoke, builtin, Sem.run_bind, Sem.run_pure, Result.andThen_ok, List.map_toArray, List.map_cons, List.map_nil]
   generalize ρ x = xv at v1
   generalize ρ y = yv at v2
   cases v2 with
   | ar _ _ _ _ c1 c2 =>
   obtain ⟨⟨us, hb, hrr⟩, hlc⟩ := hh.2 _ hm
   have hul := hrr.1
   rw [List.length_append] at hul
   have hrep : RepL (OwnS st) w (us.toList.take (n * i.size)) ds := by
    have := hrr.take (n * i.size)
    rwa [List.take_append_of_le_length q_o, List.take_of_length_le (l := ds) q_o] at this
   obtain ⟨w', g', cap', zs', e1, e2, e3, e4, e5, e6⟩ := run_appendFirst (P := P) t ty el q1 q2 q3 q4 q5 q8 hh v1 (xad := ⟨g, 0, none⟩) (m := n) (xcap := cap) (by rw [List.length_take]; omega) (fun j u hu => by
    rw [add_lit, Nat.zero_add, cell_of_row w g j us el (0, 0) hb]
    rw [List.getElem?_take] at hu
    split at hu
    · rw [← hu]; simp
    · cases hu) hrep (fun d hd => hlc d (List.mem_append_left _ hd)) hpos h7 h8
   rw [e1]
   exact ⟨_, w', rfl, _, _, .ar g' 0 _ cap' e2 e3, e5, e6, g', cap', zs', e2, e4, rfl, rfl⟩
 · cases h1
def RowC2 (m : Option Ro) (q : TypeId × Nat × Nat) (p : D × D) (st : St) (k : D → St → Prop) : Prop :=
 ∃ (g n cap : Nat) (ds zs : List D), p = (.sl .tight [], .ar g 0 n cap) ∧ Res.box g q.1 (ds ++ zs) ∈ st ∧ ds.length = n * q.2.1 ∧ 0 < n ∧ n * q.2.2 ≤ 140737488355328 ∧ n ≤ 140737488355328 ∧
  ∀ g' cap' zs', n ≤ cap' → (ds ++ zs').length = cap' * q.2.1 → Keep m (.box g' q.1 (ds ++ zs') :: st) ∧ k (.ar g' 0 n cap') (.box g' q.1 (ds ++ zs') :: st)
theorem rc_go {t : TypeId} {p : D × D} (h : Ev (rowT P t) fun q => RowC2 m q p st k) : RowC P m t p st k := by
 obtain ⟨⟨el, sz, bytes⟩, h1, g, n, cap, ds, zs, h2, h3, h4, h5, h6, h7, h8⟩ := h
 exact ⟨el, sz, bytes, g, n, cap, ds, zs, h2, h1, h3, h4, h5, h6, h7, h8⟩
theorem rc2_go {el : TypeId} {sz bytes g n cap : Nat} {ds zs : List D} (h3 : Res.box g el (ds ++ zs) ∈ st) (h4 : ds.length = n * sz) (h5 : 0 < n) (h6 : n * bytes ≤ 140737488355328) (h7 : n ≤ 140737488355328)
 (h8 : ∀ g' cap' zs', n ≤ cap' → (ds ++ zs').length = cap' * sz → Keep m (.box g' el (ds ++ zs') :: st) ∧ k (.ar g' 0 n cap') (.box g' el (ds ++ zs') :: st)) : RowC2 m (el, sz, bytes) (.sl .tight [], .ar g 0 n cap) st k := ⟨g, n, cap, ds, zs, rfl, h3, h4, h5, h6, h7, h8⟩
end
section
variable {P : Program} {f : FuncId} {ds ds' : List D} {st s1 : St} {m : Option Ro} {k : D → St → Prop}
theorem ck_gen {R : D → St → Prop} (henter : ∀ args w, (callFunc f args).run P w = .ok (.enter f args) w) (hp : st.Perm s1) (h : TrF P f ds' s1 R) (hle : LEL ds ds') (hex : ∃ d st', R d st') (hk : ∀ d st', R d st' → Keep m st' ∧ k d st') : CallK P m (f, ds) st k :=
 ⟨R, henter, (TrF.perm hp h).le hle, hex, hk⟩
end
end
section
attribute [local push_cast] encB encI encC V.cells_mk V.cells_len Nat.mul_one Int.sub_zero List.map_nil beq_self_eq_true
def colC (l : List Nat) : List D := (l.map encC).flatten
theorem colC_len (l : List Nat) : (colC l).length = l.length * 1 := by
 unfold colC
 rw [flat_len (sz := 1) fun e he => by
  obtain ⟨x, -, rfl⟩ := List.mem_map.1 he
  rfl, List.length_map]
def slotC (l : List Sl) : List D := (l.map Sl.cells).flatten
theorem slotC_len (l : List Sl) : (slotC l).length = l.length * 7 := by
 unfold slotC
 rw [flat_len (sz := 7) fun e he => by
  obtain ⟨x, -, rfl⟩ := List.mem_map.1 he
  exact Sl.cells_len x, List.length_map]
theorem cloneIF (g cap : Nat) (l : List Nat) (zs : List D) (hl : l ≠ []) (h8 : l.length ≤ 1000000) (st : St) (hm : Res.box g 3 (colC l ++ zs) ∈ st) : TrF Tryz.prog 214 [.ar g 0 l.length cap] st fun d st' => d = .sl .shared (l.map encC) ∧ st' = st := by
 have hcl := colC_len l
 have hpos : 0 < l.length := List.length_pos_iff.2 hl
 refine TrF.freeze (el := 3) (sz := 1) (n := l.length) ?_ (by decide) (fun e he => by
  obtain ⟨x, -, rfl⟩ := List.mem_map.1 he
  rfl) (List.length_map ..)
 show TrF _ _ _ _ fun d st' => ∃ g' cap' zs', d = .ar g' 0 l.length cap' ∧ st' = .box g' _ (colC l ++ zs') :: st
 generalize colC l = R at *
 generalize l.length = n at *
 refine Qin [2] Tryz.func214 Tryz.results214 Tryz.ntmps214 ?_
 repeat' (first | refine QV ?_ | ((with_reducible apply s_isNilA); (focus simp (disch := omega) only [push_cast, simprocAttr, *]; exact rfl); (focus simp (disch := omega) only [push_cast, simprocAttr, *]; exact rfl)) | with_reducible refine s_appC ?_ | with_reducible refine rc_go ?_ | ((with_reducible apply (rc2_go hm)); (focus assumption); (focus assumption); (focus omega); (focus omega); intro g' cap' zs' hc hl') | refine QY ?_ | (refine QB ?_; intro b) | (with_reducible refine QZ ?_ <;> (try constructor) <;> intro hb <;> try intro hb1) | fail)
 all_goals (refine retA_mk q_x rfl (List.Sublist.refl _) (LE.of_eq ?_) ⟨g', cap', zs', rfl, rfl⟩; simp (disch := omega) only [push_cast, simprocAttr, *])
theorem cloneSF (g cap : Nat) (l : List Sl) (zs : List D) (hl : l ≠ []) (h8 : l.length ≤ 1000000) (st : St) (hm : Res.box g 75 (slotC l ++ zs) ∈ st) : TrF Tryz.prog 213 [.ar g 0 l.length cap] st fun d st' => d = .sl .shared (l.map Sl.cells) ∧ st' = st := by
 have hcl := slotC_len l
 have hpos : 0 < l.length := List.length_pos_iff.2 hl
 refine TrF.freeze (el := 75) (sz := 7) (n := l.length) ?_ (by decide) (fun e he => by
  obtain ⟨x, -, rfl⟩ := List.mem_map.1 he
  exact Sl.cells_len x) (List.length_map ..)
 show TrF _ _ _ _ fun d st' => ∃ g' cap' zs', d = .ar g' 0 l.length cap' ∧ st' = .box g' _ (slotC l ++ zs') :: st
 generalize slotC l = R at *
 generalize l.length = n at *
 refine Qin [2] Tryz.func213 Tryz.results213 Tryz.ntmps213 ?_
 repeat' (first | refine QV ?_ | ((with_reducible apply s_isNilA); (focus simp (disch := omega) only [push_cast, simprocAttr, *]; exact rfl); (focus simp (disch := omega) only [push_cast, simprocAttr, *]; exact rfl)) | with_reducible refine s_appC ?_ | with_reducible refine rc_go ?_ | ((with_reducible apply (rc2_go hm)); (focus assumption); (focus assumption); (focus omega); (focus omega); intro g' cap' zs' hc hl') | refine QY ?_ | (refine QB ?_; intro b) | (with_reducible refine QZ ?_ <;> (try constructor) <;> intro hb <;> try intro hb1) | fail)
 all_goals (refine retA_mk q_x rfl (List.Sublist.refl _) (LE.of_eq ?_) ⟨g', cap', zs', rfl, rfl⟩; simp (disch := omega) only [push_cast, simprocAttr, *])
theorem containsF (o : Own) (l : List Nat) (x : Nat) (st : St) : TrF Tryz.prog 229 [.sl o (l.map encC), .i x] st fun d st' => d = .b (decide (x ∈ l)) ∧ st' = st :=
 trF_pure fun vs w hv => by
  obtain ⟨v, v', rfl, h1, h2⟩ := args2 hv
  cases rep_s h2
  have hs : Sees (fun n : Nat => Value.int .i64 n) w v l := sees_of_rep (f := fun n : Nat => Value.int .i64 n) h1
  refine ⟨_, fun _ _ => .s _ rfl, ?_⟩
  obtain ⟨a, cap, rfl, q1, q2, q3, q4⟩ := hs
  cases l with
  | nil =>
   refine (Tryz.slices_Contains_int_empty a cap x w).mono ?_
   rintro e w' ⟨he, rfl⟩
   exact ⟨he, Below.refl _ _⟩
  | cons y r =>
   obtain ⟨b, rfl⟩ : ∃ b, a = some b := by
    cases a with
    | none => have := q3 rfl; simp at q1; omega
    | some b => exact ⟨b, rfl⟩
   obtain ⟨e1, e2, e3⟩ := q4 b rfl (by simp)
   obtain ⟨bk, off, sp⟩ := b
   dsimp only at e1 e2 e3
   subst e1
   have hc := Tryz.slices_Contains_int bk off (y :: r).length cap ((y :: r).map Int.ofNat) x w (by simp) (by unfold maxLen at q2; omega) (fun j hj => by
    rw [List.length_map] at hj
    rw [e3 j hj, List.getD_eq_getElem?_getD, List.getElem?_map, List.getElem?_eq_getElem hj]; rfl)
   refine hc.mono ?_
   rintro e w' ⟨he, rfl⟩
   refine ⟨?_, Below.refl _ _⟩
   rw [he]
   congr 2
   rw [List.take_of_length_le (by simp), Bool.eq_iff_iff, List.contains_iff_mem, decide_eq_true_eq, List.mem_map]
   constructor
   · rintro ⟨a, h1, h2⟩
     have : a = x := Int.ofNat.inj h2
     exact this ▸ h1
   · intro h; exact ⟨x, h, rfl⟩
theorem deleteF (g cap i : Nat) (l : List Nat) (zs : List D) (hi : i < l.length) (hzs : (colC l ++ zs).length = cap * 1) (st : St) : TrF Tryz.prog 228 [.ar g 0 l.length cap, .i i, .i ((i : Int) + 1)] (.box g 3 (colC l ++ zs) :: st) fun d st' => d = .ar g 0 (l.eraseIdx i).length cap ∧ st' = .box g 3 (colC (l.eraseIdx i) ++ (.i 0 :: zs)) :: st := by
 intro vs w hv hh
 obtain ⟨lv⟩ := vs
 obtain ⟨v0, t0, e0, h1, hv⟩ := hv.inv_cons
 obtain ⟨v1, t1, e1, h2, hv⟩ := hv.inv_cons
 obtain ⟨v2, t2, e2, h3, hv⟩ := hv.inv_cons
 have e3 := hv.inv_nil
 dsimp only at e0
 subst e3 e2 e1 e0
 cases rep_s h2
 cases rep_s h3
 have hh1 := h1
 cases h1 with
 | ar _ _ _ _ c1 c2 =>
 obtain ⟨⟨us, hb, hr⟩, hlc⟩ := hh.2 _ (List.mem_cons_self ..)
 have hul := hr.1
 have hcl := colC_len l
 rw [List.length_append] at hul
 have hcm : ∀ l : List Nat, colC l = l.map fun c : Nat => D.i c := by
  intro l
  unfold colC
  induction l with
  | nil => rfl
  | cons x l ih => rw [List.map_cons, List.flatten_cons, ih]; rfl
 have hat : ∀ j (hj : j < l.length), us[j]? = some (.int .i64 (l[j] : Nat)) := fun j hj => by
  have hd : (colC l ++ zs)[j]? = some (.i (l[j] : Nat)) := by
   rw [List.getElem?_append_left q_o, hcm, List.getElem?_map, List.getElem?_eq_getElem hj]; rfl
  obtain ⟨u, hu, hru⟩ := hr.get? hd
  rw [rep_s hru] at hu
  rw [← hu]; simp
 have hH : Sort.Holds (Value.int .i64) w g 0 ((l.map Int.ofNat).toArray) := fun j hj => by
  have hj' : j < l.length := by simpa using hj
  refine ⟨?_, ?_⟩
  · rw [Nat.zero_add, cell_of_row w g j us _ (0, 0) hb, hat j hj', getElem!_pos _ j hj]
    simp
  · unfold World.frozen?
    dsimp only
    rw [hb]; simp
 have hc := Tryz.slices_Delete_int g 0 cap i (i + 1) (l.map Int.ofNat) w hH (by simpa using c1) (by unfold maxLen at c2; omega) q_o (by rw [List.length_map]; omega)
 rw [List.length_map] at hc
 have hcast : ((i + 1 : Nat) : Int) = (i : Int) + 1 := by omega
 rw [hcast] at hc
 refine hc.mono ?_
 rintro e w' ⟨rfl, q, hw⟩
 refine ⟨_, rfl, ?_⟩
 obtain ⟨d', hd'⟩ : ∃ d', ((l.map Int.ofNat).take i ++ (l.map Int.ofNat).drop (i + 1) ++ List.replicate (i + 1 - i) 0) = d' := ⟨_, rfl⟩
 rw [hd'] at hw
 have hdl : d'.length = l.length := by
  rw [← hd']
  simp only [List.length_append, List.length_take, List.length_drop, List.length_map, List.length_replicate]
  omega
 have hus : (Sort.putCells (Value.int .i64) 0 d'.toArray us).toList = d'.map (Value.int .i64) ++ us.toList.drop l.length := by
  apply List.ext_getElem?
  intro k
  unfold Sort.putCells
  rw [Array.getElem?_toList, Array.getElem?_mapIdx]
  by_cases hk : k < l.length
  · have hk2 : k < us.size := by rw [← Array.length_toList]; omega
    rw [List.getElem?_append_left (by rw [List.length_map]; omega), Array.getElem?_eq_getElem hk2, List.getElem?_map, List.getElem?_eq_getElem (by omega : k < d'.length)]
    simp only [Option.map_some, Nat.zero_le, Nat.zero_add, List.size_toArray, hdl, hk, and_self, if_true, Nat.sub_zero, true_and]
    rw [getElem!_pos _ k (by simp; omega)]
    simp
  · rw [List.getElem?_append_right (by rw [List.length_map]; omega), List.length_map, hdl, List.getElem?_drop, show l.length + (k - l.length) = k by omega, Array.getElem?_toList]
    cases us[k]? with
    | none => rfl
    | some u => simp [hdl, hk]
 have hrep : RepL (OwnS (.box g 3 (colC l ++ zs) :: st)) w (Sort.putCells (Value.int .i64) 0 d'.toArray us).toList (colC (l.eraseIdx i) ++ (.i 0 :: zs)) := by
  rw [hus, show colC (l.eraseIdx i) ++ (.i 0 :: zs) = (d'.map fun n => D.i n) ++ zs by
   rw [← hd', hcm, List.eraseIdx_eq_take_drop_succ, show i + 1 - i = 1 by omega]
   simp only [List.map_append, List.map_take, List.map_drop, List.map_map, List.append_assoc, List.replicate, List.map_cons, List.map_nil, List.cons_append, List.nil_append]
   rfl]
  refine RepL.append (RepL.map fun x _ => .s _ rfl) ?_
  have := hr.drop l.length
  rwa [List.drop_append, List.drop_of_length_le (l := colC l) q_o, List.nil_append, show l.length - (colC l).length = 0 by omega, List.drop_zero] at this
 have hw' : w'.heap[g]? = some (.cells (Sort.putCells (Value.int .i64) 0 d'.toArray us) 3 (0, 0)) := by
  rw [hw]
  simp only [Sort.putRow, Sort.mapBlock, Sort.ahead]
  rw [Array.getElem?_modify]
  simp [hb, Sort.onCells]
 have hs := set_any (w' := w') hh hb (by simp [Sort.putCells]) (by rw [hw]; rfl) (by rw [hw]; rfl) (by rw [hw]; rfl) (by rw [hw]; simp [Sort.putRow, Sort.mapBlock, Sort.ahead]) hw' (fun k hk => by
  rw [hw]
  simp only [Sort.putRow, Sort.mapBlock, Sort.ahead]
  rw [Array.getElem?_modify, if_neg (Ne.symm hk)]) hrep (fun d hd => by
   rw [hcm, List.mem_append] at hd
   rcases hd with hd | hd
   · obtain ⟨c, -, rfl⟩ := List.mem_map.1 hd; rfl
   · rcases List.mem_cons.1 hd with rfl | hd
     · rfl
     · exact hlc d (List.mem_append_right _ hd))
 have hel : (l.eraseIdx i).length = l.length - (i + 1 - i) := by rw [List.length_eraseIdx_of_lt hi]; omega
 refine ⟨.ar g 0 (l.eraseIdx i).length cap, _, ?_, hs.1, hs.2, rfl, rfl⟩
 rw [hel]
 exact .ar g 0 _ cap q_o c2
theorem schTakesF (t : Int) (st : St) : TrF Tryz.prog 225 [.i t] st fun x st' => x = .b (Sch.takes t) ∧ st' = st := by
 unfold Sch.takes
 refine Qin [2] Tryz.func225 Tryz.results225 Tryz.ntmps225 ?_
 repeat' (first | refine QX ?_ | (refine QB ?_; intro b) | (with_reducible refine QZ ?_ <;> (try constructor) <;> intro hb <;> try intro hb1) | fail)
 all_goals (refine Qret (hd := ?_); (try simp (disch := omega) only [push_cast, simprocAttr, *]); try (first | exact q_e | refine LE.of_eq ?_))
 all_goals (first | rfl | (refine congrArg D.b ?_; rw [Bool.eq_iff_iff]; simp only [Bool.true_and, Bool.false_and, Bool.and_true, Bool.and_false, Bool.or_false, Bool.or_true, Bool.true_or, Bool.false_or, true_and, and_true, Bool.not_eq_true', Bool.not_eq_false', decide_eq_true_eq, decide_eq_false_iff_not, beq_iff_eq, beq_eq_false_iff_ne, bne_iff_ne, ne_eq, reduceCtorEq, iff_true, true_iff, iff_false, false_iff, Bool.and_eq_true, Bool.or_eq_true, Bool.false_eq_true, Bool.true_eq_false]; first | done | omega))
theorem schFitsF (nm : ByteArray) (ty : Int) (rq : Bool) (dv v : V) (hB : v.nodes ≤ 4611686018427387904) (st : St) : TrF Tryz.prog 209 [.agg (Sl.mk nm ty rq dv).cells, .agg v.cells] st fun x st' => x = .b (Sch.fits (Sl.mk nm ty rq dv) v) ∧ st' = st := by
 have hR := valRightF v hB
 unfold Sch.fits
 cases hr : v.right with
 | false =>
  rw [hr] at hR
  cases v with
  | mk k n s l =>
  cases dv with
  | mk dk dn ds dl =>
  rw [V.cells_mk] at hR
  rw [Sl.cells_mk, V.cells_mk]
  replace hR := Lib.hid hR
  refine Qin [4] Tryz.func209 Tryz.results209 Tryz.ntmps209 ?_
  exact WR
 | true =>
  rw [hr] at hR
  cases v with
  | mk k n s l =>
  cases dv with
  | mk dk dn ds dl =>
  have hk : 0 ≤ k ∧ k ≤ 5 := by
   have := (V.right_iff.1 hr).1
   rw [V.parts, Bool.and_eq_true, Bool.and_eq_true] at this
   have := this.1.1
   unfold V.sgl at this
   repeat' split at this
   all_goals (first | omega | exact absurd this (by decide))
  obtain ⟨hk1, hk2⟩ := hk
  rw [V.cells_mk] at hR
  rw [Sl.cells_mk, V.cells_mk]
  replace hR := Lib.hid hR
  unfold Sch.bit
  clear hr
  refine Qin [4] Tryz.func209 Tryz.results209 Tryz.ntmps209 ?_
  exact WR
theorem schSoundF (s : Sl) (hB : s.dv.nodes ≤ 4611686018427387904) (st : St) : TrF Tryz.prog 211 [.agg s.cells] st fun x st' => x = .b (Sch.sound s) ∧ st' = st := by
 have hN := Lib.hid (valIsNameF s.name)
 have hT := Lib.hid (schTakesF s.types)
 have hF := schFitsF s.name s.types s.req s.dv s.dv hB
 unfold Sch.sound
 cases s with
 | mk nm ty rq dv =>
 dsimp only at hN hT hF ⊢
 generalize V.isName nm.data.toList = q1 at *
 generalize Sch.takes ty = q2 at *
 generalize Sch.fits (Sl.mk nm ty rq dv) dv = q3 at *
 cases dv with
 | mk k n s l =>
 rw [Sl.cells_mk, V.cells_mk] at hF
 rw [Sl.cells_mk]
 replace hF := Lib.hid hF
 cases q1 <;> cases q2 <;> cases q3
 all_goals skip
 all_goals (
  refine Qin [2] Tryz.func211 Tryz.results211 Tryz.ntmps211 ?_
  exact WR)
theorem schBareF (s : Sl) (b1 b2 : Bool) (hB : s.dv.Bg) (st : St) : TrF Tryz.prog 227 [.agg s.cells, .b b1, .b b2] st fun x st' => x = .b (Sch.bare s b1 b2) ∧ st' = st := by
 have hS := valSameB s.dv Sch.zeroV hB (.mk (Nat.zero_le _) (Nat.zero_le _) fun x h => by cases h)
 unfold Sch.bare
 cases s with
 | mk nm ty rq dv =>
 dsimp only at hS ⊢
 have hE := isE_eq nm
 generalize decide (nm.size = 0) = q1 at *
 generalize (dv.cmp Sch.zeroV == 0) = q3 at *
 unfold Sch.zeroV at hS
 cases dv with
 | mk k n s l =>
 rw [V.cells_mk, V.cells_mk, List.map_nil] at hS
 rw [Sl.cells_mk]
 replace hS := Lib.hid hS
 obtain ⟨q2, h2⟩ : ∃ q2, (ty == 0) = q2 := ⟨_, rfl⟩
 rw [h2]
 refine Qin [6] Tryz.func227 Tryz.results227 Tryz.ntmps227 ?_
 cases b1 <;> cases b2 <;> cases q1 <;> cases q2 <;> cases rq
 all_goals skip
 all_goals (
  repeat' (first | refine QX ?_ | (refine QB ?_; intro b) | (with_reducible refine QZ ?_ <;> (try constructor) <;> intro hb <;> try intro hb1) | refine QL Tryz.call140 (hS.out _) ?_ | fail)
  all_goals exact Qret)
theorem colL_drop {slots : List Sl} {name : ByteArray} {cols : List Nat} {i c : Nat} (h : cols[i]? = some c) : Sch.colL slots name (cols.drop i) = if Sch.named slots name c then (c : Int) else Sch.colL slots name (cols.drop (i + 1)) := by
 obtain ⟨h1, rfl⟩ := List.getElem?_eq_some_iff.1 h
 rw [List.drop_eq_getElem_cons h1, Sch.colL]
theorem schColF (slots : List Sl) (cols : List Nat) (name : ByteArray) (hl : slots.length ≤ 1000000) (hc : cols.length ≤ 1000000) (st : St) : TrF Tryz.prog 212 [.agg [.sl .shared (slots.map Sl.cells), .sl .shared (cols.map encC)], .str name] st fun x st' => x = .i (Sch.colL slots name cols) ∧ st' = st := by
 obtain ⟨B, hB⟩ : ∃ B, Sch.colL slots name cols = B := ⟨_, rfl⟩
 have HB : Hid (Sch.colL slots name (cols.drop 0) = B) := hB
 rw [hB]
 clear hB
 refine Qin [4] Tryz.func212 Tryz.results212 Tryz.ntmps212 ?_
 repeat' (first | refine QX ?_ | (refine QB ?_; intro b) | (with_reducible refine QZ ?_ <;> (try constructor) <;> intro hb <;> try intro hb1) | fail)
 refine tr_loop (ι := Nat) (fun i A st' => i ≤ cols.length ∧ Hid (Sch.colL slots name (cols.drop i) = B) ∧ A.df = [] ∧ A.e 1 = .str name ∧ A.e 2 = .ip [.sl .shared (slots.map Sl.cells), .sl .shared (cols.map encC)] ∧ A.e 8 = .sl .shared (cols.map encC) ∧ A.e 9 = .i cols.length ∧ A.e 10 = .i i ∧ st = st') (fun i => cols.length - i) 0 ⟨Nat.zero_le _, HB, Qf, Qf, Qf, Qf, Qf, Qf, rfl⟩ ?_
 rintro i A st' ⟨hi, HT, hdf, e1, e2, e8, e9, e10, rfl⟩
 by_cases hlt : i < cols.length
 · obtain ⟨c, hx⟩ := gEx hlt
   have HE := HT.out
   rw [colL_drop hx] at HE
   clear HT HB
   by_cases hcs : c < slots.length
   · obtain ⟨s, hs⟩ := gEx hcs
     cases s with
     | mk nm ty rq dv =>
     cases dv with
     | mk k n sv l =>
     obtain ⟨q, hq⟩ : ∃ q, (nm.toList == name.toList) = q := ⟨_, rfl⟩
     have hnm : Sch.named slots name c = q := by
      unfold Sch.named
      rw [hs, ← hq]; rfl
     rw [hnm] at HE
     clear hnm
     have hcell : (slots.map Sl.cells)[c]? = some [.str nm, .i ty, .b rq, .i k, .i n, .str sv, .sl .shared (l.map V.cells)] := by
      rw [List.getElem?_map, hs, ← Sl.cells_mk]; rfl
     clear hs
     have hsl : (slots.map Sl.cells).length = slots.length := List.length_map ..
     generalize slots.map Sl.cells = SL at *
     cases q with
     | true =>
      rw [if_pos rfl] at HE
      rw [← HE]
      clear HE
      exact WR
     | false =>
      rw [if_neg (by decide)] at HE
      replace HE := Lib.hid HE
      repeat' (first | refine QX ?_ | (refine QB ?_; intro b) | (with_reducible refine QZ ?_ <;> (try constructor) <;> intro hb <;> try intro hb1) | fail)
      refine ⟨i + 1, ⟨hlt, HE, ?_, ?_, ?_, ?_, ?_, ?_, rfl⟩, ?_⟩
      all_goals exact Qf
   · have hnm : Sch.named slots name c = false := by
      unfold Sch.named
      rw [List.getElem?_eq_none q_o]; rfl
     rw [hnm, if_neg (by decide)] at HE
     replace HE := Lib.hid HE
     clear hnm
     repeat' (first | refine QX ?_ | (refine QB ?_; intro b) | (with_reducible refine QZ ?_ <;> (try constructor) <;> intro hb <;> try intro hb1) | fail)
     refine ⟨i + 1, ⟨hlt, HE, ?_, ?_, ?_, ?_, ?_, ?_, rfl⟩, ?_⟩
     all_goals exact Qf
 · have HE := HT.out
   rw [List.drop_of_length_le q_o, Sch.colL] at HE
   rw [← HE]
   clear HE HT HB
   exact WR
theorem schColumnF (x : Vr) (s : Stp) (st : St) (ho : s.order.length ≤ 9223372036854775807) (hc : x.cols.length ≤ 1000000) : TrF Tryz.prog 226 [.ip x.cells, .agg s.cells] st fun d st' => d = .b (Sch.column x s) ∧ st' = st := by
 unfold Sch.column Vr.cells Stp.cells
 cases s with
 | mk kd col slot order =>
 cases slot with
 | mk nm ty rq dv =>
 cases dv with
 | mk k n sv l =>
 rw [Sl.cells_mk]
 dsimp only [List.cons_append, List.nil_append] at ho ⊢
 refine Qin [4] Tryz.func226 Tryz.results226 Tryz.ntmps226 ?_
 repeat' (first | refine QX ?_ | (refine QB ?_; intro b) | (with_reducible refine QZ ?_ <;> (try constructor) <;> intro hb <;> try intro hb1) | fail)
 all_goals (refine Qret (hd := ?_); (try simp (disch := omega) only [push_cast, simprocAttr, *]); try (first | exact q_e | refine LE.of_eq ?_))
 all_goals (first | rfl | (refine congrArg D.b ?_; rw [Bool.eq_iff_iff]; simp only [Bool.true_and, Bool.false_and, Bool.and_true, Bool.and_false, Bool.or_false, Bool.or_true, Bool.true_or, Bool.false_or, true_and, and_true, Bool.not_eq_true', Bool.not_eq_false', decide_eq_true_eq, decide_eq_false_iff_not, beq_iff_eq, beq_eq_false_iff_ne, bne_iff_ne, ne_eq, reduceCtorEq, iff_true, true_iff, iff_false, false_iff, Bool.and_eq_true, Bool.or_eq_true, Bool.false_eq_true, Bool.true_eq_false]; first | done | omega))
abbrev VB (bx gs cS : Nat) (zS : List D) (gc cC : Nat) (zC : List D) (x : Vr) (s : St) : St :=
 .box bx 141 [.ar gs 0 x.slots.length cS, .ar gc 0 x.cols.length cC] :: .box gs 75 (slotC x.slots ++ zS) :: .box gc 3 (colC x.cols ++ zC) :: s
def VL (cS : Nat) (zS : List D) (cC : Nat) (zC : List D) (x : Vr) : Prop := (slotC x.slots ++ zS).length = cS * 7 ∧ (colC x.cols ++ zC).length = cC * 1
structure VW (x : Vr) : Prop where
 ls : x.slots.length ≤ 1000
 lc : x.cols.length ≤ 8
 cs : ∀ c ∈ x.cols, c < x.slots.length
def Stp.Ok (s : Stp) : Prop := s.slot.dv.nodes ≤ 1000 ∧ s.slot.dv.Bg ∧ s.order.length ≤ 1000
theorem slotC_flat (x : Vr) : (x.slots.map Sl.cells).flatten = slotC x.slots := rfl
theorem colC_flat (x : Vr) : (x.cols.map encC).flatten = colC x.cols := rfl
theorem slots_each (l : List Sl) : ∀ e ∈ l.map Sl.cells, e.length = 7 := fun e he => by
 obtain ⟨x, -, rfl⟩ := List.mem_map.1 he
 exact Sl.cells_len x
theorem cols_each (l : List Nat) : ∀ e ∈ l.map encC, e.length = 1 := fun e he => by
 obtain ⟨x, -, rfl⟩ := List.mem_map.1 he
 rfl
def StepR (F : Vr → Stp → Option Vr) (x : Vr) (stp : Stp) (bx : Nat) (s : St) (d : D) (st' : St) : Prop :=
 (F x stp = none ∧ d = .b false ∧ st' = s) ∨ ∃ x' gs cS zS gc cC zC, F x stp = some x' ∧ VL cS zS cC zC x' ∧ d = .b true ∧ st' = VB bx gs cS zS gc cC zC x' s
theorem slotC_add (l : List Sl) (s : Sl) : slotC (l ++ [s]) = slotC l ++ [s.cells].flatten := by
 unfold slotC; simp
theorem colC_add (l : List Nat) (c : Nat) : colC (l ++ [c]) = colC l ++ [[D.i c]].flatten := by
 unfold colC; simp [encC]
theorem schAddF (bx gs cS gc cC : Nat) (zS zC : List D) (x : Vr) (stp : Stp) (hx : VW x) (hs : stp.Ok) (hz : VL cS zS cC zC x) (s : St) : TrF Tryz.prog 215 [.ptr bx 0, .agg stp.cells] (VB bx gs cS zS gc cC zC x s) (StepR Sch.addS x stp bx s) := by
 obtain ⟨ls, lc, -⟩ := hx
 obtain ⟨hn, -, ho⟩ := hs
 obtain ⟨hz1, hz2⟩ := hz
 have hS := schSoundF stp.slot q_o
 have hC := schColF x.slots x.cols stp.slot.name q_o q_o []
 have hr1 := slotC_len x.slots
 have hr2 := colC_len x.cols
 have e1 := Lib.hid (slots_each x.slots)
 have e2 := Lib.hid (cols_each x.cols)
 have f1 := Lib.hid (slotC_flat x)
 have f2 := Lib.hid (colC_flat x)
 have l1 : Hid ((x.slots.map Sl.cells).length = x.slots.length) := List.length_map ..
 have l2 : Hid ((x.cols.map encC).length = x.cols.length) := List.length_map ..
 have g1 := Lib.hid (slotC_add x.slots stp.slot)
 have g2 := Lib.hid (colC_add x.cols x.slots.length)
 have g3 : Hid ((x.slots ++ [stp.slot]).length = x.slots.length + 1) := List.length_append
 have g4 : Hid ((x.cols ++ [x.slots.length]).length = x.cols.length + 1) := List.length_append
 obtain ⟨x', hx'⟩ : ∃ x' : Vr, x' = ⟨x.slots ++ [stp.slot], x.cols ++ [x.slots.length]⟩ := ⟨_, rfl⟩
 have hF : Hid (Sch.addS x stp = if stp.col = 0 ∧ stp.order.length = 0 ∧ x.cols.length < 8 ∧ Sch.sound stp.slot = true ∧ stp.slot.req = false ∧ Sch.colL x.slots stp.slot.name x.cols < 0 then some x' else none) := by rw [hx']; rfl
 have s1 : Hid (x'.slots = x.slots ++ [stp.slot]) := by rw [hx']; rfl
 have s2 : Hid (x'.cols = x.cols ++ [x.slots.length]) := by rw [hx']; rfl
 clear hx'
 unfold StepR VL VB Stp.cells
 generalize Sch.addS x stp = F at *
 cases stp with
 | mk kd col slot order =>
 cases slot with
 | mk nm ty rq dv =>
 cases dv with
 | mk k n sv l =>
 dsimp only at hS hC ho hF ⊢
 generalize Sch.sound _ = q at *
 generalize Sch.colL _ _ _ = cv at *
 generalize slotC x.slots = R1 at *
 generalize colC x.cols = R2 at *
 generalize x.slots.map Sl.cells = L1 at *
 generalize x.cols.map encC = L2 at *
 rw [Sl.cells_mk] at *
 dsimp only [List.cons_append, List.nil_append] at ho ⊢
 generalize x.slots.length = m1 at *
 generalize x.cols.length = m2 at *
 replace hS := Lib.hid hS
 replace hC := Lib.hid hC
 refine Qin [4] Tryz.func215 Tryz.results215 Tryz.ntmps215 ?_
 repeat' (first | refine QV ?_ | ((with_reducible refine w_draw [(bx, [.ar gs 0 m1 cS, .ar gc 0 m2 cC])] ?_ ?_ ?_ ?_ ?_); (iterate 3 (focus kernel_rfl)); (focus ((repeat (first | exact keep_nil | refine keep_more q_m ?_)); done))) | ((with_reducible refine And.intro ?_ ?_); (focus exact q_k)) | ((with_reducible refine w_draw [(bx, [.ar gs 0 m1 cS, .ar gc' 0 (m2 + 1) cC'])] ?_ ?_ ?_ ?_ ?_); (iterate 3 (focus kernel_rfl)); (focus ((repeat (first | exact keep_nil | refine keep_more q_m ?_)); done))) | ((with_reducible refine And.intro ?_ ?_); (focus exact q_k)) | with_reducible refine s_appR ?_ | with_reducible refine rk_go ?_ | ((with_reducible apply (r2_go hr1 hz1)); (focus (intro g' cs'; repeat (first | exact ra_h | apply ra_t))); (focus exact len_one rfl); (focus exact q_n); (focus exact q_n); intro gs' cS' zS' hcs hls) | ((with_reducible apply (r2_go hr2 hz2)); (focus (intro g' cs'; repeat (first | exact ra_h | apply ra_t))); (focus exact len_one rfl); (focus exact q_n); (focus exact q_n); intro gc' cC' zC' hcc hlc) | refine QY ?_ | (refine QB ?_; intro b) | (with_reducible refine QZ ?_ <;> (try constructor) <;> intro hb <;> try intro hb1) | ((with_reducible apply (ck_lend Tryz.call212)); (focus exact hC.out); (focus exact ⟨Lend.agg ⟨Lend.rowE q_m f1.out (by decide) e1.out l1.out, Lend.rowE q_m f2.out (by decide) e2.out l2.out, trivial⟩, Lend.refl _, trivial⟩)) | fail)
 all_goals first
  | ((refine retA_mk q_x q_y q_u (LE.of_eq ?_) (.inl ⟨?_, rfl, rfl⟩)); (focus simp (disch := omega) only [push_cast, simprocAttr, *]); (focus (rw [hF.out]; refine if_neg ?_; rintro ⟨h1, h2, h3, h4, h5, h6⟩; (first | omega | exact Bool.noConfusion (h4.symm.trans (by assumption) : true = false) | exact Bool.noConfusion (h5.symm.trans (by assumption) : false = true)))))
  | ((refine retA_mk q_x q_y (List.Sublist.refl _) (LE.of_eq ?_) (.inr ⟨x', gs', cS', zS', gc', cC', zC', ?_, ⟨?_, ?_⟩, rfl, ?_⟩)); (focus simp (disch := omega) only [push_cast, simprocAttr, *]); (focus (rw [hF.out]; refine if_pos ⟨?_, ?_, ?_, ?_, ?_, ?_⟩ <;> first | assumption | omega)); (focus (rw [s1.out, g1.out, (by assumption : rq = false)]; exact hls)); (focus (rw [s2.out, g2.out]; exact hlc)); (focus (rw [s1.out, s2.out, g1.out, g2.out, g3.out, g4.out, (by assumption : rq = false)])))
end
section
attribute [local push_cast] encB encI encC V.cells_mk V.cells_len Nat.mul_one Int.sub_zero List.map_nil beq_self_eq_true List.head?_cons
theorem row_drop {sz o : Nat} {e : List D} (zs : List D) : ∀ (es : List (List D)) (c : Nat), (∀ x ∈ es, x.length = sz) → es[c]? = some e → o ≤ sz → ∃ tl, (es.flatten ++ zs).drop (c * sz + o) = e.drop o ++ tl
 | [], c, _, h, _ => by simp at h
 | x :: es, 0, hs, h, ho => by
  simp only [List.getElem?_cons_zero, Option.some.injEq] at h
  subst h
  have hx := hs x (List.mem_cons_self ..)
  refine ⟨es.flatten ++ zs, ?_⟩
  rw [List.flatten_cons, List.append_assoc, Nat.zero_mul, Nat.zero_add, List.drop_append_of_le_length q_o]
 | x :: es, c + 1, hs, h, ho => by
  rw [List.getElem?_cons_succ] at h
  obtain ⟨tl, ht⟩ := row_drop zs es c (fun y hy => hs y (List.mem_cons_of_mem _ hy)) h ho
  have hx := hs x (List.mem_cons_self ..)
  refine ⟨tl, ?_⟩
  rw [List.flatten_cons, List.append_assoc, show (c + 1) * sz + o = sz + (c * sz + o) by rw [Nat.succ_mul]; omega, ← List.drop_drop, List.drop_left' hx, ht]
theorem splice_app {e R ds : List D} {sz o : Nat} (he : e.length = sz) : splice (e ++ R) (sz + o) ds = e ++ splice R o ds := by
 unfold splice
 rw [List.take_append, List.take_of_length_le (l := e) q_o, show sz + o - e.length = o by omega, show sz + o + ds.length = sz + (o + ds.length) by omega, ← List.drop_drop, List.drop_left' he]
 simp only [List.append_assoc]
theorem row_splice {sz o : Nat} {e ds : List D} (zs : List D) : ∀ (es : List (List D)) (c : Nat), (∀ x ∈ es, x.length = sz) → es[c]? = some e → o + ds.length ≤ sz → splice (es.flatten ++ zs) (c * sz + o) ds = (es.set c (splice e o ds)).flatten ++ zs
 | [], c, _, h, _ => by simp at h
 | x :: es, 0, hs, h, ho => by
  simp only [List.getElem?_cons_zero, Option.some.injEq] at h
  subst h
  have hx := hs x (List.mem_cons_self ..)
  rw [List.set_cons_zero, List.flatten_cons, List.flatten_cons, Nat.zero_mul, Nat.zero_add]
  unfold splice
  rw [show x ++ es.flatten ++ zs = x ++ (es.flatten ++ zs) from List.append_assoc .., List.take_append_of_le_length q_o, List.drop_append_of_le_length q_o]
  simp only [List.append_assoc]
 | x :: es, c + 1, hs, h, ho => by
  rw [List.getElem?_cons_succ] at h
  have := row_splice zs es c (fun y hy => hs y (List.mem_cons_of_mem _ hy)) h ho
  have hx := hs x (List.mem_cons_self ..)
  rw [List.set_cons_succ, List.flatten_cons, List.flatten_cons, List.append_assoc, List.append_assoc, show (c + 1) * sz + o = sz + (c * sz + o) by rw [Nat.succ_mul]; omega, splice_app hx, this]
theorem w_draw_ne3 {P : Program} {N : Nat} {r : Option Nat} {A : AA} {b b' b'' : Nat} {ty ty' ty'' : TypeId} {cs cs' cs'' : List D} {s : St} {Q : Exit → AA → St → Prop} {l : List Oper} {id : Nat} (hm : P.follows .mixedOrders = true) (hB : mixBA .any l.toArray = true) (hok : opsOk N l = true)
 (h : (b' == b) = false → (b'' == b) = false → (b'' == b') = false → W P r (some (roOf (.box b ty cs :: .box b' ty' cs' :: .box b'' ty'' cs'' :: s))) l.toArray (Q .normal) l A (.box b ty cs :: .box b' ty' cs' :: .box b'' ty'' cs'' :: s)) : Tr P N r (.region id l.toArray true) A (.box b ty cs :: .box b' ty' cs' :: .box b'' ty'' cs'' :: s) Q := by
 intro a w ha hh
 have h1 := List.pairwise_cons.1 hh.1
 have h2 := List.pairwise_cons.1 h1.2
 have n1 : b' ≠ b := fun e => h1.1 (.box b' ty' cs') (List.Mem.head _) b rfl (by rw [← e]; rfl)
 have n2 : b'' ≠ b := fun e => h1.1 (.box b'' ty'' cs'') (List.Mem.tail _ (List.Mem.head _)) b rfl (by rw [← e]; rfl)
 have n3 : b'' ≠ b' := fun e => h2.1 (.box b'' ty'' cs'') (List.Mem.head _) b' rfl (by rw [← e]; rfl)
 exact w_draw _ hm hB hok (keeps_roOf _) (h (beq_eq_false_iff_ne.2 n1) (beq_eq_false_iff_ne.2 n2) (beq_eq_false_iff_ne.2 n3)) a w ha hh
theorem lendP {st : St} {bx gs gc m1 m2 cS cC : Nat} {T T1 T2 : TypeId} {R1 R2 zS zC : List D} {L1 L2 : List (List D)} (h1 : Res.box bx T [.ar gs 0 m1 cS, .ar gc 0 m2 cC] ∈ st) (h2 : Res.box gs T1 (R1 ++ zS) ∈ st) (h3 : Res.box gc T2 (R2 ++ zC) ∈ st)
 (f1 : L1.flatten = R1) (e1 : ∀ e ∈ L1, e.length = 7) (l1 : L1.length = m1) (f2 : L2.flatten = R2) (e2 : ∀ e ∈ L2, e.length = 1) (l2 : L2.length = m2) : Lend st (.ptr bx 0) (.ip [.sl .shared L1, .sl .shared L2]) :=
 Lend.ptr h1 ⟨Lend.rowE h2 f1 (by decide) e1 l1, Lend.rowE h3 f2 (by decide) e2 l2, trivial⟩ (by
  intro d hd
  simp only [List.mem_cons, List.not_mem_nil, or_false] at hd
  rcases hd with rfl | rfl <;> rfl)
theorem schLoseF (bx gs cS gc cC : Nat) (zS zC : List D) (x : Vr) (stp : Stp) (hx : VW x) (hs : stp.Ok) (hz : VL cS zS cC zC x) (s : St) : TrF Tryz.prog 216 [.ptr bx 0, .agg stp.cells] (VB bx gs cS zS gc cC zC x s) (StepR Sch.loseS x stp bx s) := by
 obtain ⟨ls, lc, hcs⟩ := hx
 obtain ⟨hn, hbg, ho⟩ := hs
 obtain ⟨hz1, hz2⟩ := hz
 have hK := schColumnF x stp [] q_o q_o
 have hB := schBareF stp.slot false false hbg
 have hF : Hid (Sch.loseS x stp = if Sch.column x stp = true ∧ Sch.bare stp.slot false false = true ∧ x.cols.length ≠ 1 then some ⟨x.slots, x.cols.eraseIdx stp.col.toNat⟩ else none) := rfl
 have e1 := Lib.hid (slots_each x.slots)
 have e2 := Lib.hid (cols_each x.cols)
 have f1 := Lib.hid (slotC_flat x)
 have f2 := Lib.hid (colC_flat x)
 have l1 : Hid ((x.slots.map Sl.cells).length = x.slots.length) := List.length_map ..
 have l2 : Hid ((x.cols.map encC).length = x.cols.length) := List.length_map ..
 unfold StepR VL VB Stp.cells
 generalize Sch.loseS x stp = F at *
 cases hcl : Sch.column x stp with
 | false =>
  rw [hcl] at hK hF
  unfold Vr.cells Stp.cells at hK
  clear hcl
  cases stp with
  | mk kd col slot order =>
  cases slot with
  | mk nm ty rq dv =>
  cases dv with
  | mk k n sv l =>
  dsimp only at ho ⊢
  generalize slotC x.slots = R1 at *
  generalize colC x.cols = R2 at *
  generalize x.slots.map Sl.cells = L1 at *
  generalize x.cols.map encC = L2 at *
  rw [Sl.cells_mk] at *
  dsimp only [List.cons_append, List.nil_append] at hK ⊢
  generalize x.slots.length = m1 at *
  generalize x.cols.length = m2 at *
  replace hK := Lib.hid hK
  refine Qin [4] Tryz.func216 Tryz.results216 Tryz.ntmps216 ?_
  repeat' (first | refine QX ?_ | (refine QB ?_; intro b) | (with_reducible refine QZ ?_ <;> (try constructor) <;> intro hb <;> try intro hb1) | ((with_reducible apply (ck_lend Tryz.call226)); (focus exact hK.out); (focus exact ⟨lendP q_m q_m q_m f1.out e1.out l1.out f2.out e2.out l2.out, Lend.refl _, trivial⟩)) | fail)
  all_goals ((refine retA_mk q_x q_y q_u (LE.of_eq ?_) (.inl ⟨?_, rfl, rfl⟩)); (focus simp (disch := omega) only [push_cast, simprocAttr, *]); (focus (rw [hF.out]; refine if_neg ?_; rintro ⟨h1, h2, h3⟩; (first | omega | exact Bool.noConfusion (h1.symm.trans (by assumption) : true = false) | exact Bool.noConfusion (h2.symm.trans (by assumption) : true = false) | exact Bool.noConfusion (h3.symm.trans (by assumption) : true = false) | (exact Bool.noConfusion (h1 : false = true))))))
 | true =>
  obtain ⟨hk1, hk2, hk3⟩ : 0 ≤ stp.col ∧ stp.col < x.cols.length ∧ stp.order.length = 0 := by
   unfold Sch.column at hcl
   simpa [and_assoc] using hcl
  obtain ⟨i, hi⟩ := Int.eq_ofNat_of_zero_le hk1
  have hlt : i < x.cols.length := by omega
  rw [hcl] at hK hF
  unfold Vr.cells Stp.cells at hK
  clear hcl hk1 hk2
  have hD := fun s => deleteF gc cC i x.cols zC hlt hz2 s
  have hcl2 := colC_len (x.cols.eraseIdx i)
  have hcl := colC_len x.cols
  have hel : (x.cols.eraseIdx i).length + 1 = x.cols.length := by rw [List.length_eraseIdx_of_lt hlt]; omega
  obtain ⟨x', hx'⟩ : ∃ x' : Vr, x' = ⟨x.slots, x.cols.eraseIdx stp.col.toNat⟩ := ⟨_, rfl⟩
  rw [← hx'] at hF
  rw [hi, Int.toNat_natCast] at hx'
  have s1 : Hid (x'.slots = x.slots) := Lib.hid (by rw [hx'])
  have s2 : Hid (x'.cols = x.cols.eraseIdx i) := Lib.hid (by rw [hx'])
  clear hx'
  generalize hE : x.cols.eraseIdx i = ec at *
  generalize Sch.bare stp.slot false false = q at *
  generalize hRE : colC ec = RE at *
  generalize hme : ec.length = me at *
  replace hE := Lib.hid hE
  replace hRE := Lib.hid hRE
  replace hme := Lib.hid hme
  replace hel := Lib.hid hel
  replace hcl2 := Lib.hid hcl2
  replace hcl := Lib.hid hcl
  cases stp with
  | mk kd col slot order =>
  cases slot with
  | mk nm ty rq dv =>
  cases dv with
  | mk k n sv l =>
  dsimp only at hB ho hi hF ⊢
  subst hi
  generalize hR1 : slotC x.slots = R1 at *
  generalize hR2 : colC x.cols = R2 at *
  generalize x.slots.map Sl.cells = L1 at *
  generalize x.cols.map encC = L2 at *
  rw [Sl.cells_mk] at *
  dsimp only [List.cons_append, List.nil_append] at hK ⊢
  generalize hm1 : x.slots.length = m1 at *
  generalize hm2 : x.cols.length = m2 at *
  replace hR1 := Lib.hid hR1
  replace hR2 := Lib.hid hR2
  replace hm1 := Lib.hid hm1
  replace hm2 := Lib.hid hm2
  replace hK := Lib.hid hK
  replace hB := Lib.hid hB
  replace hD := Lib.hid hD
  refine Qin [4] Tryz.func216 Tryz.results216 Tryz.ntmps216 ?_
  repeat' (first | refine QV ?_ | ((with_reducible refine w_draw [(bx, [.ar gs 0 m1 cS, .ar gc 0 m2 cC])] ?_ ?_ ?_ ?_ ?_); (iterate 3 (focus kernel_rfl)); (focus ((repeat (first | exact keep_nil | refine keep_more q_m ?_)); done))) | ((with_reducible refine And.intro ?_ ?_); (focus exact q_k)) | refine QY ?_ | (refine QB ?_; intro b) | (with_reducible refine QZ ?_ <;> (try constructor) <;> intro hb <;> try intro hb1) | ((with_reducible apply (ck_lend Tryz.call226)); (focus exact hK.out); (focus exact ⟨lendP q_m q_m q_m f1.out e1.out l1.out f2.out e2.out l2.out, Lend.refl _, trivial⟩)) | fail)
  all_goals first
   | ((refine retA_mk q_x q_y q_u (LE.of_eq ?_) (.inl ⟨?_, rfl, rfl⟩)); (focus simp (disch := omega) only [push_cast, simprocAttr, *]); (focus (rw [hF.out]; refine if_neg ?_; rintro ⟨h1, h2, h3⟩; (first | omega | exact Bool.noConfusion (h1.symm.trans (by assumption) : true = false) | exact Bool.noConfusion (h2.symm.trans (by assumption) : true = false) | exact Bool.noConfusion (h3.symm.trans (by assumption) : true = false) | (exact Bool.noConfusion (h1 : false = true))))))
   | ((refine retA_mk q_x q_y (List.Sublist.refl _) (LE.of_eq ?_) (.inr ⟨x', gs, cS, zS, gc, cC, D.i 0 :: zC, ?_, ⟨?_, ?_⟩, rfl, ?_⟩)); (focus simp (disch := omega) only [push_cast, simprocAttr, *]); (focus (rw [hF.out]; refine if_pos ⟨rfl, ?_, ?_⟩ <;> first | assumption | omega)); (focus (rw [s1.out, hR1.out]; exact hz1)); (focus (rw [s2.out, hRE.out]; have h1 := hel.out; have h2 := hcl2.out; have h3 := hcl.out; rw [List.length_append] at hz2 ⊢; rw [List.length_cons]; omega)); (focus (rw [s1.out, s2.out, hR1.out, hRE.out, hm1.out, hme.out])))
theorem modify_set {α : Type} {l : List α} {f : α → α} {i : Nat} {y : α} (h : l[i]? = some y) : l.modify i f = l.set i (f y) := by
 apply List.ext_getElem?
 intro j
 rw [List.getElem?_modify, List.getElem?_set]
 by_cases hj : i = j
 · subst hj
   obtain ⟨hlt, rfl⟩ := List.getElem?_eq_some_iff.1 h
   simp [hlt]
 · simp [hj]
theorem schRenameF (bx gs cS gc cC : Nat) (zS zC : List D) (x : Vr) (stp : Stp) (hx : VW x) (hs : stp.Ok) (hz : VL cS zS cC zC x) (s : St) : TrF Tryz.prog 217 [.ptr bx 0, .agg stp.cells] (VB bx gs cS zS gc cC zC x s) (StepR Sch.renameS x stp bx s) := by
 obtain ⟨ls, lc, hcs⟩ := hx
 obtain ⟨hn, hbg, ho⟩ := hs
 obtain ⟨hz1, hz2⟩ := hz
 have hK := schColumnF x stp [] q_o q_o
 have hB := schBareF stp.slot true false hbg
 have hN := valIsNameF stp.slot.name
 have hC := schColF x.slots x.cols stp.slot.name q_o q_o []
 have hF : Hid (Sch.renameS x stp = if Sch.column x stp = true ∧ Sch.bare stp.slot true false = true ∧ V.isName stp.slot.name.data.toList = true ∧ Sch.colL x.slots stp.slot.name x.cols < 0 then some ⟨x.slots.modify (Sch.at_ x stp) fun y => { y with name := stp.slot.name }, x.cols⟩ else none) := rfl
 have e1 := Lib.hid (slots_each x.slots)
 have e2 := Lib.hid (cols_each x.cols)
 have f1 := Lib.hid (slotC_flat x)
 have f2 := Lib.hid (colC_flat x)
 have l1 : Hid ((x.slots.map Sl.cells).length = x.slots.length) := List.length_map ..
 have l2 : Hid ((x.cols.map encC).length = x.cols.length) := List.length_map ..
 unfold StepR VL VB Stp.cells
 generalize Sch.renameS x stp = F at *
 cases hcl : Sch.column x stp with
 | false =>
  rw [hcl] at hK hF
  unfold Vr.cells Stp.cells at hK
  clear hcl
  cases stp with
  | mk kd col slot order =>
  cases slot with
  | mk nm ty rq dv =>
  cases dv with
  | mk k n sv l =>
  dsimp only at ho ⊢
  generalize slotC x.slots = R1 at *
  generalize colC x.cols = R2 at *
  generalize x.slots.map Sl.cells = L1 at *
  generalize x.cols.map encC = L2 at *
  rw [Sl.cells_mk] at *
  dsimp only [List.cons_append, List.nil_append] at hK ⊢
  generalize x.slots.length = m1 at *
  generalize x.cols.length = m2 at *
  replace hK := Lib.hid hK
  refine Qin [4] Tryz.func217 Tryz.results217 Tryz.ntmps217 ?_
  repeat' (first | refine QX ?_ | (refine QB ?_; intro b) | (with_reducible refine QZ ?_ <;> (try constructor) <;> intro hb <;> try intro hb1) | ((with_reducible apply (ck_lend Tryz.call226)); (focus exact hK.out); (focus exact ⟨lendP q_m q_m q_m f1.out e1.out l1.out f2.out e2.out l2.out, Lend.refl _, trivial⟩)) | fail)
  all_goals ((refine retA_mk q_x q_y q_u (LE.of_eq ?_) (.inl ⟨?_, rfl, rfl⟩)); (focus simp (disch := omega) only [push_cast, simprocAttr, *]); (focus (rw [hF.out]; refine if_neg ?_; rintro ⟨h1, h2, h3, h4⟩; (first | omega | exact Bool.noConfusion (h1.symm.trans (by assumption) : true = false) | exact Bool.noConfusion (h2.symm.trans (by assumption) : true = false) | exact Bool.noConfusion (h3.symm.trans (by assumption) : true = false) | exact Bool.noConfusion (h4.symm.trans (by assumption) : true = false) | (exact Bool.noConfusion (h1 : false = true))))))
 | true =>
  obtain ⟨hk1, hk2, hk3⟩ : 0 ≤ stp.col ∧ stp.col < x.cols.length ∧ stp.order.length = 0 := by
   unfold Sch.column at hcl
   simpa [and_assoc] using hcl
  obtain ⟨i, hi⟩ := Int.eq_ofNat_of_zero_le hk1
  have hlt : i < x.cols.length := by omega
  rw [hcl] at hK hF
  unfold Vr.cells Stp.cells at hK
  clear hcl hk1 hk2
  obtain ⟨c, hc⟩ := gEx hlt
  have hcm : c < x.slots.length := hcs c (List.mem_of_getElem? hc)
  obtain ⟨y, hy⟩ := gEx hcm
  have hat : Sch.at_ x stp = c := by
   unfold Sch.at_
   rw [hi, Int.toNat_natCast, List.getD_eq_getElem?_getD, hc]; rfl
  have hL2 : (x.cols.map encC)[i]? = some [D.i c] := by rw [List.getElem?_map, hc]; rfl
  have hL1 : (x.slots.map Sl.cells)[c]? = some y.cells := by rw [List.getElem?_map, hy]; rfl
  obtain ⟨t1, hld⟩ : ∃ tl, List.drop i (colC x.cols ++ zC) = D.i c :: tl := by
   obtain ⟨tl, h⟩ := row_drop (sz := 1) (o := 0) zC _ i (cols_each x.cols) hL2 q_o
   rw [Nat.mul_one, Nat.add_zero] at h
   exact ⟨tl, h⟩
  obtain ⟨x', hx'⟩ : ∃ x' : Vr, x' = ⟨x.slots.modify (Sch.at_ x stp) fun y => { y with name := stp.slot.name }, x.cols⟩ := ⟨_, rfl⟩
  rw [← hx'] at hF
  rw [hat, modify_set hy] at hx'
  have s1 : Hid (x'.slots = x.slots.set c { y with name := stp.slot.name }) := Lib.hid (by rw [hx'])
  have s2 : Hid (x'.cols = x.cols) := Lib.hid (by rw [hx'])
  have s3 : Hid ((x.slots.set c { y with name := stp.slot.name }).length = x.slots.length) := List.length_set
  have hsp : List.take (c * 7) (slotC x.slots ++ zS) ++ [D.str stp.slot.name] ++ List.drop (c * 7 + 1) (slotC x.slots ++ zS) = slotC (x.slots.set c { y with name := stp.slot.name }) ++ zS := by
   have h := row_splice (o := 0) (ds := [D.str stp.slot.name]) zS _ c (slots_each x.slots) hL1 (by simp)
   rw [show splice y.cells 0 [D.str stp.slot.name] = Sl.cells { y with name := stp.slot.name } from rfl, show (x.slots.map Sl.cells).set c (Sl.cells { y with name := stp.slot.name }) = (x.slots.set c { y with name := stp.slot.name }).map Sl.cells from (List.map_set ..).symm] at h
   exact h
  have hle : c * 7 + 1 ≤ cS * 7 := by
   have := slotC_len x.slots
   rw [List.length_append] at hz1
   omega
  have hl3 : (slotC (x.slots.set c { y with name := stp.slot.name }) ++ zS).length = cS * 7 := by
   rw [List.length_append] at hz1 ⊢
   rw [slotC_len, List.length_set, ← slotC_len]; exact hz1
  clear hx' hat hL1 hL2 hy hc
  generalize Sch.bare stp.slot true false = q at *
  generalize V.isName stp.slot.name.data.toList = qn at *
  generalize Sch.colL x.slots stp.slot.name x.cols = cv at *
  generalize hRE : slotC (x.slots.set c { y with name := stp.slot.name }) = RE at *
  replace hRE := Lib.hid hRE
  replace hl3 := Lib.hid hl3
  cases stp with
  | mk kd col slot order =>
  cases slot with
  | mk nm ty rq dv =>
  cases dv with
  | mk k n sv l =>
  dsimp only at hB hN hC ho hi hF ⊢
  subst hi
  generalize hR1 : slotC x.slots = R1 at *
  generalize hR2 : colC x.cols = R2 at *
  generalize x.slots.map Sl.cells = L1 at *
  generalize x.cols.map encC = L2 at *
  rw [Sl.cells_mk] at *
  dsimp only [List.cons_append, List.nil_append] at hK ⊢
  generalize hm1 : x.slots.length = m1 at *
  generalize hm2 : x.cols.length = m2 at *
  replace hR1 := Lib.hid hR1
  replace hR2 := Lib.hid hR2
  replace hm1 := Lib.hid hm1
  replace hm2 := Lib.hid hm2
  replace hK := Lib.hid hK
  replace hB := Lib.hid hB
  replace hN := Lib.hid hN
  replace hC := Lib.hid hC
  refine Qin [4] Tryz.func217 Tryz.results217 Tryz.ntmps217 ?_
  repeat' (first | refine QV ?_ | ((with_reducible refine w_draw_ne3 ?_ ?_ ?_ ?_); (iterate 3 (focus kernel_rfl)); intro hne1 hne2 hne3) | refine QY ?_ | (refine QB ?_; intro b) | (with_reducible refine QZ ?_ <;> (try constructor) <;> intro hb <;> try intro hb1) | ((with_reducible apply (ck_lend Tryz.call226)); (focus exact hK.out); (focus exact ⟨lendP q_m q_m q_m f1.out e1.out l1.out f2.out e2.out l2.out, Lend.refl _, trivial⟩)) | ((with_reducible apply (ck_lend Tryz.call212)); (focus exact hC.out); (focus exact ⟨Lend.agg ⟨Lend.rowE q_m f1.out (by decide) e1.out l1.out, Lend.rowE q_m f2.out (by decide) e2.out l2.out, trivial⟩, Lend.refl _, trivial⟩)) | fail)
  all_goals first
   | ((refine retA_mk q_x q_y q_u (LE.of_eq ?_) (.inl ⟨?_, rfl, rfl⟩)); (focus simp (disch := omega) only [push_cast, simprocAttr, *]); (focus (rw [hF.out]; refine if_neg ?_; rintro ⟨h1, h2, h3, h4⟩; (first | omega | exact Bool.noConfusion (h1.symm.trans (by assumption) : true = false) | exact Bool.noConfusion (h2.symm.trans (by assumption) : true = false) | exact Bool.noConfusion (h3.symm.trans (by assumption) : true = false) | exact Bool.noConfusion (h4.symm.trans (by assumption) : true = false) | (exact Bool.noConfusion (h1 : false = true))))))
   | ((refine retA_mk q_x q_y (List.Sublist.refl _) (LE.of_eq ?_) (.inr ⟨x', gs, cS, zS, gc, cC, zC, ?_, ⟨?_, ?_⟩, rfl, ?_⟩)); (focus simp (disch := omega) only [push_cast, simprocAttr, *]); (focus (rw [hF.out]; refine if_pos ⟨rfl, ?_, ?_, ?_⟩ <;> first | assumption | omega)); (focus (rw [s1.out, hRE.out]; exact hl3.out)); (focus (rw [s2.out, hR2.out]; exact hz2)); (focus (rw [s1.out, s2.out, s3.out, hRE.out, hR2.out, hm2.out])))
theorem schWidenF (bx gs cS gc cC : Nat) (zS zC : List D) (x : Vr) (stp : Stp) (hx : VW x) (hs : stp.Ok) (hz : VL cS zS cC zC x) (s : St) : TrF Tryz.prog 218 [.ptr bx 0, .agg stp.cells] (VB bx gs cS zS gc cC zC x s) (StepR Sch.widenS x stp bx s) := by
 obtain ⟨ls, lc, hcs⟩ := hx
 obtain ⟨hn, hbg, ho⟩ := hs
 obtain ⟨hz1, hz2⟩ := hz
 have hK := schColumnF x stp [] q_o q_o
 have hB := schBareF stp.slot false true hbg
 have hT := schTakesF stp.slot.types
 have hF : Hid (Sch.widenS x stp = if Sch.column x stp = true ∧ Sch.bare stp.slot false true = true ∧ Sch.takes stp.slot.types = true ∧ (x.slots[Sch.at_ x stp]?).any (fun y => bits .or .i64 y.types stp.slot.types != y.types) = true then some ⟨x.slots.modify (Sch.at_ x stp) fun y => { y with types := bits .or .i64 y.types stp.slot.types }, x.cols⟩ else none) := rfl
 have e1 := Lib.hid (slots_each x.slots)
 have e2 := Lib.hid (cols_each x.cols)
 have f1 := Lib.hid (slotC_flat x)
 have f2 := Lib.hid (colC_flat x)
 have l1 : Hid ((x.slots.map Sl.cells).length = x.slots.length) := List.length_map ..
 have l2 : Hid ((x.cols.map encC).length = x.cols.length) := List.length_map ..
 unfold StepR VL VB Stp.cells
 generalize Sch.widenS x stp = F at *
 cases hcl : Sch.column x stp with
 | false =>
  rw [hcl] at hK hF
  unfold Vr.cells Stp.cells at hK
  clear hcl
  cases stp with
  | mk kd col slot order =>
  cases slot with
  | mk nm ty rq dv =>
  cases dv with
  | mk k n sv l =>
  dsimp only at ho ⊢
  generalize slotC x.slots = R1 at *
  generalize colC x.cols = R2 at *
  generalize x.slots.map Sl.cells = L1 at *
  generalize x.cols.map encC = L2 at *
  rw [Sl.cells_mk] at *
  dsimp only [List.cons_append, List.nil_append] at hK ⊢
  generalize x.slots.length = m1 at *
  generalize x.cols.length = m2 at *
  replace hK := Lib.hid hK
  refine Qin [4] Tryz.func218 Tryz.results218 Tryz.ntmps218 ?_
  repeat' (first | refine QX ?_ | (refine QB ?_; intro b) | (with_reducible refine QZ ?_ <;> (try constructor) <;> intro hb <;> try intro hb1) | ((with_reducible apply (ck_lend Tryz.call226)); (focus exact hK.out); (focus exact ⟨lendP q_m q_m q_m f1.out e1.out l1.out f2.out e2.out l2.out, Lend.refl _, trivial⟩)) | fail)
  all_goals ((refine retA_mk q_x q_y q_u (LE.of_eq ?_) (.inl ⟨?_, rfl, rfl⟩)); (focus simp (disch := omega) only [push_cast, simprocAttr, *]); (focus (rw [hF.out]; refine if_neg ?_; rintro ⟨h1, h2, h3, h4⟩; (first | omega | exact Bool.noConfusion (h1.symm.trans (by assumption) : true = false) | exact Bool.noConfusion (h2.symm.trans (by assumption) : true = false) | exact Bool.noConfusion (h3.symm.trans (by assumption) : true = false) | exact Bool.noConfusion (h4.symm.trans (by assumption) : true = false) | (exact Bool.noConfusion (h1 : false = true))))))
 | true =>
  obtain ⟨hk1, hk2, hk3⟩ : 0 ≤ stp.col ∧ stp.col < x.cols.length ∧ stp.order.length = 0 := by
   unfold Sch.column at hcl
   simpa [and_assoc] using hcl
  obtain ⟨i, hi⟩ := Int.eq_ofNat_of_zero_le hk1
  have hlt : i < x.cols.length := by omega
  rw [hcl] at hK hF
  unfold Vr.cells Stp.cells at hK
  clear hcl hk1 hk2
  obtain ⟨c, hc⟩ := gEx hlt
  have hcm : c < x.slots.length := hcs c (List.mem_of_getElem? hc)
  obtain ⟨y, hy⟩ := gEx hcm
  have hat : Sch.at_ x stp = c := by
   unfold Sch.at_
   rw [hi, Int.toNat_natCast, List.getD_eq_getElem?_getD, hc]; rfl
  have hL2 : (x.cols.map encC)[i]? = some [D.i c] := by rw [List.getElem?_map, hc]; rfl
  have hL1 : (x.slots.map Sl.cells)[c]? = some y.cells := by rw [List.getElem?_map, hy]; rfl
  obtain ⟨t1, hld⟩ : ∃ tl, List.drop i (colC x.cols ++ zC) = D.i c :: tl := by
   obtain ⟨tl, h⟩ := row_drop (sz := 1) (o := 0) zC _ i (cols_each x.cols) hL2 q_o
   rw [Nat.mul_one, Nat.add_zero] at h
   exact ⟨tl, h⟩
  obtain ⟨w, hw⟩ : ∃ w, bits .or .i64 y.types stp.slot.types = w := ⟨_, rfl⟩
  obtain ⟨wb, hwb⟩ : ∃ wb, (w != y.types) = wb := ⟨_, rfl⟩
  obtain ⟨x', hx'⟩ : ∃ x' : Vr, x' = ⟨x.slots.modify (Sch.at_ x stp) fun y => { y with types := bits .or .i64 y.types stp.slot.types }, x.cols⟩ := ⟨_, rfl⟩
  rw [← hx'] at hF
  rw [hat, hy, Option.any_some, hw, hwb] at hF
  rw [hat, modify_set hy] at hx'
  rw [hw] at hx'
  have s1 : Hid (x'.slots = x.slots.set c { y with types := w }) := Lib.hid (by rw [hx'])
  have s2 : Hid (x'.cols = x.cols) := Lib.hid (by rw [hx'])
  have s3 : Hid ((x.slots.set c { y with types := w }).length = x.slots.length) := List.length_set
  have hsp : List.take (c * 7 + 1) (slotC x.slots ++ zS) ++ [D.i w] ++ List.drop (c * 7 + 1 + 1) (slotC x.slots ++ zS) = slotC (x.slots.set c { y with types := w }) ++ zS := by
   have h := row_splice (o := 1) (ds := [D.i w]) zS _ c (slots_each x.slots) hL1 (by simp)
   rw [show splice y.cells 1 [D.i w] = Sl.cells { y with types := w } from rfl, show (x.slots.map Sl.cells).set c (Sl.cells { y with types := w }) = (x.slots.set c { y with types := w }).map Sl.cells from (List.map_set ..).symm] at h
   exact h
  obtain ⟨t2, hld2⟩ : ∃ tl, List.drop (c * 7 + 1) (slotC x.slots ++ zS) = D.i y.types :: tl := by
   obtain ⟨tl, h⟩ := row_drop (sz := 7) (o := 1) zS _ c (slots_each x.slots) hL1 q_o
   exact ⟨_, h⟩
  obtain ⟨t3, hld3⟩ : ∃ tl, List.drop (c * 7 + 1) (slotC (x.slots.set c { y with types := w }) ++ zS) = D.i w :: tl := by
   obtain ⟨tl, h⟩ := row_drop (sz := 7) (o := 1) (e := Sl.cells { y with types := w }) zS _ c (slots_each (x.slots.set c { y with types := w })) (by rw [List.getElem?_map, List.getElem?_set_self hcm]; rfl) q_o
   exact ⟨_, h⟩
  have hle : c * 7 + 1 + 1 ≤ cS * 7 := by
   have := slotC_len x.slots
   rw [List.length_append] at hz1
   omega
  have hl3 : (slotC (x.slots.set c { y with types := w }) ++ zS).length = cS * 7 := by
   rw [List.length_append] at hz1 ⊢
   rw [slotC_len, List.length_set, ← slotC_len]; exact hz1
  clear hx' hat hL1 hL2 hy hc
  generalize Sch.bare stp.slot false true = q at *
  generalize Sch.takes stp.slot.types = qt at *
  generalize hRE : slotC (x.slots.set c { y with types := w }) = RE at *
  replace hRE := Lib.hid hRE
  replace hl3 := Lib.hid hl3
  generalize y.types = yt at *
  cases stp with
  | mk kd col slot order =>
  cases slot with
  | mk nm ty rq dv =>
  cases dv with
  | mk k n sv l =>
  dsimp only at hB hT ho hi hF ⊢
  subst hi
  generalize hR1 : slotC x.slots = R1 at *
  generalize hR2 : colC x.cols = R2 at *
  generalize x.slots.map Sl.cells = L1 at *
  generalize x.cols.map encC = L2 at *
  rw [Sl.cells_mk] at *
  dsimp only [List.cons_append, List.nil_append] at hK ⊢
  generalize hm1 : x.slots.length = m1 at *
  generalize hm2 : x.cols.length = m2 at *
  replace hR1 := Lib.hid hR1
  replace hR2 := Lib.hid hR2
  replace hm1 := Lib.hid hm1
  replace hm2 := Lib.hid hm2
  replace hK := Lib.hid hK
  replace hB := Lib.hid hB
  replace hT := Lib.hid hT
  cases wb
  all_goals skip
  all_goals (
   refine Qin [4] Tryz.func218 Tryz.results218 Tryz.ntmps218 ?_
   repeat' (first | refine QV ?_ | ((with_reducible refine w_draw_ne3 ?_ ?_ ?_ ?_); (iterate 3 (focus kernel_rfl)); intro hne1 hne2 hne3) | refine QY ?_ | (refine QB ?_; intro b) | (with_reducible refine QZ ?_ <;> (try constructor) <;> intro hb <;> try intro hb1) | ((with_reducible apply (ck_lend Tryz.call226)); (focus exact hK.out); (focus exact ⟨lendP q_m q_m q_m f1.out e1.out l1.out f2.out e2.out l2.out, Lend.refl _, trivial⟩)) | fail)
   all_goals first
    | ((refine retA_mk q_x q_y q_u (LE.of_eq ?_) (.inl ⟨?_, rfl, rfl⟩)); (focus simp (disch := omega) only [push_cast, simprocAttr, *]); (focus (rw [hF.out]; refine if_neg ?_; rintro ⟨h1, h2, h3, h4⟩; (first | omega | exact Bool.noConfusion (h1.symm.trans (by assumption) : true = false) | exact Bool.noConfusion (h2.symm.trans (by assumption) : true = false) | exact Bool.noConfusion (h3.symm.trans (by assumption) : true = false) | exact Bool.noConfusion (h4.symm.trans (by assumption) : true = false) | (exact Bool.noConfusion (h1 : false = true))))))
    | ((refine retA_mk q_x q_y q_u (LE.of_eq ?_) (.inl ⟨?_, rfl, rfl⟩)); (focus (simp (disch := omega) only [push_cast, simprocAttr, *]; done)); (focus (rw [hF.out]; refine if_neg ?_; rintro ⟨h1, h2, h3, h4⟩; exact Bool.noConfusion h4)))
    | ((refine retA_mk q_x q_y (List.Sublist.refl _) (LE.of_eq ?_) (.inr ⟨x', gs, cS, zS, gc, cC, zC, ?_, ⟨?_, ?_⟩, rfl, ?_⟩)); (focus simp (disch := omega) only [push_cast, simprocAttr, *]); (focus (rw [hF.out]; refine if_pos ⟨rfl, ?_, ?_, ?_⟩ <;> first | assumption | omega | rfl)); (focus (rw [s1.out, hRE.out]; exact hl3.out)); (focus (rw [s2.out, hR2.out]; exact hz2)); (focus (rw [s1.out, s2.out, s3.out, hRE.out, hR2.out, hm2.out]))))
end
end Go.Proofs.YtgcienlfpnpbgaaGreat
