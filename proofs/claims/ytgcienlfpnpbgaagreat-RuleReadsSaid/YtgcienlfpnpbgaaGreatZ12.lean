/- Texts put together. No statement is proved here. -/
import Derived.Test.YtgcienlfpnpbgaaGreatZ11
set_option linter.all false
set_option maxRecDepth 10000
set_option maxHeartbeats 8000000
namespace Go.Proofs.YtgcienlfpnpbgaaGreat
open Go.RowKit
section
open Go.RowKit B
def Sim (s : RS) (t : TS) : Prop := t.Ok ∧ s.bad = t.bad ∧ s.l = if t.bad = true then [] else t.l.drop t.a
theorem sim_fail {t : TS} (h : t.Ok) : Sim RS.fail t.fail := ⟨h, rfl, rfl⟩
theorem sim_left {s : RS} {t : TS} (h : Sim s t) : s.l.length = if t.bad = true then 0 else t.left := by
 obtain ⟨-, -, h3⟩ := h
 rw [h3]; split
 · rfl
 · rw [List.length_drop]; rfl
theorem sim_rd {s : RS} {t : TS} (h : Sim s t) (n : Nat) : (s.bad = true ∨ s.l.length < n → t.rd n = (0, false, t.fail)) ∧ (¬ (s.bad = true ∨ s.l.length < n) → t.rd n = (num (s.l.take n), true, t.go n) ∧ Sim (s.cut n) (t.go n)) := by
 have hl := sim_left h
 have hok := h.1
 obtain ⟨o, sl, bad⟩ := s
 obtain ⟨-, h2, h3⟩ := h
 dsimp only at h2 h3 hl
 subst h2
 unfold TS.rd
 refine ⟨fun hb => if_pos ?_, fun hb => ?_⟩
 · rcases hb with hb | hb
   · exact .inl hb
   · cases hbb : t.bad with
     | true => exact .inl rfl
     | false => rw [hbb, if_neg Bool.false_ne_true] at hl; exact .inr (by dsimp only at hb; omega)
 · have hb1 : ¬ t.bad = true := fun x => hb (.inl x)
   have hb2 : ¬ sl.length < n := fun x => hb (.inr x)
   rw [if_neg hb1] at hl h3
   subst h3
   rw [if_neg (fun x => x.elim hb1 q_o)]
   refine ⟨rfl, ⟨?_, hok.2⟩, rfl, ?_⟩
   · have := hok.1
     have : t.left = t.l.length - t.a := rfl
     show t.a + n ≤ t.l.length
     omega
   · show (t.l.drop t.a).drop n = if t.bad = true then [] else t.l.drop (t.a + n)
     rw [if_neg hb1, List.drop_drop]
abbrev SimF {α : Type} (f : RS → α × RS) (g : TS → α × TS) : Prop := ∀ {s t}, Sim s t → (f s).1 = (g t).1 ∧ Sim (f s).2 (g t).2
theorem sim_byte : SimF RS.byte TS.byte := fun {s t} h => by
 obtain ⟨h1, h2⟩ := sim_rd h 1
 have hf := sim_fail h.1
 unfold TS.byte RS.byte
 by_cases hb : s.bad = true ∨ s.l.length < 1
 · rw [h1 hb]
   by_cases hc : s.bad = true
   · rw [if_pos hc]; exact ⟨rfl, hf⟩
   · rw [if_neg hc]
     have : s.l = [] := List.length_eq_zero_iff.1 (by have := hb.resolve_left hc; omega)
     rw [this]; exact ⟨rfl, hf⟩
 · obtain ⟨h3, h4⟩ := h2 hb
   rw [h3, if_neg (fun x => hb (.inl x))]
   cases hs : s.l with
   | nil => exact absurd (.inr (by rw [hs]; decide)) hb
   | cons c l => exact ⟨by show (c.toNat : Int) = ((num [c] : Nat) : Int); unfold num; simp, h4⟩
theorem sim_rnum : SimF RS.rnum TS.rnum := fun {s t} h => by
 obtain ⟨h1, h2⟩ := sim_rd h 4
 have hf := sim_fail h.1
 unfold TS.rnum RS.rnum
 by_cases hb : s.bad = true ∨ s.l.length < 4
 · rw [h1 hb, if_pos hb, if_neg (fun x => by cases x.1)]
   exact ⟨rfl, hf⟩
 · obtain ⟨h3, h4⟩ := h2 hb
   rw [h3, if_neg hb]
   dsimp only
   by_cases hm : num (s.l.take 4) ≤ 2147483647
   · rw [if_pos hm, if_neg (fun x => by have := x.2; omega)]
     exact ⟨rfl, h4⟩
   · rw [if_neg hm, if_pos ⟨rfl, by omega⟩]
     exact ⟨rfl, sim_fail h4.1⟩
theorem sim_long : SimF RS.long TS.long := fun {s t} h => by
 obtain ⟨h1, h2⟩ := sim_rd h 8
 have hf := sim_fail h.1
 unfold TS.long RS.long
 by_cases hb : s.bad = true ∨ s.l.length < 8
 · rw [h1 hb, if_pos hb]
   exact ⟨by show (0 : Int) = IntKind.i64.wrap ((0 : Nat) : Int); decide, hf⟩
 · obtain ⟨h3, h4⟩ := h2 hb
   rw [h3, if_neg hb]
   exact ⟨rfl, h4⟩
theorem sim_textN (n : Int) (hn : 0 ≤ n) : SimF (fun s => RS.textN s n) (fun t => TS.textN t n) := fun {s t} h => by
 have hl := sim_left h
 have hf := sim_fail h.1
 obtain ⟨-, h2⟩ := sim_rd h n.toNat
 obtain ⟨-, h3, h5⟩ := h
 show (RS.textN s n).1 = (TS.textN t n).1 ∧ Sim (RS.textN s n).2 (TS.textN t n).2
 unfold TS.textN RS.textN
 rw [h3]
 by_cases hb : t.bad = true
 · rw [if_pos (.inl hb), if_pos (.inl hb)]
   exact ⟨rfl, hf⟩
 rw [if_neg hb] at hl h5
 by_cases hb2 : (s.l.length : Int) < n
 · rw [if_pos (.inr (.inr hb2)), if_pos (.inr q_o)]
   exact ⟨rfl, hf⟩
 · obtain ⟨-, h4⟩ := h2 (fun x => x.elim (fun x => hb (h3.symm.trans x)) q_o)
   rw [if_neg (fun x => x.elim hb (fun x => by omega)), if_neg (fun x => x.elim hb q_o), h5]
   exact ⟨rfl, h4⟩
theorem sim_text : SimF RS.text TS.text := fun {s t} h => by
 obtain ⟨h1, h2⟩ := sim_rnum h
 have hp := TS.rnum_pos t
 unfold RS.text TS.text
 rw [h1]
 exact sim_textN _ hp h2
theorem sim_vals {f : RS → V × RS} {g : TS → V × TS} (hf : SimF f g) : ∀ n, SimF (RS.vals f n) (TS.vals g n)
 | 0, s, t, h => ⟨rfl, h⟩
 | n + 1, s, t, h => by
  unfold RS.vals TS.vals
  have hb := h.2.1
  rw [hb]
  split
  · exact ⟨rfl, h⟩
  · obtain ⟨h1, h2⟩ := hf h
    obtain ⟨h3, h4⟩ := sim_vals hf n h2
    dsimp only
    rw [h1, h3]
    exact ⟨rfl, h4⟩
def SimO : Option (RS → V × RS) → Option (TS → V × TS) → Prop
 | none, none => True
 | some f, some g => SimF f g
 | _, _ => False
theorem sim_body {f : Option (RS → V × RS)} {g : Option (TS → V × TS)} (hfg : SimO f g) : SimF (RS.body f) (TS.body g) := fun {s t} h => by
 obtain ⟨h1, h2⟩ := sim_byte h
 unfold RS.body TS.body
 rw [h1]
 generalize s.byte = q at *
 generalize t.byte = r at *
 obtain ⟨k, s1⟩ := q
 obtain ⟨k', t1⟩ := r
 dsimp only at *
 subst h1
 split
 · obtain ⟨h3, h4⟩ := sim_byte h2
   exact ⟨by rw [h3], h4⟩
 split
 · obtain ⟨h3, h4⟩ := sim_long h2
   exact ⟨by rw [h3], h4⟩
 split
 · obtain ⟨h3, h4⟩ := sim_text h2
   exact ⟨by rw [h3], h4⟩
 split
 · obtain ⟨h3, h4⟩ := sim_rnum h2
   rw [h3]
   unfold RS.list5 TS.list5
   cases f with
   | none =>
    cases g with
    | none => exact ⟨rfl, sim_fail h4.1⟩
    | some g => exact hfg.elim
   | some f =>
    cases g with
    | none => exact hfg.elim
    | some g =>
     dsimp only
     split
     · exact ⟨rfl, sim_fail h4.1⟩
     · obtain ⟨h5, h6⟩ := sim_vals hfg t1.rnum.1.toNat h4
       exact ⟨by rw [h5], h6⟩
 · exact ⟨rfl, h2⟩
theorem sim_value : ∀ d, SimF (RS.value d) (TS.value d)
 | 0 => sim_body (f := none) (g := none) trivial
 | d + 1 => sim_body (f := some (RS.value d)) (g := some (TS.value d)) (sim_value d)
theorem sim_val : SimF RS.val TS.val := fun {s t} h => by
 obtain ⟨h1, h2⟩ := sim_value 4 h
 unfold RS.val TS.val
 rw [h.2.1, h1, h2.2.1]
 split
 · exact ⟨rfl, h⟩
 split
 · exact ⟨rfl, sim_fail h2.1⟩
 · exact ⟨h1, h2⟩
def Good {α : Type} (P : α → Prop) (c : α → Nat) (f : RS → α × RS) : Prop := ∀ s, s.l.length ≤ 1000000 → P (f s).1 ∧ (f s).2.l.length ≤ s.l.length ∧ ((f s).2.bad = false → s.bad = false ∧ c (f s).1 + (f s).2.l.length ≤ s.l.length)
theorem fail_no {A : Prop} (h : RS.fail.bad = false) : A := by cases h
theorem good_byte : Good (fun n : Int => 0 ≤ n ∧ n ≤ 255) (fun _ => 1) RS.byte := fun s _ => by
 unfold RS.byte
 split
 · exact ⟨by dsimp only; omega, Nat.zero_le _, fail_no⟩
 rename_i hb
 obtain ⟨o, l, bad⟩ := s
 cases l with
 | nil => exact ⟨by dsimp only; omega, Nat.zero_le _, fail_no⟩
 | cons c l =>
  have := c.toNat_lt
  refine ⟨?_, ?_, fun _ => ⟨by simpa using hb, ?_⟩⟩
  · show (0 : Int) ≤ c.toNat ∧ (c.toNat : Int) ≤ 255; omega
  · show l.length ≤ l.length + 1; omega
  · show 1 + l.length ≤ l.length + 1; omega
theorem cut_good {s : RS} {n : Nat} (hb : ¬ (s.bad = true ∨ s.l.length < n)) : (s.cut n).l.length ≤ s.l.length ∧ ((s.cut n).bad = false → s.bad = false ∧ 0 + (s.cut n).l.length ≤ s.l.length) := by
 show (s.l.drop n).length ≤ _ ∧ (s.bad = false → s.bad = false ∧ 0 + (s.l.drop n).length ≤ _)
 rw [List.length_drop]
 exact ⟨by omega, fun h => ⟨h, by omega⟩⟩
theorem good_rnum : Good (fun n : Int => 0 ≤ n) (fun _ => 0) RS.rnum := fun s _ => by
 unfold RS.rnum
 split
 · exact ⟨by dsimp only; omega, Nat.zero_le _, fail_no⟩
 rename_i hb
 split
 · exact ⟨Int.natCast_nonneg _, cut_good hb⟩
 · exact ⟨by dsimp only; omega, Nat.zero_le _, fail_no⟩
theorem wrap_i64 (n : Int) : -9223372036854775808 ≤ IntKind.i64.wrap n ∧ IntKind.i64.wrap n ≤ 9223372036854775807 := by
 simp [IntKind.wrap, IntKind.bits, IntKind.signed]; omega
theorem good_long : Good (fun n : Int => -9223372036854775808 ≤ n ∧ n ≤ 9223372036854775807) (fun _ => 0) RS.long := fun s _ => by
 unfold RS.long
 split
 · exact ⟨by dsimp only; omega, Nat.zero_le _, fail_no⟩
 rename_i hb
 exact ⟨wrap_i64 _, cut_good hb⟩
theorem good_text : Good (fun b : ByteArray => b.size ≤ maxLen) (fun _ => 0) RS.text := fun s hs => by
 obtain ⟨-, h2, h3⟩ := good_rnum s hs
 unfold RS.text RS.textN
 have hm : 1000000 ≤ maxLen := by unfold maxLen; omega
 split
 · exact ⟨Nat.zero_le _, Nat.zero_le _, fail_no⟩
 rename_i hb
 obtain ⟨h4, h5⟩ := cut_good (s := s.rnum.2) (n := s.rnum.1.toNat) (fun x => hb (x.imp id fun x => .inr q_o))
 refine ⟨?_, by dsimp only at *; omega, fun h => ?_⟩
 · show (s.rnum.2.l.take s.rnum.1.toNat).toArray.size ≤ _
   rw [List.size_toArray, List.length_take]; omega
 · obtain ⟨h6, h7⟩ := h5 h
   obtain ⟨h8, h9⟩ := h3 h6
   exact ⟨h8, by dsimp only at *; omega⟩
theorem good_vals {f : RS → V × RS} (hf : Good V.Ok V.nodes f) : ∀ n, Good (fun l : List V => l.length ≤ n ∧ ∀ x ∈ l, V.Ok x) V.nodesL (RS.vals f n)
 | 0 => fun s _ => ⟨⟨Nat.le_refl _, fun x h => by cases h⟩, Nat.le_refl _, fun h => ⟨h, by show 0 + s.l.length ≤ _; omega⟩⟩
 | n + 1 => fun s hs => by
  unfold RS.vals
  split
  · rename_i hb
    exact ⟨⟨Nat.zero_le _, fun x h => by cases h⟩, Nat.le_refl _, fun h => absurd hb (by rw [h]; decide)⟩
  obtain ⟨h1, h2, h3⟩ := hf s hs
  obtain ⟨⟨h4, h5⟩, h6, h7⟩ := good_vals hf n (f s).2 q_o
  refine ⟨⟨by show _ + 1 ≤ _; omega, fun x hx => ?_⟩, by dsimp only at *; omega, fun h => ?_⟩
  · cases hx with
    | head => exact h1
    | tail _ hx => exact h5 x hx
  · obtain ⟨h8, h9⟩ := h7 h
    obtain ⟨h10, h11⟩ := h3 h8
    refine ⟨h10, ?_⟩
    dsimp only at *
    rw [V.nodesL]
    omega
theorem ok_mk {k n : Int} {s : ByteArray} {l : List V} (hk : 0 ≤ k ∧ k ≤ 255) (hn : -9223372036854775808 ≤ n ∧ n ≤ 9223372036854775807) (hs : s.size ≤ maxLen) (hl : l.length ≤ 20) (h : ∀ x ∈ l, V.Ok x) : V.Ok (.mk k n s l) := .mk q_o hn hs (by unfold maxLen; omega) h
theorem good_body {f : Option (RS → V × RS)} (hf : ∀ g, f = some g → Good V.Ok V.nodes g) : Good V.Ok V.nodes (RS.body f) := fun s hs => by
 obtain ⟨h1, h2, h3⟩ := good_byte s hs
 unfold RS.body
 generalize s.byte = q at *
 obtain ⟨k, s1⟩ := q
 dsimp only at *
 have h0 : (⟨#[]⟩ : ByteArray).size ≤ maxLen := Nat.zero_le _
 have hnil : ∀ x ∈ ([] : List V), V.Ok x := fun x h => by cases h
 split
 · obtain ⟨h4, h5, h6⟩ := good_byte s1 q_o
   refine ⟨ok_mk q_o q_o h0 (Nat.zero_le _) hnil, by dsimp only at *; omega, fun h => ?_⟩
   obtain ⟨h7, h8⟩ := h6 h
   obtain ⟨h9, h10⟩ := h3 h7
   exact ⟨h9, by dsimp only at *; rw [V.nodes, V.nodesL]; omega⟩
 split
 · obtain ⟨h4, h5, h6⟩ := good_long s1 q_o
   refine ⟨ok_mk q_o h4 h0 (Nat.zero_le _) hnil, by dsimp only at *; omega, fun h => ?_⟩
   obtain ⟨h7, h8⟩ := h6 h
   obtain ⟨h9, h10⟩ := h3 h7
   exact ⟨h9, by dsimp only at *; rw [V.nodes, V.nodesL]; omega⟩
 split
 · obtain ⟨h4, h5, h6⟩ := good_text s1 q_o
   refine ⟨ok_mk q_o q_o h4 (Nat.zero_le _) hnil, by dsimp only at *; omega, fun h => ?_⟩
   obtain ⟨h7, h8⟩ := h6 h
   obtain ⟨h9, h10⟩ := h3 h7
   exact ⟨h9, by dsimp only at *; rw [V.nodes, V.nodesL]; omega⟩
 split
 · obtain ⟨h4, h5, h6⟩ := good_rnum s1 q_o
   unfold RS.list5
   have hF := ok_mk (k := 5) (n := 0) q_o q_o h0 (Nat.zero_le _) hnil
   cases f with
   | none => exact ⟨hF, Nat.zero_le _, fail_no⟩
   | some g =>
    dsimp only
    split
    · exact ⟨hF, Nat.zero_le _, fail_no⟩
    · rename_i hn
      obtain ⟨⟨h7, h8⟩, h9, h10⟩ := good_vals (hf g rfl) s1.rnum.1.toNat s1.rnum.2 q_o
      refine ⟨ok_mk q_o q_o h0 q_o h8, by dsimp only at *; omega, fun h => ?_⟩
      obtain ⟨h11, h12⟩ := h10 h
      obtain ⟨h13, h14⟩ := h6 h11
      obtain ⟨h15, h16⟩ := h3 h13
      exact ⟨h15, by dsimp only at *; rw [V.nodes]; omega⟩
 · refine ⟨ok_mk h1 q_o h0 (Nat.zero_le _) hnil, by dsimp only at *; omega, fun h => ?_⟩
   obtain ⟨h9, h10⟩ := h3 h
   exact ⟨h9, by dsimp only at *; rw [V.nodes, V.nodesL]; omega⟩
theorem good_value : ∀ d, Good V.Ok V.nodes (RS.value d)
 | 0 => good_body fun _ h => by cases h
 | d + 1 => good_body fun g h => by cases h; exact good_value d
end
section
attribute [local push_cast] encB encI TS.cells TS.fail V.cells_mk V.cells_take V.cells_len Nat.mul_one
open Go.RowKit B
theorem refNodesG (v : V) (hok : v.Ok) (hd : v.deep ≤ 1000) (st : St) : TrF Tryz.prog 189 [.agg v.cells] st fun x st' => x = .i (if v.nodes ≤ 1001 then v.nodes else 1002 : Nat) ∧ st' = st := by
 have hC := refCountF v.nodes v (Nat.le_refl _) hok 1001 1000 q_o q_o q_o q_o
 have hE : 1001 - v.cnt 1001 1000 = ((if v.nodes ≤ 1001 then v.nodes else 1002 : Nat) : Int) ∧ -1 ≤ v.cnt 1001 1000 ∧ v.cnt 1001 1000 ≤ 1001 := by
  have h1 := V.cnt_eq v 1001 1000
  have h2 := V.cnt_le v 1001 1000 q_o
  have h3 := V.cnt_all v 1001 1000
  refine ⟨?_, h2⟩
  split
  · rw [h3 q_o q_o]; omega
  · have : ¬ 0 ≤ v.cnt 1001 1000 := fun h => by have := h1 h; omega
    omega
 generalize (if v.nodes ≤ 1001 then v.nodes else 1002 : Nat) = N at *
 generalize v.cnt 1001 1000 = c at *
 cases v with
 | mk k n s l =>
 rw [V.cells_mk] at *
 generalize l.map V.cells = VL at *
 obtain ⟨e1, e2, e3⟩ := hE
 replace hC := Lib.hid hC
 refine Qin [2] Tryz.func189 Tryz.results189 Tryz.ntmps189 ?_
 exact WR
theorem refRightG (v : V) (hok : v.Ok) (hd : v.deep ≤ 1000) (hn : v.nodes ≤ 1000000) (st : St) : TrF Tryz.prog 156 [.agg v.cells] st fun x st' => x = .b v.right ∧ st' = st := by
 have hE := refEachF v.nodes v (Nat.le_refl _)
 have hD := refDeepF v.nodes v (Nat.le_refl _) q_o
 have hN := refNodesG v hok hd
 have e1 : v.right = (v.parts && (decide (v.deep ≤ 4) && decide ((if v.nodes ≤ 1001 then v.nodes else 1002) ≤ 100))) := by
  unfold V.right
  congr 2
  refine decide_eq_decide.2 ?_
  split <;> omega
 rw [e1]
 generalize (if v.nodes ≤ 1001 then v.nodes else 1002) = nn at *
 cases v with
 | mk k n s l =>
 rw [V.cells_mk] at *
 replace hE := Lib.hid hE
 replace hD := Lib.hid hD
 replace hN := Lib.hid hN
 generalize (V.mk k n s l).deep = dd at *
 generalize (V.mk k n s l).parts = p at *
 generalize l.map V.cells = VL at *
 refine Qin [2] Tryz.func156 Tryz.results156 Tryz.ntmps156 ?_
 repeat' (first | refine QX ?_ | (refine QB ?_; intro b) | (with_reducible refine QZ ?_ <;> (try constructor) <;> intro hb <;> try intro hb1) | fail)
 all_goals (refine Qret (hd := ?_); (try simp (disch := omega) only [push_cast, simprocAttr, *]); try (first | exact q_e | refine LE.of_eq ?_))
 all_goals (cases p <;> (first | rfl | (refine congrArg D.b ?_; rw [Bool.eq_iff_iff]; simp only [Bool.true_and, Bool.false_and, Bool.and_true, Bool.and_false, Bool.or_false, Bool.or_true, Bool.true_or, Bool.false_or, true_and, and_true, Bool.not_eq_true', Bool.not_eq_false', decide_eq_true_eq, decide_eq_false_iff_not, beq_iff_eq, beq_eq_false_iff_ne, bne_iff_ne, ne_eq, reduceCtorEq, iff_true, true_iff, iff_false, false_iff, Bool.and_eq_true, Bool.or_eq_true, Bool.false_eq_true, Bool.true_eq_false]; first | done | omega)))
namespace TS
theorem vals_deep {f : TS → V × TS} {d : Nat} (hf : ∀ t, (f t).1.deep ≤ d) : ∀ n t, V.deepL (vals f n t).1 ≤ d
 | 0, _ => Nat.zero_le _
 | n + 1, t => by
  rw [vals]
  split
  · exact Nat.zero_le _
  · rw [V.deepL]
    have := vals_deep hf n (f t).2
    have := hf t
    omega
theorem body_deep {f : Option (TS → V × TS)} {d : Nat} (hf : ∀ g, f = some g → ∀ t, (g t).1.deep ≤ d) (t : TS) : (body f t).1.deep ≤ d + 1 := by
 have h0 : ∀ (k n : Int) (s : ByteArray), k ≠ 5 → (V.mk k n s []).deep ≤ d + 1 := fun k n s h => by
  rw [V.deep, if_neg (by rintro (h2 | h2); exact h h2; exact h2 rfl)]; omega
 have h5 : ∀ (l : List V) (s : ByteArray), V.deepL l ≤ d → (V.mk 5 0 s l).deep ≤ d + 1 := fun l s h => by
  rw [V.deep, if_pos (.inl rfl)]; omega
 unfold body
 split
 · exact h0 _ _ _ (by decide)
 split
 · exact h0 _ _ _ (by decide)
 split
 · rename_i h; exact h0 _ _ _ q_o
 split
 · unfold list5
   split
   · exact h5 _ _ (Nat.zero_le _)
   · rename_i g
     split
     · exact h5 _ _ (Nat.zero_le _)
     · exact h5 _ _ (vals_deep (hf g rfl) _ _)
 · rename_i h; exact h0 _ _ _ h
theorem value_deep : ∀ d t, (value d t).1.deep ≤ d + 1
 | 0, t => body_deep (d := 0) (fun _ h => by cases h) t
 | d + 1, t => body_deep (d := d + 1) (fun g h t => by cases h; exact value_deep d t) t
def rs (t : TS) : RS := ⟨.shared, if t.bad = true then [] else t.l.drop t.a, t.bad⟩
theorem rs_sim {t : TS} (h : t.Ok) : Sim t.rs t := ⟨h, rfl, rfl⟩
theorem rs_len {t : TS} (h : t.Ok) : t.rs.l.length ≤ 1000000 := by
 unfold rs
 dsimp only
 split
 · exact Nat.zero_le _
 · have := h.2
   rw [List.length_drop]; omega
theorem val_facts {t : TS} (h : t.Ok) : (value 4 t).1.Ok ∧ (value 4 t).1.deep ≤ 5 ∧ (value 4 t).2.Ok ∧ ((value 4 t).2.bad = false → (value 4 t).1.nodes ≤ 1000000) := by
 have h1 := good_value 4 t.rs (rs_len h)
 have h2 := sim_value 4 (rs_sim h)
 rw [h2.1, h2.2.2.1] at h1
 refine ⟨h1.1, value_deep 4 t, value_ok 4 t h, fun hb => ?_⟩
 have := (h1.2.2 hb).2
 have := rs_len h
 omega
end TS
theorem rfValG (b : Nat) (t : TS) (ht : t.Ok) (st : St) : TrF Tryz.prog 131 [.ptr b 0] (rfR b t :: st) fun x st' => x = .agg t.val.1.cells ∧ st' = rfR b t.val.2 :: st := by
 have hV : Hid (∀ st, TrF Tryz.prog 173 [.ptr b 0, .i 4] (rfR b t :: st) fun x st' => x = .agg (TS.value 4 t).1.cells ∧ st' = rfR b (TS.value 4 t).2 :: st) := Lib.hid (rfGetF 4 (Nat.le_refl _) b t ht)
 obtain ⟨f1, f2, -, f3⟩ := TS.val_facts ht
 unfold TS.val
 cases hsb : t.bad with
 | true =>
  rw [if_pos rfl]
  clear hV f1 f2 f3
  have hz : V.zero.cells = [.i 0, .i 0, .str ⟨#[]⟩, .sl .shared []] := V.cells_mk ..
  obtain ⟨o, l, a, bad⟩ := t
  dsimp only at hsb
  subst hsb
  refine QinC 2 73 Tryz.func131 Tryz.ntmps131 ?_
  repeat' (first | refine QX ?_ | (refine QB ?_; intro b) | (with_reducible refine QZ ?_ <;> (try constructor) <;> intro hb <;> try intro hb1) | fail)
  all_goals exact QretC
 | false =>
  rw [if_neg Bool.false_ne_true]
  generalize TS.value 4 t = q at *
  obtain ⟨⟨k, n, s, l⟩, o2, l2, a2, bad2⟩ := q
  dsimp only at *
  cases bad2 with
  | true =>
   rw [if_pos (.inl rfl)]
   rw [V.cells_mk] at *
   clear f1 f2 f3
   have hz : V.zero.cells = [.i 0, .i 0, .str ⟨#[]⟩, .sl .shared []] := V.cells_mk ..
   refine QinC 2 73 Tryz.func131 Tryz.ntmps131 ?_
   repeat' (first | refine QX ?_ | (refine QB ?_; intro b) | (with_reducible refine QZ ?_ <;> (try constructor) <;> intro hb <;> try intro hb1) | fail)
   all_goals exact QretC
  | false =>
   have hR := refRightG (V.mk k n s l) f1 q_o (f3 rfl)
   rw [V.cells_mk] at *
   generalize (V.mk k n s l).right = r at *
   replace hR := Lib.hid hR
   clear f1 f2 f3
   cases r with
   | false =>
    rw [if_pos (.inr rfl)]
    have hz : V.zero.cells = [.i 0, .i 0, .str ⟨#[]⟩, .sl .shared []] := V.cells_mk ..
    refine QinC 2 73 Tryz.func131 Tryz.ntmps131 ?_
    repeat' (first | refine QX ?_ | (refine QB ?_; intro b) | (with_reducible refine QZ ?_ <;> (try constructor) <;> intro hb <;> try intro hb1) | fail)
    all_goals exact QretC
   | true =>
    rw [if_neg (by simp)]
    rw [V.cells_mk]
    refine QinC 2 73 Tryz.func131 Tryz.ntmps131 ?_
    repeat' (first | refine QX ?_ | (refine QB ?_; intro b) | (with_reducible refine QZ ?_ <;> (try constructor) <;> intro hb <;> try intro hb1) | fail)
    all_goals exact QretC
end
section
open Go.RowKit B
namespace Reg
def rdT {α : Type} (f : TS → α × TS) : Nat → TS → List α × TS
 | 0, s => ([], s)
 | n + 1, s => if s.bad = true then ([], s) else ((f s).1 :: (rdT f n (f s).2).1, (rdT f n (f s).2).2)
def tlist {α : Type} (f : TS → α × TS) (k : Int) (s : TS) : List α × TS := rdT f (if k < s.rnum.1 then k else s.rnum.1).toNat s.rnum.2
def markT (s : TS) : TS := if 1 < s.byte.1 then s.byte.2.fail else s.byte.2
def getSlotT (s : TS) : Sl × TS := (⟨s.text.1, s.text.2.byte.1, s.text.2.byte.2.byte.1 == 1, (markT s.text.2.byte.2).val.1⟩, (markT s.text.2.byte.2).val.2)
def getStepT (s : TS) : Stp × TS :=
 if s.byte.1 = 1 then (⟨1, 0, (getSlotT s.byte.2).1, []⟩, (getSlotT s.byte.2).2)
 else if s.byte.1 = 2 then (⟨2, s.byte.2.byte.1, slot0, []⟩, s.byte.2.byte.2)
 else if s.byte.1 = 3 then (⟨3, s.byte.2.byte.1, { slot0 with name := s.byte.2.byte.2.text.1 }, []⟩, s.byte.2.byte.2.text.2)
 else if s.byte.1 = 4 then (⟨4, s.byte.2.byte.1, { slot0 with types := s.byte.2.byte.2.byte.1 }, []⟩, s.byte.2.byte.2.byte.2)
 else if s.byte.1 = 5 then (⟨5, 0, slot0, (tlist TS.byte 9 s.byte.2).1⟩, (tlist TS.byte 9 s.byte.2).2)
 else (⟨s.byte.1, 0, slot0, []⟩, s.byte.2)
def getTmT (s : TS) : Tm × TS :=
 (⟨s.text.1, (tlist getSlotT 9 s.text.2).1, (tlist getStepT 9 (tlist getSlotT 9 s.text.2).2).1⟩, (tlist getStepT 9 (tlist getSlotT 9 s.text.2).2).2)
def readT (s : TS) : Option (List Tm) × TS :=
 if (tlist getTmT 7 s).2.bad = true ∨ right (tlist getTmT 7 s).1 = false then (none, (tlist getTmT 7 s).2) else (some (tlist getTmT 7 s).1, (tlist getTmT 7 s).2)
def Stk {α : Type} (g : TS → α × TS) : Prop := ∀ t, t.Ok → (g t).2.Ok ∧ (t.bad = true → (g t).2.bad = true)
def SimP {α : Type} (P : α → Prop) (f : RS → α × RS) (g : TS → α × TS) : Prop := Stk g ∧ ∀ s t, Sim s t → ((f s).1 = (g t).1 ∧ Sim (f s).2 (g t).2) ∨ ((g t).2.bad = true ∧ P (f s).1)
theorem stk_of {α : Type} {f : RS → α × RS} {g : TS → α × TS} (h : SimF f g) (hb : ∀ s, s.bad = true → (f s).2.bad = true) : Stk g := fun t ht => by
 have h1 := h (TS.rs_sim ht)
 refine ⟨h1.2.1, fun hq => ?_⟩
 rw [← h1.2.2.1]
 exact hb _ hq
theorem byte_bad (s : RS) (h : s.bad = true) : s.byte.2.bad = true := by unfold RS.byte; rw [if_pos h]; rfl
theorem rnum_bad (s : RS) (h : s.bad = true) : s.rnum.2.bad = true := by unfold RS.rnum; rw [if_pos (.inl h)]; rfl
theorem text_bad (s : RS) (h : s.bad = true) : s.text.2.bad = true := by
 unfold RS.text RS.textN
 rw [if_pos (.inl (rnum_bad s h))]; rfl
theorem val_bad (s : RS) (h : s.bad = true) : s.val.2.bad = true := by unfold RS.val; rw [if_pos h]; exact h
theorem stk_byte : Stk TS.byte := stk_of sim_byte byte_bad
theorem stk_rnum : Stk TS.rnum := stk_of sim_rnum rnum_bad
theorem stk_text : Stk TS.text := stk_of sim_text text_bad
theorem stk_val : Stk TS.val := stk_of sim_val val_bad
theorem stk_mark {t : TS} (h : t.Ok) : (markT t).Ok ∧ (t.bad = true → (markT t).bad = true) := by
 have h1 := stk_byte t h
 unfold markT
 split
 · exact ⟨h1.1, fun _ => rfl⟩
 · exact h1
theorem stk_list {α : Type} {g : TS → α × TS} (h : Stk g) : ∀ n, Stk (rdT g n)
 | 0, t, ht => ⟨ht, id⟩
 | n + 1, t, ht => by
  rw [rdT]
  split
  · exact ⟨ht, id⟩
  · rename_i hb
    have h1 := h t ht
    exact ⟨(stk_list h n _ h1.1).1, fun hq => absurd hq hb⟩
theorem stk_tlist {α : Type} {g : TS → α × TS} (h : Stk g) (k : Int) : Stk (tlist g k) := fun t ht => by
 have h1 := stk_rnum t ht
 have h2 := stk_list h (if k < t.rnum.1 then k else t.rnum.1).toNat _ h1.1
 exact ⟨h2.1, fun hb => h2.2 (h1.2 hb)⟩
def PSl (s : Sl) : Prop := s.name = ⟨#[]⟩
def PSt (p : Stp) : Prop := p.kind = 1 ∧ PSl p.slot
def PL {α : Type} (P : α → Prop) (l : List α) : Prop := ∃ x ∈ l, P x
def PTm (t : Tm) : Prop := PL PSl t.slots ∨ PL PSt t.steps
end Reg
namespace Reg
def All {α : Type} (Q : α → Prop) (f : RS → α × RS) : Prop := ∀ s, s.l.length ≤ 1000000 → Q (f s).1 ∧ (f s).2.l.length ≤ s.l.length
theorem all_of {α : Type} {P : α → Prop} {c : α → Nat} {f : RS → α × RS} (h : Good P c f) : All P f := fun s hs => ⟨(h s hs).1, (h s hs).2.1⟩
theorem all_val : All VQ RS.val := fun s hs => by
 have h1 := good_value 4 s hs
 have hz : VQ V.zero := ⟨.mk q_o q_o (Nat.zero_le _) (Nat.zero_le _) (fun x h => by cases h), by decide, by decide⟩
 unfold RS.val
 split
 · exact ⟨hz, Nat.le_refl _⟩
 split
 · exact ⟨hz, Nat.zero_le _⟩
 · rename_i hq
   have hr : (RS.value 4 s).1.right = true := by
    cases h : (RS.value 4 s).1.right with
    | true => rfl
    | false => exact absurd (.inr h) hq
   have h2 := V.right_iff.1 hr
   exact ⟨⟨h1.1, by have := h2.2.2; omega, by have := h2.2.1; omega⟩, h1.2.1⟩
def QSl (s : Sl) : Prop := VQ s.dv ∧ (-9223372036854775808 ≤ s.types ∧ s.types ≤ 9223372036854775807)
def QSt (s : Stp) : Prop := VQ s.slot.dv ∧ (-9223372036854775808 ≤ s.slot.types ∧ s.slot.types ≤ 9223372036854775807) ∧ s.order.length ≤ 1000
def QTm (t : Tm) : Prop := TOk t ∧ TQ t ∧ TmR t
end Reg
namespace Rul
def flagT (t : TS) : Bool × TS := (t.byte.1 == 1, Reg.markT t)
def tsT (t : TS) : Ts × TS := (⟨t.byte.1, t.byte.2.byte.1, t.byte.2.byte.2.byte.1, t.byte.2.byte.2.byte.2.val.1⟩, t.byte.2.byte.2.byte.2.val.2)
def exT (t : TS) : Ex × TS := (⟨(flagT t).1, (flagT t).2.byte.1, (flagT t).2.byte.2.val.1⟩, (flagT t).2.byte.2.val.2)
def ptT (t : TS) : Pt × TS := (⟨t.byte.1, (flagT t.byte.2).1, (Reg.tlist tsT 7 (flagT t.byte.2).2).1⟩, (Reg.tlist tsT 7 (flagT t.byte.2).2).2)
def acT (t : TS) : Ac × TS := (⟨t.byte.1, t.byte.2.byte.1, t.byte.2.byte.2.byte.1, t.byte.2.byte.2.byte.2.byte.1, (Reg.tlist exT 17 t.byte.2.byte.2.byte.2.byte.2).1⟩, (Reg.tlist exT 17 t.byte.2.byte.2.byte.2.byte.2).2)
def rlT (t : TS) : Rl × TS := (⟨t.text.1, t.text.2.long.1, (Reg.tlist ptT 5 t.text.2.long.2).1, (Reg.tlist acT 5 (Reg.tlist ptT 5 t.text.2.long.2).2).1⟩, (Reg.tlist acT 5 (Reg.tlist ptT 5 t.text.2.long.2).2).2)
def readT (L : List Tm) (t : TS) : Option (List Rl) × TS :=
 if (Reg.tlist rlT 9 t).2.bad = true ∨ right L (Reg.tlist rlT 9 t).1 = false then (none, (Reg.tlist rlT 9 t).2) else (some (Reg.tlist rlT 9 t).1, (Reg.tlist rlT 9 t).2)
theorem stk_bind {α β : Type} {g : TS → α × TS} {k : α → TS → β × TS} (h : Reg.Stk g) (hk : ∀ a, Reg.Stk (k a)) : Reg.Stk fun t => k (g t).1 (g t).2 := fun t ht => by
 have h1 := h t ht
 have h2 := hk (g t).1 _ h1.1
 exact ⟨h2.1, fun hb => h2.2 (h1.2 hb)⟩
structure SimG {α : Type} (f : GS → α × GS) (g : TS → α × TS) : Prop where
 stk : Reg.Stk g
 low : ∀ s, s.2 = false → (f s).2.2 = false
 sim : ∀ s t, Sim s.1 t → s.2 = true → ((f s).1 = (g t).1 ∧ Sim (f s).2.1 (g t).2 ∧ (f s).2.2 = true) ∨ ((g t).2.bad = true ∧ (f s).2.2 = false)
theorem simG_bind {α β : Type} {f : GS → α × GS} {g : TS → α × TS} {h : α → GS → β × GS} {k : α → TS → β × TS} (hf : SimG f g) (hh : ∀ a, SimG (h a) (k a)) : SimG (fun s => h (f s).1 (f s).2) (fun t => k (g t).1 (g t).2) where
 stk := stk_bind hf.stk fun a => (hh a).stk
 low s hs := (hh _).low _ (hf.low s hs)
 sim s t hs hb := by
  rcases hf.sim s t hs hb with ⟨h1, h2, h3⟩ | ⟨h1, h2⟩
  · rw [h1]; exact (hh _).sim _ _ h2 h3
  · exact .inr ⟨((hh _).stk _ (hf.stk t hs.1).1).2 h1, (hh _).low _ h2⟩
theorem simG_pure {α : Type} (a : α) : SimG (fun s => (a, s)) (fun t => (a, t)) where
 stk t ht := ⟨ht, id⟩
 low s hs := hs
 sim s t hs hb := .inl ⟨rfl, hs, hb⟩
theorem simG_of {α : Type} {f : RS → α × RS} {g : TS → α × TS} (h : SimF f g) (hs : Reg.Stk g) : SimG (fun s => ((f s.1).1, ((f s.1).2, s.2))) g where
 stk := hs
 low s hs := hs
 sim s t hs hb := .inl ⟨(h hs).1, (h hs).2, hb⟩
theorem simG_flag : SimG flagS flagT where
 stk t ht := Reg.stk_mark ht
 low s hs := by unfold flagS; dsimp only; rw [hs]; rfl
 sim s t hs hb := by
  have h1 := sim_byte hs
  unfold flagS flagT Reg.markT
  dsimp only
  rw [hb, h1.1, Bool.true_and]
  by_cases hq : 1 < t.byte.1
  · rw [if_pos hq]
    exact .inr ⟨rfl, decide_eq_false q_o⟩
  · rw [if_neg hq]
    exact .inl ⟨rfl, h1.2, decide_eq_true q_o⟩
theorem simG_rd {α : Type} {f : GS → α × GS} {g : TS → α × TS} (h : SimG f g) : ∀ n, SimG (rdG f n) (Reg.rdT g n)
 | 0 => simG_pure []
 | n + 1 => {
  stk := Reg.stk_list h.stk _
  low := fun s hs => by
   rw [rdG]
   split
   · exact hs
   · exact (simG_rd h n).low _ (h.low s hs)
  sim := fun s t hs hb => by
   rw [rdG, Reg.rdT, hs.2.1]
   split
   · exact .inl ⟨rfl, hs, hb⟩
   · rcases h.sim s t hs hb with ⟨h1, h2, h3⟩ | ⟨h1, h2⟩
     · rcases (simG_rd h n).sim _ _ h2 h3 with ⟨h4, h5, h6⟩ | ⟨h4, h5⟩
       · exact .inl ⟨by rw [h1, h4], h5, h6⟩
       · exact .inr ⟨h4, h5⟩
     · exact .inr ⟨(Reg.stk_list h.stk n _ (h.stk t hs.1).1).2 h1, (simG_rd h n).low _ h2⟩ }
theorem simG_list {α : Type} {f : GS → α × GS} {g : TS → α × TS} (h : SimG f g) (k : Int) : SimG (glist f k) (Reg.tlist g k) :=
 simG_bind (simG_of sim_rnum Reg.stk_rnum) fun n => simG_rd h (if k < n then k else n).toNat
theorem simG_ts : SimG tsG tsT :=
 simG_bind (simG_of sim_byte Reg.stk_byte) fun a => simG_bind (simG_of sim_byte Reg.stk_byte) fun b => simG_bind (simG_of sim_byte Reg.stk_byte) fun c => simG_bind (simG_of sim_val Reg.stk_val) fun d => simG_pure (Ts.mk a b c d)
theorem simG_ex : SimG exG exT :=
 simG_bind simG_flag fun a => simG_bind (simG_of sim_byte Reg.stk_byte) fun b => simG_bind (simG_of sim_val Reg.stk_val) fun d => simG_pure (Ex.mk a b d)
theorem simG_pt : SimG ptG ptT :=
 simG_bind (simG_of sim_byte Reg.stk_byte) fun a => simG_bind simG_flag fun b => simG_bind (simG_list simG_ts 7) fun d => simG_pure (Pt.mk a b d)
theorem simG_ac : SimG acG acT :=
 simG_bind (simG_of sim_byte Reg.stk_byte) fun a => simG_bind (simG_of sim_byte Reg.stk_byte) fun b => simG_bind (simG_of sim_byte Reg.stk_byte) fun c => simG_bind (simG_of sim_byte Reg.stk_byte) fun d => simG_bind (simG_list simG_ex 17) fun e => simG_pure (Ac.mk a b c d e)
theorem long_bad (s : RS) (h : s.bad = true) : s.long.2.bad = true := by unfold RS.long; rw [if_pos (.inl h)]; rfl
theorem simG_rl : SimG rlG rlT :=
 simG_bind (simG_of sim_text Reg.stk_text) fun a => simG_bind (simG_of sim_long (Reg.stk_of sim_long long_bad)) fun b => simG_bind (simG_list simG_pt 5) fun c => simG_bind (simG_list simG_ac 5) fun d => simG_pure (Rl.mk a b c d)
theorem read_sim (L : List Tm) {s : RS} {t : TS} (h : Sim s t) : (read L s).1 = (readT L t).1 ∧ ((read L s).1.isSome = true → Sim (read L s).2 (readT L t).2) := by
 unfold read readT
 dsimp only
 rcases (simG_list simG_rl 9).sim (s, true) t h rfl with ⟨k1, k2, k3⟩ | ⟨k1, k2⟩
 · rw [k1, k2.2.1, k3]
   by_cases hq : (Reg.tlist rlT 9 t).2.bad = true ∨ right L (Reg.tlist rlT 9 t).1 = false
   · rw [if_pos hq, if_pos (by rcases hq with h | h; exact .inl h; exact .inr (.inr h))]
     exact ⟨rfl, fun h => by cases h⟩
   · rw [if_neg hq, if_neg (by rintro (h | h | h); exact hq (.inl h); cases h; exact hq (.inr h))]
     exact ⟨rfl, fun _ => k2⟩
 · rw [if_pos (.inr (.inl k2)), if_pos (.inl k1)]
   exact ⟨rfl, fun h => by cases h⟩
def AllG {α : Type} (Q : α → Prop) (f : GS → α × GS) : Prop := ∀ s, s.1.l.length ≤ 900000 → Q (f s).1 ∧ (f s).2.1.l.length ≤ s.1.l.length
theorem allG_bind {α β : Type} {P : α → Prop} {Q : β → Prop} {f : GS → α × GS} {h : α → GS → β × GS} (hf : AllG P f) (hh : ∀ a, P a → AllG Q (h a)) : AllG Q (fun s => h (f s).1 (f s).2) := fun s hs => by
 have h1 := hf s hs
 have h2 := hh _ h1.1 _ (Nat.le_trans h1.2 hs)
 exact ⟨h2.1, Nat.le_trans h2.2 h1.2⟩
theorem allG_pure {α : Type} {Q : α → Prop} {a : α} (h : Q a) : AllG Q (fun s => (a, s)) := fun _ _ => ⟨h, Nat.le_refl _⟩
theorem allG_of {α : Type} {Q : α → Prop} {f : RS → α × RS} (h : Reg.All Q f) : AllG Q (fun s => ((f s.1).1, ((f s.1).2, s.2))) := fun s hs => h s.1 q_o
theorem allG_flag : AllG (fun _ => True) flagS := fun s hs => ⟨trivial, (good_byte s.1 q_o).2.1⟩
theorem allG_rd {α : Type} {Q : α → Prop} {f : GS → α × GS} (h : AllG Q f) : ∀ n, AllG (fun l : List α => (∀ x ∈ l, Q x) ∧ l.length ≤ n) (rdG f n)
 | 0 => allG_pure ⟨(fun x h => by cases h), Nat.le_refl _⟩
 | n + 1 => fun s hs => by
  rw [rdG]
  split
  · exact ⟨⟨(fun x h => by cases h), Nat.zero_le _⟩, Nat.le_refl _⟩
  · have h1 := h s hs
    have h2 := allG_rd h n (f s).2 (Nat.le_trans h1.2 hs)
    refine ⟨⟨fun x hx => ?_, Nat.succ_le_succ h2.1.2⟩, Nat.le_trans h2.2 h1.2⟩
    rcases List.mem_cons.1 hx with rfl | hx
    · exact h1.1
    · exact h2.1.1 x hx
theorem allG_list {α : Type} {Q : α → Prop} {f : GS → α × GS} (h : AllG Q f) (k : Nat) : AllG (fun l : List α => (∀ x ∈ l, Q x) ∧ l.length ≤ k) (glist f k) :=
 allG_bind (P := fun n : Int => 0 ≤ n) (Q := fun l : List α => (∀ x ∈ l, Q x) ∧ l.length ≤ k) (h := fun n => rdG f (if (k : Int) < n then (k : Int) else n).toNat) (allG_of (Reg.all_of good_rnum)) fun n hn s hs => by
  have h1 := allG_rd h (if (k : Int) < n then (k : Int) else n).toNat s hs
  exact ⟨⟨h1.1.1, Nat.le_trans h1.1.2 (by split <;> omega)⟩, h1.2⟩
theorem allG_text : AllG (fun b : ByteArray => b.size ≤ 900000) (fun s => (s.1.text.1, (s.1.text.2, s.2))) := fun s hs => by
 have h0 := (good_text s.1 q_o).2.1
 refine And.intro ?_ h0
 have h1 := (good_rnum s.1 q_o).2.1
 unfold RS.text RS.textN
 dsimp only
 split
 · exact Nat.zero_le _
 · show (List.toArray _).size ≤ _
   rw [List.size_toArray, List.length_take]
   omega
theorem allG_ts : AllG (fun t => VQ t.val) tsG :=
 allG_bind (allG_of (Reg.all_of good_byte)) fun a _ => allG_bind (allG_of (Reg.all_of good_byte)) fun b _ => allG_bind (allG_of (Reg.all_of good_byte)) fun c _ => allG_bind (allG_of Reg.all_val) fun d hd => allG_pure (a := Ts.mk a b c d) hd
theorem allG_ex : AllG (fun t => VQ t.val) exG :=
 allG_bind allG_flag fun a _ => allG_bind (allG_of (Reg.all_of good_byte)) fun b _ => allG_bind (allG_of Reg.all_val) fun d hd => allG_pure (a := Ex.mk a b d) hd
theorem allG_pt : AllG (fun p : Pt => p.tests.length ≤ 100 ∧ ∀ t ∈ p.tests, VQ t.val) ptG :=
 allG_bind (allG_of (Reg.all_of good_byte)) fun a _ => allG_bind allG_flag fun b _ => allG_bind (allG_list allG_ts 7) fun d hd => allG_pure (a := Pt.mk a b d) ⟨Nat.le_trans hd.2 q_o, hd.1⟩
theorem allG_ac : AllG (fun p : Ac => p.vals.length ≤ 100 ∧ ∀ t ∈ p.vals, VQ t.val) acG :=
 allG_bind (allG_of (Reg.all_of good_byte)) fun a _ => allG_bind (allG_of (Reg.all_of good_byte)) fun b _ => allG_bind (allG_of (Reg.all_of good_byte)) fun c _ => allG_bind (allG_of (Reg.all_of good_byte)) fun d _ => allG_bind (allG_list allG_ex 17) fun e he => allG_pure (a := Ac.mk a b c d e) ⟨Nat.le_trans he.2 q_o, he.1⟩
theorem allG_rl : AllG (fun x : Rl => RK x ∧ (-9223372036854775808 ≤ x.sal ∧ x.sal ≤ 9223372036854775807)) rlG :=
 allG_bind allG_text fun a ha => allG_bind (allG_of (Reg.all_of good_long)) fun b hb => allG_bind (allG_list allG_pt 5) fun c hc => allG_bind (allG_list allG_ac 5) fun d hd => allG_pure (a := Rl.mk a b c d) ⟨{
  nm := ha
  np := Nat.le_trans hc.2 q_o
  na := Nat.le_trans hd.2 q_o
  nt := fun p hp => (hc.1 p hp).1
  nv := fun p hp => (hd.1 p hp).1
  vt := fun p hp => (hc.1 p hp).2
  va := fun p hp => (hd.1 p hp).2 }, hb⟩
theorem read_known {s : RS} (hs : s.l.length ≤ 900000) : (∀ x ∈ (glist rlG 9 (s, true)).1, RK x ∧ (-9223372036854775808 ≤ x.sal ∧ x.sal ≤ 9223372036854775807)) ∧ (glist rlG 9 (s, true)).1.length ≤ 9 := (allG_list allG_rl 9 (s, true) hs).1
end Rul
end
section
attribute [local push_cast] encB encI TS.cells TS.fail V.cells_mk V.cells_len Nat.mul_one Int.sub_zero List.map_nil beq_self_eq_true bne_self_eq_false List.head?_cons
open Go.RowKit B
set_option maxHeartbeats 16000000
end
section
attribute [local push_cast] encB encI TS.cells TS.fail V.cells_mk V.cells_len Nat.mul_one Int.sub_zero List.map_nil beq_self_eq_true bne_self_eq_false List.head?_cons
open Go.RowKit B
set_option maxHeartbeats 32000000
section
variable {P : Program} {N : Nat} {r : Option Nat} {A : AA} {st : St} {Q : Exit → AA → St → Prop}
theorem tr_cutF (id : Nat) (K : AA → St → Prop) {ops : Array Oper} {b : Bool} {y c : Code} (h1 : Tr P N r (.seq (.region id ops b) y) A st (thenA K fun _ _ _ => False)) (h2 : ∀ A' st', K A' st' → Tr P N r c A' st' Q) : Tr P N r (.seq (.seq (.region id ops b) y) c) A st Q :=
 tr_seq (tr_mono h1 fun ex A' st' h => by
  cases ex with
  | normal => exact h2 A' st' h
  | exit id => exact h.elim
  | goto l => exact h.elim
  | ret => exact h.elim
  | panic c => exact h.elim
  | outgrown => exact h.elim)
end
namespace Reg
theorem rdT_step {α : Type} {g : TS → α × TS} {m i : Nat} {t : TS} (h : i < m) (hb : t.bad = false) : rdT g (m - i) t = ((g t).1 :: (rdT g (m - (i + 1)) (g t).2).1, (rdT g (m - (i + 1)) (g t).2).2) := by
 rw [show m - i = (m - (i + 1)) + 1 by omega, rdT, hb, if_neg Bool.false_ne_true]
theorem rdT_bad {α : Type} {g : TS → α × TS} {n : Nat} {t : TS} (hb : t.bad = true) : rdT g n t = ([], t) := by
 cases n with
 | zero => rfl
 | succ n => rw [rdT, hb, if_pos rfl]
theorem rdT_end {α : Type} {g : TS → α × TS} {m : Nat} {t : TS} : rdT g (m - m) t = ([], t) := by rw [Nat.sub_self]; rfl
theorem lim {k n : Int} (hk : 0 ≤ k) (hn : 0 ≤ n) : ∃ m : Nat, (if k < n then k else n).toNat = m ∧ (m : Int) ≤ k ∧ ∀ i : Nat, (i < m ↔ ((i : Int) < n ∧ (i : Int) < k)) := by
 refine ⟨_, rfl, ?_, fun i => ?_⟩ <;> split <;> omega
theorem lim0 {k n : Int} {m i : Nat} (h : ∀ i : Nat, (i < m ↔ ((i : Int) < n ∧ (i : Int) < k))) (hi : ¬ i < m) : ¬ (i : Int) < n ∨ ((i : Int) < n ∧ ¬ (i : Int) < k) := by
 by_cases h1 : (i : Int) < n
 · exact .inr ⟨h1, fun h2 => hi ((h i).2 ⟨h1, h2⟩)⟩
 · exact .inl h1
end Reg
end
section
attribute [local push_cast] encB encI TS.cells TS.fail V.cells_mk V.cells_len Nat.mul_one Int.sub_zero List.map_nil beq_self_eq_true bne_self_eq_false List.head?_cons
open Go.RowKit B
set_option maxHeartbeats 16000000
namespace Reg
theorem rd_start {α : Type} (g : TS → α × TS) (k : Int) (hk : 0 ≤ k) (t : TS) : ∃ m : Nat, (m : Int) ≤ k ∧ (∀ i : Nat, (i < m ↔ ((i : Int) < t.rnum.1 ∧ (i : Int) < k))) ∧ Hid ([] ++ (rdT g (m - 0) t.rnum.2).1 = (tlist g k t).1 ∧ (rdT g (m - 0) t.rnum.2).2 = (tlist g k t).2) := by
 obtain ⟨m, h1, h2, h3⟩ := lim hk (TS.rnum_pos t)
 refine ⟨m, h2, h3, Lib.hid ?_⟩
 unfold tlist
 rw [h1, Nat.sub_zero]
 exact ⟨rfl, rfl⟩
theorem rd_out {α : Type} {g : TS → α × TS} {m i : Nat} {k n : Int} {t t2 : TS} {L L2 : List α} (hE : Hid (L ++ (rdT g (m - i) t).1 = L2 ∧ (rdT g (m - i) t).2 = t2)) (hlim : Hid (∀ i : Nat, (i < m ↔ ((i : Int) < n ∧ (i : Int) < k)))) (hi : i ≤ m) (hout : ¬ (i < m ∧ t.bad = false)) :
 L2 = L ∧ t2 = t ∧ ((¬ (i : Int) < n ∨ ((i : Int) < n ∧ ¬ (i : Int) < k)) ∨ ((i : Int) < n ∧ (i : Int) < k ∧ t.bad = true)) := by
 have hEE := hE.out
 by_cases h : i < m
 · have hb : t.bad = true := by
    cases hb : t.bad with
    | true => rfl
    | false => exact absurd ⟨h, hb⟩ hout
   rw [rdT_bad hb] at hEE
   exact ⟨hEE.1.symm.trans (List.append_nil _), hEE.2.symm, .inr ⟨((hlim.out i).1 h).1, ((hlim.out i).1 h).2, hb⟩⟩
 · have : i = m := by omega
   subst this
   rw [rdT_end] at hEE
   exact ⟨hEE.1.symm.trans (List.append_nil _), hEE.2.symm, .inl (lim0 hlim.out h)⟩
theorem rd_in {α : Type} {g : TS → α × TS} {m i : Nat} {t t2 : TS} {L L2 : List α} (hE : Hid (L ++ (rdT g (m - i) t).1 = L2 ∧ (rdT g (m - i) t).2 = t2)) (hlt : i < m) (hb : t.bad = false) : Hid ((L ++ [(g t).1]) ++ (rdT g (m - (i + 1)) (g t).2).1 = L2 ∧ (rdT g (m - (i + 1)) (g t).2).2 = t2) := by
 have hEE := hE.out
 rw [rdT_step hlt hb] at hEE
 refine Lib.hid ⟨?_, hEE.2⟩
 rw [← hEE.1, List.append_assoc]; rfl
end Reg
theorem ref17FlagF (rb : Nat) (t : TS) (ht : t.Ok) (st : St) : TrF Tryz.prog 130 [.ptr rb 0] (rfR rb t :: st) fun x st' => x = .b (Rul.flagT t).1 ∧ st' = rfR rb (Rul.flagT t).2 :: st := by
 have hB := rfByteF rb t ht
 unfold Rul.flagT Reg.markT
 generalize t.byte = q at *
 obtain ⟨n, o, l, a, bd⟩ := q
 dsimp only at *
 replace hB := Lib.hid hB
 by_cases h1 : 1 < n
 · rw [if_pos h1]
   have h2 : (n == 1) = false := beq_eq_false_iff_ne.2 q_o
   refine Qin [2] Tryz.func130 Tryz.results130 Tryz.ntmps130 ?_
   exact WR
 · rw [if_neg h1]
   refine Qin [2] Tryz.func130 Tryz.results130 Tryz.ntmps130 ?_
   exact WR
end
section
attribute [local push_cast] encB encI encC V.cells_mk V.cells_len Nat.mul_one Int.sub_zero List.map_nil beq_self_eq_true bne_self_eq_false List.head?_cons Bool.not_true Bool.not_false
set_option maxHeartbeats 16000000
namespace Rul
theorem testB_out {ns : Int} {neg : Bool} {B : List Int} {t : Ts} (h : t.kind < 1 ∨ 9 < t.kind ∨ t.slot < 0 ∨ ns ≤ t.slot) : testB ns neg B t = false := by
 unfold testB
 rcases h with h | h | h | h
 · rw [if_neg q_o, if_neg q_o, if_neg q_o, Bool.and_false]
 · rw [if_neg q_o, if_neg q_o, if_neg q_o, Bool.and_false]
 · rw [decide_eq_false (show ¬ 0 ≤ t.slot by omega)]; rfl
 · rw [decide_eq_false (show ¬ t.slot < ns by omega), Bool.and_false]; rfl
theorem testB_val {ns : Int} {neg : Bool} {B : List Int} {t : Ts} (h1 : 1 ≤ t.kind) (h2 : t.kind < 5) (h3 : 0 ≤ t.slot) (h4 : t.slot < ns) : testB ns neg B t = ((t.var == 0) && t.val.right) := by
 unfold testB
 rw [if_pos q_o, decide_eq_true h3, decide_eq_true h4]; rfl
theorem testB_bind {ns : Int} {neg : Bool} {B : List Int} {t : Ts} (h1 : t.kind = 5) (h3 : 0 ≤ t.slot) (h4 : t.slot < ns) : testB ns neg B t = ((t.val.cmp V.zero == 0) && ((decide (0 ≤ t.var) && decide (t.var < 8)) && (!neg && decide (t.var ∉ B)))) := by
 unfold testB
 rw [if_neg q_o, if_pos h1, decide_eq_true h3, decide_eq_true h4]; rfl
theorem testB_var {ns : Int} {neg : Bool} {B : List Int} {t : Ts} (h1 : 5 < t.kind) (h2 : t.kind ≤ 9) (h3 : 0 ≤ t.slot) (h4 : t.slot < ns) : testB ns neg B t = ((t.val.cmp V.zero == 0) && ((decide (0 ≤ t.var) && decide (t.var < 8)) && decide (t.var ∈ B))) := by
 unfold testB
 rw [if_neg q_o, if_neg q_o, if_pos q_o, decide_eq_true h3, decide_eq_true h4]; rfl
theorem testsF_drop {ns : Int} {neg : Bool} {l : List Ts} {i : Nat} {t : Ts} (B : List Int) (h : l[i]? = some t) : testsF ns neg (l.drop i) B = if testB ns neg B t = true then testsF ns neg (l.drop (i + 1)) (testN B t) else (false, B) := by
 obtain ⟨h1, rfl⟩ := List.getElem?_eq_some_iff.1 h
 rw [List.drop_eq_getElem_cons h1, testsF]
theorem patsF_drop {L : List Tm} {l : List Pt} {i : Nat} {p : Pt} (B : List Int) (h : l[i]? = some p) : patsF L (l.drop i) B = if (patF L B p).1 = true then patsF L (l.drop (i + 1)) (patF L B p).2 else (false, (patF L B p).2) := by
 obtain ⟨h1, rfl⟩ := List.getElem?_eq_some_iff.1 h
 rw [List.drop_eq_getElem_cons h1, patsF]
def patsB (L : List Tm) (x : Rl) : Bool := (patsF L x.pats []).1 && (!((x.pats[0]?).any Pt.neg) && (decide (1 ≤ x.pats.length) && decide (x.pats.length ≤ 4)))
end Rul
theorem ref17PatsF (L : List Tm) (hQ : ∀ t ∈ L, TQ t) (hl : L.length ≤ 1000000) (x : Rl) (hx : Rul.RK x) (st : St) : TrF Tryz.prog 90 [.sl .shared (L.map Tm.cells), .agg x.cells] st fun d st' => d = .b (Rul.patsB L x) ∧ st' = st := by
 have hS := Lib.hid fun (k : Int) => ref17SlotsF L hQ hl k
 have hSl : Hid (∀ k : Int, ((Rul.slots L k).map Sl.cells).length = (Rul.slots L k).length) := Lib.hid fun k => List.length_map ..
 have hPF : Hid (∀ (B : List Int) (p : Pt), ¬ (0 ≤ p.tmpl ∧ p.tmpl < L.length ∧ p.tests.length ≤ 6) → Rul.patF L B p = (false, B)) := Lib.hid fun B p h => if_neg h
 have hPT : Hid (∀ (B : List Int) (p : Pt), (0 ≤ p.tmpl ∧ p.tmpl < L.length ∧ p.tests.length ≤ 6) → Rul.patF L B p = Rul.testsF (Rul.slots L p.tmpl).length p.neg p.tests B) := Lib.hid fun B p h => if_pos h
 unfold Rul.patsB
 have hm0 : (L.map Tm.cells).length = L.length := List.length_map ..
 have hPD : Hid (∀ (B : List Int) (i : Nat) (p : Pt), x.pats[i]? = some p → Rul.patsF L (x.pats.drop i) B = if (Rul.patF L B p).1 = true then Rul.patsF L (x.pats.drop (i + 1)) (Rul.patF L B p).2 else (false, (Rul.patF L B p).2)) := Lib.hid fun B i p h => Rul.patsF_drop B h
 have hPE : Hid (∀ B, Rul.patsF L (x.pats.drop x.pats.length) B = (true, B)) := Lib.hid fun B => by rw [List.drop_length]; rfl
 have hP0 : Hid (Rul.patsF L x.pats [] = Rul.patsF L (x.pats.drop 0) []) := Lib.hid rfl
 generalize Rul.patsF L = PF at *
 generalize Rul.patF L = pF at *
 generalize Rul.slots L = SF at *
 clear hQ
 generalize L.map Tm.cells = LS at *
 obtain ⟨hnm, hnp, hna, hnt, hnv, hvt, hva⟩ := hx
 cases x with
 | mk nm sal ps acts =>
 unfold Rl.cells
 dsimp only at *
 generalize acts.map Ac.cells = AS at *
 have hm : (ps.map Pt.cells).length = ps.length := List.length_map ..
 have hc := hMp Pt.cells ps
 generalize ps.map Pt.cells = PS at *
 replace hnt := Lib.hid hnt
 replace hvt := Lib.hid hvt
 clear hnm hna hnv hva
 cases hneg : (ps[0]?).any Pt.neg with
 | true =>
  rw [Bool.not_true, Bool.false_and, Bool.and_false]
  obtain ⟨p, hp⟩ : ∃ p, ps[0]? = some p := by
   cases h : ps[0]? with
   | none => rw [h] at hneg; cases hneg
   | some p => exact ⟨p, rfl⟩
  rw [hp, Option.any_some] at hneg
  have hpl : 0 < ps.length := (List.getElem?_eq_some_iff.1 hp).1
  have h1 := hc.out 0 p hp
  clear hS hSl hPF hPT hPD hPE hP0 hp hc hnt hvt
  cases p with
  | mk tmpl neg ts =>
  dsimp only at hneg
  subst hneg
  unfold Pt.cells at h1
  dsimp only at h1
  generalize ts.map Ts.cells = TS at *
  refine Qin [4] Tryz.func90 Tryz.results90 Tryz.ntmps90 ?_
  repeat' (first | refine QX ?_ | (refine QB ?_; intro b) | (refine QP ?_; intro o' ho') | (with_reducible refine QZ ?_ <;> (try constructor) <;> intro hb <;> try intro hb1) | fail)
  refine tr_once ?_
  by_cases c1 : tmpl < 0
  · repeat' (first | refine QX ?_ | (refine QB ?_; intro b) | (refine QP ?_; intro o' ho') | (with_reducible refine QZ ?_ <;> (try constructor) <;> intro hb <;> try intro hb1) | fail)
    all_goals exact Qret
  by_cases c2 : (L.length : Int) ≤ tmpl
  · repeat' (first | refine QX ?_ | (refine QB ?_; intro b) | (refine QP ?_; intro o' ho') | (with_reducible refine QZ ?_ <;> (try constructor) <;> intro hb <;> try intro hb1) | fail)
    all_goals exact Qret
  by_cases c3 : 6 < (TS.length : Int)
  · repeat' (first | refine QX ?_ | (refine QB ?_; intro b) | (refine QP ?_; intro o' ho') | (with_reducible refine QZ ?_ <;> (try constructor) <;> intro hb <;> try intro hb1) | fail)
    all_goals exact Qret
  exact WRa
 | false =>
 rw [Bool.not_false, Bool.true_and]
 obtain ⟨Q, hQQ⟩ : ∃ Q, PF ps [] = Q := ⟨_, rfl⟩
 rw [hQQ]
 have HQ : Hid (PF (ps.drop 0) [] = Q) := Lib.hid (hP0.out.symm.trans hQQ)
 have hng : Hid (∀ p, ps[0]? = some p → p.neg = false) := Lib.hid fun p h => by rw [h, Option.any_some] at hneg; exact hneg
 clear hQQ hP0 hneg
 refine Qin [4] Tryz.func90 Tryz.results90 Tryz.ntmps90 ?_
 refine tr_room 3 1 ([] : List (List D)).length ?_
 repeat' (first | refine QX ?_ | (refine QB ?_; intro b) | (refine QP ?_; intro o' ho') | (with_reducible refine QZ ?_ <;> (try constructor) <;> intro hb <;> try intro hb1) | fail)
 refine tr_loopd (ι := Nat) (fun i A st' => i ≤ ps.length ∧ A.df = [] ∧ A.e 0 = .sl .shared LS ∧ A.e 3 = .ip [.str nm, .i sal, .sl .shared PS, .sl .shared AS] ∧ A.e 6 = .i i ∧ ∃ (o' : Own) (B : List Int), o' ≠ .shared ∧ B.length ≤ i * 100 ∧ Hid (PF (ps.drop i) B = Q) ∧ A.e 5 = .sl o' (B.map encI) ∧ st' = .room o' 3 1 (B.map encI).length :: st) (fun i => ps.length - i) 0 ⟨Nat.zero_le _, Qf, Qf, Qf, Qf, .tight, [], by decide, by decide, HQ, Qf, rfl⟩ ?_
 clear HQ
 rintro i A st' ⟨hi, hdf, e0, e3, e6, o', B, ho', hBl, HT, e5, rfl⟩
 have hBm : (B.map encI).length = B.length := List.length_map ..
 by_cases hlt : ¬ i < ps.length
 · obtain rfl : i = ps.length := by omega
   have hE := hPE.out B
   rw [HT.out] at hE
   subst hE
   clear HT hPE hPD hPF hPT hS hSl hng hc hnt hvt
   dsimp only
   rw [Bool.true_and]
   generalize B.map encI = BI at *
   by_cases c1 : 1 ≤ ps.length
   · rw [decide_eq_true c1, Bool.true_and]
     by_cases c2 : ps.length ≤ 4
     · rw [decide_eq_true c2]
       have d4 : decide ((ps.length : Int) ≤ 4) = true := decide_eq_true q_o
       exact WRa
     · rw [decide_eq_false c2]
       have d4 : decide ((ps.length : Int) ≤ 4) = false := decide_eq_false q_o
       exact WRa
   · rw [decide_eq_false c1, Bool.false_and]
     exact WRa
 rw [Classical.not_not] at hlt
 obtain ⟨p, hp⟩ := gEx hlt
 have h1 := hc.out i p hp
 have hnp2 := hnt.out p (List.mem_of_getElem? hp)
 have hvp := hvt.out p (List.mem_of_getElem? hp)
 have HE := hPD.out B i p hp
 rw [HT.out] at HE
 have hn0 : i = 0 → p.neg = false := fun h => hng.out p (h ▸ hp)
 have hP1 := hPF.out B p
 have hP2 := hPT.out B p
 have hSp := hS.out p.tmpl
 have hSlp := hSl.out p.tmpl
 clear hng hp hPD hPF hPT HT hc hnt hvt hS hSl hPE
 obtain ⟨G, hGG⟩ : ∃ G, PF (ps.drop (i + 1)) = G := ⟨_, rfl⟩
 rw [hGG] at HE
 replace hGG := Lib.hid hGG
 cases p with
 | mk tmpl neg ts =>
 unfold Pt.cells at h1
 dsimp only at *
 generalize SF tmpl = sl at *
 have hmt : (ts.map Ts.cells).length = ts.length := List.length_map ..
 have hct := hMp Ts.cells ts
 generalize ts.map Ts.cells = TS at *
 have hb0 : ((i : Int) == 0) = true → neg = false := fun h => hn0 (by have := beq_iff_eq.1 h; omega)
 clear hn0
 replace hSp := Lib.hid hSp
 by_cases hok : 0 ≤ tmpl ∧ tmpl < L.length ∧ ts.length ≤ 6
 case neg =>
  rw [hP1 hok] at HE
  dsimp only at HE
  rw [if_neg Bool.false_ne_true] at HE
  subst HE
  clear hP1 hP2 hvp hGG hct
  dsimp only
  rw [Bool.false_and]
  generalize B.map encI = BI at *
  by_cases c1 : tmpl < 0
  · cases hi0 : ((i : Int) == 0)
    all_goals (
     exact WRa)
  by_cases c2 : (L.length : Int) ≤ tmpl
  · cases hi0 : ((i : Int) == 0)
    all_goals (
     exact WRa)
  have c3 : 6 < (ts.length : Int) := by omega
  cases hi0 : ((i : Int) == 0)
  all_goals (
   exact WRa)
 case pos =>
 have hP3 := hP2 hok
 obtain ⟨k1, k2, k3⟩ := hok
 clear hP1 hP2
 rw [hP3] at HE
 obtain ⟨R, hR⟩ : ∃ R, Rul.testsF sl.length neg ts B = R := ⟨_, rfl⟩
 rw [hR] at HE
 have HR : Hid (Rul.testsF sl.length neg (ts.drop 0) B = R) := hR
 replace HE := Lib.hid HE
 clear hR hP3
 replace hvp := Lib.hid hvp
 have hb1 : (i : Int) = 0 → neg = false := fun h => hb0 (by rw [beq_iff_eq]; exact h)
 clear hb0
 repeat' (first | refine QV ?_ | (refine tr_cutR 6 (fun A' st' => ∃ bP : Nat, A'.df = [] ∧ A'.e 0 = .sl .shared LS ∧ A'.e 3 = .ip [.str nm, .i sal, .sl .shared PS, .sl .shared AS] ∧ A'.e 5 = .sl o' (B.map encI) ∧ A'.e 6 = .i i ∧ A'.e 7 = .ptr bP 0 ∧ A'.e 46 = .b false ∧ st' = .box bP 105 [.i tmpl, .b neg, .sl .shared TS] :: .room o' 3 1 (B.map encI).length :: st) ?_ ?_) | refine QY ?_ | (refine QB ?_; intro b) | (refine QP ?_; intro o' ho') | (with_reducible refine QZ ?_ <;> (try constructor) <;> intro hb <;> try intro hb1) | fail)
 all_goals try (
  try (have hn := hb1 (by assumption); subst hn)
  exact ⟨_, Qf, Qf, Qf, Qf, Qf, Qf, Qf, rfl⟩)
 clear hdf e0 e3 e5 e6 A hb1
 rintro A st' ⟨bP, hdf, e0, e3, e5, e6, e7, e46, rfl⟩
 repeat' (first | refine QX ?_ | (refine QB ?_; intro b) | (refine QP ?_; intro o' ho') | (with_reducible refine QZ ?_ <;> (try constructor) <;> intro hb <;> try intro hb1) | fail)
 clear hSp
 refine tr_loopd (ι := Nat) (fun k A st' => k ≤ ts.length ∧ A.df = [] ∧ A.e 0 = .sl .shared LS ∧ A.e 3 = .ip [.str nm, .i sal, .sl .shared PS, .sl .shared AS] ∧ A.e 6 = .i i ∧ A.e 7 = .ptr bP 0 ∧ A.e 8 = .i sl.length ∧ A.e 9 = .i k ∧ ∃ (o' : Own) (B : List Int), o' ≠ .shared ∧ B.length ≤ i * 100 + k ∧ Hid (Rul.testsF sl.length neg (ts.drop k) B = R) ∧ A.e 5 = .sl o' (B.map encI) ∧ st' = .box bP 105 [.i tmpl, .b neg, .sl .shared TS] :: .room o' 3 1 (B.map encI).length :: st) (fun k => ts.length - k) 0 ⟨Nat.zero_le _, Qf, Qf, Qf, Qf, Qf, Qf, Qf, o', B, ho', by omega, HR, Qf, rfl⟩ ?_
 clear HR ho' hBl hBm e0 e3 e5 e6 e7 e46 hdf B A o' h1
 rintro k A st' ⟨hk, hdf, e0, e3, e6, e7, e8, e9, o', B, ho', hBl, HT, e5, rfl⟩
 have hBm : (B.map encI).length = B.length := List.length_map ..
 by_cases hkl : ¬ k < ts.length
 · obtain rfl : k = ts.length := by omega
   have hR := HT.out
   rw [List.drop_length, Rul.testsF] at hR
   have hQ := HE.out
   rw [← hR] at hQ
   dsimp only at hQ
   rw [if_pos rfl, ← hGG.out] at hQ
   have hQ2 : Hid (PF (ps.drop (i + 1)) B = Q) := hQ.symm
   clear hQ hR HT HE hGG hct hvp
   repeat' (first | refine QX ?_ | (refine QB ?_; intro b) | (refine QP ?_; intro o' ho') | (with_reducible refine QZ ?_ <;> (try constructor) <;> intro hb <;> try intro hb1) | fail)
   refine ⟨i + 1, .room o' 3 1 (B.map encI).length :: st, q_u, ⟨hlt, ?_, ?_, ?_, ?_, o', B, ho', by omega, hQ2, ?_, rfl⟩, by omega⟩
   all_goals exact Qf
 rw [Classical.not_not] at hkl
 obtain ⟨t, ht⟩ := gEx hkl
 have g1 := hct.out k t ht
 have hvt := hvp.out t (List.mem_of_getElem? ht)
 have hR := HT.out
 rw [Rul.testsF_drop B ht] at hR
 clear hct ht HT hvp
 obtain ⟨G2, hG2⟩ : ∃ G2, Rul.testsF sl.length neg (ts.drop (k + 1)) = G2 := ⟨_, rfl⟩
 rw [hG2] at hR
 replace hG2 := Lib.hid hG2
 have hF : Rul.testB sl.length neg B t = false → ((Q.1 && (decide (1 ≤ ps.length) && decide (ps.length ≤ 4))) = false) := fun h => by
  rw [h, if_neg Bool.false_ne_true] at hR
  rw [HE.out, ← hR, if_neg Bool.false_ne_true, Bool.false_and]
 have hT : Rul.testB sl.length neg B t = true → Hid (G2 (Rul.testN B t) = R) := fun h => by
  rw [h, if_pos rfl] at hR
  exact hR
 clear hR
 replace hGG := hGG
 have hRt := refRightF t.val hvt.ok hvt.nodes hvt.deep
 have hSm := refSameF t.val V.zero hvt.ok
 have hHs := ref17HasF o' B t.var q_o
 rw [zero_cells] at hSm
 have tO : (t.kind < 1 ∨ 9 < t.kind ∨ t.slot < 0 ∨ (sl.length : Int) ≤ t.slot) → Rul.testB sl.length neg B t = false := Rul.testB_out
 have tV := @Rul.testB_val sl.length neg B t
 have tB := @Rul.testB_bind sl.length neg B t
 have tR := @Rul.testB_var sl.length neg B t
 have tN : t.kind = 5 → Rul.testN B t = B ++ [t.var] := fun h => if_pos h
 have tN2 : t.kind ≠ 5 → Rul.testN B t = B := fun h => if_neg h
 generalize Rul.testN B t = B2 at *
 generalize Rul.testB sl.length neg B t = q at *
 clear hvt
 cases t with
 | mk kind slot var val =>
 dsimp only at *
 generalize val.right = vr at *
 generalize (val.cmp V.zero == 0) = vz at *
 obtain ⟨hs, hhs⟩ : ∃ hs, decide (var ∈ B) = hs := ⟨_, rfl⟩
 have hhn : decide (var ∉ B) = !hs := by rw [← hhs]; by_cases h : var ∈ B <;> simp [h]
 rw [hhn] at tB
 rw [hhs] at tR hHs
 clear hhs hhn
 cases val with
 | mk k1' n1 s1 l1 =>
 rw [Ts.cells_mk] at g1
 rw [V.cells_mk] at hRt hSm
 generalize l1.map V.cells = VL at *
 replace hRt := Lib.hid hRt
 replace hSm := Lib.hid hSm
 replace hHs := Lib.hid hHs
 by_cases c1 : kind < 1 ∨ 9 < kind ∨ slot < 0 ∨ (sl.length : Int) ≤ slot
 · rw [hF (tO c1)]
   clear tO tV tB tR tN tN2 hT hF hRt hSm hHs
   by_cases d1 : kind < 1
   · repeat' (first | refine QX ?_ | (refine QB ?_; intro b) | (refine QP ?_; intro o' ho') | (with_reducible refine QZ ?_ <;> (try constructor) <;> intro hb <;> try intro hb1) | fail)
     all_goals exact Qret
   by_cases d2 : 9 < kind
   · repeat' (first | refine QX ?_ | (refine QB ?_; intro b) | (refine QP ?_; intro o' ho') | (with_reducible refine QZ ?_ <;> (try constructor) <;> intro hb <;> try intro hb1) | fail)
     all_goals exact Qret
   by_cases d3 : slot < 0
   · repeat' (first | refine QX ?_ | (refine QB ?_; intro b) | (refine QP ?_; intro o' ho') | (with_reducible refine QZ ?_ <;> (try constructor) <;> intro hb <;> try intro hb1) | fail)
     all_goals exact Qret
   have d4 : (sl.length : Int) ≤ slot := by omega
   exact WRa
 have c2 : 1 ≤ kind := by omega
 have c3 : kind ≤ 9 := by omega
 have c4 : 0 ≤ slot := by omega
 have c5 : slot < sl.length := by omega
 clear tO c1
 by_cases c6 : kind < 5
 · have hq := tV c2 c6 c4 c5
   rw [tN2 q_o] at hT
   clear tV tB tR tN tN2 hSm hHs
   by_cases d1 : var = 0
   · subst d1
     cases vr with
     | true =>
      have hT2 := hT hq
      clear hT hF hq
      repeat' (first | refine QV ?_ | ((with_reducible refine QW ?_); intro hne; simp only [nes, ne1, and_assoc] at hne; repeat (have hq := hne.1; replace hne := hne.2)) | refine QY ?_ | (refine QB ?_; intro b) | (refine QP ?_; intro o' ho') | (with_reducible refine QZ ?_ <;> (try constructor) <;> intro hb <;> try intro hb1) | refine QL Tryz.call111 (hSm.out _) ?_ | fail)
      refine ⟨k + 1, .box bP 105 [.i tmpl, .b neg, .sl .shared TS] :: .room o' 3 1 (B.map encI).length :: st, q_u, ⟨hkl, ?_, ?_, ?_, ?_, ?_, ?_, ?_, o', B, ho', by omega, Lib.hid (by rw [hG2.out]; exact hT2.out), ?_, rfl⟩, by omega⟩
      all_goals exact Qf
     | false =>
      rw [hF hq]
      clear hT hF hq
      repeat' (first | refine QV ?_ | ((with_reducible refine QW ?_); intro hne; simp only [nes, ne1, and_assoc] at hne; repeat (have hq := hne.1; replace hne := hne.2)) | refine QY ?_ | (refine QB ?_; intro b) | (refine QP ?_; intro o' ho') | (with_reducible refine QZ ?_ <;> (try constructor) <;> intro hb <;> try intro hb1) | refine QL Tryz.call111 (hSm.out _) ?_ | fail)
      all_goals exact Qret
   · have hv2 : (var == 0) = false := beq_eq_false_iff_ne.2 d1
     rw [hv2, Bool.false_and] at hq
     rw [hF hq]
     clear hT hF hq
     repeat' (first | refine QV ?_ | ((with_reducible refine QW ?_); intro hne; simp only [nes, ne1, and_assoc] at hne; repeat (have hq := hne.1; replace hne := hne.2)) | refine QY ?_ | (refine QB ?_; intro b) | (refine QP ?_; intro o' ho') | (with_reducible refine QZ ?_ <;> (try constructor) <;> intro hb <;> try intro hb1) | refine QL Tryz.call111 (hSm.out _) ?_ | fail)
     all_goals exact Qret
 by_cases d1 : var < 0
 · have hq : q = false := by
    by_cases h5 : kind = 5
    · rw [tB h5 c4 c5, decide_eq_false (show ¬ 0 ≤ var by omega)]; simp
    · rw [tR q_o c3 c4 c5, decide_eq_false (show ¬ 0 ≤ var by omega)]; simp
   rw [hF hq]
   clear tV tB tR tN tN2 hT hF hq
   repeat' (first | refine QV ?_ | ((with_reducible refine QW ?_); intro hne; simp only [nes, ne1, and_assoc] at hne; repeat (have hq := hne.1; replace hne := hne.2)) | refine QY ?_ | (refine QB ?_; intro b) | (refine QP ?_; intro o' ho') | (with_reducible refine QZ ?_ <;> (try constructor) <;> intro hb <;> try intro hb1) | refine QL Tryz.call111 (hSm.out _) ?_ | fail)
   all_goals exact Qret
 by_cases d2 : 7 < var
 · have hq : q = false := by
    by_cases h5 : kind = 5
    · rw [tB h5 c4 c5, decide_eq_false (show ¬ var < 8 by omega)]; simp
    · rw [tR q_o c3 c4 c5, decide_eq_false (show ¬ var < 8 by omega)]; simp
   rw [hF hq]
   clear tV tB tR tN tN2 hT hF hq
   repeat' (first | refine QV ?_ | ((with_reducible refine QW ?_); intro hne; simp only [nes, ne1, and_assoc] at hne; repeat (have hq := hne.1; replace hne := hne.2)) | refine QY ?_ | (refine QB ?_; intro b) | (refine QP ?_; intro o' ho') | (with_reducible refine QZ ?_ <;> (try constructor) <;> intro hb <;> try intro hb1) | refine QL Tryz.call111 (hSm.out _) ?_ | fail)
   all_goals exact Qret
 rw [decide_eq_true (show 0 ≤ var by omega), decide_eq_true (show var < 8 by omega), Bool.true_and, Bool.true_and] at tB tR
 cases vz with
 | false =>
  have hq : q = false := by
   by_cases h5 : kind = 5
   · rw [tB h5 c4 c5, Bool.false_and]
   · rw [tR q_o c3 c4 c5, Bool.false_and]
  rw [hF hq]
  clear tV tB tR tN tN2 hT hF hq
  repeat' (first | refine QV ?_ | ((with_reducible refine QW ?_); intro hne; simp only [nes, ne1, and_assoc] at hne; repeat (have hq := hne.1; replace hne := hne.2)) | refine QY ?_ | (refine QB ?_; intro b) | (refine QP ?_; intro o' ho') | (with_reducible refine QZ ?_ <;> (try constructor) <;> intro hb <;> try intro hb1) | refine QL Tryz.call111 (hSm.out _) ?_ | fail)
  all_goals exact Qret
 | true =>
 rw [Bool.true_and] at tB tR
 clear tV
 by_cases h5 : kind = 5
 · subst h5
   have hq := tB rfl c4 c5
   rw [tN rfl] at hT
   clear tB tR tN tN2
   cases hs with
   | true =>
    rw [Bool.not_true, Bool.and_false] at hq
    rw [hF hq]
    clear hT hF hq
    repeat' (first | refine QV ?_ | ((with_reducible refine QW ?_); intro hne; simp only [nes, ne1, and_assoc] at hne; repeat (have hq := hne.1; replace hne := hne.2)) | refine QY ?_ | (refine QB ?_; intro b) | (refine QP ?_; intro o' ho') | (with_reducible refine QZ ?_ <;> (try constructor) <;> intro hb <;> try intro hb1) | refine QL Tryz.call111 (hSm.out _) ?_ | fail)
    all_goals exact Qret
   | false =>
   cases neg with
   | true =>
    rw [Bool.not_true, Bool.false_and] at hq
    rw [hF hq]
    clear hT hF hq
    repeat' (first | refine QV ?_ | ((with_reducible refine QW ?_); intro hne; simp only [nes, ne1, and_assoc] at hne; repeat (have hq := hne.1; replace hne := hne.2)) | refine QY ?_ | (refine QB ?_; intro b) | (refine QP ?_; intro o' ho') | (with_reducible refine QZ ?_ <;> (try constructor) <;> intro hb <;> try intro hb1) | refine QL Tryz.call111 (hSm.out _) ?_ | fail)
    all_goals exact Qret
   | false =>
    have hT2 := hT hq
    clear hT hF hq
    repeat' (first | refine QV ?_ | ((with_reducible refine QW ?_); intro hne; simp only [nes, ne1, and_assoc] at hne; repeat (have hq := hne.1; replace hne := hne.2)) | refine QY ?_ | (refine QB ?_; intro b) | (refine QP ?_; intro o' ho') | (with_reducible refine QZ ?_ <;> (try constructor) <;> intro hb <;> try intro hb1) | refine QL Tryz.call111 (hSm.out _) ?_ | fail)
    refine ⟨k + 1, .box bP 105 [.i tmpl, .b false, .sl .shared TS] :: .room o' 3 1 ((B ++ [var]).map encI).length :: st, ?_, ⟨hkl, ?_, ?_, ?_, ?_, ?_, ?_, ?_, o', B ++ [var], ho', by rw [List.length_append]; show _ + 1 ≤ _; omega, Lib.hid (by rw [hG2.out]; exact hT2.out), ?_, rfl⟩, by omega⟩
    · rw [List.map_append]; (repeat (first | exact List.Sublist.refl _ | with_reducible apply List.Sublist.cons_cons | apply List.Sublist.cons))
    rotate_right 1
    · rw [List.map_append]; exact Qf
    all_goals exact Qf
 · have hq := tR q_o c3 c4 c5
   rw [tN2 h5] at hT
   have d5 : decide (5 < kind) = true := decide_eq_true q_o
   have b5 : (kind == 5) = false := beq_eq_false_iff_ne.2 h5
   clear tB tR tN tN2
   cases hs with
   | false =>
    rw [hF hq]
    clear hT hF hq
    repeat' (first | refine QV ?_ | ((with_reducible refine QW ?_); intro hne; simp only [nes, ne1, and_assoc] at hne; repeat (have hq := hne.1; replace hne := hne.2)) | refine QY ?_ | (refine QB ?_; intro b) | (refine QP ?_; intro o' ho') | (with_reducible refine QZ ?_ <;> (try constructor) <;> intro hb <;> try intro hb1) | refine QL Tryz.call111 (hSm.out _) ?_ | fail)
    all_goals exact Qret
   | true =>
    have hT2 := hT hq
    clear hT hF hq
    repeat' (first | refine QV ?_ | ((with_reducible refine QW ?_); intro hne; simp only [nes, ne1, and_assoc] at hne; repeat (have hq := hne.1; replace hne := hne.2)) | refine QY ?_ | (refine QB ?_; intro b) | (refine QP ?_; intro o' ho') | (with_reducible refine QZ ?_ <;> (try constructor) <;> intro hb <;> try intro hb1) | refine QL Tryz.call111 (hSm.out _) ?_ | fail)
    refine ⟨k + 1, .box bP 105 [.i tmpl, .b neg, .sl .shared TS] :: .room o' 3 1 (B.map encI).length :: st, q_u, ⟨hkl, ?_, ?_, ?_, ?_, ?_, ?_, ?_, o', B, ho', by omega, Lib.hid (by rw [hG2.out]; exact hT2.out), ?_, rfl⟩, by omega⟩
    all_goals exact Qf
end
section
open Go.RowKit B
namespace Rul
theorem testsF_bind {ns : Int} {neg : Bool} : ∀ (l : List Ts) (B : List Int), B.Nodup → (testsF ns neg l B).1 = true → (testsF ns neg l B).2 = B ++ bindT l ∧ (B ++ bindT l).Nodup
 | [], B, hB, _ => by
  unfold bindT
  rw [List.filter_nil, List.map_nil, List.append_nil]
  exact ⟨rfl, hB⟩
 | t :: l, B, hB, h => by
  rw [testsF] at h ⊢
  split at h
  · rename_i ht
    rw [if_pos ht]
    by_cases h5 : t.kind = 5
    · have e : testN B t = B ++ [t.var] := if_pos h5
      have hn : t.var ∉ B := by
       unfold testB at ht
       rw [if_neg q_o, if_pos h5] at ht
       simp only [Bool.and_eq_true, decide_eq_true_eq] at ht
       exact ht.2.2.2.2
      rw [e] at h ⊢
      have hB2 : (B ++ [t.var]).Nodup := by
       rw [List.nodup_append]
       exact ⟨hB, List.nodup_cons.2 ⟨List.not_mem_nil, List.nodup_nil⟩, fun a ha b hb e => hn (by rw [List.mem_singleton.1 hb] at e; exact e ▸ ha)⟩
      have := testsF_bind l _ hB2 h
      have e2 : bindT (t :: l) = t.var :: bindT l := by
       unfold bindT
       rw [List.filter_cons_of_pos (by rw [h5]; rfl), List.map_cons]
      rw [e2, show B ++ t.var :: bindT l = (B ++ [t.var]) ++ bindT l by rw [List.append_assoc]; rfl]
      exact this
    · have e : testN B t = B := if_neg h5
      rw [e] at h ⊢
      have e2 : bindT (t :: l) = bindT l := by
       unfold bindT
       rw [List.filter_cons_of_neg (by rw [beq_iff_eq]; exact h5)]
      rw [e2]
      exact testsF_bind l _ hB h
  · cases h
theorem patsF_bind {L : List Tm} : ∀ (l : List Pt) (B : List Int), B.Nodup → (patsF L l B).1 = true → (patsF L l B).2 = B ++ bindP l ∧ (B ++ bindP l).Nodup
 | [], B, hB, _ => by
  unfold bindP
  rw [List.flatMap_nil, List.append_nil]
  exact ⟨rfl, hB⟩
 | p :: l, B, hB, h => by
  rw [patsF] at h ⊢
  split at h
  · rename_i hp
    rw [if_pos hp]
    have hc : 0 ≤ p.tmpl ∧ p.tmpl < L.length ∧ p.tests.length ≤ 6 := by
     by_cases hc : 0 ≤ p.tmpl ∧ p.tmpl < L.length ∧ p.tests.length ≤ 6
     · exact hc
     · unfold patF at hp; rw [if_neg hc] at hp; cases hp
    have e : patF L B p = testsF (slots L p.tmpl).length p.neg p.tests B := if_pos hc
    rw [e] at hp h ⊢
    obtain ⟨k1, k2⟩ := testsF_bind p.tests B hB hp
    rw [k1] at h ⊢
    obtain ⟨m1, m2⟩ := patsF_bind l _ k2 h
    have e2 : bindP (p :: l) = bindT p.tests ++ bindP l := List.flatMap_cons
    rw [e2, ← List.append_assoc]
    exact ⟨m1, m2⟩
  · cases h
def bare (x : Rl) : Rl := ⟨x.name, -x.sal, x.pats, []⟩
end Rul
end
section
attribute [local push_cast] encB encI encC V.cells_mk V.cells_len Nat.mul_one Int.sub_zero List.map_nil beq_self_eq_true bne_self_eq_false List.head?_cons Bool.not_true Bool.not_false
set_option maxHeartbeats 16000000
namespace Rul
theorem versL_so : ∀ (l : List Stp) (n : Nat) (x : Vr), Sch.VZ n x → ∀ y ∈ Sch.versL x l, ∀ z ∈ y.slots, Sch.SOk z
 | [], _, _, _, y, hy => by cases hy
 | s :: l, n, x, h, y, hy => by
  rw [Sch.versL] at hy
  cases hs : Sch.stepV x s with
  | none => rw [hs] at hy; cases hy
  | some w =>
   rw [hs] at hy
   have hw := Sch.step_vz h hs
   rcases List.mem_cons.1 hy with rfl | hy
   · exact hw.sl
   · exact versL_so l (n + 1) w hw y hy
theorem slots_ty {L : List Tm} {k : Int} {z : Sl} (h : z ∈ slots L k) : 0 ≤ z.types ∧ z.types ≤ 9223372036854775807 := by
 have hso : Sch.SOk z := by
  unfold slots at h
  split at h
  · cases ht : L[k.toNat]? with
    | none => rw [ht] at h; cases h
    | some t =>
     rw [ht] at h
     dsimp only at h
     unfold Sch.verX Sch.ver at h
     split at h
     · cases hv : (Sch.vers t)[((Sch.last t : Int) - 1).toNat]? with
       | none => rw [hv] at h; cases h
       | some y =>
        rw [hv] at h
        have hy := List.mem_of_getElem? hv
        unfold Sch.vers at hy
        cases hf : Sch.firstV t with
        | none => rw [hf] at hy; cases hy
        | some x =>
         rw [hf] at hy
         have hx := Sch.first_vz hf
         rcases List.mem_cons.1 hy with rfl | hy
         · exact hx.sl z h
         · exact versL_so t.steps 8 x hx y hy z h
     · cases h
  · cases h
 have := hso.types
 unfold Sch.takes at this
 rw [Bool.and_eq_true, decide_eq_true_eq, decide_eq_true_eq] at this
 omega
end Rul
theorem ref17ExprF (x : Rl) (hp : x.pats.length ≤ 1000) (ht : ∀ p ∈ x.pats, p.tests.length ≤ 1000) (e : Ex) (s : Sl) (he : VQ e.val) (hs : 0 ≤ s.types ∧ s.types ≤ 9223372036854775807) (st : St) : TrF Tryz.prog 158 [.agg x.cells, .agg e.cells, .agg s.cells] st fun d st' => d = .b (Rul.exprB (Rul.bound x) e s) ∧ st' = st := by
 have hB := ref17BoundF x hp ht
 have hbl : (Rul.bound x).length ≤ 1000000 := by
  have := Rul.bindP_len 1000 x.pats ht
  have h3 : x.pats.length * 1000 ≤ 1000 * 1000 := Nat.mul_le_mul_right _ hp
  unfold Rul.bound
  omega
 have hH := ref17HasF .shared (Rul.bound x) e.var q_o
 have hV := refSameF e.val V.zero he.ok
 have hF := refFits10F s e.val he.ok he.nodes he.deep hs
 rw [zero_cells] at hV
 unfold Rul.exprB
 generalize Rul.bound x = B at *
 generalize (B.map encI) = BI at *
 unfold Rl.cells at *
 generalize x.pats.map Pt.cells = PS at *
 generalize x.acts.map Ac.cells = AS at *
 generalize x.name = nm at *
 generalize x.sal = sal at *
 cases e with
 | mk iv var val =>
 cases s with
 | mk sn sty srq sdv =>
 dsimp only at *
 generalize (val.cmp V.zero == 0) = qv at *
 generalize Sch.fits _ val = qf at *
 generalize hqb : decide (var ∈ B) = qb at *
 clear he hs hqb hp ht
 cases val with
 | mk k1 n1 s1 l1 =>
 cases sdv with
 | mk k2 n2 s2 l2 =>
 rw [Ex.cells_mk]
 rw [Sl.cells_mk] at *
 rw [V.cells_mk] at hV hF
 generalize l1.map V.cells = VL at *
 generalize l2.map V.cells = VL2 at *
 replace hV := Lib.hid hV
 replace hF := Lib.hid hF
 replace hB := Lib.hid hB
 replace hH := Lib.hid hH
 cases iv with
 | true =>
  rw [if_pos rfl]
  cases qb
  all_goals (
   refine Qin [6] Tryz.func158 Tryz.results158 Tryz.ntmps158 ?_
   repeat' (first | refine QV ?_ | ((with_reducible refine QW ?_); intro hne; simp only [nes, ne1, and_assoc] at hne; repeat (have hq := hne.1; replace hne := hne.2)) | refine QY ?_ | (refine QB ?_; intro b) | (with_reducible refine QZ ?_ <;> (try constructor) <;> intro hb <;> try intro hb1) | refine QL Tryz.call111 (hV.out _) ?_ | fail)
   all_goals exact Qret)
 | false =>
  rw [if_neg Bool.false_ne_true]
  by_cases hv : var = 0
  · rw [beq_iff_eq.2 hv, Bool.true_and]
    refine Qin [6] Tryz.func158 Tryz.results158 Tryz.ntmps158 ?_
    exact WR
  · have hv2 : (var == 0) = false := beq_eq_false_iff_ne.2 hv
    rw [hv2, Bool.false_and]
    refine Qin [6] Tryz.func158 Tryz.results158 Tryz.ntmps158 ?_
    exact WR
theorem ref17ActF (L : List Tm) (hQ : ∀ t ∈ L, TQ t) (hl : L.length ≤ 1000000) (x : Rl) (hp : x.pats.length ≤ 1000) (ht : ∀ p ∈ x.pats, p.tests.length ≤ 1000) (a : Ac) (ha : ∀ e ∈ a.vals, VQ e.val) (hvl : a.vals.length ≤ 1000000) (st : St) : TrF Tryz.prog 91 [.sl .shared (L.map Tm.cells), .agg x.cells, .agg a.cells] st fun d st' => d = .b (Rul.actB L x.pats (Rul.bound x) a) ∧ st' = st := by
 have hS := Lib.hid fun (k : Int) => ref17SlotsF L hQ hl k
 have hSl : Hid (∀ k : Int, ((Rul.slots L k).map Sl.cells).length = (Rul.slots L k).length) := Lib.hid fun k => List.length_map ..
 have hSc : Hid (∀ (k : Int) (i : Nat) (v : Sl), (Rul.slots L k)[i]? = some v → ((Rul.slots L k).map Sl.cells)[i]? = some v.cells) := fun k i v h => by rw [List.getElem?_map, h]; rfl
 have hE := Lib.hid fun (e : Ex) (he : e ∈ a.vals) (k : Int) (s : Sl) (hs : s ∈ Rul.slots L k) => ref17ExprF x hp ht e s (ha e he) (Rul.slots_ty hs)
 have hml : (L.map Tm.cells).length = L.length := List.length_map ..
 have hm1 : (a.vals.map Ex.cells).length = a.vals.length := List.length_map ..
 have hc1 := hMp Ex.cells a.vals
 have hmp : (x.pats.map Pt.cells).length = x.pats.length := List.length_map ..
 have hcp := hMp Pt.cells x.pats
 generalize Rul.bound x = B at *
 clear ha ht hQ
 unfold Rl.cells at *
 generalize x.acts.map Ac.cells = AS at *
 generalize x.name = nm at *
 generalize x.sal = sal at *
 generalize x.pats.map Pt.cells = PS at *
 generalize x.pats = ps at *
 clear x
 unfold Rul.actB
 generalize Rul.slots L = SF at *
 generalize L.map Tm.cells = LS at *
 cases a with
 | mk kind pat tmpl slot vals =>
 unfold Ac.cells
 dsimp only at *
 generalize vals.map Ex.cells = ES at *
 by_cases k1 : kind = 1
 · subst k1
   rw [if_pos rfl]
   have hS1 := hS.out tmpl
   have hS2 := hSl.out tmpl
   have hS3 := Lib.hid (hSc.out tmpl)
   have hE1 := Lib.hid fun e he s hs => hE.out e he tmpl s hs
   clear hS hSl hSc hE
   generalize SF tmpl = sl at *
   generalize sl.map Sl.cells = SS at *
   replace hS1 := Lib.hid hS1
   by_cases h3 : sl.length = 0
   · have h4 : (sl.length : Int) = 0 := by omega
     rw [decide_eq_false (fun h => h h3), Bool.false_and, Bool.false_and, Bool.and_false]
     refine Qin [6] Tryz.func91 Tryz.results91 Tryz.ntmps91 ?_
     exact WR
   have b3 : ((sl.length : Int) == 0) = false := beq_eq_false_iff_ne.2 q_o
   by_cases h4 : vals.length = sl.length
   rotate_left
   · rw [decide_eq_false h4, Bool.and_false, Bool.false_and, Bool.and_false]
     have h5 : ¬ (sl.length : Int) = (vals.length : Int) := by omega
     refine Qin [6] Tryz.func91 Tryz.results91 Tryz.ntmps91 ?_
     exact WR
   rw [decide_eq_true h3, decide_eq_true h4, Bool.true_and, Bool.true_and]
   have h5 : (vals.length : Int) = (sl.length : Int) := by omega
   by_cases h1 : pat = 0
   rotate_left
   · have b1 : (pat == 0) = false := beq_eq_false_iff_ne.2 h1
     rw [b1, Bool.false_and, Bool.false_and]
     refine Qin [6] Tryz.func91 Tryz.results91 Tryz.ntmps91 ?_
     exact WR
   subst h1
   by_cases h2 : slot = 0
   rotate_left
   · have b2 : (slot == 0) = false := beq_eq_false_iff_ne.2 h2
     rw [b2, Bool.and_false, Bool.false_and]
     refine Qin [6] Tryz.func91 Tryz.results91 Tryz.ntmps91 ?_
     exact WR
   subst h2
   rw [beq_self_eq_true, Bool.true_and, Bool.true_and]
   obtain ⟨Q, hQ⟩ : ∃ Q, Rul.exprsB B vals sl = Q := ⟨_, rfl⟩
   rw [hQ]
   have HQ : Hid (Rul.exprsB B (vals.drop 0) (sl.drop 0) = Q) := hQ
   clear hQ
   refine Qin [6] Tryz.func91 Tryz.results91 Tryz.ntmps91 ?_
   repeat' (first | refine QX ?_ | (refine QB ?_; intro b) | (with_reducible refine QZ ?_ <;> (try constructor) <;> intro hb <;> try intro hb1) | fail)
   clear hS1
   refine tr_loopd (ι := Nat) (fun i A st' => i ≤ sl.length ∧ Hid (Rul.exprsB B (vals.drop i) (sl.drop i) = Q) ∧ A.df = [] ∧ A.e 4 = .ip [.str nm, .i sal, .sl .shared PS, .sl .shared AS] ∧ A.e 5 = .ip [.i 1, .i 0, .i tmpl, .i 0, .sl .shared ES] ∧ A.e 7 = .sl .shared SS ∧ A.e 8 = .i i ∧ st = st') (fun i => sl.length - i) 0 ⟨Nat.zero_le _, HQ, Qf, Qf, Qf, Qf, Qf, rfl⟩ ?_
   clear HQ
   rintro i A st' ⟨hi, HT, hdf, e4, e5, e7, e8, rfl⟩
   by_cases hlt : i < sl.length
   · obtain ⟨e, he⟩ := gEx (l := vals) (i := i) q_o
     obtain ⟨s, hs⟩ := gEx hlt
     have g1 := hc1.out i e he
     have g2 := hS3.out i s hs
     have hF := hE1.out e (List.mem_of_getElem? he) s (List.mem_of_getElem? hs)
     have HE := HT.out
     rw [Rul.exprsB_drop he hs] at HE
     clear HT he hs hE1 hc1 hS3 hcp
     obtain ⟨G, hGG⟩ : ∃ G, Rul.exprsB B (vals.drop (i + 1)) (sl.drop (i + 1)) = G := ⟨_, rfl⟩
     rw [hGG] at HE
     replace hGG := Lib.hid hGG
     generalize Rul.exprB B e s = q at *
     cases e with
     | mk iv var val =>
     cases s with
     | mk an at_ ar av =>
     cases val with
     | mk k1 n1 s1 l1 =>
     cases av with
     | mk k2 n2 s2 l2 =>
     rw [Ex.cells_mk] at g1 hF
     rw [Sl.cells_mk] at g2 hF
     replace hF := Lib.hid hF
     have hi5 : i < vals.length := by omega
     cases q with
     | true =>
      rw [Bool.true_and] at HE
      replace HE := Lib.hid (hGG.out.trans HE)
      clear hGG
      repeat' (first | refine QV ?_ | ((with_reducible refine QW ?_); intro hne; simp only [nes, ne1, and_assoc] at hne; repeat (have hq := hne.1; replace hne := hne.2)) | refine QY ?_ | (refine QB ?_; intro b) | (with_reducible refine QZ ?_ <;> (try constructor) <;> intro hb <;> try intro hb1) | fail)
      refine ⟨i + 1, st, q_u, ⟨hlt, HE, ?_, ?_, ?_, ?_, ?_, rfl⟩, by omega⟩
      all_goals exact Qf
     | false =>
      rw [Bool.false_and] at HE
      subst HE
      clear hGG
      repeat' (first | refine QV ?_ | ((with_reducible refine QW ?_); intro hne; simp only [nes, ne1, and_assoc] at hne; repeat (have hq := hne.1; replace hne := hne.2)) | refine QY ?_ | (refine QB ?_; intro b) | (with_reducible refine QZ ?_ <;> (try constructor) <;> intro hb <;> try intro hb1) | fail)
      all_goals exact Qret
   · have HE := HT.out
     rw [List.drop_of_length_le q_o, Rul.exprsB] at HE
     · subst HE
       clear HT
       exact WR
     · intro _ _ _ _ h; cases h
 rw [if_neg k1]
 have b1 : (kind == 1) = false := beq_eq_false_iff_ne.2 k1
 by_cases k4 : kind = 4
 · subst k4
   rw [if_neg (by decide), if_neg (by decide), beq_self_eq_true, Bool.true_and]
   clear hS hSl hSc hE hc1 hcp
   by_cases h1 : tmpl = 0
   rotate_left
   · have c1 : (tmpl == 0) = false := beq_eq_false_iff_ne.2 h1
     rw [c1, Bool.false_and, Bool.and_false]
     refine Qin [6] Tryz.func91 Tryz.results91 Tryz.ntmps91 ?_
     exact WR
   subst h1
   by_cases h2 : pat = 0
   rotate_left
   · have c1 : (pat == 0) = false := beq_eq_false_iff_ne.2 h2
     rw [c1, Bool.false_and]
     refine Qin [6] Tryz.func91 Tryz.results91 Tryz.ntmps91 ?_
     exact WR
   subst h2
   by_cases h3 : slot = 0
   rotate_left
   · have c1 : (slot == 0) = false := beq_eq_false_iff_ne.2 h3
     rw [c1, Bool.false_and, Bool.and_false, Bool.and_false]
     refine Qin [6] Tryz.func91 Tryz.results91 Tryz.ntmps91 ?_
     exact WR
   subst h3
   rw [beq_self_eq_true, Bool.true_and, Bool.true_and, Bool.true_and]
   by_cases h4 : vals.length = 0
   · rw [decide_eq_true h4]
     have h5 : (vals.length : Int) = 0 := by omega
     refine Qin [6] Tryz.func91 Tryz.results91 Tryz.ntmps91 ?_
     exact WR
   · rw [decide_eq_false h4]
     have h5 : 0 < (vals.length : Int) := by omega
     refine Qin [6] Tryz.func91 Tryz.results91 Tryz.ntmps91 ?_
     exact WR
 have b4 : (kind == 4) = false := beq_eq_false_iff_ne.2 k4
 by_cases k23 : kind = 2 ∨ kind = 3
 rotate_left
 · rw [if_neg q_o, if_neg q_o, b4, Bool.false_and]
   clear hS hSl hSc hE hc1 hcp
   by_cases d1 : kind < 1
   · refine Qin [6] Tryz.func91 Tryz.results91 Tryz.ntmps91 ?_
     exact WR
   · have d2 : 4 < kind := by omega
     refine Qin [6] Tryz.func91 Tryz.results91 Tryz.ntmps91 ?_
     exact WR
 unfold Rul.posB
 by_cases h1 : tmpl = 0
 rotate_left
 · have c1 : (tmpl == 0) = false := beq_eq_false_iff_ne.2 h1
   clear hS hSl hSc hE hc1 hcp
   rw [c1, Bool.false_and, Bool.false_and, Bool.and_false, Bool.and_false, Bool.false_and]
   rcases k23 with rfl | rfl
   · rw [if_pos rfl]
     refine Qin [6] Tryz.func91 Tryz.results91 Tryz.ntmps91 ?_
     exact WR
   · rw [if_neg (by decide), if_pos rfl]
     refine Qin [6] Tryz.func91 Tryz.results91 Tryz.ntmps91 ?_
     exact WR
 subst h1
 rw [beq_self_eq_true, Bool.true_and, Bool.true_and]
 by_cases p1 : 0 ≤ pat ∧ pat < ps.length
 rotate_left
 · have e1 : (decide (0 ≤ pat) && decide (pat < ps.length)) = false := by
    rw [Bool.and_eq_false_iff, decide_eq_false_iff_not, decide_eq_false_iff_not]
    omega
   clear hS hSl hSc hE hc1 hcp
   rw [e1, Bool.false_and, Bool.false_and, Bool.false_and, Bool.false_and]
   by_cases d1 : pat < 0
   · rcases k23 with rfl | rfl
     · rw [if_pos rfl]
       refine Qin [6] Tryz.func91 Tryz.results91 Tryz.ntmps91 ?_
       exact WR
     · rw [if_neg (by decide), if_pos rfl]
       refine Qin [6] Tryz.func91 Tryz.results91 Tryz.ntmps91 ?_
       exact WR
   · have d2 : (ps.length : Int) ≤ pat := by omega
     rcases k23 with rfl | rfl
     · rw [if_pos rfl]
       refine Qin [6] Tryz.func91 Tryz.results91 Tryz.ntmps91 ?_
       exact WR
     · rw [if_neg (by decide), if_pos rfl]
       refine Qin [6] Tryz.func91 Tryz.results91 Tryz.ntmps91 ?_
       exact WR
 obtain ⟨p1, p2⟩ := p1
 rw [decide_eq_true p1, decide_eq_true p2, Bool.true_and, Bool.true_and]
 obtain ⟨n, rfl⟩ : ∃ n : Nat, (n : Int) = pat := ⟨pat.toNat, Int.toNat_of_nonneg p1⟩
 obtain ⟨p, hpn⟩ := gEx (l := ps) (i := n) q_o
 have hpc := hcp.out n p hpn
 rw [Int.toNat_natCast, hpn, Option.any_some]
 clear hpn hcp
 have hS1 := hS.out p.tmpl
 have hS2 := hSl.out p.tmpl
 have hS3 := Lib.hid (hSc.out p.tmpl)
 have hE1 := Lib.hid fun e he s hs => hE.out e he p.tmpl s hs
 clear hS hSl hSc hE
 obtain ⟨sl, hsE⟩ : ∃ sl, SF p.tmpl = sl := ⟨_, rfl⟩
 rw [hsE] at hS1 hS2 hS3 hE1
 replace hsE := Lib.hid hsE
 generalize sl.map Sl.cells = SS at *
 replace hS1 := Lib.hid hS1
 cases p with
 | mk ptm png pts =>
 unfold Pt.cells at hpc
 dsimp only at *
 generalize pts.map Ts.cells = TS at *
 cases png with
 | true =>
  clear hS1 hS3 hE1 hc1
  rw [Bool.not_true, Bool.false_and, Bool.false_and, Bool.false_and]
  rcases k23 with rfl | rfl
  · rw [if_pos rfl]
    refine Qin [6] Tryz.func91 Tryz.results91 Tryz.ntmps91 ?_
    exact WR
  · rw [if_neg (by decide), if_pos rfl]
    refine Qin [6] Tryz.func91 Tryz.results91 Tryz.ntmps91 ?_
    exact WR
 | false =>
 rw [Bool.not_false, Bool.true_and, Bool.true_and]
 rcases k23 with rfl | rfl
 · rw [if_pos rfl]
   clear hS1 hS3 hE1 hc1
   by_cases h3 : slot = 0
   rotate_left
   · have c1 : (slot == 0) = false := beq_eq_false_iff_ne.2 h3
     rw [c1, Bool.false_and]
     refine Qin [6] Tryz.func91 Tryz.results91 Tryz.ntmps91 ?_
     exact WR
   subst h3
   rw [beq_self_eq_true, Bool.true_and]
   by_cases h4 : vals.length = 0
   · rw [decide_eq_true h4]
     have h5 : (vals.length : Int) = 0 := by omega
     refine Qin [6] Tryz.func91 Tryz.results91 Tryz.ntmps91 ?_
     exact WR
   · rw [decide_eq_false h4]
     have h5 : ((vals.length : Int) == 0) = false := beq_eq_false_iff_ne.2 q_o
     refine Qin [6] Tryz.func91 Tryz.results91 Tryz.ntmps91 ?_
     exact WR
 · rw [if_neg (by decide), if_pos rfl]
   have hv1 : vals.length ≠ 1 ∨ ∃ e, vals = [e] := by
    by_cases h : vals.length = 1
    · exact .inr (List.length_eq_one_iff.1 h)
    · exact .inl h
   rcases hv1 with hv1 | ⟨e, rfl⟩
   · rw [decide_eq_false hv1, Bool.false_and]
     clear hS3 hE1 hc1
     have h5 : ((vals.length : Int) == 1) = false := beq_eq_false_iff_ne.2 q_o
     by_cases s0 : slot < 0
     · have d0 : decide (0 ≤ slot) = false := decide_eq_false q_o
       refine Qin [6] Tryz.func91 Tryz.results91 Tryz.ntmps91 ?_
       repeat' (first | refine QV ?_ | ((with_reducible refine QW ?_); intro hne; simp only [nes, ne1, and_assoc] at hne; repeat (have hq := hne.1; replace hne := hne.2)) | refine QY ?_ | (refine QB ?_; intro b) | (with_reducible refine QZ ?_ <;> (try constructor) <;> intro hb <;> try intro hb1) | fail)
       all_goals exact Qret
     have d0 : decide (0 ≤ slot) = true := decide_eq_true q_o
     by_cases s1 : slot < sl.length
     · have d1 : decide (slot < (sl.length : Int)) = true := decide_eq_true s1
       refine Qin [6] Tryz.func91 Tryz.results91 Tryz.ntmps91 ?_
       repeat' (first | refine QV ?_ | ((with_reducible refine QW ?_); intro hne; simp only [nes, ne1, and_assoc] at hne; repeat (have hq := hne.1; replace hne := hne.2)) | refine QY ?_ | (refine QB ?_; intro b) | (with_reducible refine QZ ?_ <;> (try constructor) <;> intro hb <;> try intro hb1) | fail)
       all_goals exact Qret
     · have d1 : decide (slot < (sl.length : Int)) = false := decide_eq_false s1
       refine Qin [6] Tryz.func91 Tryz.results91 Tryz.ntmps91 ?_
       repeat' (first | refine QV ?_ | ((with_reducible refine QW ?_); intro hne; simp only [nes, ne1, and_assoc] at hne; repeat (have hq := hne.1; replace hne := hne.2)) | refine QY ?_ | (refine QB ?_; intro b) | (with_reducible refine QZ ?_ <;> (try constructor) <;> intro hb <;> try intro hb1) | fail)
       all_goals exact Qret
   rw [decide_eq_true (show [e].length = 1 from rfl), Bool.true_and]
   dsimp only
   rw [hsE.out]
   by_cases s0 : slot < 0
   · rw [decide_eq_false (show ¬ 0 ≤ slot by omega), Bool.false_and]
     clear hS3 hE1 hc1
     have d0 : decide (0 ≤ slot) = false := decide_eq_false q_o
     refine Qin [6] Tryz.func91 Tryz.results91 Tryz.ntmps91 ?_
     repeat' (first | refine QV ?_ | ((with_reducible refine QW ?_); intro hne; simp only [nes, ne1, and_assoc] at hne; repeat (have hq := hne.1; replace hne := hne.2)) | refine QY ?_ | (refine QB ?_; intro b) | (with_reducible refine QZ ?_ <;> (try constructor) <;> intro hb <;> try intro hb1) | fail)
     all_goals exact Qret
   have d0 : decide (0 ≤ slot) = true := decide_eq_true q_o
   by_cases s1 : slot < sl.length
   rotate_left
   · rw [decide_eq_false s1, Bool.false_and, Bool.and_false]
     clear hS3 hE1 hc1
     have d1 : decide (slot < (sl.length : Int)) = false := decide_eq_false s1
     refine Qin [6] Tryz.func91 Tryz.results91 Tryz.ntmps91 ?_
     repeat' (first | refine QV ?_ | ((with_reducible refine QW ?_); intro hne; simp only [nes, ne1, and_assoc] at hne; repeat (have hq := hne.1; replace hne := hne.2)) | refine QY ?_ | (refine QB ?_; intro b) | (with_reducible refine QZ ?_ <;> (try constructor) <;> intro hb <;> try intro hb1) | fail)
     all_goals exact Qret
   have d1 : decide (slot < (sl.length : Int)) = true := decide_eq_true s1
   obtain ⟨m, rfl⟩ : ∃ m : Nat, (m : Int) = slot := ⟨slot.toNat, Int.toNat_of_nonneg q_o⟩
   obtain ⟨s, hs⟩ := gEx (l := sl) (i := m) q_o
   have g1 := hc1.out 0 e rfl
   have g2 := hS3.out m s hs
   have hF := hE1.out e (List.mem_singleton.2 rfl) s (List.mem_of_getElem? hs)
   rw [d0, d1, Int.toNat_natCast, hs, Bool.true_and, Bool.true_and]
   clear hS3 hE1 hc1 hs
   dsimp only
   generalize Rul.exprB B e s = q at *
   cases e with
   | mk iv var val =>
   cases s with
   | mk an at_ ar av =>
   cases val with
   | mk k1 n1 s1 l1 =>
   cases av with
   | mk k2 n2 s2 l2 =>
   rw [Ex.cells_mk] at g1 hF
   rw [Sl.cells_mk] at g2 hF
   replace hF := Lib.hid hF
   have hm3 : m < sl.length := by omega
   have hn3 : n < ps.length := by omega
   have hm5 : ES.length = 1 := hm1
   refine Qin [6] Tryz.func91 Tryz.results91 Tryz.ntmps91 ?_
   repeat' (first | refine QV ?_ | ((with_reducible refine QW ?_); intro hne; simp only [nes, ne1, and_assoc] at hne; repeat (have hq := hne.1; replace hne := hne.2)) | refine QY ?_ | (refine QB ?_; intro b) | (with_reducible refine QZ ?_ <;> (try constructor) <;> intro hb <;> try intro hb1) | fail)
   all_goals exact Qret
namespace Rul
def headR (x : Rl) : Bool := V.isName x.name.data.toList && ((decide (-100 ≤ x.sal) && decide (x.sal ≤ 100)) && decide (x.acts.length ≤ 4))
theorem oneB_ref (L : List Tm) (x : Rl) : oneB L x = (headR x && (patsB L x && x.acts.all fun a => actB L x.pats (bound x) a)) := by
 unfold oneB headB headR patsB
 by_cases h : (patsF L x.pats []).1 = true
 · have h2 := (patsF_bind (L := L) x.pats [] List.nodup_nil h).1
   rw [List.nil_append] at h2
   rw [h, h2]
   unfold bound
   generalize V.isName _ = a
   generalize (decide (-100 ≤ x.sal) && decide (x.sal ≤ 100)) = b
   generalize (decide (1 ≤ x.pats.length) && decide (x.pats.length ≤ 4)) = c
   generalize (!Option.any Pt.neg _) = d
   generalize decide (x.acts.length ≤ 4) = e
   generalize (x.acts.all fun a => actB L x.pats (bindP x.pats) a) = f
   cases a <;> cases b <;> cases c <;> cases d <;> cases e <;> cases f <;> rfl
 · rw [Bool.not_eq_true] at h
   rw [h, Bool.false_and, Bool.and_false, Bool.false_and, Bool.false_and, Bool.and_false]
theorem all_drop {α : Type} {p : α → Bool} {l : List α} {i : Nat} {x : α} (h : l[i]? = some x) : (l.drop i).all p = (p x && (l.drop (i + 1)).all p) := by
 obtain ⟨h1, rfl⟩ := List.getElem?_eq_some_iff.1 h
 rw [List.drop_eq_getElem_cons h1, List.all_cons]
theorem any_dropR {α : Type} {p : α → Bool} {l : List α} {i : Nat} {x : α} (h : l[i]? = some x) : (l.drop i).any p = (p x || (l.drop (i + 1)).any p) := by
 obtain ⟨h1, rfl⟩ := List.getElem?_eq_some_iff.1 h
 rw [List.drop_eq_getElem_cons h1, List.any_cons]
end Rul
theorem ref17RightF (L : List Tm) (hQ : ∀ t ∈ L, TQ t) (hl : L.length ≤ 1000000) (R : List Rl) (hR : ∀ x ∈ R, Rul.RK x) (hRl : R.length ≤ 1000000) (st : St) : TrF Tryz.prog 35 [.sl .shared (L.map Tm.cells), .sl .shared (R.map Rl.cells)] st fun d st' => d = .b (Rul.right L R) ∧ st' = st := by
 have hReg := ref13RightF L hQ hl
 have hP := Lib.hid fun (x : Rl) (h : x ∈ R) => ref17PatsF L hQ hl x (hR x h)
 have hA := Lib.hid fun (x : Rl) (h : x ∈ R) (a : Ac) (ha : a ∈ x.acts) => ref17ActF L hQ hl x (by have := (hR x h).np; omega) (fun p hp => by have := (hR x h).nt p hp; omega) a ((hR x h).va a ha) (by have := (hR x h).nv a ha; omega)
 have hN := Lib.hid fun (x : Rl) => refIsNameF x.name
 have hOne := Lib.hid fun (x : Rl) => Rul.oneB_ref L x
 have hal := Lib.hid fun (x : Rl) (h : x ∈ R) => (hR x h).na
 have hm : (R.map Rl.cells).length = R.length := List.length_map ..
 have hc := hMp Rl.cells R
 unfold Rul.right
 clear hR hQ
 generalize L.map Tm.cells = LS at *
 generalize R.map Rl.cells = RS at *
 cases hq : Reg.right L with
 | false =>
  rw [hq] at hReg
  rw [Bool.false_and]
  replace hReg := Lib.hid hReg
  refine Qin [4] Tryz.func35 Tryz.results35 Tryz.ntmps35 ?_
  exact WR
 | true =>
 rw [hq] at hReg
 rw [Bool.true_and]
 replace hReg := Lib.hid hReg
 by_cases h8 : 8 < (R.length : Int)
 · rw [decide_eq_false (show ¬ R.length ≤ 8 by omega), Bool.false_and]
   refine Qin [4] Tryz.func35 Tryz.results35 Tryz.ntmps35 ?_
   exact WR
 rw [decide_eq_true (show R.length ≤ 8 by omega), Bool.true_and]
 obtain ⟨Q, hQ⟩ : ∃ Q, Rul.rightL L R R 0 = Q := ⟨_, rfl⟩
 rw [hQ]
 have HQ : Hid (Rul.rightL L R (R.drop 0) 0 = Q) := hQ
 clear hQ
 refine Qin [4] Tryz.func35 Tryz.results35 Tryz.ntmps35 ?_
 repeat' (first | refine QX ?_ | (refine QB ?_; intro b) | (with_reducible refine QZ ?_ <;> (try constructor) <;> intro hb <;> try intro hb1) | fail)
 clear hReg
 refine tr_loopd (ι := Nat) (fun i A st' => i ≤ R.length ∧ Hid (Rul.rightL L R (R.drop i) i = Q) ∧ A.df = [] ∧ A.e 0 = .sl .shared LS ∧ A.e 1 = .sl .shared RS ∧ A.e 5 = .i i ∧ st = st') (fun i => R.length - i) 0 ⟨Nat.zero_le _, HQ, Qf, Qf, Qf, Qf, rfl⟩ ?_
 rintro i A st' ⟨hi, HT, hdf, e0, e1, e5, rfl⟩
 clear HQ
 by_cases hlt : ¬ i < R.length
 · have HE := HT.out
   rw [List.drop_of_length_le q_o, Rul.rightL] at HE
   subst HE
   clear HT hP hA hN hOne hal hc
   exact WR
 rw [Classical.not_not] at hlt
 obtain ⟨x, hx⟩ := gEx hlt
 have h1 := hc.out i x hx
 have hxm := List.mem_of_getElem? hx
 have hPx := hP.out x hxm
 have hAx := Lib.hid (hA.out x hxm)
 have hNx := hN.out x
 have halx := hal.out x hxm
 have HE := HT.out
 rw [Rul.rightL_drop hx, hOne.out x] at HE
 clear HT hP hA hN hOne hal hxm hx
 obtain ⟨G, hGG⟩ : ∃ G, Rul.rightL L R (R.drop (i + 1)) (i + 1) = G := ⟨_, rfl⟩
 rw [hGG] at HE
 replace hGG := Lib.hid hGG
 obtain ⟨N, hNN⟩ : ∃ N, ((R.take i).any fun y => y.name.toList == x.name.toList) = N := ⟨_, rfl⟩
 rw [hNN] at HE
 have HN : Hid (((R.take i).drop 0).any (fun y => y.name.toList == x.name.toList) = N) := hNN
 clear hNN
 unfold Rul.headR at HE
 obtain ⟨F, hFF⟩ : ∃ F, (x.acts.all fun a => Rul.actB L x.pats (Rul.bound x) a) = F := ⟨_, rfl⟩
 rw [hFF] at HE
 have HF : Hid ((x.acts.drop 0).all (fun a => Rul.actB L x.pats (Rul.bound x) a) = F) := hFF
 clear hFF
 have hma : (x.acts.map Ac.cells).length = x.acts.length := List.length_map ..
 have hca := hMp Ac.cells x.acts
 generalize Rul.patsB L x = qp at *
 obtain ⟨f, hf⟩ : ∃ f, (fun a => Rul.actB L x.pats (Rul.bound x) a) = f := ⟨_, rfl⟩
 rw [hf] at HF
 have hf2 : ∀ a, Rul.actB L x.pats (Rul.bound x) a = f a := fun a => by rw [← hf]
 replace hAx : Hid (∀ a ∈ x.acts, ∀ st, TrF Tryz.prog 91 [.sl .shared LS, .agg x.cells, .agg a.cells] st fun d st' => d = .b (f a) ∧ st' = st) := Lib.hid fun a ha st => by rw [← hf2]; exact hAx.out a ha st
 clear hf hf2
 unfold Rl.cells at h1 hPx hAx
 generalize x.pats.map Pt.cells = PS at *
 generalize x.acts.map Ac.cells = AS at *
 generalize x.acts = acts at *
 generalize x.name = nm at *
 generalize x.sal = sal at *
 clear x
 generalize V.isName nm.data.toList = qn at *
 replace hPx := Lib.hid hPx
 replace hNx := Lib.hid hNx
 have hbad : (qn = false ∨ sal < -100 ∨ 100 < sal ∨ 4 < (acts.length : Int) ∨ qp = false) → Q = false := fun h => by
  rw [← HE]
  rcases h with h | h | h | h | h
  · rw [h]; rfl
  · rw [decide_eq_false (show ¬ -100 ≤ sal by omega)]; simp
  · rw [decide_eq_false (show ¬ sal ≤ 100 by omega)]; simp
  · rw [decide_eq_false (show ¬ acts.length ≤ 4 by omega)]; simp
  · rw [h]; simp
 cases qn with
 | false =>
  obtain rfl := hbad (.inl rfl)
  clear hbad HE HN HF hAx hca hGG hc
  exact WR
 | true =>
 by_cases s1 : sal < -100
 · obtain rfl := hbad (.inr (.inl s1))
   clear hbad HE HN HF hAx hca hGG hc
   exact WR
 by_cases s2 : 100 < sal
 · obtain rfl := hbad (.inr (.inr (.inl s2)))
   clear hbad HE HN HF hAx hca hGG hc
   exact WR
 by_cases s3 : 4 < (acts.length : Int)
 · obtain rfl := hbad (.inr (.inr (.inr (.inl s3))))
   clear hbad HE HN HF hAx hca hGG hc
   exact WR
 cases qp with
 | false =>
  obtain rfl := hbad (.inr (.inr (.inr (.inr rfl))))
  clear hbad HE HN HF hAx hca hGG hc
  exact WR
 | true =>
 clear hbad
 rw [decide_eq_true (show -100 ≤ sal by omega), decide_eq_true (show sal ≤ 100 by omega), decide_eq_true (show acts.length ≤ 4 by omega), Bool.true_and, Bool.true_and, Bool.true_and, Bool.true_and, Bool.true_and] at HE
 replace HE := Lib.hid HE
 repeat' (first | refine QX ?_ | (refine QB ?_; intro b) | (with_reducible refine QZ ?_ <;> (try constructor) <;> intro hb <;> try intro hb1) | fail)
 clear hNx hPx
 refine tr_loopd (ι := Nat) (fun k A st' => k ≤ acts.length ∧ Hid ((acts.drop k).all f = F) ∧ A.df = [] ∧ A.e 0 = .sl .shared LS ∧ A.e 1 = .sl .shared RS ∧ A.e 5 = .i i ∧ A.e 6 = .ptr b 0 ∧ A.e 7 = .i k ∧ st' = .box b 55 [.str nm, .i sal, .sl .shared PS, .sl .shared AS] :: st) (fun k => acts.length - k) 0 ⟨Nat.zero_le _, HF, Qf, Qf, Qf, Qf, Qf, Qf, rfl⟩ ?_
 clear HF e0 e1 e5 hdf A
 rintro k A st' ⟨hk, HF, hdf, e0, e1, e5, e6, e7, rfl⟩
 by_cases hkl : k < acts.length
 · obtain ⟨a, ha⟩ := gEx hkl
   have g1 := hca.out k a ha
   have hF := hAx.out a (List.mem_of_getElem? ha)
   have HG := HF.out
   rw [Rul.all_drop ha] at HG
   clear HF ha hca hAx hc HN hGG
   obtain ⟨F2, hF2⟩ : ∃ F2, (acts.drop (k + 1)).all f = F2 := ⟨_, rfl⟩
   rw [hF2] at HG
   replace hF2 := Lib.hid hF2
   generalize f a = qa at *
   unfold Ac.cells at g1 hF
   generalize a.vals.map Ex.cells = ES at *
   generalize a.kind = ak at *
   generalize a.pat = ap at *
   generalize a.tmpl = at_ at *
   generalize a.slot = as_ at *
   replace hF := Lib.hid hF
   cases qa with
   | false =>
    rw [Bool.false_and] at HG
    subst HG
    have : Q = false := by rw [← HE.out]; rfl
    subst this
    clear HE hF2
    repeat' (first | refine QV ?_ | ((with_reducible refine QW ?_); intro hne; simp only [nes, ne1, and_assoc] at hne; repeat (have hq := hne.1; replace hne := hne.2)) | refine QY ?_ | (refine QB ?_; intro b) | (with_reducible refine QZ ?_ <;> (try constructor) <;> intro hb <;> try intro hb1) | fail)
    all_goals exact Qret
   | true =>
    rw [Bool.true_and] at HG
    replace HG := Lib.hid (hF2.out.trans HG)
    clear hF2 HE
    repeat' (first | refine QV ?_ | ((with_reducible refine QW ?_); intro hne; simp only [nes, ne1, and_assoc] at hne; repeat (have hq := hne.1; replace hne := hne.2)) | refine QY ?_ | (refine QB ?_; intro b) | (with_reducible refine QZ ?_ <;> (try constructor) <;> intro hb <;> try intro hb1) | fail)
    refine ⟨k + 1, .box b 55 [.str nm, .i sal, .sl .shared PS, .sl .shared AS] :: st, q_u, ⟨hkl, HG, ?_, ?_, ?_, ?_, ?_, ?_, rfl⟩, by omega⟩
    all_goals exact Qf
 obtain rfl : k = acts.length := by omega
 have HG := HF.out
 rw [List.drop_length, List.all_nil] at HG
 subst HG
 clear HF hAx hca
 have HE2 := HE.out
 rw [Bool.true_and] at HE2
 replace HE2 := Lib.hid HE2
 clear HE
 repeat' (first | refine QX ?_ | (refine QB ?_; intro b) | (with_reducible refine QZ ?_ <;> (try constructor) <;> intro hb <;> try intro hb1) | fail)
 refine tr_loopd (ι := Nat) (fun m A st' => m ≤ i ∧ Hid (((R.take i).drop m).any (fun y => y.name.toList == nm.toList) = N) ∧ A.df = [] ∧ A.e 0 = .sl .shared LS ∧ A.e 1 = .sl .shared RS ∧ A.e 5 = .i i ∧ A.e 6 = .ptr b 0 ∧ A.e 8 = .i m ∧ st' = .box b 55 [.str nm, .i sal, .sl .shared PS, .sl .shared AS] :: st) (fun m => i - m) 0 ⟨Nat.zero_le _, HN, Qf, Qf, Qf, Qf, Qf, Qf, rfl⟩ ?_
 clear HN e0 e1 e5 e6 e7 hdf A
 rintro m A st' ⟨hm2, HN, hdf, e0, e1, e5, e6, e8, rfl⟩
 by_cases hml : m < i
 · obtain ⟨y, hy⟩ := gEx (l := R) (i := m) q_o
   have g1 := hc.out m y hy
   have HG := HN.out
   rw [Rul.any_dropR (show (R.take i)[m]? = some y by rw [List.getElem?_take, if_pos hml, hy])] at HG
   clear HN hy hc
   obtain ⟨N2, hN2⟩ : ∃ N2, (((R.take i).drop (m + 1)).any (fun y => y.name.toList == nm.toList)) = N2 := ⟨_, rfl⟩
   rw [hN2] at HG
   replace hN2 := Lib.hid hN2
   unfold Rl.cells at g1
   generalize y.pats.map Pt.cells = PS2 at *
   generalize y.acts.map Ac.cells = AS2 at *
   generalize y.name = nm2 at *
   generalize y.sal = sal2 at *
   cases hqy : (nm2.toList == nm.toList) with
   | true =>
    rw [hqy, Bool.true_or] at HG
    subst HG
    have : Q = false := by rw [← HE2.out]; rfl
    subst this
    clear HE2 hN2 hGG
    repeat' (first | refine QV ?_ | ((with_reducible refine QW ?_); intro hne; simp only [nes, ne1, and_assoc] at hne; repeat (have hq := hne.1; replace hne := hne.2)) | refine QY ?_ | (refine QB ?_; intro b) | (with_reducible refine QZ ?_ <;> (try constructor) <;> intro hb <;> try intro hb1) | fail | fail)
    all_goals exact Qret
   | false =>
    rw [hqy, Bool.false_or] at HG
    replace HG := Lib.hid (hN2.out.trans HG)
    clear HE2 hN2 hGG
    repeat' (first | refine QV ?_ | ((with_reducible refine QW ?_); intro hne; simp only [nes, ne1, and_assoc] at hne; repeat (have hq := hne.1; replace hne := hne.2)) | refine QY ?_ | (refine QB ?_; intro b) | (with_reducible refine QZ ?_ <;> (try constructor) <;> intro hb <;> try intro hb1) | fail | fail)
    refine ⟨m + 1, .box b 55 [.str nm, .i sal, .sl .shared PS, .sl .shared AS] :: st, q_u, ⟨hml, HG, ?_, ?_, ?_, ?_, ?_, ?_, rfl⟩, by omega⟩
    all_goals exact Qf
 obtain rfl : m = i := by omega
 have HG := HN.out
 rw [List.drop_of_length_le (by rw [List.length_take]; omega), List.any_nil] at HG
 subst HG
 have HF2 : Hid (Rul.rightL L R (R.drop (m + 1)) (m + 1) = Q) := Lib.hid (by rw [hGG.out, ← HE2.out]; rfl)
 clear HN HE2 hGG hc
 repeat' (first | refine QX ?_ | (refine QB ?_; intro b) | (with_reducible refine QZ ?_ <;> (try constructor) <;> intro hb <;> try intro hb1) | fail)
 refine ⟨m + 1, st, q_u, ⟨hlt, HF2, ?_, ?_, ?_, ?_, rfl⟩, by omega⟩
 all_goals exact Qf
end
section
attribute [local push_cast] encB encI TS.cells TS.fail V.cells_mk V.cells_len Nat.mul_one Int.sub_zero List.map_nil beq_self_eq_true bne_self_eq_false List.head?_cons
open Go.RowKit B
set_option maxHeartbeats 64000000
theorem ref17ReadF (TL : List Tm) (hTL : ∀ t ∈ TL, TQ t) (hTl : TL.length ≤ 1000000) (rb : Nat) (t : TS) (ht : t.Ok) (hQ : (Reg.tlist Rul.rlT 9 t).2.bad = false → ∀ x ∈ (Reg.tlist Rul.rlT 9 t).1, Rul.RK x) (st : St) : TrF Tryz.prog 46 [.ptr rb 0, .sl .shared (TL.map Tm.cells)] (rfR rb t :: st) fun x st' => x = .tup [.sl .shared (((Rul.readT TL t).1.getD []).map Rl.cells), .b (Rul.readT TL t).1.isSome] ∧ st' = rfR rb (Rul.readT TL t).2 :: st := by
 have o0 := (Reg.stk_rnum t ht).1
 obtain ⟨m, hm9, hlim, hE⟩ := Reg.rd_start Rul.rlT 9 q_o t
 have hR : (Reg.tlist Rul.rlT 9 t).2.bad = false → ∀ st, TrF Tryz.prog 35 [.sl .shared (TL.map Tm.cells), .sl .shared ((Reg.tlist Rul.rlT 9 t).1.map Rl.cells)] st fun d st' => d = .b (Rul.right TL (Reg.tlist Rul.rlT 9 t).1) ∧ st' = st := fun hb => ref17RightF TL hTL hTl _ (hQ hb) (by
  have h : ∀ (n : Nat) (t : TS), (Reg.rdT Rul.rlT n t).1.length ≤ n := fun n => by
   induction n with
   | zero => intro t; exact Nat.le_refl _
   | succ n ih =>
    intro t
    rw [Reg.rdT]
    split
    · exact Nat.zero_le _
    · have := ih (Rul.rlT t).2
      rw [List.length_cons]; omega
  rw [← hE.out.1, List.nil_append]
  exact Nat.le_trans (h _ _) q_o)
 unfold Rul.readT
 have hN0 := rfNumF rb t ht
 generalize Reg.tlist Rul.rlT 9 t = res at *
 clear hQ
 generalize t.rnum = q at *
 obtain ⟨n, t0⟩ := q
 dsimp only at *
 generalize TL.map Tm.cells = TC at *
 replace hN0 := Lib.hid hN0
 replace hlim := Lib.hid hlim
 have hNum := Lib.hid fun t h => rfNumF rb t h
 have hTex := Lib.hid fun t h => rfTextF rb t h
 have hLon := Lib.hid fun t h => rfLongF rb t h
 have hByt := Lib.hid fun t h => rfByteF rb t h
 have hVal := Lib.hid fun t h => rfValG rb t h
 have hFla := Lib.hid fun t h => ref17FlagF rb t h
 refine Qin [4,5] Tryz.func46 Tryz.results46 Tryz.ntmps46 ?_
 refine tr_room 55 4 (([] : List Rl).map Rl.cells).length ?_
 repeat' (first | refine QV ?_ | (refine tr_cutF 3 (fun A' st' => A'.df = [] ∧ A'.e 0 = .ptr rb 0 ∧ A'.e 1 = .sl .shared TC ∧ ∃ o', A'.e 6 = .sl o' (res.1.map Rl.cells) ∧ st' = .room o' 55 4 (res.1.map Rl.cells).length :: rfR rb res.2 :: st) ?_ ?_) | refine QY ?_ | (refine QB ?_; intro b) | (refine QP ?_; intro o' ho') | (with_reducible refine QZ ?_ <;> (try constructor) <;> intro hb <;> try intro hb1) | fail)
 rotate_left
 · clear hNum hTex hLon hByt hVal hFla hN0 hE hlim
   rintro A st' ⟨hdf, e0, e1, o', e6, rfl⟩
   obtain ⟨L, o2, l2, a2, b2⟩ := res
   dsimp only at *
   cases b2 with
   | true =>
    rw [if_pos (.inl rfl)]
    clear hR
    dsimp only [Option.getD, Option.isSome]
    generalize L.map Rl.cells = LS at *
    exact WRa
   | false =>
    replace hR := hR rfl
    generalize Rul.right TL L = qr at *
    cases qr with
    | false =>
     rw [if_pos (.inr rfl)]
     dsimp only [Option.getD, Option.isSome]
     generalize L.map Rl.cells = LS at *
     replace hR := Lib.hid hR
     repeat' (first | refine QX ?_ | (refine QB ?_; intro b) | (refine QP ?_; intro o' ho') | (with_reducible refine QZ ?_ <;> (try constructor) <;> intro hb <;> try intro hb1) | refine QL Tryz.call35 (hR.out _) ?_ | fail)
     all_goals exact Qret
    | true =>
     rw [if_neg (by rintro (h | h) <;> cases h)]
     dsimp only [Option.getD, Option.isSome]
     generalize L.map Rl.cells = LS at *
     replace hR := Lib.hid hR
     repeat' (first | refine QX ?_ | (refine QB ?_; intro b) | (refine QP ?_; intro o' ho') | (with_reducible refine QZ ?_ <;> (try constructor) <;> intro hb <;> try intro hb1) | refine QL Tryz.call35 (hR.out _) ?_ | fail)
     all_goals exact Qret
 clear hN0 hR
 refine tr_loopd (ι := Nat) (fun i A st' => i ≤ m ∧ A.df = [] ∧ A.e 0 = .ptr rb 0 ∧ A.e 1 = .sl .shared TC ∧ A.e 7 = .i n ∧ A.e 8 = .i i ∧ ∃ oL L t, oL ≠ .shared ∧ TS.Ok t ∧ L.length ≤ i ∧ Hid (L ++ (Reg.rdT Rul.rlT (m - i) t).1 = res.1 ∧ (Reg.rdT Rul.rlT (m - i) t).2 = res.2) ∧ A.e 6 = .sl oL (L.map Rl.cells) ∧ st' = .room oL 55 4 (L.map Rl.cells).length :: rfR rb t :: st) (fun i => m - i) 0 ⟨Nat.zero_le _, Qf, Qf, Qf, Qf, Qf, .tight, [], t0, by decide, o0, Nat.zero_le _, hE, Qf, rfl⟩ ?_
 clear hE o0
 obtain ⟨res1, res2⟩ := res
 dsimp only at *
 rintro i A st' ⟨hi, hdf, e0, e1, e7, e8, oL, L, t, hoL, hok, hLi, hE, e6, rfl⟩
 have hLc : (L.map Rl.cells).length = L.length := List.length_map ..
 have hL4 : ∀ a ∈ L.map Rl.cells, a.length = 4 := fun a ha => by
  obtain ⟨x, -, rfl⟩ := List.mem_map.1 ha
  rfl
 by_cases hout : i < m ∧ t.bad = false
 case neg =>
  obtain ⟨h1, h2, h4⟩ := Reg.rd_out hE hlim hi hout
  clear hE hout hlim hNum hTex hLon hByt hVal hFla
  subst h1 h2
  obtain ⟨o2, l2, a2, b2⟩ := res2
  dsimp only at h4
  generalize res1.map Rl.cells = LS at *
  rcases h4 with (h4 | ⟨h4, h5⟩) | ⟨h4, h5, rfl⟩
  all_goals (
   repeat' (first | refine QX ?_ | (refine QB ?_; intro b) | (refine QP ?_; intro o' ho') | (with_reducible refine QZ ?_ <;> (try constructor) <;> intro hb <;> try intro hb1) | fail)
   all_goals exact ⟨Qf, Qf, Qf, _, Qf, rfl⟩)
 case pos =>
 obtain ⟨hlt_i, hbad⟩ := hout
 obtain ⟨hin_i, hik_i⟩ := (hlim.out i).1 hlt_i
 have hE' := Reg.rd_in hE hlt_i hbad
 clear hE
 have k1 := Lib.hid (hTex.out t hok)
 have s1 := (Reg.stk_text t hok).1
 have k2 := Lib.hid (hLon.out _ s1)
 have s2 := (Reg.stk_of sim_long Rul.long_bad _ s1).1
 have k3 := Lib.hid (hNum.out _ s2)
 have s3 := (Reg.stk_rnum _ s2).1
 have s4 := (Reg.stk_tlist Rul.simG_pt.stk 5 _ s2).1
 have k4 := Lib.hid (Lib.hid (hNum.out _ s4))
 have s5 := (Reg.stk_rnum _ s4).1
 have s6 := (Reg.stk_tlist Rul.simG_ac.stk 5 _ s4).1
 obtain ⟨m2, hm2, hlim2, hE2⟩ := Reg.rd_start Rul.ptT 5 q_o t.text.2.long.2
 obtain ⟨m4, hm4, hlim4, hE4⟩ := Reg.rd_start Rul.acT 5 q_o (Reg.tlist Rul.ptT 5 t.text.2.long.2).2
 unfold Rul.rlT at hE'
 generalize Reg.tlist Rul.acT 5 (Reg.tlist Rul.ptT 5 t.text.2.long.2).2 = z4 at *
 generalize Reg.tlist Rul.ptT 5 t.text.2.long.2 = z3 at *
 generalize t.text = z1 at *
 obtain ⟨nm, t1⟩ := z1
 dsimp only at *
 generalize t1.long = z2 at *
 obtain ⟨sal, t2⟩ := z2
 obtain ⟨PP, t3⟩ := z3
 obtain ⟨AA, t4⟩ := z4
 dsimp only at *
 generalize t2.rnum = w1 at *
 obtain ⟨n2, t2'⟩ := w1
 generalize t3.rnum = w2 at *
 obtain ⟨n4, t3'⟩ := w2
 dsimp only at *
 replace hlim2 := Lib.hid hlim2
 replace hlim4 := Lib.hid hlim4
 clear hlim hm9
 obtain ⟨o4, l4, a4, b4⟩ := t
 dsimp only at hbad
 subst hbad
 clear hok s1 s2
 refine tr_room 105 3 (([] : List Pt).map Pt.cells).length ?_
 refine tr_room 110 5 (([] : List Ac).map Ac.cells).length ?_
 repeat' (first | refine QV ?_ | (refine tr_cutF 10 (fun A' st' => A'.df = [] ∧ A'.e 0 = .ptr rb 0 ∧ A'.e 1 = .sl .shared TC ∧ A'.e 6 = .sl oL (L.map Rl.cells) ∧ A'.e 7 = .i n ∧ A'.e 8 = .i i ∧ ∃ bx oP, oP ≠ .shared ∧ A'.e 9 = .ptr bx 0 ∧ st' = .box bx 55 [.str nm, .i sal, .sl oP (PP.map Pt.cells), .sl .tight (([] : List Ac).map Ac.cells)] :: .room .tight 110 5 (([] : List Ac).map Ac.cells).length :: .room oP 105 3 (PP.map Pt.cells).length :: .room oL 55 4 (L.map Rl.cells).length :: rfR rb t3 :: st) ?_ ?_) | refine QY ?_ | (refine QB ?_; intro b) | (refine QP ?_; intro o' ho') | (with_reducible refine QZ ?_ <;> (try constructor) <;> intro hb <;> try intro hb1) | fail)
 · revert b
   intro bx
   refine tr_loopd (ι := Nat) (fun k A st' => k ≤ m2 ∧ A.df = [] ∧ A.e 0 = .ptr rb 0 ∧ A.e 1 = .sl .shared TC ∧ A.e 6 = .sl oL (L.map Rl.cells) ∧ A.e 7 = .i n ∧ A.e 8 = .i i ∧ A.e 9 = .ptr bx 0 ∧ A.e 10 = .i n2 ∧ A.e 11 = .i k ∧ ∃ oP P t, oP ≠ .shared ∧ TS.Ok t ∧ P.length ≤ k ∧ Hid (P ++ (Reg.rdT Rul.ptT (m2 - k) t).1 = PP ∧ (Reg.rdT Rul.ptT (m2 - k) t).2 = t3) ∧ st' = .box bx 55 [.str nm, .i sal, .sl oP (P.map Pt.cells), .sl .tight (([] : List Ac).map Ac.cells)] :: .room .tight 110 5 (([] : List Ac).map Ac.cells).length :: .room oP 105 3 (P.map Pt.cells).length :: .room oL 55 4 (L.map Rl.cells).length :: rfR rb t :: st) (fun k => m2 - k) 0 ⟨Nat.zero_le _, Qf, Qf, Qf, Qf, Qf, Qf, Qf, Qf, Qf, .tight, [], t2', by decide, s3, Nat.zero_le _, hE2, rfl⟩ ?_
   clear hE2 hE4 k1 k2 k3 k4 hE' hlim4 hTex hLon hdf e0 e1 e6 e7 e8 A s3 s4 s5 s6
   rintro k A st' ⟨hk, hdf, e0, e1, e6, e7, e8, e9, e10, e11, oP, P, t, hoP, hok, hPk, hE, rfl⟩
   have hPc : (P.map Pt.cells).length = P.length := List.length_map ..
   have hP3 : ∀ a ∈ P.map Pt.cells, a.length = 3 := fun a ha => by
    obtain ⟨x, -, rfl⟩ := List.mem_map.1 ha
    rfl
   by_cases hout : k < m2 ∧ t.bad = false
   case neg =>
    obtain ⟨h1, h2, h4⟩ := Reg.rd_out hE hlim2 hk hout
    clear hE hout hlim2 hNum hByt hVal hFla
    subst h1 h2
    obtain ⟨o2, l2, a2, b2⟩ := t3
    dsimp only at h4
    generalize PP.map Pt.cells = PC at *
    rcases h4 with (h4 | ⟨h4, h5⟩) | ⟨h4, h5, rfl⟩
    all_goals (
     repeat' (first | refine QX ?_ | (refine QB ?_; intro b) | (refine QP ?_; intro o' ho') | (with_reducible refine QZ ?_ <;> (try constructor) <;> intro hb <;> try intro hb1) | fail)
     all_goals exact ⟨Qf, Qf, Qf, Qf, Qf, Qf, _, _, hoP, Qf, rfl⟩)
   case pos =>
   obtain ⟨hlt_k, hbad⟩ := hout
   obtain ⟨hin_k, hik_k⟩ := (hlim2.out k).1 hlt_k
   have hE' := Reg.rd_in hE hlt_k hbad
   clear hE
   have k1 := Lib.hid (hByt.out t hok)
   have s1 := (Reg.stk_byte t hok).1
   have k2 := Lib.hid (hFla.out _ s1)
   have s2 := (Rul.simG_flag.stk _ s1).1
   have k3 := Lib.hid (hNum.out _ s2)
   have s3 := (Reg.stk_rnum _ s2).1
   have s4 := (Reg.stk_tlist Rul.simG_ts.stk 7 _ s2).1
   obtain ⟨m3, hm3, hlim3, hE3⟩ := Reg.rd_start Rul.tsT 7 q_o (Rul.flagT t.byte.2).2
   unfold Rul.ptT at hE'
   generalize Reg.tlist Rul.tsT 7 (Rul.flagT t.byte.2).2 = z3 at *
   generalize t.byte = z1 at *
   obtain ⟨tm, u1⟩ := z1
   dsimp only at *
   generalize Rul.flagT u1 = z2 at *
   obtain ⟨ng, u2⟩ := z2
   obtain ⟨TT, u3⟩ := z3
   dsimp only at *
   generalize u2.rnum = w1 at *
   obtain ⟨q3, u2'⟩ := w1
   dsimp only at *
   replace hlim3 := Lib.hid hlim3
   clear hlim2 hm2
   obtain ⟨o4, l4, a4, b4⟩ := t
   dsimp only at hbad
   subst hbad
   clear hok s1 s2
   refine tr_room 102 7 (([] : List Ts).map Ts.cells).length ?_
   repeat' (first | refine QV ?_ | (refine tr_cutF 17 (fun A' st' => A'.df = [] ∧ A'.e 0 = .ptr rb 0 ∧ A'.e 1 = .sl .shared TC ∧ A'.e 6 = .sl oL (L.map Rl.cells) ∧ A'.e 7 = .i n ∧ A'.e 8 = .i i ∧ A'.e 9 = .ptr bx 0 ∧ A'.e 10 = .i n2 ∧ A'.e 11 = .i k ∧ ∃ bp oT, oT ≠ .shared ∧ A'.e 12 = .ptr bp 0 ∧ st' = .box bp 105 [.i tm, .b ng, .sl oT (TT.map Ts.cells)] :: .room oT 102 7 (TT.map Ts.cells).length :: .box bx 55 [.str nm, .i sal, .sl oP (P.map Pt.cells), .sl .tight (([] : List Ac).map Ac.cells)] :: .room .tight 110 5 (([] : List Ac).map Ac.cells).length :: .room oP 105 3 (P.map Pt.cells).length :: .room oL 55 4 (L.map Rl.cells).length :: rfR rb u3 :: st) ?_ ?_) | refine QY ?_ | (refine QB ?_; intro b) | (refine QP ?_; intro o' ho') | (with_reducible refine QZ ?_ <;> (try constructor) <;> intro hb <;> try intro hb1) | fail)
   · revert b
     intro bp
     refine tr_loopd (ι := Nat) (fun j A st' => j ≤ m3 ∧ A.df = [] ∧ A.e 0 = .ptr rb 0 ∧ A.e 1 = .sl .shared TC ∧ A.e 6 = .sl oL (L.map Rl.cells) ∧ A.e 7 = .i n ∧ A.e 8 = .i i ∧ A.e 9 = .ptr bx 0 ∧ A.e 10 = .i n2 ∧ A.e 11 = .i k ∧ A.e 12 = .ptr bp 0 ∧ A.e 13 = .i q3 ∧ A.e 14 = .i j ∧ ∃ oT S t, oT ≠ .shared ∧ TS.Ok t ∧ S.length ≤ j ∧ Hid (S ++ (Reg.rdT Rul.tsT (m3 - j) t).1 = TT ∧ (Reg.rdT Rul.tsT (m3 - j) t).2 = u3) ∧ st' = .box bp 105 [.i tm, .b ng, .sl oT (S.map Ts.cells)] :: .room oT 102 7 (S.map Ts.cells).length :: .box bx 55 [.str nm, .i sal, .sl oP (P.map Pt.cells), .sl .tight (([] : List Ac).map Ac.cells)] :: .room .tight 110 5 (([] : List Ac).map Ac.cells).length :: .room oP 105 3 (P.map Pt.cells).length :: .room oL 55 4 (L.map Rl.cells).length :: rfR rb t :: st) (fun j => m3 - j) 0 ⟨Nat.zero_le _, Qf, Qf, Qf, Qf, Qf, Qf, Qf, Qf, Qf, Qf, Qf, Qf, .tight, [], u2', by decide, s3, Nat.zero_le _, hE3, rfl⟩ ?_
     clear hE3 k1 k2 k3 hE' hdf e0 e1 e6 e7 e8 e9 e10 e11 A s3 s4 hNum hFla
     rintro j A st' ⟨hj, hdf, e0, e1, e6, e7, e8, e9, e10, e11, e12, e13, e14, oT, S, t, hoT, hok, hSj, hE, rfl⟩
     have hSc : (S.map Ts.cells).length = S.length := List.length_map ..
     have hS7 : ∀ a ∈ S.map Ts.cells, a.length = 7 := fun a ha => by
      obtain ⟨x, -, rfl⟩ := List.mem_map.1 ha
      exact Ts.cells_len x
     by_cases hout : j < m3 ∧ t.bad = false
     case neg =>
      obtain ⟨h1, h2, h4⟩ := Reg.rd_out hE hlim3 hj hout
      clear hE hout hlim3 hByt hVal
      subst h1 h2
      obtain ⟨o2, l2, a2, b2⟩ := u3
      dsimp only at h4
      generalize TT.map Ts.cells = SC at *
      rcases h4 with (h4 | ⟨h4, h5⟩) | ⟨h4, h5, rfl⟩
      all_goals (
       repeat' (first | refine QX ?_ | (refine QB ?_; intro b) | (refine QP ?_; intro o' ho') | (with_reducible refine QZ ?_ <;> (try constructor) <;> intro hb <;> try intro hb1) | fail)
       all_goals exact ⟨Qf, Qf, Qf, Qf, Qf, Qf, Qf, Qf, Qf, _, _, hoT, Qf, rfl⟩)
     case pos =>
     obtain ⟨hlt_j, hbad⟩ := hout
     obtain ⟨hin_j, hik_j⟩ := (hlim3.out j).1 hlt_j
     have hE' := Reg.rd_in hE hlt_j hbad
     clear hE
     have k1 := Lib.hid (hByt.out t hok)
     have s1 := (Reg.stk_byte t hok).1
     have k2 := Lib.hid (hByt.out _ s1)
     have s2 := (Reg.stk_byte _ s1).1
     have k3 := Lib.hid (hByt.out _ s2)
     have s3 := (Reg.stk_byte _ s2).1
     have k4 := hVal.out _ s3
     have s4 := (Reg.stk_val _ s3).1
     unfold Rul.tsT at hE'
     generalize t.byte = z1 at *
     obtain ⟨tk, v1⟩ := z1
     dsimp only at *
     generalize v1.byte = z2 at *
     obtain ⟨tl, v2⟩ := z2
     dsimp only at *
     generalize v2.byte = z3 at *
     obtain ⟨tv, v3⟩ := z3
     dsimp only at *
     generalize v3.val = z4 at *
     obtain ⟨⟨kk, nn, sv, lv⟩, v4⟩ := z4
     dsimp only at *
     have hcx : (S ++ [Ts.mk tk tl tv (.mk kk nn sv lv)]).map Ts.cells = S.map Ts.cells ++ [[.i tk, .i tl, .i tv, .i kk, .i nn, .str sv, .sl .shared (lv.map V.cells)]] := by
      rw [List.map_append, List.map_cons, List.map_nil, Ts.cells_mk]
     rw [V.cells_mk] at k4
     generalize lv.map V.cells = VL at *
     replace k4 := Lib.hid k4
     clear hlim3 hm3 hok s1 s2 s3 hByt hVal
     obtain ⟨o4, l4, a4, b4⟩ := t
     dsimp only at hbad
     subst hbad
     repeat' (first | refine QX ?_ | (refine QB ?_; intro b) | (refine QP ?_; intro o' ho') | (with_reducible refine QZ ?_ <;> (try constructor) <;> intro hb <;> try intro hb1) | refine QR Tryz.call84 k1.out ?_ | refine QR Tryz.call84 k2.out ?_ | refine QR Tryz.call84 k3.out ?_ | refine QR Tryz.call131 k4.out ?_ | fail)
     refine ⟨j + 1, .box bp 105 [.i tm, .b ng, .sl o' ((S ++ [Ts.mk tk tl tv (.mk kk nn sv lv)]).map Ts.cells)] :: .room o' 102 7 ((S ++ [Ts.mk tk tl tv (.mk kk nn sv lv)]).map Ts.cells).length :: .box bx 55 [.str nm, .i sal, .sl oP (P.map Pt.cells), .sl .tight (([] : List Ac).map Ac.cells)] :: .room .tight 110 5 (([] : List Ac).map Ac.cells).length :: .room oP 105 3 (P.map Pt.cells).length :: .room oL 55 4 (L.map Rl.cells).length :: rfR rb v4 :: st, ?_, ⟨hlt_j, ?_, ?_, ?_, ?_, ?_, ?_, ?_, ?_, ?_, ?_, ?_, ?_, o', _, v4, by assumption, s4, by rw [List.length_append]; show _ + 1 ≤ _; omega, hE', rfl⟩, by omega⟩
     · rw [hcx]; (repeat (first | exact List.Sublist.refl _ | with_reducible apply List.Sublist.cons_cons | apply List.Sublist.cons))
     all_goals exact Qf
   clear hE3 k1 k2 k3 hlim3 hm3 hdf e0 e1 e6 e7 e8 e9 e10 e11 A s3 hNum hFla hByt hVal
   rintro A st' ⟨hdf, e0, e1, e6, e7, e8, e9, e10, e11, bp, oT, hoT, e12, rfl⟩
   have hcx : (P ++ [Pt.mk tm ng TT]).map Pt.cells = P.map Pt.cells ++ [[.i tm, .b ng, .sl .shared (TT.map Ts.cells)]] := by rw [List.map_append]; rfl
   generalize TT.map Ts.cells = SC at *
   repeat' (first | refine QX ?_ | (refine QB ?_; intro b) | (refine QP ?_; intro o' ho') | (with_reducible refine QZ ?_ <;> (try constructor) <;> intro hb <;> try intro hb1) | fail)
   refine ⟨k + 1, .box bx 55 [.str nm, .i sal, .sl o' ((P ++ [Pt.mk tm ng TT]).map Pt.cells), .sl .tight (([] : List Ac).map Ac.cells)] :: .room .tight 110 5 (([] : List Ac).map Ac.cells).length :: .room o' 105 3 ((P ++ [Pt.mk tm ng TT]).map Pt.cells).length :: .room oL 55 4 (L.map Rl.cells).length :: rfR rb u3 :: st, ?_, ⟨hlt_k, ?_, ?_, ?_, ?_, ?_, ?_, ?_, ?_, ?_, o', _, u3, by assumption, s4, by rw [List.length_append]; show _ + 1 ≤ _; omega, hE', rfl⟩, by omega⟩
   · rw [hcx]; (repeat (first | exact List.Sublist.refl _ | with_reducible apply List.Sublist.cons_cons | apply List.Sublist.cons))
   all_goals exact Qf
 clear hE2 s3 k1 k2 k3 hlim2 hm2 hdf e0 e1 e6 e7 e8 A hTex hLon
 rintro A st' ⟨hdf, e0, e1, e6, e7, e8, bx, oP, hoP, e9, rfl⟩
 replace k4 := k4.out
 generalize hPC : PP.map Pt.cells = PC at *
 repeat' (first | refine QV ?_ | (refine tr_cutF 28 (fun A' st' => A'.df = [] ∧ A'.e 0 = .ptr rb 0 ∧ A'.e 1 = .sl .shared TC ∧ A'.e 6 = .sl oL (L.map Rl.cells) ∧ A'.e 7 = .i n ∧ A'.e 8 = .i i ∧ A'.e 9 = .ptr bx 0 ∧ ∃ oA, oA ≠ .shared ∧ st' = .box bx 55 [.str nm, .i sal, .sl oP (PC), .sl oA (AA.map Ac.cells)] :: .room oA 110 5 (AA.map Ac.cells).length :: .room oP 105 3 (PC).length :: .room oL 55 4 (L.map Rl.cells).length :: rfR rb t4 :: st) ?_ ?_) | refine QY ?_ | (refine QB ?_; intro b) | (refine QP ?_; intro o' ho') | (with_reducible refine QZ ?_ <;> (try constructor) <;> intro hb <;> try intro hb1) | fail)
 rotate_left
 · clear hE4 s5 k4 hlim4 hm4 hdf e0 e1 e6 e7 e8 e9 A hNum hByt hVal hFla
   rintro A st' ⟨hdf, e0, e1, e6, e7, e8, e9, oA, hoA, rfl⟩
   have hcx : (L ++ [Rl.mk nm sal PP AA]).map Rl.cells = L.map Rl.cells ++ [[.str nm, .i sal, .sl .shared PC, .sl .shared (AA.map Ac.cells)]] := by rw [List.map_append, ← hPC]; rfl
   clear hPC
   generalize AA.map Ac.cells = AC at *
   repeat' (first | refine QX ?_ | (refine QB ?_; intro b) | (refine QP ?_; intro o' ho') | (with_reducible refine QZ ?_ <;> (try constructor) <;> intro hb <;> try intro hb1) | fail)
   refine ⟨i + 1, .room o' 55 4 ((L ++ [Rl.mk nm sal PP AA]).map Rl.cells).length :: rfR rb t4 :: st, ?_, ⟨hlt_i, ?_, ?_, ?_, ?_, ?_, o', _, t4, by assumption, s6, by rw [List.length_append]; show _ + 1 ≤ _; omega, hE', ?_, rfl⟩, by omega⟩
   · rw [hcx]; (repeat (first | exact List.Sublist.refl _ | with_reducible apply List.Sublist.cons_cons | apply List.Sublist.cons))
   rotate_right 1
   · rw [hcx]; exact Qf
   all_goals exact Qf
 clear hPC
 refine tr_loopd (ι := Nat) (fun k A st' => k ≤ m4 ∧ A.df = [] ∧ A.e 0 = .ptr rb 0 ∧ A.e 1 = .sl .shared TC ∧ A.e 6 = .sl oL (L.map Rl.cells) ∧ A.e 7 = .i n ∧ A.e 8 = .i i ∧ A.e 9 = .ptr bx 0 ∧ A.e 10 = .i n4 ∧ A.e 16 = .i k ∧ ∃ oA C t, oA ≠ .shared ∧ TS.Ok t ∧ C.length ≤ k ∧ Hid (C ++ (Reg.rdT Rul.acT (m4 - k) t).1 = AA ∧ (Reg.rdT Rul.acT (m4 - k) t).2 = t4) ∧ st' = .box bx 55 [.str nm, .i sal, .sl oP (PC), .sl oA (C.map Ac.cells)] :: .room oA 110 5 (C.map Ac.cells).length :: .room oP 105 3 (PC).length :: .room oL 55 4 (L.map Rl.cells).length :: rfR rb t :: st) (fun k => m4 - k) 0 ⟨Nat.zero_le _, Qf, Qf, Qf, Qf, Qf, Qf, Qf, Qf, Qf, .tight, [], t3', by decide, s5, Nat.zero_le _, hE4, rfl⟩ ?_
 clear hE4 k4 hE' hdf e0 e1 e6 e7 e8 e9 A s4 s5 s6
 rintro k A st' ⟨hk, hdf, e0, e1, e6, e7, e8, e9, e10, e16, oA, C, t, hoA, hok, hCk, hE, rfl⟩
 have hCc : (C.map Ac.cells).length = C.length := List.length_map ..
 have hC5 : ∀ a ∈ C.map Ac.cells, a.length = 5 := fun a ha => by
  obtain ⟨x, -, rfl⟩ := List.mem_map.1 ha
  rfl
 by_cases hout : k < m4 ∧ t.bad = false
 case neg =>
  obtain ⟨h1, h2, h4⟩ := Reg.rd_out hE hlim4 hk hout
  clear hE hout hlim4 hNum hByt hVal hFla
  subst h1 h2
  obtain ⟨o2, l2, a2, b2⟩ := t4
  dsimp only at h4
  generalize AA.map Ac.cells = AC at *
  rcases h4 with (h4 | ⟨h4, h5⟩) | ⟨h4, h5, rfl⟩
  all_goals (
   repeat' (first | refine QX ?_ | (refine QB ?_; intro b) | (refine QP ?_; intro o' ho') | (with_reducible refine QZ ?_ <;> (try constructor) <;> intro hb <;> try intro hb1) | fail)
   all_goals exact ⟨Qf, Qf, Qf, Qf, Qf, Qf, Qf, _, hoA, rfl⟩)
 case pos =>
 obtain ⟨hlt_k, hbad⟩ := hout
 obtain ⟨hin_k, hik_k⟩ := (hlim4.out k).1 hlt_k
 have hE' := Reg.rd_in hE hlt_k hbad
 clear hE
 have k1 := Lib.hid (hByt.out t hok)
 have s1 := (Reg.stk_byte t hok).1
 have k2 := Lib.hid (hByt.out _ s1)
 have s2 := (Reg.stk_byte _ s1).1
 have k3 := Lib.hid (hByt.out _ s2)
 have s3 := (Reg.stk_byte _ s2).1
 have k4 := Lib.hid (hByt.out _ s3)
 have s4 := (Reg.stk_byte _ s3).1
 have k5 := Lib.hid (hNum.out _ s4)
 have s5 := (Reg.stk_rnum _ s4).1
 have s6 := (Reg.stk_tlist Rul.simG_ex.stk 17 _ s4).1
 obtain ⟨m5, hm5, hlim5, hE5⟩ := Reg.rd_start Rul.exT 17 q_o t.byte.2.byte.2.byte.2.byte.2
 unfold Rul.acT at hE'
 generalize Reg.tlist Rul.exT 17 t.byte.2.byte.2.byte.2.byte.2 = z5 at *
 generalize t.byte = z1 at *
 obtain ⟨ak, u1⟩ := z1
 dsimp only at *
 generalize u1.byte = z2 at *
 obtain ⟨ap, u2⟩ := z2
 dsimp only at *
 generalize u2.byte = z3 at *
 obtain ⟨am, u3⟩ := z3
 dsimp only at *
 generalize u3.byte = z4 at *
 obtain ⟨asl, u4⟩ := z4
 obtain ⟨EE, u5⟩ := z5
 dsimp only at *
 generalize u4.rnum = w1 at *
 obtain ⟨q5, u4'⟩ := w1
 dsimp only at *
 replace hlim5 := Lib.hid hlim5
 clear hlim4 hm4
 obtain ⟨o4, l4, a4, b4⟩ := t
 dsimp only at hbad
 subst hbad
 clear hok s1 s2 s3 s4
 refine tr_room 107 6 (([] : List Ex).map Ex.cells).length ?_
 repeat' (first | refine QV ?_ | (refine tr_cutF 37 (fun A' st' => A'.df = [] ∧ A'.e 0 = .ptr rb 0 ∧ A'.e 1 = .sl .shared TC ∧ A'.e 6 = .sl oL (L.map Rl.cells) ∧ A'.e 7 = .i n ∧ A'.e 8 = .i i ∧ A'.e 9 = .ptr bx 0 ∧ A'.e 10 = .i n4 ∧ A'.e 16 = .i k ∧ ∃ ba oE, oE ≠ .shared ∧ A'.e 17 = .ptr ba 0 ∧ st' = .box ba 110 [.i ak, .i ap, .i am, .i asl, .sl oE (EE.map Ex.cells)] :: .room oE 107 6 (EE.map Ex.cells).length :: .box bx 55 [.str nm, .i sal, .sl oP (PC), .sl oA (C.map Ac.cells)] :: .room oA 110 5 (C.map Ac.cells).length :: .room oP 105 3 (PC).length :: .room oL 55 4 (L.map Rl.cells).length :: rfR rb u5 :: st) ?_ ?_) | refine QY ?_ | (refine QB ?_; intro b) | (refine QP ?_; intro o' ho') | (with_reducible refine QZ ?_ <;> (try constructor) <;> intro hb <;> try intro hb1) | refine QR Tryz.call84 k1.out ?_ | refine QR Tryz.call84 k2.out ?_ | refine QR Tryz.call84 k3.out ?_ | refine QR Tryz.call84 k4.out ?_ | refine QR Tryz.call81 k5.out ?_ | fail)
 rotate_left
 · clear hE5 k1 k2 k3 k4 k5 hlim5 hm5 hdf e0 e1 e6 e7 e8 e9 e10 e16 A s5 hNum hFla hByt hVal
   rintro A st' ⟨hdf, e0, e1, e6, e7, e8, e9, e10, e16, ba, oE, hoE, e17, rfl⟩
   have hcx : (C ++ [Ac.mk ak ap am asl EE]).map Ac.cells = C.map Ac.cells ++ [[.i ak, .i ap, .i am, .i asl, .sl .shared (EE.map Ex.cells)]] := by rw [List.map_append]; rfl
   generalize EE.map Ex.cells = XC at *
   repeat' (first | refine QX ?_ | (refine QB ?_; intro b) | (refine QP ?_; intro o' ho') | (with_reducible refine QZ ?_ <;> (try constructor) <;> intro hb <;> try intro hb1) | fail)
   refine ⟨k + 1, .box bx 55 [.str nm, .i sal, .sl oP (PC), .sl o' ((C ++ [Ac.mk ak ap am asl EE]).map Ac.cells)] :: .room o' 110 5 ((C ++ [Ac.mk ak ap am asl EE]).map Ac.cells).length :: .room oP 105 3 (PC).length :: .room oL 55 4 (L.map Rl.cells).length :: rfR rb u5 :: st, ?_, ⟨hlt_k, ?_, ?_, ?_, ?_, ?_, ?_, ?_, ?_, ?_, o', _, u5, by assumption, s6, by rw [List.length_append]; show _ + 1 ≤ _; omega, hE', rfl⟩, by omega⟩
   · rw [hcx]; (repeat (first | exact List.Sublist.refl _ | with_reducible apply List.Sublist.cons_cons | apply List.Sublist.cons))
   all_goals exact Qf
 revert b
 intro ba
 refine tr_loopd (ι := Nat) (fun j A st' => j ≤ m5 ∧ A.df = [] ∧ A.e 0 = .ptr rb 0 ∧ A.e 1 = .sl .shared TC ∧ A.e 6 = .sl oL (L.map Rl.cells) ∧ A.e 7 = .i n ∧ A.e 8 = .i i ∧ A.e 9 = .ptr bx 0 ∧ A.e 10 = .i n4 ∧ A.e 16 = .i k ∧ A.e 17 = .ptr ba 0 ∧ A.e 18 = .i q5 ∧ A.e 19 = .i j ∧ ∃ oE X t, oE ≠ .shared ∧ TS.Ok t ∧ X.length ≤ j ∧ Hid (X ++ (Reg.rdT Rul.exT (m5 - j) t).1 = EE ∧ (Reg.rdT Rul.exT (m5 - j) t).2 = u5) ∧ st' = .box ba 110 [.i ak, .i ap, .i am, .i asl, .sl oE (X.map Ex.cells)] :: .room oE 107 6 (X.map Ex.cells).length :: .box bx 55 [.str nm, .i sal, .sl oP (PC), .sl oA (C.map Ac.cells)] :: .room oA 110 5 (C.map Ac.cells).length :: .room oP 105 3 (PC).length :: .room oL 55 4 (L.map Rl.cells).length :: rfR rb t :: st) (fun j => m5 - j) 0 ⟨Nat.zero_le _, Qf, Qf, Qf, Qf, Qf, Qf, Qf, Qf, Qf, Qf, Qf, Qf, .tight, [], u4', by decide, s5, Nat.zero_le _, hE5, rfl⟩ ?_
 clear hE5 k1 k2 k3 k4 k5 hE' hdf e0 e1 e6 e7 e8 e9 e10 e16 A s5 s6 hNum
 rintro j A st' ⟨hj, hdf, e0, e1, e6, e7, e8, e9, e10, e16, e17, e18, e19, oE, X, t, hoE, hok, hXj, hE, rfl⟩
 have hXc : (X.map Ex.cells).length = X.length := List.length_map ..
 have hX6 : ∀ a ∈ X.map Ex.cells, a.length = 6 := fun a ha => by
  obtain ⟨x, -, rfl⟩ := List.mem_map.1 ha
  exact Ex.cells_len x
 by_cases hout : j < m5 ∧ t.bad = false
 case neg =>
  obtain ⟨h1, h2, h4⟩ := Reg.rd_out hE hlim5 hj hout
  clear hE hout hlim5 hByt hVal hFla
  subst h1 h2
  obtain ⟨o2, l2, a2, b2⟩ := u5
  dsimp only at h4
  generalize EE.map Ex.cells = XC at *
  rcases h4 with (h4 | ⟨h4, h5⟩) | ⟨h4, h5, rfl⟩
  all_goals (
   repeat' (first | refine QX ?_ | (refine QB ?_; intro b) | (refine QP ?_; intro o' ho') | (with_reducible refine QZ ?_ <;> (try constructor) <;> intro hb <;> try intro hb1) | fail)
   all_goals exact ⟨Qf, Qf, Qf, Qf, Qf, Qf, Qf, Qf, Qf, _, _, hoE, Qf, rfl⟩)
 case pos =>
 obtain ⟨hlt_j, hbad⟩ := hout
 obtain ⟨hin_j, hik_j⟩ := (hlim5.out j).1 hlt_j
 have hE' := Reg.rd_in hE hlt_j hbad
 clear hE
 have k1 := Lib.hid (hFla.out t hok)
 have s1 := (Rul.simG_flag.stk t hok).1
 have k2 := Lib.hid (hByt.out _ s1)
 have s2 := (Reg.stk_byte _ s1).1
 have k4 := hVal.out _ s2
 have s4 := (Reg.stk_val _ s2).1
 unfold Rul.exT at hE'
 generalize Rul.flagT t = z1 at *
 obtain ⟨iv, v1⟩ := z1
 dsimp only at *
 generalize v1.byte = z2 at *
 obtain ⟨ev, v2⟩ := z2
 dsimp only at *
 generalize v2.val = z4 at *
 obtain ⟨⟨kk, nn, sv, lv⟩, v4⟩ := z4
 dsimp only at *
 have hcx : (X ++ [Ex.mk iv ev (.mk kk nn sv lv)]).map Ex.cells = X.map Ex.cells ++ [[.b iv, .i ev, .i kk, .i nn, .str sv, .sl .shared (lv.map V.cells)]] := by
  rw [List.map_append, List.map_cons, List.map_nil, Ex.cells_mk]
 rw [V.cells_mk] at k4
 generalize lv.map V.cells = VL at *
 replace k4 := Lib.hid k4
 clear hlim5 hm5 hok s1 s2 hByt hVal hFla
 obtain ⟨o4, l4, a4, b4⟩ := t
 dsimp only at hbad
 subst hbad
 repeat' (first | refine QX ?_ | (refine QB ?_; intro b) | (refine QP ?_; intro o' ho') | (with_reducible refine QZ ?_ <;> (try constructor) <;> intro hb <;> try intro hb1) | fail)
 refine ⟨j + 1, .box ba 110 [.i ak, .i ap, .i am, .i asl, .sl o' ((X ++ [Ex.mk iv ev (.mk kk nn sv lv)]).map Ex.cells)] :: .room o' 107 6 ((X ++ [Ex.mk iv ev (.mk kk nn sv lv)]).map Ex.cells).length :: .box bx 55 [.str nm, .i sal, .sl oP (PC), .sl oA (C.map Ac.cells)] :: .room oA 110 5 (C.map Ac.cells).length :: .room oP 105 3 (PC).length :: .room oL 55 4 (L.map Rl.cells).length :: rfR rb v4 :: st, ?_, ⟨hlt_j, ?_, ?_, ?_, ?_, ?_, ?_, ?_, ?_, ?_, ?_, ?_, ?_, o', _, v4, by assumption, s4, by rw [List.length_append]; show _ + 1 ≤ _; omega, hE', rfl⟩, by omega⟩
 · rw [hcx]; (repeat (first | exact List.Sublist.refl _ | with_reducible apply List.Sublist.cons_cons | apply List.Sublist.cons))
 all_goals exact Qf
end
end Go.Proofs.YtgcienlfpnpbgaaGreat
