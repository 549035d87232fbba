/- Texts put together: RegT, RegQ, RegR. No statement is proved here. -/
import Derived.Test.YtgcienlfpnpbgaaGreatZ6
set_option linter.all false
section
namespace Go.Proofs.YtgcienlfpnpbgaaGreat
set_option linter.unusedSimpArgs false
attribute [local push_cast] encB encI encC encBs V.cells_mk V.cells_len Nat.mul_one Int.sub_zero List.map_nil beq_self_eq_true bne_self_eq_false List.head?_cons
open Go.RowKit B
set_option maxRecDepth 10000
set_option maxHeartbeats 16000000
theorem refNumN (n : Nat) (h : n ≤ 1000000) (st : St) : TrF Tryz.prog 60 [.i n] st fun d st' => d = .sl .tight ((be 4 n).map encB) ∧ st' = st := by
  have := refNumF n st
  rwa [if_pos (by omega), Int.toNat_natCast] at this
namespace Reg
def upTo {α : Type} (f : α → List UInt8) (X : List UInt8) (l : List α) (i : Nat) : List UInt8 := X ++ ((l.take i).map f).flatten
theorem upTo_zero {α : Type} (f : α → List UInt8) (X : List UInt8) (l : List α) : upTo f X l 0 = X := by unfold upTo; simp
theorem upTo_succ {α : Type} (f : α → List UInt8) (X : List UInt8) {l : List α} {i : Nat} {a : α} (h : l[i]? = some a) : upTo f X l (i + 1) = upTo f X l i ++ f a := by
  unfold upTo
  rw [List.take_add_one, h, Option.toList_some, List.map_append, List.flatten_append, List.append_assoc]
  congr 2
  show [f a].flatten = _
  rw [List.flatten_cons, List.flatten_nil, List.append_nil]
theorem upTo_all {α : Type} (f : α → List UInt8) (X : List UInt8) (l : List α) : upTo f (X ++ be 4 l.length) l l.length = X ++ listB f l := by
  unfold upTo listB
  rw [List.take_length, List.append_assoc]
theorem upTo_len {α : Type} (f : α → List UInt8) (X : List UInt8) (c k : Nat) (l : List α) (hf : ∀ a ∈ l, (f a).length ≤ k) (hX : X.length ≤ c) (i : Nat) (hi : i ≤ l.length) : (upTo f X l i).length ≤ c + i * k := by
  induction i with
  | zero => rw [upTo_zero]; omega
  | succ i ih =>
    obtain ⟨a, ha⟩ : ∃ a, l[i]? = some a := ⟨_, List.getElem?_eq_getElem (by omega)⟩
    have h1 := ih (by omega)
    have h2 := hf a (List.mem_of_getElem? ha)
    rw [upTo_succ f X ha, List.length_append, Nat.add_mul]
    omega
theorem stepB_1 {s : Sl} : stepB ⟨1, 0, s, []⟩ = [b8 1] ++ slotB s := by
  unfold stepB stepA
  dsimp only
  rw [byteB_b8 (by decide)]
  simp
theorem stepB_2 {c : Int} (h : 0 ≤ c ∧ c ≤ 255) : stepB ⟨2, c, slot0, []⟩ = [b8 2] ++ [b8 c] := by
  unfold stepB stepA
  dsimp only
  rw [byteB_b8 h, byteB_b8 (by decide)]
  simp
theorem stepB_3 {c : Int} {s : Sl} (h : 0 ≤ c ∧ c ≤ 255) : stepB ⟨3, c, s, []⟩ = [b8 3] ++ [b8 c] ++ tx s.name.data.toList := by
  unfold stepB stepA
  dsimp only
  rw [byteB_b8 h, byteB_b8 (by decide)]
  simp
theorem stepB_4 {c : Int} {s : Sl} (h : 0 ≤ c ∧ c ≤ 255) (k : 0 ≤ s.types ∧ s.types ≤ 255) : stepB ⟨4, c, s, []⟩ = [b8 4] ++ [b8 c] ++ [b8 s.types] := by
  unfold stepB stepA
  dsimp only
  rw [byteB_b8 h, byteB_b8 (by decide), byteB_b8 k]
  simp
theorem stepB_5 {o : List Int} : stepB ⟨5, 0, slot0, o⟩ = upTo (fun k => [b8 k]) ([b8 5] ++ be 4 o.length) o o.length := by
  unfold stepB stepA upTo
  dsimp only
  rw [byteB_b8 (by decide), List.take_length]
  have hm : ∀ l : List Int, (l.map fun k => [b8 k]).flatten = l.map b8 := fun l => by
    induction l with
    | nil => rfl
    | cons a l ih => rw [List.map_cons, List.map_cons, List.flatten_cons, ih]; rfl
  rw [hm]
  simp
theorem upTo_app {α : Type} (f : α → List UInt8) (X Y : List UInt8) (l : List α) (i : Nat) : upTo f (X ++ Y) l i = X ++ upTo f Y l i := by unfold upTo; rw [List.append_assoc]
end Reg
theorem ref13PutT (L : List Tm) (hG : ∀ t ∈ L, Reg.TmG t ∧ Reg.TmP t) (hl : L.length ≤ 6) (hR : ∀ st, TrF Tryz.prog 17 [.sl .shared (L.map Tm.cells)] st fun d st' => d = .b true ∧ st' = st) (st : St) : TrF Tryz.prog 20 [.sl .shared (L.map Tm.cells)] st fun d st' => d = .sl .shared ((Reg.listB Reg.tmB L).map encB) ∧ st' = st := by
  have hN0 := refNumN L.length (by omega)
  have hm : (L.map Tm.cells).length = L.length := List.length_map ..
  have hc : Hid (∀ (i : Nat) (t : Tm), L[i]? = some t → (L.map Tm.cells)[i]? = some t.cells) := fun i t h => by rw [List.getElem?_map, h]; rfl
  obtain ⟨BF, hBF⟩ : ∃ BF : Nat → List UInt8, Reg.upTo Reg.tmB (be 4 L.length) L = BF := ⟨_, rfl⟩
  have hB0 : Hid (be 4 L.length = BF 0) := Lib.hid (by rw [← hBF, Reg.upTo_zero])
  have hBn : Hid (Reg.listB Reg.tmB L = BF L.length) := Lib.hid (by rw [← hBF]; exact (Reg.upTo_all Reg.tmB [] L).symm)
  have hBs : Hid (∀ (i : Nat) (t : Tm), L[i]? = some t → BF (i + 1) = BF i ++ Reg.tmB t) := fun i t h => by rw [← hBF]; exact Reg.upTo_succ _ _ h
  have hBl : Hid (∀ (i : Nat), i ≤ L.length → (BF i).length ≤ 4 + i * 350000) := fun i hi => by
    rw [← hBF]; exact Reg.upTo_len _ _ 4 _ _ (fun a ha => Reg.tmB_len a (hG a ha).2) (by rw [be_len]; exact Nat.le_refl _) i hi
  rw [hBn.out]
  rw [hB0.out] at hN0
  have hG2 := Lib.hid hG
  clear hG hBF hBn
  generalize L.map Tm.cells = LS at *
  replace hN0 := Lib.hid hN0
  replace hR := Lib.hid hR
  refine Qin [2] Tryz.func20 Tryz.results20 Tryz.ntmps20 ?_
  refine tr_room 5 1 ((BF 0).map encB).length ?_
  repeat' (first | (with_reducible first | refine Q1 ?_ | refine Qe ?_ | refine Ql ?_ | refine Q2 ?_ | refine Qs ?_ | refine Q4 ?_ | (refine al_go ?_; intro b) | fail) | refine Qc Tryz.call17 (hR.out _) ?_ | refine Qc Tryz.call60 (hN0.out _) ?_ | (with_reducible first | (refine Qa ?_; intro o' ho') | (refine Qp ?_; intro o' ho') | refine Q5 ?_ | (refine Q3a ?_; intro hb; try intro hb1) | (refine Q3b ?_; intro hb; try intro hb1) | (refine Q3 ?_ ?_ <;> intro hb <;> try intro hb1) | fail) | fail)
  clear hN0 hR hB0
  refine tr_loopd (ι := Nat) (fun i A st' => i ≤ L.length ∧ A.df = [] ∧ A.e 0 = .sl .shared LS ∧ A.e 4 = .i i ∧ ∃ o', o' ≠ .shared ∧ A.e 3 = .sl o' ((BF i).map encB) ∧ st' = .room o' 5 1 ((BF i).map encB).length :: st) (fun i => L.length - i) 0 ⟨Nat.zero_le _, Qf, Qf, Qf, .tight, by decide, Qf, rfl⟩ ?_
  rintro i A st' ⟨hi, hdf, e0, e4, o', ho', e3, rfl⟩
  by_cases hlt : i < L.length
  · obtain ⟨t, ht⟩ : ∃ t, L[i]? = some t := ⟨_, List.getElem?_eq_getElem hlt⟩
    have h1 := hc.out i t ht
    obtain ⟨tg, tp⟩ := hG2.out t (List.mem_of_getElem? ht)
    have hB := hBs.out i t ht
    have hBx := hBl.out i (by omega)
    have hT := refTextF t.name (by have := tg.nm; omega)
    have hN1 := refNumN t.slots.length (by have := tg.ls; omega)
    have hN2 := refNumN t.steps.length (by have := tg.lt; omega)
    have htl : (tx t.name.data.toList).length ≤ 304 := by
      unfold tx
      have : t.name.data.toList.length = t.name.size := by simp
      have := tg.nm
      rw [List.length_append, be_len]
      omega
    have hbe1 : (be 4 t.slots.length).length = 4 := be_len ..
    have hbe2 : (be 4 t.steps.length).length = 4 := be_len ..
    have hB2 : BF (i + 1) = Reg.upTo Reg.stepB ((Reg.upTo Reg.slotB ((BF i ++ tx t.name.data.toList) ++ be 4 t.slots.length) t.slots t.slots.length) ++ be 4 t.steps.length) t.steps t.steps.length := by
      rw [hB, Reg.upTo_all, Reg.upTo_all]
      unfold Reg.tmB Reg.tmP
      simp
    have hss := tg.os
    have hst := tg.ot
    have hsp := tp.os
    have htp := tp.ot
    have hls := tg.ls
    have hlt2 := tg.lt
    clear tg tp ht hB hBl hBs hG2
    cases t with
    | mk nm SLs TLs =>
    unfold Tm.cells at h1
    dsimp only at *
    generalize tx nm.data.toList = T at *
    have hk1 : (SLs.map Sl.cells).length = SLs.length := List.length_map ..
    have hk2 : (TLs.map Stp.cells).length = TLs.length := List.length_map ..
    have hd1 : Hid (∀ (i : Nat) (v : Sl), SLs[i]? = some v → (SLs.map Sl.cells)[i]? = some v.cells) := fun i v h => by rw [List.getElem?_map, h]; rfl
    have hd2 : Hid (∀ (i : Nat) (v : Stp), TLs[i]? = some v → (TLs.map Stp.cells)[i]? = some v.cells) := fun i v h => by rw [List.getElem?_map, h]; rfl
    generalize SLs.map Sl.cells = S1 at *
    generalize TLs.map Stp.cells = T1 at *
    generalize be 4 SLs.length = n1 at *
    generalize be 4 TLs.length = n2 at *
    generalize BF i = X0 at *
    have hX1 : ((X0 ++ T) ++ n1).length ≤ 6000000 := by
      have : i * 350000 ≤ 6 * 350000 := Nat.mul_le_mul_right _ (by omega)
      rw [List.length_append, List.length_append]
      omega
    have hT2 := Lib.hid hT
    have hNa := Lib.hid hN1
    have hNb := Lib.hid hN2
    clear hT hN1 hN2
    have hX0 : X0.length ≤ 3000000 := by
      have : i * 350000 ≤ 6 * 350000 := Nat.mul_le_mul_right _ (by omega)
      omega
    clear hBx
    obtain ⟨X1, hX1e⟩ : ∃ X, (X0 ++ T) ++ n1 = X := ⟨_, rfl⟩
    rw [hX1e] at hB2 hX1
    obtain ⟨SF, hSF⟩ : ∃ SF : Nat → List UInt8, Reg.upTo Reg.slotB X1 SLs = SF := ⟨_, rfl⟩
    have hS0 : Hid (X1 = SF 0) := Lib.hid (by rw [← hSF, Reg.upTo_zero])
    have hSs : Hid (∀ (k : Nat) (s : Sl), SLs[k]? = some s → SF (k + 1) = SF k ++ Reg.slotB s) := fun k s h => by rw [← hSF]; exact Reg.upTo_succ _ _ h
    have hSl : Hid (∀ (k : Nat), k ≤ SLs.length → (SF k).length ≤ 6000000 + k * 21000) := fun k hk => by
      rw [← hSF]; exact Reg.upTo_len _ _ _ _ _ (fun a ha => Reg.slotB_len a (hsp a ha).1) hX1 k hk
    rw [hSF] at hB2
    obtain ⟨X2, hX2e⟩ : ∃ X, SF SLs.length ++ n2 = X := ⟨_, rfl⟩
    rw [hX2e] at hB2
    have hX2 : X2.length ≤ 7000000 := by
      have h1 := hSl.out SLs.length (Nat.le_refl _)
      have : SLs.length * 21000 ≤ 8 * 21000 := Nat.mul_le_mul_right _ hls
      rw [← hX2e, List.length_append]
      omega
    obtain ⟨PF, hPF⟩ : ∃ PF : Nat → List UInt8, Reg.upTo Reg.stepB X2 TLs = PF := ⟨_, rfl⟩
    have hP0 : Hid (X2 = PF 0) := Lib.hid (by rw [← hPF, Reg.upTo_zero])
    have hPs : Hid (∀ (k : Nat) (s : Stp), TLs[k]? = some s → PF (k + 1) = PF k ++ Reg.stepB s) := fun k s h => by rw [← hPF]; exact Reg.upTo_succ _ _ h
    have hPl : Hid (∀ (k : Nat), k ≤ TLs.length → (PF k).length ≤ 7000000 + k * 22000) := fun k hk => by
      rw [← hPF]; exact Reg.upTo_len _ _ _ _ _ (fun a ha => Reg.stepB_len a (htp a ha)) hX2 k hk
    rw [hPF] at hB2
    replace hB2 := Lib.hid hB2
    clear hSF hPF hX2 hX1
    have hss2 := Lib.hid hss
    have hst2 := Lib.hid hst
    clear hss hst hsp htp
    replace hX1e := Lib.hid hX1e
    replace hX2e := Lib.hid hX2e
    repeat' (first | (with_reducible first | refine Q1 ?_ | refine Qe ?_ | refine Ql ?_ | refine Q2 ?_ | refine Qs ?_ | refine Q4 ?_ | (refine al_go ?_; intro b) | fail) | refine Qc Tryz.call61 (hT2.out _) ?_ | refine Qc Tryz.call60 (hNa.out _) ?_ | (with_reducible first | (refine Qa ?_; intro o' ho') | (refine Qp ?_; intro o' ho') | refine Q5 ?_ | (refine Q3a ?_; intro hb; try intro hb1) | (refine Q3b ?_; intro hb; try intro hb1) | (refine Q3 ?_ ?_ <;> intro hb <;> try intro hb1) | fail) | fail)
    clear hT2 hNa
    refine tr_loopd (ι := Nat) (fun k A st' => k ≤ SLs.length ∧ A.df = [] ∧ A.e 0 = .sl .shared LS ∧ A.e 4 = .i i ∧ A.e 5 = .i k ∧ ∃ o', o' ≠ .shared ∧ A.e 3 = .sl o' ((SF k).map encB) ∧ st' = .room o' 5 1 ((SF k).map encB).length :: st) (fun k => SLs.length - k) 0 ?_ ?_
    · rw [← hS0.out, ← hX1e.out, List.map_append, List.map_append]
      exact ⟨Nat.zero_le _, Qf, Qf, Qf, Qf, _, by assumption, Qf, rfl⟩
    clear e0 e3 e4 hdf A ho' hX1e hS0
    clear o'
    rintro k A st' ⟨hk, hdf, e0, e4, e5, o', ho', e3, rfl⟩
    by_cases hkl : k < SLs.length
    · obtain ⟨s, hs⟩ : ∃ s, SLs[k]? = some s := ⟨_, List.getElem?_eq_getElem hkl⟩
      have g1 := hd1.out k s hs
      have hsg := hss2.out s (List.mem_of_getElem? hs)
      have hF := ref13SlotF s hsg
      have hE := hSs.out k s hs
      have hEl := hSl.out k (by omega)
      have hsl := Reg.slotB_len s hsg.nm
      have : k * 21000 ≤ 8 * 21000 := Nat.mul_le_mul_right _ (by omega)
      clear hs hsg hSs hSl hss2
      generalize SF k = Y at *
      generalize Reg.slotB s = Z at *
      have hYZ : Y.length + Z.length ≤ 9000000 := by omega
      clear hEl hsl this
      cases s with
      | mk an at_ ar av =>
      cases av with
      | mk k1 n s l =>
      rw [Sl.cells_mk] at g1 hF
      replace hF := Lib.hid hF
      replace hE := Lib.hid hE
      repeat' (first | (with_reducible first | refine Q1 ?_ | refine Qe ?_ | refine Ql ?_ | refine Q2 ?_ | refine Qs ?_ | refine Q4 ?_ | (refine al_go ?_; intro b) | fail) | refine Qc Tryz.call62 (hF.out _) ?_ | (with_reducible first | (refine Qa ?_; intro o' ho') | (refine Qp ?_; intro o' ho') | refine Q5 ?_ | (refine Q3a ?_; intro hb; try intro hb1) | (refine Q3b ?_; intro hb; try intro hb1) | (refine Q3 ?_ ?_ <;> intro hb <;> try intro hb1) | fail) | fail)
      refine ⟨k + 1, .room o' 5 1 ((Y ++ Z).map encB).length :: st, ?_, ⟨hkl, ?_, ?_, ?_, ?_, o', ho', ?_, ?_⟩, ?_⟩
      · rw [List.map_append]; (repeat (first | exact List.Sublist.refl _ | apply List.Sublist.cons))
      rotate_right 3
      · rw [hE.out, List.map_append]; exact Qf
      · rw [hE.out]
      all_goals exact Qf
    · obtain rfl : k = SLs.length := by omega
      clear hSs hd1 hss2
      have hXl := hSl.out SLs.length (Nat.le_refl _)
      have : SLs.length * 21000 ≤ 8 * 21000 := Nat.mul_le_mul_right _ hls
      generalize SF SLs.length = Y at *
      have hY : Y.length ≤ 7000000 := by omega
      clear hXl this hSl
      repeat' (first | (with_reducible first | refine Q1 ?_ | refine Qe ?_ | refine Ql ?_ | refine Q2 ?_ | refine Qs ?_ | refine Q4 ?_ | (refine al_go ?_; intro b) | fail) | refine Qc Tryz.call60 (hNb.out _) ?_ | (with_reducible first | (refine Qa ?_; intro o' ho') | (refine Qp ?_; intro o' ho') | refine Q5 ?_ | (refine Q3a ?_; intro hb; try intro hb1) | (refine Q3b ?_; intro hb; try intro hb1) | (refine Q3 ?_ ?_ <;> intro hb <;> try intro hb1) | fail) | fail)
      clear hNb
      refine tr_loopd (ι := Nat) (fun k A st' => k ≤ TLs.length ∧ A.df = [] ∧ A.e 0 = .sl .shared LS ∧ A.e 4 = .i i ∧ A.e 6 = .i k ∧ ∃ o', o' ≠ .shared ∧ A.e 3 = .sl o' ((PF k).map encB) ∧ st' = .room o' 5 1 ((PF k).map encB).length :: st) (fun k => TLs.length - k) 0 ?_ ?_
      · rw [← hP0.out, ← hX2e.out, List.map_append]
        exact ⟨Nat.zero_le _, Qf, Qf, Qf, Qf, _, by assumption, Qf, rfl⟩
      clear e0 e3 e4 e5 hdf A ho' hX2e hP0
      clear o'
      rintro k A st' ⟨hk, hdf, e0, e4, e6, o', ho', e3, rfl⟩
      by_cases hkl : k < TLs.length
      · obtain ⟨p, hp⟩ : ∃ p, TLs[k]? = some p := ⟨_, List.getElem?_eq_getElem hkl⟩
        have g1 := hd2.out k p hp
        have hpg := hst2.out p (List.mem_of_getElem? hp)
        have hE := hPs.out k p hp
        have hEl := hPl.out k (by omega)
        have : k * 22000 ≤ 8 * 22000 := Nat.mul_le_mul_right _ (by omega)
        clear hp hPs hPl hst2
        generalize PF k = Y2 at *
        have hY2 : Y2.length ≤ 8000000 := by omega
        clear hEl this
        cases p with
        | mk kind col slot order =>
        unfold Reg.StG at hpg
        unfold Stp.cells at g1
        dsimp only at hpg g1
        rcases hpg with ⟨rfl, rfl, hs, rfl⟩ | ⟨rfl, hcl, rfl, rfl⟩ | ⟨rfl, hcl, hs, hn, rfl⟩ | ⟨rfl, hcl, hs, hn, rfl⟩ | ⟨rfl, rfl, rfl, hol, hok⟩
        · rw [Reg.stepB_1] at hE
          have hF := ref13SlotF slot hs
          have hsl := Reg.slotB_len slot hs.nm
          have hw := u8_wrapI 1
          clear hs
          generalize Reg.b8 1 = w1 at *
          generalize Reg.slotB slot = Z at *
          cases slot with
          | mk an at_ ar av =>
          cases av with
          | mk k1 n s l =>
          rw [Sl.cells_mk] at g1 hF
          dsimp only [List.cons_append, List.nil_append] at g1
          replace hF := Lib.hid hF
          try simp only [← List.append_assoc] at hE
          replace hE := Lib.hid hE
          repeat' (first | (with_reducible first | refine Q1 ?_ | refine Qe ?_ | refine Ql ?_ | refine Q2 ?_ | refine Qs ?_ | refine Q4 ?_ | (refine al_go ?_; intro b) | fail) | refine Qc Tryz.call62 (hF.out _) ?_ | (with_reducible first | (refine Qa ?_; intro o' ho') | (refine Qp ?_; intro o' ho') | refine Q5 ?_ | (refine Q3a ?_; intro hb; try intro hb1) | (refine Q3b ?_; intro hb; try intro hb1) | (refine Q3 ?_ ?_ <;> intro hb <;> try intro hb1) | fail) | fail)
          refine ⟨k + 1, .room o' 5 1 ((Y2.map encB ++ [encB w1]) ++ Z.map encB).length :: st, (by (repeat (first | exact List.Sublist.refl _ | apply List.Sublist.cons))), ⟨hkl, ?_, ?_, ?_, ?_, o', by assumption, ?_, ?_⟩, ?_⟩
          rotate_right 3
          · rw [hE.out]; simp only [List.map_append, List.map_cons, List.map_nil]; exact Qf
          · rw [hE.out]; simp only [List.map_append, List.map_cons, List.map_nil]; try rfl
          all_goals exact Qf
        · rw [Reg.stepB_2 hcl] at hE
          have hw := u8_wrapI 2
          have hw2 := u8_wrapI col
          generalize Reg.b8 2 = w1 at *
          generalize Reg.b8 col = w2 at *
          unfold Reg.slot0 V.zero at g1
          rw [Sl.cells_mk] at g1
          dsimp only [List.cons_append, List.nil_append] at g1
          try simp only [← List.append_assoc] at hE
          replace hE := Lib.hid hE
          repeat' (with_reducible first | refine Q1 ?_ | refine Qe ?_ | refine Ql ?_ | refine Q2 ?_ | refine Qs ?_ | refine Q4 ?_ | (refine al_go ?_; intro b) | (refine Qa ?_; intro o' ho') | (refine Qp ?_; intro o' ho') | refine Q5 ?_ | (refine Q3a ?_; intro hb; try intro hb1) | (refine Q3b ?_; intro hb; try intro hb1) | (refine Q3 ?_ ?_ <;> intro hb <;> try intro hb1) | fail)
          refine ⟨k + 1, .room o' 5 1 ((Y2.map encB ++ [encB w1]) ++ [encB w2]).length :: st, (by (repeat (first | exact List.Sublist.refl _ | apply List.Sublist.cons))), ⟨hkl, ?_, ?_, ?_, ?_, o', by assumption, ?_, ?_⟩, ?_⟩
          rotate_right 3
          · rw [hE.out]; simp only [List.map_append, List.map_cons, List.map_nil]; exact Qf
          · rw [hE.out]; simp only [List.map_append, List.map_cons, List.map_nil]; try rfl
          all_goals exact Qf
        · rw [Reg.stepB_3 hcl] at hE
          have hw := u8_wrapI 3
          have hw2 := u8_wrapI col
          have hTt := refTextF slot.name (by omega)
          have htl2 : (tx slot.name.data.toList).length ≤ 304 := by
            unfold tx
            have : slot.name.data.toList.length = slot.name.size := by simp
            rw [List.length_append, be_len]
            omega
          clear hs
          generalize Reg.b8 3 = w1 at *
          generalize Reg.b8 col = w2 at *
          generalize tx slot.name.data.toList = Z at *
          cases slot with
          | mk an at_ ar av =>
          cases av with
          | mk k1 n s l =>
          rw [Sl.cells_mk] at g1
          dsimp only [List.cons_append, List.nil_append] at g1
          try dsimp only at hTt
          try simp only [← List.append_assoc] at hE
          replace hE := Lib.hid hE
          replace hTt := Lib.hid hTt
          repeat' (first | (with_reducible first | refine Q1 ?_ | refine Qe ?_ | refine Ql ?_ | refine Q2 ?_ | refine Qs ?_ | refine Q4 ?_ | (refine al_go ?_; intro b) | fail) | refine Qc Tryz.call61 (hTt.out _) ?_ | (with_reducible first | (refine Qa ?_; intro o' ho') | (refine Qp ?_; intro o' ho') | refine Q5 ?_ | (refine Q3a ?_; intro hb; try intro hb1) | (refine Q3b ?_; intro hb; try intro hb1) | (refine Q3 ?_ ?_ <;> intro hb <;> try intro hb1) | fail) | fail)
          refine ⟨k + 1, .room o' 5 1 (((Y2.map encB ++ [encB w1]) ++ [encB w2]) ++ Z.map encB).length :: st, (by (repeat (first | exact List.Sublist.refl _ | apply List.Sublist.cons))), ⟨hkl, ?_, ?_, ?_, ?_, o', by assumption, ?_, ?_⟩, ?_⟩
          rotate_right 3
          · rw [hE.out]; simp only [List.map_append, List.map_cons, List.map_nil]; exact Qf
          · rw [hE.out]; simp only [List.map_append, List.map_cons, List.map_nil]; try rfl
          all_goals exact Qf
        · rw [Reg.stepB_4 hcl hn] at hE
          have hw := u8_wrapI 4
          have hw2 := u8_wrapI col
          have hw3 := u8_wrapI slot.types
          clear hs
          generalize Reg.b8 4 = w1 at *
          generalize Reg.b8 col = w2 at *
          generalize Reg.b8 slot.types = w3 at *
          cases slot with
          | mk an at_ ar av =>
          cases av with
          | mk k1 n s l =>
          rw [Sl.cells_mk] at g1
          dsimp only [List.cons_append, List.nil_append] at g1
          try dsimp only at hTt
          try simp only [← List.append_assoc] at hE
          replace hE := Lib.hid hE
          repeat' (with_reducible first | refine Q1 ?_ | refine Qe ?_ | refine Ql ?_ | refine Q2 ?_ | refine Qs ?_ | refine Q4 ?_ | (refine al_go ?_; intro b) | (refine Qa ?_; intro o' ho') | (refine Qp ?_; intro o' ho') | refine Q5 ?_ | (refine Q3a ?_; intro hb; try intro hb1) | (refine Q3b ?_; intro hb; try intro hb1) | (refine Q3 ?_ ?_ <;> intro hb <;> try intro hb1) | fail)
          refine ⟨k + 1, .room o' 5 1 (((Y2.map encB ++ [encB w1]) ++ [encB w2]) ++ [encB w3]).length :: st, (by (repeat (first | exact List.Sublist.refl _ | apply List.Sublist.cons))), ⟨hkl, ?_, ?_, ?_, ?_, o', by assumption, ?_, ?_⟩, ?_⟩
          rotate_right 3
          · rw [hE.out]; simp only [List.map_append, List.map_cons, List.map_nil]; exact Qf
          · rw [hE.out]; simp only [List.map_append, List.map_cons, List.map_nil]; try rfl
          all_goals exact Qf
        · rw [Reg.stepB_5] at hE
          have hw := u8_wrapI 5
          have hNo := refNumN order.length (by omega)
          generalize Reg.b8 5 = w1 at *
          have hko : (order.map encI).length = order.length := List.length_map ..
          have hdo : Hid (∀ (i : Nat) (n : Int), order[i]? = some n → (order.map encI)[i]? = some [.i n]) := fun i n h => by rw [List.getElem?_map, h]; rfl
          have hb4 : (be 4 order.length).length = 4 := be_len ..
          rw [← Reg.upTo_app] at hE
          obtain ⟨OF, hOF⟩ : ∃ OF : Nat → List UInt8, Reg.upTo (fun k => [Reg.b8 k]) (Y2 ++ ([w1] ++ be 4 order.length)) order = OF := ⟨_, rfl⟩
          have hO0 : Hid ((Y2 ++ [w1]) ++ be 4 order.length = OF 0) := Lib.hid (by rw [← hOF, Reg.upTo_zero, List.append_assoc])
          have hOs : Hid (∀ (m : Nat) (n : Int), order[m]? = some n → OF (m + 1) = OF m ++ [Reg.b8 n]) := fun m n h => by rw [← hOF]; exact Reg.upTo_succ _ _ h
          have hOl : Hid (∀ (m : Nat), m ≤ order.length → (OF m).length ≤ 8000005 + m * 1) := fun m hm => by
            rw [← hOF]; exact Reg.upTo_len _ _ 8000005 1 _ (fun a ha => Nat.le_refl _) (by rw [List.length_append, List.length_append, hb4]; show _ + (1 + 4) ≤ _; omega) m hm
          rw [hOF] at hE
          clear hOF
          generalize be 4 order.length = n5 at *
          unfold Reg.slot0 V.zero at g1
          rw [Sl.cells_mk] at g1
          dsimp only [List.cons_append, List.nil_append] at g1
          generalize order.map encI = OS at *
          replace hE := Lib.hid hE
          replace hNo := Lib.hid hNo
          repeat' (first | (with_reducible first | refine Q1 ?_ | refine Qe ?_ | refine Ql ?_ | refine Q2 ?_ | refine Qs ?_ | refine Q4 ?_ | (refine al_go ?_; intro b) | fail) | refine Qc Tryz.call60 (hNo.out _) ?_ | (with_reducible first | (refine Qa ?_; intro o' ho') | (refine Qp ?_; intro o' ho') | refine Q5 ?_ | (refine Q3a ?_; intro hb; try intro hb1) | (refine Q3b ?_; intro hb; try intro hb1) | (refine Q3 ?_ ?_ <;> intro hb <;> try intro hb1) | fail) | fail)
          clear hNo hw
          revert b; intro bS
          refine tr_loopd (ι := Nat) (fun m A st' => m ≤ order.length ∧ A.df = [] ∧ A.e 0 = .sl .shared LS ∧ A.e 4 = .i i ∧ A.e 6 = .i k ∧ A.e 7 = .ptr bS 0 ∧ A.e 8 = .i m ∧ ∃ o', o' ≠ .shared ∧ A.e 3 = .sl o' ((OF m).map encB) ∧ st' = .box bS 79 [.i 5, .i 0, .str ⟨#[]⟩, .i 0, .b false, .i 0, .i 0, .str ⟨#[]⟩, .sl .shared (([] : List V).map V.cells), .sl .shared OS] :: .room o' 5 1 ((OF m).map encB).length :: st) (fun m => order.length - m) 0 ?_ ?_
          · rw [← hO0.out]
            simp only [List.map_append, List.map_cons, List.map_nil]
            exact ⟨Nat.zero_le _, Qf, Qf, Qf, Qf, Qf, Qf, _, by assumption, Qf, rfl⟩
          clear e0 e3 e4 e6 hdf A ho' hO0
          clear o'
          rintro m A st' ⟨hmm, hdf, e0, e4, e6, e7, e8, o', ho', e3, rfl⟩
          by_cases hml : m < order.length
          · obtain ⟨n, hn⟩ : ∃ n, order[m]? = some n := ⟨_, List.getElem?_eq_getElem hml⟩
            have g2 := hdo.out m n hn
            have hO := hOs.out m n hn
            have hOx := hOl.out m (by omega)
            have hw := u8_wrapI n
            clear hn hOs hOl hdo
            generalize OF m = Y3 at *
            generalize Reg.b8 n = w2 at *
            have hY3 : Y3.length ≤ 9000000 := by omega
            clear hOx
            replace hO := Lib.hid hO
            repeat' (with_reducible first | refine Q1 ?_ | refine Qe ?_ | refine Ql ?_ | refine Q2 ?_ | refine Qs ?_ | refine Q4 ?_ | (refine al_go ?_; intro b) | (refine Qa ?_; intro o' ho') | (refine Qp ?_; intro o' ho') | refine Q5 ?_ | (refine Q3a ?_; intro hb; try intro hb1) | (refine Q3b ?_; intro hb; try intro hb1) | (refine Q3 ?_ ?_ <;> intro hb <;> try intro hb1) | fail)
            refine ⟨m + 1, .box bS 79 [.i 5, .i 0, .str ⟨#[]⟩, .i 0, .b false, .i 0, .i 0, .str ⟨#[]⟩, .sl .shared (([] : List V).map V.cells), .sl .shared OS] :: .room o' 5 1 (Y3.map encB ++ [encB w2]).length :: st, (by (repeat (first | exact List.Sublist.refl _ | with_reducible apply List.Sublist.cons_cons | apply List.Sublist.cons))), ⟨hml, ?_, ?_, ?_, ?_, ?_, ?_, o', by assumption, ?_, ?_⟩, ?_⟩
            rotate_right 3
            · rw [hO.out]; simp only [List.map_append, List.map_cons, List.map_nil]; exact Qf
            · rw [hO.out]; simp only [List.map_append, List.map_cons, List.map_nil]; try rfl
            all_goals exact Qf
          · obtain rfl : m = order.length := by omega
            clear hOs hdo hOl
            repeat' (with_reducible first | refine Q1 ?_ | refine Qe ?_ | refine Ql ?_ | refine Q2 ?_ | refine Qs ?_ | refine Q4 ?_ | (refine al_go ?_; intro b) | (refine Qa ?_; intro o' ho') | (refine Qp ?_; intro o' ho') | refine Q5 ?_ | (refine Q3a ?_; intro hb; try intro hb1) | (refine Q3b ?_; intro hb; try intro hb1) | (refine Q3 ?_ ?_ <;> intro hb <;> try intro hb1) | fail)
            refine ⟨k + 1, .room o' 5 1 ((OF order.length).map encB).length :: st, (by (repeat (first | exact List.Sublist.refl _ | apply List.Sublist.cons))), ⟨hkl, ?_, ?_, ?_, ?_, o', by assumption, ?_, ?_⟩, ?_⟩
            rotate_right 3
            · rw [hE.out]; exact Qf
            · rw [hE.out]
            all_goals exact Qf
      · obtain rfl : k = TLs.length := by omega
        clear hPs hd2 hst2 hPl
        repeat' (with_reducible first | refine Q1 ?_ | refine Qe ?_ | refine Ql ?_ | refine Q2 ?_ | refine Qs ?_ | refine Q4 ?_ | (refine al_go ?_; intro b) | (refine Qa ?_; intro o' ho') | (refine Qp ?_; intro o' ho') | refine Q5 ?_ | (refine Q3a ?_; intro hb; try intro hb1) | (refine Q3b ?_; intro hb; try intro hb1) | (refine Q3 ?_ ?_ <;> intro hb <;> try intro hb1) | fail)
        refine ⟨i + 1, .room o' 5 1 ((PF TLs.length).map encB).length :: st, (by (repeat (first | exact List.Sublist.refl _ | apply List.Sublist.cons))), ⟨hlt, ?_, ?_, ?_, o', by assumption, ?_, ?_⟩, by omega⟩
        rotate_right 2
        · rw [hB2.out]; exact Qf
        · rw [hB2.out]
        all_goals exact Qf
  · obtain rfl : i = L.length := by omega
    clear hBs hBl hc hG2
    repeat' (with_reducible first | refine Q1 ?_ | refine Qe ?_ | refine Ql ?_ | refine Q2 ?_ | refine Qs ?_ | refine Q4 ?_ | (refine al_go ?_; intro b) | (refine Qa ?_; intro o' ho') | (refine Qp ?_; intro o' ho') | refine Q5 ?_ | (refine Q3a ?_; intro hb; try intro hb1) | (refine Q3b ?_; intro hb; try intro hb1) | (refine Q3 ?_ ?_ <;> intro hb <;> try intro hb1) | fail)
    all_goals exact Qret
end Go.Proofs.YtgcienlfpnpbgaaGreat
end

section
namespace Go.Proofs.YtgcienlfpnpbgaaGreat
set_option linter.unusedSimpArgs false
attribute [local push_cast] encB encI encC V.cells_mk V.cells_len Nat.mul_one Int.sub_zero List.map_nil beq_self_eq_true bne_self_eq_false List.head?_cons
open Go.RowKit
set_option maxRecDepth 10000
set_option maxHeartbeats 8000000
theorem sameSlotsF (a b : List Sl) (hok : ∀ s ∈ a, s.dv.Ok) (hl : a.length ≤ 1000000) (hlb : b.length ≤ 1000000) (st : St) : TrF Tryz.prog 41 [.sl .shared (a.map Sl.cells), .sl .shared (b.map Sl.cells)] st fun d st' => d = .b (Reg.all2 Reg.slotS a b) ∧ st' = st := by
  obtain ⟨B, hB⟩ : ∃ B, Reg.all2 Reg.slotS a b = B := ⟨_, rfl⟩
  rw [hB]
  have hm1 : (a.map Sl.cells).length = a.length := List.length_map ..
  have hm2 : (b.map Sl.cells).length = b.length := List.length_map ..
  have hc1 : Hid (∀ (i : Nat) (v : Sl), a[i]? = some v → (a.map Sl.cells)[i]? = some v.cells) := fun i v h => by rw [List.getElem?_map, h]; rfl
  have hc2 : Hid (∀ (i : Nat) (v : Sl), b[i]? = some v → (b.map Sl.cells)[i]? = some v.cells) := fun i v h => by rw [List.getElem?_map, h]; rfl
  have hok2 := Lib.hid hok
  clear hok
  generalize a.map Sl.cells = AS at *
  generalize b.map Sl.cells = BS at *
  by_cases hlen : a.length = b.length
  · have HB : Hid (Reg.all2 Reg.slotS (a.drop 0) (b.drop 0) = B) := hB
    clear hB
    refine Qin [4] Tryz.func41 Tryz.results41 Tryz.ntmps41 ?_
    repeat' (with_reducible first | refine Q1 ?_ | refine Qe ?_ | refine Ql ?_ | refine Q2 ?_ | refine Qs ?_ | refine Q4 ?_ | (refine al_go ?_; intro b) | refine Q5 ?_ | (refine Q3a ?_; intro hb; try intro hb1) | (refine Q3b ?_; intro hb; try intro hb1) | (refine Q3 ?_ ?_ <;> intro hb <;> try intro hb1) | fail)
    refine tr_loopd (ι := Nat) (fun i A st' => i ≤ a.length ∧ Hid (Reg.all2 Reg.slotS (a.drop i) (b.drop i) = B) ∧ A.df = [] ∧ A.e 0 = .sl .shared AS ∧ A.e 1 = .sl .shared BS ∧ A.e 5 = .i i ∧ st = st') (fun i => a.length - i) 0 ⟨Nat.zero_le _, HB, Qf, Qf, Qf, Qf, rfl⟩ ?_
    rintro i A st' ⟨hi, HT, hdf, e0, e1, e5, rfl⟩
    clear HB
    by_cases hlt : i < a.length
    · obtain ⟨s, hs⟩ : ∃ s, a[i]? = some s := ⟨_, List.getElem?_eq_getElem hlt⟩
      obtain ⟨v, hv⟩ : ∃ v, b[i]? = some v := ⟨_, List.getElem?_eq_getElem (by omega)⟩
      have HE := HT.out
      rw [Reg.all2_drop hs hv] at HE
      have h1 := hc1.out i s hs
      have h2 := hc2.out i v hv
      have hF := refSameF s.dv v.dv (hok2.out s (List.mem_of_getElem? hs))
      clear HT hs hv
      obtain ⟨G, hGG⟩ : ∃ G, Reg.all2 Reg.slotS (a.drop (i + 1)) (b.drop (i + 1)) = G := ⟨_, rfl⟩
      rw [hGG] at HE
      replace hGG := Lib.hid hGG
      cases s with
      | mk an at_ ar av =>
      cases v with
      | mk bn bt br bv =>
      unfold Reg.slotS at HE
      dsimp only at HE hF
      generalize (av.cmp bv == 0) = q4 at *
      generalize hq1 : (an.toList == bn.toList) = q1 at *
      have hq1n : (an.toList != bn.toList) = !q1 := by rw [← hq1]; rfl
      cases av with
      | mk k n s l =>
      cases bv with
      | mk k' n' s' l' =>
      rw [Sl.cells_mk] at h1 h2
      rw [V.cells_mk] at hF
      rw [V.cells_mk] at hF
      replace hF := Lib.hid hF
      cases q1 with
      | false =>
        rw [Bool.false_and, Bool.false_and] at HE
        subst HE
        clear hGG
        repeat' (first | (with_reducible first | refine Q1 ?_ | refine Qe ?_ | fail) | ((with_reducible refine w_drawRN ?_ ?_ ?_ ?_); (iterate 3 (focus kernel_rfl)); intro hne; simp only [nes, ne1, and_assoc] at hne; repeat (have hq := hne.1; replace hne := hne.2)) | (with_reducible first | refine Ql ?_ | refine Q2 ?_ | refine Qs ?_ | refine Q4 ?_ | (refine al_go ?_; intro b) | fail) | refine Qc Tryz.call111 (hF.out _) ?_ | (with_reducible first | refine Q5 ?_ | (refine Q3a ?_; intro hb; try intro hb1) | (refine Q3b ?_; intro hb; try intro hb1) | (refine Q3 ?_ ?_ <;> intro hb <;> try intro hb1) | fail) | fail)
        all_goals exact Qret
      | true =>
        by_cases ht : at_ = bt
        · subst ht
          have ht2 : (at_ != at_) = false := by simp
          rw [beq_self_eq_true, Bool.true_and, Bool.true_and] at HE
          by_cases hr : ar = br
          · subst hr
            have hr2 : (ar != ar) = false := by simp
            rw [beq_self_eq_true, Bool.true_and] at HE
            cases q4 with
            | true =>
              rw [Bool.true_and] at HE
              replace HE := Lib.hid (hGG.out.trans HE)
              clear hGG
              repeat' (first | (with_reducible first | refine Q1 ?_ | refine Qe ?_ | fail) | ((with_reducible refine w_drawRN ?_ ?_ ?_ ?_); (iterate 3 (focus kernel_rfl)); intro hne; simp only [nes, ne1, and_assoc] at hne; repeat (have hq := hne.1; replace hne := hne.2)) | (with_reducible first | refine Ql ?_ | refine Q2 ?_ | refine Qs ?_ | refine Q4 ?_ | (refine al_go ?_; intro b) | fail) | refine Qc Tryz.call111 (hF.out _) ?_ | (with_reducible first | refine Q5 ?_ | (refine Q3a ?_; intro hb; try intro hb1) | (refine Q3b ?_; intro hb; try intro hb1) | (refine Q3 ?_ ?_ <;> intro hb <;> try intro hb1) | fail) | fail)
              refine ⟨i + 1, st, (by (repeat (first | exact List.Sublist.refl _ | apply List.Sublist.cons))), ⟨hlt, HE, ?_, ?_, ?_, ?_, rfl⟩, by omega⟩
              all_goals exact Qf
            | false =>
              rw [Bool.false_and] at HE
              subst HE
              clear hGG
              repeat' (first | (with_reducible first | refine Q1 ?_ | refine Qe ?_ | fail) | ((with_reducible refine w_drawRN ?_ ?_ ?_ ?_); (iterate 3 (focus kernel_rfl)); intro hne; simp only [nes, ne1, and_assoc] at hne; repeat (have hq := hne.1; replace hne := hne.2)) | (with_reducible first | refine Ql ?_ | refine Q2 ?_ | refine Qs ?_ | refine Q4 ?_ | (refine al_go ?_; intro b) | fail) | refine Qc Tryz.call111 (hF.out _) ?_ | (with_reducible first | refine Q5 ?_ | (refine Q3a ?_; intro hb; try intro hb1) | (refine Q3b ?_; intro hb; try intro hb1) | (refine Q3 ?_ ?_ <;> intro hb <;> try intro hb1) | fail) | fail)
              all_goals exact Qret
          · have hr2 : (ar != br) = true := by rw [bne_iff_ne]; exact hr
            rw [beq_eq_false_iff_ne.2 hr, Bool.false_and, Bool.false_and] at HE
            subst HE
            clear hGG
            repeat' (first | (with_reducible first | refine Q1 ?_ | refine Qe ?_ | fail) | ((with_reducible refine w_drawRN ?_ ?_ ?_ ?_); (iterate 3 (focus kernel_rfl)); intro hne; simp only [nes, ne1, and_assoc] at hne; repeat (have hq := hne.1; replace hne := hne.2)) | (with_reducible first | refine Ql ?_ | refine Q2 ?_ | refine Qs ?_ | refine Q4 ?_ | (refine al_go ?_; intro b) | fail) | refine Qc Tryz.call111 (hF.out _) ?_ | (with_reducible first | refine Q5 ?_ | (refine Q3a ?_; intro hb; try intro hb1) | (refine Q3b ?_; intro hb; try intro hb1) | (refine Q3 ?_ ?_ <;> intro hb <;> try intro hb1) | fail) | fail)
            all_goals exact Qret
        · have ht2 : (at_ != bt) = true := by rw [bne_iff_ne]; exact ht
          rw [beq_eq_false_iff_ne.2 ht, Bool.false_and, Bool.true_and, Bool.false_and] at HE
          subst HE
          clear hGG
          repeat' (first | (with_reducible first | refine Q1 ?_ | refine Qe ?_ | fail) | ((with_reducible refine w_drawRN ?_ ?_ ?_ ?_); (iterate 3 (focus kernel_rfl)); intro hne; simp only [nes, ne1, and_assoc] at hne; repeat (have hq := hne.1; replace hne := hne.2)) | (with_reducible first | refine Ql ?_ | refine Q2 ?_ | refine Qs ?_ | refine Q4 ?_ | (refine al_go ?_; intro b) | fail) | refine Qc Tryz.call111 (hF.out _) ?_ | (with_reducible first | refine Q5 ?_ | (refine Q3a ?_; intro hb; try intro hb1) | (refine Q3b ?_; intro hb; try intro hb1) | (refine Q3 ?_ ?_ <;> intro hb <;> try intro hb1) | fail) | fail)
          all_goals exact Qret
    · have HE := HT.out
      rw [List.drop_of_length_le (by omega), List.drop_of_length_le (by omega), Reg.all2] at HE
      subst HE
      clear HT
      repeat' (with_reducible first | refine Q1 ?_ | refine Qe ?_ | refine Ql ?_ | refine Q2 ?_ | refine Qs ?_ | refine Q4 ?_ | (refine al_go ?_; intro b) | refine Q5 ?_ | (refine Q3a ?_; intro hb; try intro hb1) | (refine Q3b ?_; intro hb; try intro hb1) | (refine Q3 ?_ ?_ <;> intro hb <;> try intro hb1) | fail)
      all_goals exact Qret
  · have hBf : B = false := by
      cases B with
      | false => rfl
      | true => exact absurd (Reg.all2_len _ _ hB) hlen
    subst hBf
    clear hB
    have hl2 : ¬ (a.length : Int) = (b.length : Int) := by omega
    clear hlen
    refine Qin [4] Tryz.func41 Tryz.results41 Tryz.ntmps41 ?_
    repeat' (with_reducible first | refine Q1 ?_ | refine Qe ?_ | refine Ql ?_ | refine Q2 ?_ | refine Qs ?_ | refine Q4 ?_ | (refine al_go ?_; intro b) | refine Q5 ?_ | (refine Q3a ?_; intro hb; try intro hb1) | (refine Q3b ?_; intro hb; try intro hb1) | (refine Q3 ?_ ?_ <;> intro hb <;> try intro hb1) | fail)
    all_goals exact Qret
end Go.Proofs.YtgcienlfpnpbgaaGreat
end

section
namespace Go.Proofs.YtgcienlfpnpbgaaGreat
set_option linter.unusedSimpArgs false
attribute [local push_cast] encB encI encC V.cells_mk V.cells_len Nat.mul_one Int.sub_zero List.map_nil beq_self_eq_true bne_self_eq_false List.head?_cons
open Go.RowKit
set_option maxRecDepth 10000
set_option maxHeartbeats 8000000
structure Reg.TmR (t : Tm) : Prop where
  ls : t.slots.length ≤ 1000000
  lt : t.steps.length ≤ 1000000
  os : ∀ s ∈ t.slots, s.dv.Ok
  ot : ∀ s ∈ t.steps, s.slot.dv.Ok
theorem ref13SameF (a b : List Tm) (ha : ∀ t ∈ a, Reg.TmR t) (hb : ∀ t ∈ b, Reg.TmR t) (hl : a.length ≤ 1000000) (hlb : b.length ≤ 1000000) (st : St) : TrF Tryz.prog 24 [.sl .shared (a.map Tm.cells), .sl .shared (b.map Tm.cells)] st fun d st' => d = .b (Reg.same a b) ∧ st' = st := by
  unfold Reg.same
  obtain ⟨B, hB⟩ : ∃ B, Reg.all2 Reg.tmS a b = B := ⟨_, rfl⟩
  rw [hB]
  have hm1 : (a.map Tm.cells).length = a.length := List.length_map ..
  have hm2 : (b.map Tm.cells).length = b.length := List.length_map ..
  have hc1 : Hid (∀ (i : Nat) (v : Tm), a[i]? = some v → (a.map Tm.cells)[i]? = some v.cells) := fun i v h => by rw [List.getElem?_map, h]; rfl
  have hc2 : Hid (∀ (i : Nat) (v : Tm), b[i]? = some v → (b.map Tm.cells)[i]? = some v.cells) := fun i v h => by rw [List.getElem?_map, h]; rfl
  have ha2 := Lib.hid ha
  have hb2 := Lib.hid hb
  clear ha hb
  generalize a.map Tm.cells = AS at *
  generalize b.map Tm.cells = BS at *
  by_cases hlen : a.length = b.length
  · have HB : Hid (Reg.all2 Reg.tmS (a.drop 0) (b.drop 0) = B) := hB
    clear hB
    refine Qin [4] Tryz.func24 Tryz.results24 Tryz.ntmps24 ?_
    repeat' (with_reducible first | refine Q1 ?_ | refine Qe ?_ | refine Ql ?_ | refine Q2 ?_ | refine Qs ?_ | refine Q4 ?_ | (refine al_go ?_; intro b) | refine Q5 ?_ | (refine Q3a ?_; intro hb; try intro hb1) | (refine Q3b ?_; intro hb; try intro hb1) | (refine Q3 ?_ ?_ <;> intro hb <;> try intro hb1) | fail)
    refine tr_loopd (ι := Nat) (fun i A st' => i ≤ a.length ∧ Hid (Reg.all2 Reg.tmS (a.drop i) (b.drop i) = B) ∧ A.df = [] ∧ A.e 0 = .sl .shared AS ∧ A.e 1 = .sl .shared BS ∧ A.e 5 = .i i ∧ st = st') (fun i => a.length - i) 0 ⟨Nat.zero_le _, HB, Qf, Qf, Qf, Qf, rfl⟩ ?_
    rintro i A st' ⟨hi, HT, hdf, e0, e1, e5, rfl⟩
    clear HB
    by_cases hlt : i < a.length
    · obtain ⟨t, ht⟩ : ∃ t, a[i]? = some t := ⟨_, List.getElem?_eq_getElem hlt⟩
      obtain ⟨u, hu⟩ : ∃ u, b[i]? = some u := ⟨_, List.getElem?_eq_getElem (by omega)⟩
      have HE := HT.out
      rw [Reg.all2_drop ht hu] at HE
      have h1 := hc1.out i t ht
      have h2 := hc2.out i u hu
      obtain ⟨tl1, tl2, tl3, tl4⟩ := ha2.out t (List.mem_of_getElem? ht)
      obtain ⟨ul1, ul2, ul3, ul4⟩ := hb2.out u (List.mem_of_getElem? hu)
      have hF := sameSlotsF t.slots u.slots tl3 tl1 ul1
      clear HT ht hu ha2 hb2 hc1 hc2
      obtain ⟨G, hGG⟩ : ∃ G, Reg.all2 Reg.tmS (a.drop (i + 1)) (b.drop (i + 1)) = G := ⟨_, rfl⟩
      rw [hGG] at HE
      replace hGG := Lib.hid hGG
      unfold Reg.tmS at HE
      unfold Tm.cells at h1 h2
      cases t with
      | mk n1 ss1 ts1 =>
      cases u with
      | mk n2 ss2 ts2 =>
      dsimp only at *
      generalize Reg.all2 Reg.slotS ss1 ss2 = q2 at *
      generalize ss1.map Sl.cells = S1 at *
      generalize ss2.map Sl.cells = S2 at *
      have hk1 : (ts1.map Stp.cells).length = ts1.length := List.length_map ..
      have hk2 : (ts2.map Stp.cells).length = ts2.length := List.length_map ..
      have hd1 : Hid (∀ (i : Nat) (v : Stp), ts1[i]? = some v → (ts1.map Stp.cells)[i]? = some v.cells) := fun i v h => by rw [List.getElem?_map, h]; rfl
      have hd2 : Hid (∀ (i : Nat) (v : Stp), ts2[i]? = some v → (ts2.map Stp.cells)[i]? = some v.cells) := fun i v h => by rw [List.getElem?_map, h]; rfl
      generalize ts1.map Stp.cells = T1 at *
      generalize ts2.map Stp.cells = T2 at *
      generalize hq1 : (n1.toList == n2.toList) = q1 at *
      have hq1n : (n1.toList != n2.toList) = !q1 := by rw [← hq1]; rfl
      replace hF := Lib.hid hF
      replace tl4 := Lib.hid tl4
      clear ul3 ul4 tl3 tl1 ul1
      cases q1 with
      | false =>
        rw [Bool.false_and, Bool.false_and] at HE
        subst HE
        clear hGG hd1 hd2
        repeat' (first | (with_reducible first | refine Q1 ?_ | refine Qe ?_ | fail) | ((with_reducible refine w_drawRN ?_ ?_ ?_ ?_); (iterate 3 (focus kernel_rfl)); intro hne; simp only [nes, ne1, and_assoc] at hne; repeat (have hq := hne.1; replace hne := hne.2)) | (with_reducible first | refine Ql ?_ | refine Q2 ?_ | refine Qs ?_ | refine Q4 ?_ | (refine al_go ?_; intro b) | fail) | refine Qc Tryz.call41 (hF.out _) ?_ | (with_reducible first | refine Q5 ?_ | (refine Q3a ?_; intro hb; try intro hb1) | (refine Q3b ?_; intro hb; try intro hb1) | (refine Q3 ?_ ?_ <;> intro hb <;> try intro hb1) | fail) | fail)
        all_goals exact Qret
      | true =>
        rw [Bool.true_and] at HE
        cases q2 with
        | false =>
          rw [Bool.false_and, Bool.false_and] at HE
          subst HE
          clear hGG hd1 hd2
          repeat' (first | (with_reducible first | refine Q1 ?_ | refine Qe ?_ | fail) | ((with_reducible refine w_drawRN ?_ ?_ ?_ ?_); (iterate 3 (focus kernel_rfl)); intro hne; simp only [nes, ne1, and_assoc] at hne; repeat (have hq := hne.1; replace hne := hne.2)) | (with_reducible first | refine Ql ?_ | refine Q2 ?_ | refine Qs ?_ | refine Q4 ?_ | (refine al_go ?_; intro b) | fail) | refine Qc Tryz.call41 (hF.out _) ?_ | (with_reducible first | refine Q5 ?_ | (refine Q3a ?_; intro hb; try intro hb1) | (refine Q3b ?_; intro hb; try intro hb1) | (refine Q3 ?_ ?_ <;> intro hb <;> try intro hb1) | fail) | fail)
          all_goals exact Qret
        | true =>
          rw [Bool.true_and] at HE
          obtain ⟨Q, hQ⟩ : ∃ Q, Reg.all2 Reg.stepS ts1 ts2 = Q := ⟨_, rfl⟩
          rw [hQ] at HE
          by_cases hts : ts1.length = ts2.length
          · have HQ : Hid (Reg.all2 Reg.stepS (ts1.drop 0) (ts2.drop 0) = Q) := hQ
            clear hQ
            replace HE := Lib.hid HE
            repeat' (first | (with_reducible first | refine Q1 ?_ | refine Qe ?_ | fail) | ((with_reducible refine w_drawRN ?_ ?_ ?_ ?_); (iterate 3 (focus kernel_rfl)); intro hne; simp only [nes, ne1, and_assoc] at hne; repeat (have hq := hne.1; replace hne := hne.2)) | (with_reducible first | refine Ql ?_ | refine Q2 ?_ | refine Qs ?_ | refine Q4 ?_ | (refine al_go ?_; intro b) | fail) | refine Qc Tryz.call41 (hF.out _) ?_ | (with_reducible first | refine Q5 ?_ | (refine Q3a ?_; intro hb; try intro hb1) | (refine Q3b ?_; intro hb; try intro hb1) | (refine Q3 ?_ ?_ <;> intro hb <;> try intro hb1) | fail) | fail)
            clear hF
            refine tr_loopd (ι := Nat) (fun k A st' => k ≤ ts1.length ∧ Hid (Reg.all2 Reg.stepS (ts1.drop k) (ts2.drop k) = Q) ∧ A.df = [] ∧ A.e 0 = .sl .shared AS ∧ A.e 1 = .sl .shared BS ∧ A.e 5 = .i i ∧ A.e 6 = .i k ∧ st = st') (fun k => ts1.length - k) 0 ⟨Nat.zero_le _, HQ, Qf, Qf, Qf, Qf, Qf, rfl⟩ ?_
            clear e0 e1 e5 hdf A HQ
            rintro k A st' ⟨hk, HQ, hdf, e0, e1, e5, e6, rfl⟩
            by_cases hkl : k < ts1.length
            · obtain ⟨x, hx⟩ : ∃ x, ts1[k]? = some x := ⟨_, List.getElem?_eq_getElem hkl⟩
              obtain ⟨y, hy⟩ : ∃ y, ts2[k]? = some y := ⟨_, List.getElem?_eq_getElem (by omega)⟩
              have HS := HQ.out
              rw [Reg.all2_drop hx hy] at HS
              have g1 := hd1.out k x hx
              have g2 := hd2.out k y hy
              have hSS := sameSlotsF [x.slot] [y.slot] (fun s hs => by rw [List.mem_singleton.1 hs]; exact tl4.out x (List.mem_of_getElem? hx)) (by show 1 ≤ _; omega) (by show 1 ≤ _; omega)
              rw [show Reg.all2 Reg.slotS [x.slot] [y.slot] = Reg.slotS x.slot y.slot by rw [Reg.all2, Reg.all2, Bool.and_true]] at hSS
              have hI := refIntsL .shared .shared x.order y.order
              rw [show decide (x.order = y.order) = Reg.all2 (· == ·) x.order y.order by
                cases hq : Reg.all2 (· == ·) x.order y.order with
                | true => exact decide_eq_true ((Reg.all2_iff (fun a b => beq_iff_eq) _ _).1 hq)
                | false => exact decide_eq_false fun h => by rw [(Reg.all2_iff (fun a b => beq_iff_eq) _ _).2 h] at hq; cases hq] at hI
              clear HQ hx hy hd1 hd2 tl4
              obtain ⟨H, hHH⟩ : ∃ H, Reg.all2 Reg.stepS (ts1.drop (k + 1)) (ts2.drop (k + 1)) = H := ⟨_, rfl⟩
              rw [hHH] at HS
              replace hHH := Lib.hid hHH
              unfold Reg.stepS at HS
              cases x with
              | mk ak ac as_ ao =>
              cases y with
              | mk bk bc bs bo =>
              dsimp only at *
              generalize Reg.slotS as_ bs = q3 at *
              generalize Reg.all2 (· == ·) ao bo = q4 at *
              cases as_ with
              | mk an at_ ar av =>
              cases bs with
              | mk bn bt br bv =>
              cases av with
              | mk k1 n s l =>
              cases bv with
              | mk k' n' s' l' =>
              unfold Stp.cells at g1 g2
              rw [List.map_cons, List.map_nil, List.map_cons, List.map_nil] at hSS
              dsimp only at g1 g2
              rw [Sl.cells_mk] at g1 hSS
              rw [Sl.cells_mk] at g2 hSS
              dsimp only [List.cons_append, List.nil_append] at g1 g2
              generalize ao.map encI = AO at *
              generalize bo.map encI = BO at *
              replace hSS := Lib.hid hSS
              replace hI := Lib.hid hI
              by_cases h1k : ak = bk ∧ ac = bc ∧ q3 = true ∧ q4 = true
              · obtain ⟨rfl, rfl, rfl, rfl⟩ := h1k
                rw [beq_self_eq_true, beq_self_eq_true, Bool.true_and, Bool.true_and, Bool.true_and, Bool.true_and] at HS
                replace HS := Lib.hid (hHH.out.trans HS)
                clear hHH
                have z1 : (ak != ak) = false := by simp
                have z2 : (ac != ac) = false := by simp
                repeat' (first | (with_reducible first | refine Q1 ?_ | refine Qe ?_ | fail) | ((with_reducible apply (w_drawT (.node [0, 1, 2, 3, 4, 5, 6, 7, 8, 9, 10, 11, 12, 13, 14, 15] 16 17 (.leaf [17, 16, 18, 19]) (.leaf [16, 17, 18, 19])) 70)); rfl; (iterate 3 kernel_rfl); (focus (simp only [Plan.lists, pickL, List.getElem?_cons_zero, List.getElem?_cons_succ]; exact rfl)); intro hne; (try simp only [nes, ne1, and_assoc] at hne); (repeat (have hq := hne.1; replace hne := hne.2)); simp only [wPL]) | with_reducible refine both_go ?_ ?_ | (with_reducible first | refine Ql ?_ | refine Q2 ?_ | refine Qs ?_ | refine Q4 ?_ | (refine al_go ?_; intro b) | fail) | refine QL Tryz.call41 (hSS.out _) ?_ | refine Qc Tryz.call36 (hI.out _) ?_ | (with_reducible first | refine Q5 ?_ | (refine Q3a ?_; intro hb; try intro hb1) | (refine Q3b ?_; intro hb; try intro hb1) | (refine Q3 ?_ ?_ <;> intro hb <;> try intro hb1) | fail) | fail)
                all_goals (refine ⟨k + 1, st, (by (repeat (first | exact List.Sublist.refl _ | apply List.Sublist.cons))), ⟨hkl, HS, ?_, ?_, ?_, ?_, ?_, rfl⟩, by omega⟩; all_goals exact Qf)
              · by_cases z1 : ak = bk
                · subst z1
                  have z1 : (ak != ak) = false := by simp
                  by_cases z2 : ac = bc
                  · subst z2
                    have z2 : (ac != ac) = false := by simp
                    rw [beq_self_eq_true, beq_self_eq_true, Bool.true_and, Bool.true_and] at HS
                    cases q3 with
                    | false =>
                      rw [Bool.false_and, Bool.false_and] at HS
                      subst HS
                      rw [Bool.false_and] at HE
                      have HF := HE.out
                      subst HF
                      clear hHH hGG HE
                      repeat' (first | (with_reducible first | refine Q1 ?_ | refine Qe ?_ | fail) | ((with_reducible apply (w_drawT (.node [0, 1, 2, 3, 4, 5, 6, 7, 8, 9, 10, 11, 12, 13, 14, 15] 16 17 (.leaf [17, 16, 18, 19]) (.leaf [16, 17, 18, 19])) 70)); rfl; (iterate 3 kernel_rfl); (focus (simp only [Plan.lists, pickL, List.getElem?_cons_zero, List.getElem?_cons_succ]; exact rfl)); intro hne; (try simp only [nes, ne1, and_assoc] at hne); (repeat (have hq := hne.1; replace hne := hne.2)); simp only [wPL]) | with_reducible refine both_go ?_ ?_ | (with_reducible first | refine Ql ?_ | refine Q2 ?_ | refine Qs ?_ | refine Q4 ?_ | (refine al_go ?_; intro b) | fail) | refine QL Tryz.call41 (hSS.out _) ?_ | refine Qc Tryz.call36 (hI.out _) ?_ | (with_reducible first | refine Q5 ?_ | (refine Q3a ?_; intro hb; try intro hb1) | (refine Q3b ?_; intro hb; try intro hb1) | (refine Q3 ?_ ?_ <;> intro hb <;> try intro hb1) | fail) | fail)
                      all_goals exact Qret
                    | true =>
                      cases q4 with
                      | true => exact absurd ⟨rfl, rfl, rfl, rfl⟩ h1k
                      | false =>
                        rw [Bool.true_and, Bool.false_and] at HS
                        subst HS
                        rw [Bool.false_and] at HE
                        have HF := HE.out
                        subst HF
                        clear hHH hGG HE
                        repeat' (first | (with_reducible first | refine Q1 ?_ | refine Qe ?_ | fail) | ((with_reducible apply (w_drawT (.node [0, 1, 2, 3, 4, 5, 6, 7, 8, 9, 10, 11, 12, 13, 14, 15] 16 17 (.leaf [17, 16, 18, 19]) (.leaf [16, 17, 18, 19])) 70)); rfl; (iterate 3 kernel_rfl); (focus (simp only [Plan.lists, pickL, List.getElem?_cons_zero, List.getElem?_cons_succ]; exact rfl)); intro hne; (try simp only [nes, ne1, and_assoc] at hne); (repeat (have hq := hne.1; replace hne := hne.2)); simp only [wPL]) | with_reducible refine both_go ?_ ?_ | (with_reducible first | refine Ql ?_ | refine Q2 ?_ | refine Qs ?_ | refine Q4 ?_ | (refine al_go ?_; intro b) | fail) | refine QL Tryz.call41 (hSS.out _) ?_ | refine Qc Tryz.call36 (hI.out _) ?_ | (with_reducible first | refine Q5 ?_ | (refine Q3a ?_; intro hb; try intro hb1) | (refine Q3b ?_; intro hb; try intro hb1) | (refine Q3 ?_ ?_ <;> intro hb <;> try intro hb1) | fail) | fail)
                        all_goals exact Qret
                  · have z3 : (ac != bc) = true := by rw [bne_iff_ne]; exact z2
                    rw [beq_eq_false_iff_ne.2 z2, Bool.false_and, Bool.and_false, Bool.false_and] at HS
                    subst HS
                    rw [Bool.false_and] at HE
                    have HF := HE.out
                    subst HF
                    clear hHH hGG HE
                    repeat' (first | (with_reducible first | refine Q1 ?_ | refine Qe ?_ | fail) | ((with_reducible apply (w_drawT (.node [0, 1, 2, 3, 4, 5, 6, 7, 8, 9, 10, 11, 12, 13, 14, 15] 16 17 (.leaf [17, 16, 18, 19]) (.leaf [16, 17, 18, 19])) 70)); rfl; (iterate 3 kernel_rfl); (focus (simp only [Plan.lists, pickL, List.getElem?_cons_zero, List.getElem?_cons_succ]; exact rfl)); intro hne; (try simp only [nes, ne1, and_assoc] at hne); (repeat (have hq := hne.1; replace hne := hne.2)); simp only [wPL]) | with_reducible refine both_go ?_ ?_ | (with_reducible first | refine Ql ?_ | refine Q2 ?_ | refine Qs ?_ | refine Q4 ?_ | (refine al_go ?_; intro b) | fail) | refine QL Tryz.call41 (hSS.out _) ?_ | refine Qc Tryz.call36 (hI.out _) ?_ | (with_reducible first | refine Q5 ?_ | (refine Q3a ?_; intro hb; try intro hb1) | (refine Q3b ?_; intro hb; try intro hb1) | (refine Q3 ?_ ?_ <;> intro hb <;> try intro hb1) | fail) | fail)
                    all_goals exact Qret
                · have z3 : (ak != bk) = true := by rw [bne_iff_ne]; exact z1
                  rw [beq_eq_false_iff_ne.2 z1, Bool.false_and, Bool.false_and] at HS
                  subst HS
                  rw [Bool.false_and] at HE
                  have HF := HE.out
                  subst HF
                  clear hHH hGG HE
                  repeat' (first | (with_reducible first | refine Q1 ?_ | refine Qe ?_ | fail) | ((with_reducible apply (w_drawT (.node [0, 1, 2, 3, 4, 5, 6, 7, 8, 9, 10, 11, 12, 13, 14, 15] 16 17 (.leaf [17, 16, 18, 19]) (.leaf [16, 17, 18, 19])) 70)); rfl; (iterate 3 kernel_rfl); (focus (simp only [Plan.lists, pickL, List.getElem?_cons_zero, List.getElem?_cons_succ]; exact rfl)); intro hne; (try simp only [nes, ne1, and_assoc] at hne); (repeat (have hq := hne.1; replace hne := hne.2)); simp only [wPL]) | with_reducible refine both_go ?_ ?_ | (with_reducible first | refine Ql ?_ | refine Q2 ?_ | refine Qs ?_ | refine Q4 ?_ | (refine al_go ?_; intro b) | fail) | refine QL Tryz.call41 (hSS.out _) ?_ | refine Qc Tryz.call36 (hI.out _) ?_ | (with_reducible first | refine Q5 ?_ | (refine Q3a ?_; intro hb; try intro hb1) | (refine Q3b ?_; intro hb; try intro hb1) | (refine Q3 ?_ ?_ <;> intro hb <;> try intro hb1) | fail) | fail)
                  all_goals exact Qret
            · have HS := HQ.out
              rw [List.drop_of_length_le (by omega), List.drop_of_length_le (by omega), Reg.all2] at HS
              subst HS
              have HF := HE.out
              rw [Bool.true_and] at HF
              replace HF := Lib.hid (hGG.out.trans HF)
              clear HQ HE hGG
              repeat' (with_reducible first | refine Q1 ?_ | refine Qe ?_ | refine Ql ?_ | refine Q2 ?_ | refine Qs ?_ | refine Q4 ?_ | (refine al_go ?_; intro b) | refine Q5 ?_ | (refine Q3a ?_; intro hb; try intro hb1) | (refine Q3b ?_; intro hb; try intro hb1) | (refine Q3 ?_ ?_ <;> intro hb <;> try intro hb1) | fail)
              refine ⟨i + 1, st, (by (repeat (first | exact List.Sublist.refl _ | apply List.Sublist.cons))), ⟨hlt, HF, ?_, ?_, ?_, ?_, rfl⟩, by omega⟩
              all_goals exact Qf
          · have hQf : Q = false := by
              cases Q with
              | false => rfl
              | true => exact absurd (Reg.all2_len _ _ hQ) hts
            subst hQf
            rw [Bool.false_and] at HE
            subst HE
            clear hGG hQ hd1 hd2
            have hts2 : ¬ (ts1.length : Int) = (ts2.length : Int) := by omega
            repeat' (first | (with_reducible first | refine Q1 ?_ | refine Qe ?_ | fail) | ((with_reducible refine w_drawRN ?_ ?_ ?_ ?_); (iterate 3 (focus kernel_rfl)); intro hne; simp only [nes, ne1, and_assoc] at hne; repeat (have hq := hne.1; replace hne := hne.2)) | (with_reducible first | refine Ql ?_ | refine Q2 ?_ | refine Qs ?_ | refine Q4 ?_ | (refine al_go ?_; intro b) | fail) | refine Qc Tryz.call41 (hF.out _) ?_ | (with_reducible first | refine Q5 ?_ | (refine Q3a ?_; intro hb; try intro hb1) | (refine Q3b ?_; intro hb; try intro hb1) | (refine Q3 ?_ ?_ <;> intro hb <;> try intro hb1) | fail) | fail)
            all_goals exact Qret
    · have HE := HT.out
      rw [List.drop_of_length_le (by omega), List.drop_of_length_le (by omega), Reg.all2] at HE
      subst HE
      clear HT
      repeat' (with_reducible first | refine Q1 ?_ | refine Qe ?_ | refine Ql ?_ | refine Q2 ?_ | refine Qs ?_ | refine Q4 ?_ | (refine al_go ?_; intro b) | refine Q5 ?_ | (refine Q3a ?_; intro hb; try intro hb1) | (refine Q3b ?_; intro hb; try intro hb1) | (refine Q3 ?_ ?_ <;> intro hb <;> try intro hb1) | fail)
      all_goals exact Qret
  · have hBf : B = false := by
      cases B with
      | false => rfl
      | true => exact absurd (Reg.all2_len _ _ hB) hlen
    subst hBf
    clear hB
    have hl2 : ¬ (a.length : Int) = (b.length : Int) := by omega
    clear hlen
    refine Qin [4] Tryz.func24 Tryz.results24 Tryz.ntmps24 ?_
    repeat' (with_reducible first | refine Q1 ?_ | refine Qe ?_ | refine Ql ?_ | refine Q2 ?_ | refine Qs ?_ | refine Q4 ?_ | (refine al_go ?_; intro b) | refine Q5 ?_ | (refine Q3a ?_; intro hb; try intro hb1) | (refine Q3b ?_; intro hb; try intro hb1) | (refine Q3 ?_ ?_ <;> intro hb <;> try intro hb1) | fail)
    all_goals exact Qret
end Go.Proofs.YtgcienlfpnpbgaaGreat
end
