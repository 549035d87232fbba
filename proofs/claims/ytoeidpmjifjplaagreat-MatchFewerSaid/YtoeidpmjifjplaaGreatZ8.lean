/- Texts put together. No statement is proved here. -/
import Derived.Shelf.SlSortCmp.NoneTotal
import Derived.Ground.SlsfProg
import Derived.MapKept
import Derived.Test.YtoeidpmjifjplaaGreatZ7
set_option linter.all false
set_option maxRecDepth 10000
set_option maxHeartbeats 8000000
namespace Go.Proofs.YtoeidpmjifjplaaGreat
open Go.RowKit
section
attribute [local push_cast] encB encI encC V.cells_mk V.cells_len Nat.mul_one Int.sub_zero List.map_nil beq_self_eq_true bne_self_eq_false List.head?_cons Bool.not_true Bool.not_false Nat.zero_add
def encM (x : List Int × List V) : List D := [.sl .shared (x.1.map encI), .sl .shared (x.2.map V.cells)]
theorem Yields.reach {P : Program} {l : Nat} {X : Type} {args : X → List D} {L : List X} {J Jx : Nat → St → Prop} (h : Yields P l args L J Jx) : ∀ (n i : Nat) (C : St), J i C → i + n ≤ L.length → (∃ C', J (i + n) C') ∨ ∃ i' C', Jx i' C'
 | 0, i, C, hJ, _ => .inl ⟨C, hJ⟩
 | n + 1, i, C, hJ, hl => by
  obtain ⟨x, hx⟩ := gEx (l := L) (i := i) q_o
  rcases h.1 i x C hx hJ with ⟨C', h'⟩ | ⟨C', h'⟩
  · rw [show i + (n + 1) = i + 1 + n by omega]
    exact h.reach n (i + 1) C' h' q_o
  · exact .inr ⟨_, _, h'⟩
theorem TrF.perm2 {P : Program} {f : FuncId} {args : List D} {st : St} {R R' : D → St → Prop} (h : TrF P f args st R) (hR : ∀ d s, R d s → ∃ s', s'.Perm s ∧ R' d s') : TrF P f args st R' := by
 intro vs w h1 h2
 refine (h vs w h1 h2).mono fun _ _ ⟨v, ev, d, s, k1, k2, k3, k4⟩ => ?_
 obtain ⟨s', q1, q2⟩ := hR d s k4
 have e' := OwnS.perm q1
 exact ⟨v, ev, d, s', by rw [e']; exact k1, k2.perm q1.symm, by rw [e']; exact k3, q2⟩
def fromCaps (x : Rl) (F : List Fc) (l b : Nat) : List D := [.ip x.cells, .ip [.fn (.yield l) [] []], .ip [.sl .shared (F.map Fc.cells)], .ptr b 0]
def fromR (x : Rl) (F : List Fc) (l b : Nat) : Res := .box b 153 [.fn (.func 88) [] (fromCaps x F l b)]
abbrev fromBox (b l : Nat) (nm : ByteArray) (sal : Int) (PS AS FS : List (List D)) : Res := .box b 153 [.fn (.func 88) [] [.ip [.str nm, .i sal, .sl .shared PS, .sl .shared AS], .ip [.fn (.yield l) [] []], .ip [.sl .shared FS], .ptr b 0]]
def FromQ (S : St → St) (J Jx : Nat → St → Prop) (n : Nat) (d : D) (st' : St) : Prop := (d = .b true ∧ ∃ C', st' = S C' ∧ J n C') ∨ (d = .b false ∧ ∃ i' C', st' = S C' ∧ Jx i' C')
theorem cloneIdsF (o : Own) (l : List Int) (hl : l.length ≤ 1000000) (st : St) : TrF Tryz.prog 89 [.sl o (l.map encI)] st fun d st' => d = .sl .shared (l.map encI) ∧ st' = st := by
 have hm : (l.map encI).length = l.length := List.length_map ..
 have h1 : ∀ e ∈ l.map encI, e.length = 1 := fun e he => by
  obtain ⟨x, -, rfl⟩ := List.mem_map.1 he
  rfl
 generalize l.map encI = L at *
 refine Qin [2] Tryz.func89 Tryz.results89 Tryz.ntmps89 ?_
 refine tr_room 3 1 0 ?_
 repeat' (first | refine QV ?_ | ((with_reducible apply s_isNil); (focus exact q_v); (focus exact q_v); intro bn hbn) | refine QY ?_ | (refine QB ?_; intro b) | (refine QP ?_; intro o' ho') | (with_reducible refine QZ ?_ <;> (try constructor) <;> intro hb <;> try intro hb1) | fail)
 · have h := hbn hb
   rw [h]
   clear hbn hb h
   exact Qret
 · exact Qret
theorem tl_app {K : St} : ∀ C : St, K ++ C = K ++ C := fun _ => rfl
theorem perm_fr2 {x y r : Res} {s : St} : (x :: y :: r :: s).Perm (r :: x :: y :: s) := ((List.Perm.swap _ _ _).cons _).trans (.swap _ _ _)
theorem perm_fr3 {a x y r : Res} {K C K' : St} : (a :: x :: y :: r :: ((K ++ C) ++ K')).Perm (r :: ((a :: x :: y :: (K ++ K')) ++ C)) := by
 have h : ((K ++ C) ++ K').Perm ((K ++ K') ++ C) := by
  rw [List.append_assoc, List.append_assoc]
  exact List.Perm.append_left K List.perm_append_comm
 refine (List.Perm.cons a perm_fr2).trans ((List.Perm.swap _ _ _).trans ?_)
 exact ((((h.cons y).cons x).cons a).cons r)
theorem fromLift {x : Rl} {F : List Fc} {l b : Nat} {args : List D} {J Jx : Nat → St → Prop} {n : Nat} {C : St} (h : ∀ K, TrF Tryz.prog 88 args (fromR x F l b :: (K ++ C)) (FromQ (fun C => fromR x F l b :: (K ++ C)) J Jx n)) (S : St → St) (K : St) (hS : ∀ C, (S C).Perm (fromR x F l b :: (K ++ C))) : TrF Tryz.prog 88 args (S C) (FromQ S J Jx n) := by
 refine ((h K).perm (hS C)).perm2 fun d s hq => ?_
 rcases hq with ⟨rfl, C', rfl, hJ⟩ | ⟨rfl, i', C', rfl, hJ⟩
 · exact ⟨S C', hS C', .inl ⟨rfl, C', rfl, hJ⟩⟩
 · exact ⟨S C', hS C', .inr ⟨rfl, i', C', rfl, hJ⟩⟩
theorem fromF (x : Rl) (F : List Fc) (hx : ∀ p ∈ x.pats, PK p) (hxl : x.pats.length ≤ 1000) (hF : FKs F) (l b : Nat) (L : List (List Int × List V)) (J Jx : Nat → St → Prop) (hY : Yields Tryz.prog l encM L J Jx) :
 ∀ (m k : Nat), k + m = x.pats.length → ∀ (ids : List Int) (env : List V) (i : Nat) (rest : List (List Int × List V)) (C : St), EK env → ids.length ≤ k → i ≤ L.length → L.drop i = Mat.from_ F (x.pats.drop k) ids env ++ rest → J i C → ∀ (o : Own) (K : St), TrF Tryz.prog 88 (.i k :: .sl o (ids.map encI) :: .sl .shared (env.map V.cells) :: fromCaps x F l b) (fromR x F l b :: (K ++ C)) (FromQ (fun C => fromR x F l b :: (K ++ C)) J Jx (i + (Mat.from_ F (x.pats.drop k) ids env).length))
 | 0, k, hk, ids, env, i, rest, C, he, hid, hi, hL, hJ, o, K => by
  have hpm : (x.pats.map Pt.cells).length = k := by rw [List.length_map]; omega
  have hCl := cloneIdsF o ids q_o
  have hdr : x.pats.drop k = [] := List.drop_of_length_le q_o
  rw [hdr, Mat.from_] at hL ⊢
  clear hdr
  have hx2 : L[i]? = some (ids, env) := by
   have h1 : (L.drop i)[0]? = some (ids, env) := by rw [hL]; rfl
   rwa [List.getElem?_drop, Nat.add_zero] at h1
  have hr := hY.reach 1 i C hJ (List.getElem?_eq_some_iff.1 hx2).1
  have HY := Lib.hid hY
  have HJ := Lib.hid hJ
  clear hY hJ hx hF hk hL he
  obtain ⟨y, hy⟩ : ∃ y, y = (ids, env) := ⟨_, rfl⟩
  have hye : encM y = [.sl .shared (ids.map encI), .sl .shared (env.map V.cells)] := by rw [hy]; rfl
  rw [← hy] at hx2
  clear hy
  show TrF _ _ _ _ (FromQ _ J Jx (i + 1))
  unfold FromQ fromR fromCaps Rl.cells at *
  generalize x.pats.map Pt.cells = PS at *
  generalize x.acts.map Ac.cells = AS at *
  generalize F.map Fc.cells = FS at *
  generalize ids.map encI = IS at *
  generalize env.map V.cells = EC at *
  replace hCl := Lib.hid hCl
  refine trF_enterG (G := cellA 10 4 Tryz.prog) Tryz.func88 rfl (by rw [Tryz.ntmps88]; exact Nat.le_of_ble_eq_true rfl) (fun h1 h2 h3 => res_cell rfl h1 h2 h3) ?_
  simp only [Tryz.ntmps88]
  repeat' (first | refine QV ?_ | ((with_reducible refine w_draw [] ?_ ?_ ?_ ?_ ?_); (iterate 3 (focus kernel_rfl)); (focus ((repeat (first | exact keep_nil | refine keep_more q_m ?_)); done))) | ((with_reducible refine And.intro ?_ ?_); (focus exact q_k)) | ((with_reducible apply (s_yield HY.out HJ.out hx2)); (focus exact q_v); (focus exact q_v); (focus (rw [hye]; first | exact LEL.refl _ | ((repeat' (first | exact LEL.nil | refine LEL.cons ?_ ?_ | exact LE.refl _ | exact LE.sl _ _ | refine LE.agg ?_)); done))); (focus exact tl_cons (tl_cons tl_app)); all_goals (intro C' hC')) | refine QY ?_ | (refine QB ?_; intro b) | (refine QP ?_; intro o' ho') | (with_reducible refine QZ ?_ <;> (try constructor) <;> intro hb <;> try intro hb1) | refine Qc Tryz.call89 ((hCl.out _)) ?_ | fail)
  all_goals exact retG_mk (rs := []) q_x q_y (List.Perm.refl _) (cell_mk q_v q_m q_v q_v) ((List.Sublist.refl _).cons _) (LE.refl _) (by first | exact .inl ⟨rfl, C', rfl, hC'⟩ | exact .inr ⟨rfl, _, C', rfl, hC'⟩)
 | m + 1, k, hk, ids, env, i, rest, C, he, hid, hi, hL, hJ, o, K => by
  have hpm : (x.pats.map Pt.cells).length = x.pats.length := List.length_map ..
  have hkl : k < x.pats.length := by omega
  obtain ⟨p, hp⟩ := gEx hkl
  have hpc : (x.pats.map Pt.cells)[k]? = some p.cells := by rw [List.getElem?_map, hp]; rfl
  have hPK := hx p (List.mem_of_getElem? hp)
  rw [V.drop_cons hp] at hL
  rw [V.drop_cons hp]
  rw [Mat.from_] at hL ⊢
  have IH := fromF x F hx hxl hF l b L J Jx hY m (k + 1) q_o
  by_cases hn : p.neg = true
  · rw [if_pos hn] at hL ⊢
    have hNo := matNoneF p F env hPK hF he
    by_cases h0 : Mat.passL p F env = []
    · rw [if_pos h0] at hL ⊢
      rw [decide_eq_true h0] at hNo
      have hrec := IH ids env i rest C he q_o hi hL hJ
      have hlen : i + (Mat.from_ F (x.pats.drop (k + 1)) ids env).length ≤ L.length := by
       have := congrArg List.length hL
       rw [List.length_drop, List.length_append] at this
       omega
      have hr := hY.reach _ i C hJ hlen
      generalize (Mat.from_ F (x.pats.drop (k + 1)) ids env).length = n at *
      have hR2 := fromLift (hrec o)
      have hE : Hid (∀ S : St → St, ∃ (d : D) (st' : St), FromQ S J Jx (i + n) d st') := fun S => by
       rcases hr with ⟨C', h⟩ | ⟨i', C', h⟩
       · exact ⟨_, _, .inl ⟨rfl, C', rfl, h⟩⟩
       · exact ⟨_, _, .inr ⟨rfl, i', C', rfl, h⟩⟩
      rw [show ((k + 1 : Nat) : Int) = (k : Int) + 1 by omega] at hR2
      clear IH hL hY hx hF he hrec hr hJ
      unfold FromQ fromR fromCaps Rl.cells at *
      generalize x.pats.map Pt.cells = PS at *
      unfold Pt.cells at hpc hNo
      rw [hn] at hpc hNo
      generalize p.tests.map Ts.cells = TS at *
      generalize x.acts.map Ac.cells = AS at *
      generalize F.map Fc.cells = FS at *
      generalize ids.map encI = IS at *
      generalize env.map V.cells = EC at *
      replace hNo := Lib.hid hNo
      replace hR2 := Lib.hid hR2
      refine trF_enterG (G := cellA 10 4 Tryz.prog) Tryz.func88 rfl (by rw [Tryz.ntmps88]; exact Nat.le_of_ble_eq_true rfl) (fun h1 h2 h3 => res_cell rfl h1 h2 h3) ?_
      simp only [Tryz.ntmps88]
      repeat' (first | refine QX ?_ | (refine QB ?_; intro b) | (refine QP ?_; intro o' ho') | (with_reducible refine QZ ?_ <;> (try constructor) <;> intro hb <;> try intro hb1) | refine Qc Tryz.call90 ((hNo.out _)) ?_ | ((with_reducible apply (ck_gen Tryz.call88)); (focus exact List.Perm.refl _); (focus exact hR2.out (fun C => .box _ _ _ :: .box _ _ _ :: .box _ _ _ :: (K ++ C)) (.box _ _ _ :: .box _ _ _ :: K) (fun C => perm_fr2)); (focus exact q_l); (focus exact hE.out _); (rintro d st' (⟨rfl, C', rfl, hJ'⟩ | ⟨rfl, i', C', rfl, hJ'⟩) <;> (try dsimp only))) | fail)
      all_goals exact retG_mk (rs := []) q_x q_y (List.Perm.refl _) (cell_mk q_v q_m q_v q_v) (((List.Sublist.refl _).cons _).cons _) (LE.refl _) (by first | exact .inl ⟨rfl, C', rfl, hJ'⟩ | exact .inr ⟨rfl, _, C', rfl, hJ'⟩)
    · rw [if_neg h0] at hL ⊢
      rw [decide_eq_false h0] at hNo
      clear IH hL hY hx hF he
      show TrF _ _ _ _ (FromQ _ J Jx (i + 0))
      rw [Nat.add_zero]
      unfold FromQ fromR fromCaps Rl.cells at *
      generalize x.pats.map Pt.cells = PS at *
      unfold Pt.cells at hpc hNo
      rw [hn] at hpc hNo
      generalize p.tests.map Ts.cells = TS at *
      generalize x.acts.map Ac.cells = AS at *
      generalize F.map Fc.cells = FS at *
      generalize ids.map encI = IS at *
      generalize env.map V.cells = EC at *
      replace hNo := Lib.hid hNo
      replace hJ := Lib.hid hJ
      refine trF_enterG (G := cellA 10 4 Tryz.prog) Tryz.func88 rfl (by rw [Tryz.ntmps88]; exact Nat.le_of_ble_eq_true rfl) (fun h1 h2 h3 => res_cell rfl h1 h2 h3) ?_
      simp only [Tryz.ntmps88]
      repeat' (first | refine QX ?_ | (refine QB ?_; intro b) | (refine QP ?_; intro o' ho') | (with_reducible refine QZ ?_ <;> (try constructor) <;> intro hb <;> try intro hb1) | refine Qc Tryz.call90 ((hNo.out _)) ?_ | fail)
      all_goals exact retG_mk (rs := []) q_x q_y (List.Perm.refl _) (cell_mk q_v q_m q_v q_v) (((List.Sublist.refl _).cons _).cons _) (LE.refl _) (.inl ⟨rfl, C, rfl, hJ.out⟩)
  · rw [if_neg hn] at hL ⊢
    have hnf : p.neg = false := by simpa using hn
    have hPa := matPassingF p F env
    have hIt := passIter p F env hPK hF he
    obtain ⟨Lp, hLp⟩ : ∃ Lp, Mat.passL p F env = Lp := ⟨_, rfl⟩
    have hmem : Hid (∀ y ∈ Lp, EK y.2) := fun y hy => by
     rw [← hLp] at hy
     unfold Mat.passL at hy
     obtain ⟨f, hf, h2⟩ := List.mem_filterMap.1 hy
     cases hpf : Mat.pass p f env with
     | none => rw [hpf] at h2; cases h2
     | some e =>
      rw [hpf] at h2
      cases h2
      exact ⟨Mat.pass_mem hpf (fun x hx => ((hF.f f hf).v x hx).1.bg) he.v, by rw [Mat.pass_len hpf]; omega⟩
    rw [hLp] at hL hIt ⊢
    obtain ⟨g, hg⟩ : ∃ g : Int × List V → List (List Int × List V), g = fun y => Mat.from_ F (x.pats.drop (k + 1)) (ids ++ [y.1]) y.2 := ⟨_, rfl⟩
    rw [← hg] at hL ⊢
    obtain ⟨off, hoff⟩ : ∃ off : Nat → Nat, off = fun j => ((Lp.take j).flatMap g).length := ⟨_, rfl⟩
    have hoff0 : off 0 = 0 := by rw [hoff]; rfl
    have hoffL : off Lp.length = (Lp.flatMap g).length := by rw [hoff]; dsimp only; rw [List.take_length]
    have hoffn : Hid (∀ (j : Nat) (y : Int × List V), Lp[j]? = some y → off (j + 1) = off j + (g y).length) := fun j y h => by
     rw [hoff]
     dsimp only
     rw [List.take_add_one, h, Option.toList_some, List.flatMap_append, List.length_append, List.flatMap_cons, List.flatMap_nil, List.append_nil]
    have hdrop : Hid (∀ (j : Nat) (y : Int × List V), Lp[j]? = some y → L.drop (i + off j) = g y ++ ((Lp.drop (j + 1)).flatMap g ++ rest)) := fun j y h => by
     rw [← List.drop_drop, hL]
     have h1 : Lp.flatMap g = (Lp.take j).flatMap g ++ (g y ++ (Lp.drop (j + 1)).flatMap g) := by
      rw [← List.flatMap_cons, ← V.drop_cons h, ← List.flatMap_append, List.take_append_drop]
     rw [h1, List.append_assoc, hoff]
     dsimp only
     rw [List.drop_left, List.append_assoc]
    have hle : Hid (∀ (j : Nat) (y : Int × List V), Lp[j]? = some y → i + off (j + 1) ≤ L.length) := fun j y h => by
     have h1 := congrArg List.length (hdrop.out j y h)
     rw [List.length_drop, List.length_append] at h1
     have h2 := hoffn.out j y h
     have h3 : i + off j ≤ L.length := by
      have h4 := congrArg List.length hL
      rw [List.length_drop, List.length_append] at h4
      have h5 : off j ≤ (Lp.flatMap g).length := by
       rw [hoff]
       dsimp only
       conv => rhs; rw [← List.take_append_drop j Lp, List.flatMap_append, List.length_append]
       omega
      omega
     omega
    have hrec : Hid (∀ (j : Nat) (y : Int × List V) (C1 : St), Lp[j]? = some y → J (i + off j) C1 → ∀ (o : Own) (S : St → St) (K : St), (∀ C, (S C).Perm (fromR x F l b :: (K ++ C))) → TrF Tryz.prog 88 (.i ((k : Int) + 1) :: .sl o (ids.map encI ++ [[.i y.1]]) :: .sl .shared (y.2.map V.cells) :: fromCaps x F l b) (S C1) (FromQ S J Jx (i + off (j + 1)))) := fun j y C1 h hJ1 o S K hS => by
     have h1 := hdrop.out j y h
     rw [hg] at h1
     have h2 := fun K => IH (ids ++ [y.1]) y.2 (i + off j) _ C1 (hmem.out y (List.mem_of_getElem? h)) (by rw [List.length_append]; exact Nat.succ_le_succ hid) (by have := hle.out j y h; have := hoffn.out j y h; omega) h1 hJ1 o K
     rw [show ((k + 1 : Nat) : Int) = (k : Int) + 1 by omega, List.map_append, List.map_cons, List.map_nil, show (Mat.from_ F (x.pats.drop (k + 1)) (ids ++ [y.1]) y.2) = g y by rw [hg]] at h2
     have h3 := fromLift h2 S K hS
     rw [hoffn.out j y h, ← Nat.add_assoc]
     exact h3
    have hre : Hid (∀ (j : Nat) (y : Int × List V) (C1 : St), Lp[j]? = some y → J (i + off j) C1 → (∃ C', J (i + off (j + 1)) C') ∨ ∃ i' C', Jx i' C') := fun j y C1 h hJ1 => by
     have h1 := hY.reach (g y).length (i + off j) C1 hJ1 (by have := hle.out j y h; have := hoffn.out j y h; omega)
     rw [hoffn.out j y h, ← Nat.add_assoc]
     exact h1
    rw [← hoffL]
    have hJ2 : Hid (J (i + off 0) C) := by rw [hoff0]; exact hJ
    clear IH hL hY hx hF he hJ hdrop hle hmem hLp hoff hoff0 hoffL hoffn hg
    unfold FromQ fromR fromCaps Rl.cells at *
    generalize passCaps p F env = pcaps at *
    generalize x.pats.map Pt.cells = PS at *
    unfold Pt.cells at hpc hPa
    rw [hnf] at hpc hPa
    generalize p.tests.map Ts.cells = TS at *
    generalize x.acts.map Ac.cells = AS at *
    generalize F.map Fc.cells = FS at *
    have hIl : (ids.map encI).length ≤ 1000 := by rw [List.length_map]; omega
    have hall : (ids.map encI).all (fun e => e.length == 1) = true := List.all_eq_true.2 fun e he => by
     obtain ⟨x, -, rfl⟩ := List.mem_map.1 he
     rfl
    have hI1 : ∀ e ∈ ids.map encI, e.length = 1 := fun e he => by
     obtain ⟨x, -, rfl⟩ := List.mem_map.1 he
     rfl
    generalize ids.map encI = IS at *
    generalize env.map V.cells = EC at *
    replace hPa := Lib.hid hPa
    replace hIt := Lib.hid hIt
    refine trF_enterG (G := cellA 10 4 Tryz.prog) Tryz.func88 rfl (by rw [Tryz.ntmps88]; exact Nat.le_of_ble_eq_true rfl) (fun h1 h2 h3 => res_cell rfl h1 h2 h3) ?_
    simp only [Tryz.ntmps88]
    repeat' (first | refine QX ?_ | (refine QB ?_; intro b) | (refine QP ?_; intro o' ho') | (with_reducible refine QZ ?_ <;> (try constructor) <;> intro hb <;> try intro hb1) | refine Qc Tryz.call91 ((hPa.out _)) ?_ | fail)
    rename_i b0 b10
    generalize x.name = nm at *
    generalize x.sal = sal at *
    obtain ⟨PC, hPC⟩ : ∃ PC, PC = [D.i p.tmpl, D.b false, D.sl .shared TS] := ⟨_, rfl⟩
    refine tr_perm (st' := [] ++ (.box b 39 PC :: .box b10 4 [.b false] :: fromBox b0 l nm sal PS AS FS :: (K ++ C))) (by rw [hPC]; exact .refl _) ?_
    refine tr_rangeS hIt.out Tryz.call128 q_v (fun _ => rfl) rfl (fun j Cc => ∃ C1, Cc = .box b 39 PC :: .box b10 4 [.b false] :: fromBox b0 l nm sal PS AS FS :: (K ++ C1) ∧ J (i + off j) C1) (fun c j Cc => c = Code.ret ∧ ∃ C1 i', Cc = .box b 39 PC :: .box b10 4 [.b false] :: fromBox b0 l nm sal PS AS FS :: (K ++ C1) ∧ Jx i' C1) ⟨C, rfl, hJ2.out⟩ ?_ ?_ ?_ ?_
    · rintro j y Cc hy ⟨C1, rfl, hJ1⟩
      rcases hre.out j y C1 hy hJ1 with ⟨C', h⟩ | ⟨i', C', h⟩
      · exact .inl ⟨_, C', rfl, h⟩
      · exact .inr ⟨_, _, rfl, C', i', rfl, h⟩
    · rintro l2 j ⟨y0, ev⟩ Cc K2 hy ⟨C1, rfl, hJ1⟩
      have hR2 := hrec.out j (y0, ev) C1 hy hJ1
      have hr := hre.out j (y0, ev) C1 hy hJ1
      have hE : Hid (∀ S : St → St, ∃ (d : D) (st' : St), (d = .b true ∧ ∃ C', st' = S C' ∧ J (i + off (j + 1)) C') ∨ (d = .b false ∧ ∃ i' C', st' = S C' ∧ Jx i' C')) := fun S => by
       rcases hr with ⟨C', h⟩ | ⟨i', C', h⟩
       · exact ⟨_, _, .inl ⟨rfl, C', rfl, h⟩⟩
       · exact ⟨_, _, .inr ⟨rfl, i', C', rfl, h⟩⟩
      dsimp only at hR2
      have hEV : (ev.map V.cells) = ev.map V.cells := rfl
      clear hrec hre hIt hPa hy hr hJ2 hJ1
      generalize hev : ev.map V.cells = EV at *
      replace hR2 := Lib.hid hR2
      refine (?_ : Tr _ _ _ _ (AA.put (AA.put ⟨_, []⟩ (some 48) (.i y0)) (some 49) (.sl .shared (ev.map V.cells))) (.box b 39 PC :: .box b10 4 [.b false] :: fromBox b0 l nm sal PS AS FS :: ((K ++ C1) ++ K2)) _)
      rw [hev]
      clear hev hEV
      repeat' (first | refine QX ?_ | (refine QB ?_; intro b) | (refine QP ?_; intro o' ho') | (with_reducible refine QZ ?_ <;> (try constructor) <;> intro hb <;> try intro hb1) | fail)
      refine ⟨.box b 39 PC :: .box b10 4 [.b false] :: fromBox b0 l nm sal PS AS FS :: (K ++ C1), List.Sublist.refl _, fun K3 => ?_⟩
      clear K2
      refine (?_ : Tr _ _ _ _ _ (.box b 39 PC :: .box b10 4 [.b false] :: fromBox b0 l nm sal PS AS FS :: ((K ++ C1) ++ K3)) _)
      have htl : List.take IS.length IS = IS := List.take_length
      refine tr_room 3 1 IS.length ?_
      repeat' (first | refine QV ?_ | ((with_reducible refine w_draw [(b0, [.fn (.func 88) [] [.ip [.str nm, .i sal, .sl .shared PS, .sl .shared AS], .ip [.fn (.yield l) [] []], .ip [.sl .shared FS], .ptr b0 0]])] ?_ ?_ ?_ ?_ ?_); (iterate 3 (focus kernel_rfl)); (focus ((repeat (first | exact keep_nil | refine keep_more q_m ?_)); done))) | ((with_reducible refine And.intro ?_ ?_); (focus exact q_k)) | ((with_reducible apply s_sliceT); (focus exact q_v); (focus exact q_v); (focus exact q_v)) | refine QY ?_ | (refine QB ?_; intro b) | (refine QP ?_; intro o' ho') | (with_reducible refine QZ ?_ <;> (try constructor) <;> intro hb <;> try intro hb1) | ((with_reducible apply (ck_gen Tryz.call88)); (focus exact List.Perm.refl _); (focus exact hR2.out o' (fun C => .room _ _ _ _ :: .box _ _ _ :: .box _ _ _ :: .box _ _ _ :: ((K ++ C) ++ K3)) (.room _ _ _ _ :: .box _ _ _ :: .box _ _ _ :: (K ++ K3)) (fun C => perm_fr3)); (focus exact q_l); (focus exact hE.out _); (rintro d st' (⟨rfl, C', rfl, hJ'⟩ | ⟨rfl, i', C', rfl, hJ'⟩) <;> (try dsimp only))) | fail)
      · exact ⟨_, (List.Sublist.refl _).cons _, C', rfl, hJ'⟩
      · exact ⟨_, (List.Sublist.refl _).cons _, rfl, C', i', rfl, hJ'⟩
    · rintro d K1 C' rfl ⟨C1, rfl, hJ1⟩
      clear hrec hre hIt hPa hJ2
      change Tr _ _ _ _ _ _ _
      refine tr_perm (st' := markR d :: .box b 39 PC :: .box b10 4 [.b false] :: fromBox b0 l nm sal PS AS FS :: (K ++ C1)) (.refl _) ?_
      repeat' (first | refine QX ?_ | (refine QB ?_; intro b) | (refine QP ?_; intro o' ho') | (with_reducible refine QZ ?_ <;> (try constructor) <;> intro hb <;> try intro hb1) | fail)
      exact retG_mk (rs := [d]) (by simp) q_y (by repeat (first | exact out_here | apply out_there)) (cell_mk q_v q_m q_v q_v) (((List.Sublist.refl _).cons _).cons _) (LE.refl _) (.inl ⟨rfl, C1, rfl, hJ1⟩)
    · rintro c d j K1 C' rfl ⟨rfl, C1, i', rfl, hJ1⟩
      clear hrec hre hIt hPa hJ2
      change Tr _ _ _ _ _ _ _
      refine tr_perm (st' := markR d :: .box b 39 PC :: .box b10 4 [.b false] :: fromBox b0 l nm sal PS AS FS :: (K ++ C1)) (.refl _) ?_
      repeat' (first | refine QX ?_ | (refine QB ?_; intro b) | (refine QP ?_; intro o' ho') | (with_reducible refine QZ ?_ <;> (try constructor) <;> intro hb <;> try intro hb1) | fail)
      exact retG_mk (rs := [d]) (by simp) q_y (by repeat (first | exact out_here | apply out_there)) (cell_mk q_v q_m q_v q_v) (((List.Sublist.refl _).cons _).cons _) (LE.refl _) (.inr ⟨rfl, i', C1, rfl, hJ1⟩)
end
section
attribute [local push_cast] encB encI encC V.cells_mk V.cells_len Nat.mul_one Int.sub_zero List.map_nil beq_self_eq_true bne_self_eq_false List.head?_cons Bool.not_true Bool.not_false Nat.zero_add
section
variable {P : Program} {r : Option Nat} {A : AA} {st : St} {m : Option Ro} {k : D → St → Prop} {dst : Option Tmp} {ty : TypeId} {pos : String} {aft : Array Edge} {gd : Option (Nat × Bool)} {w : World}
def rowZ (P : Program) (t : TypeId) : Option (TypeId × Nat × Nat × List Value) := (tinfo P t).bind fun ti => match ti.k with
 | .slice el sz bytes z => if z.all zOk = true then some (el, sz, bytes, z) else none
 | _ => none
theorem rowZ_spec {t el : TypeId} {sz bytes : Nat} {z : List Value} (h : rowZ P t = some (el, sz, bytes, z)) : P.underlying t = some (.slice el) ∧ ∃ i zv, P.info? el = some i ∧ i.zero = some zv ∧ zv.cells.size = i.size ∧ 0 < i.size ∧ i.size = sz ∧ i.bytes = bytes ∧ zv.cells.toList = z ∧ ∀ v ∈ zv.cells.toList, zOk v = true := by
 unfold rowZ at h
 cases ht : tinfo P t with
 | none => rw [ht] at h; cases h
 | some ti =>
  rw [ht, Option.bind_some] at h
  split at h
  · rename_i el' sz' bytes' z hk
    split at h
    · rename_i hz
      cases h
      obtain ⟨hu, ii, zv, q1, q2, q3, q4, q5, q6, q7⟩ := (und_of_k ht).2.2.2.2.1 _ _ _ _ hk
      subst q4
      exact ⟨hu, ii, zv, q1, q2, q7, q6, rfl, q5, q3, by rw [q3]; exact List.all_eq_true.1 hz⟩
    · cases h
  · cases h
def MkN (m : Option Ro) (q : TypeId × Nat × Nat × List Value) (p : D × D) (st : St) (k : D → St → Prop) : Prop :=
 ∃ (kl kc : IntKind) (n : Nat), p = (.s (.int kl n), .s (.int kc n)) ∧ n * q.2.2.1 ≤ 140737488355328 ∧ n ≤ 140737488355328 ∧ ∀ g, Keep m (.box g q.1 (((List.replicate n (q.2.2.2.map leafD)).flatten).map D.sh) :: st) ∧ k (.ar g 0 n n) (.box g q.1 (((List.replicate n (q.2.2.2.map leafD)).flatten).map D.sh) :: st)
theorem mkN_go {el : TypeId} {sz bytes n : Nat} {z : List Value} {kl kc : IntKind} {cs : List D} (h1 : n * bytes ≤ 140737488355328) (h2 : n ≤ 140737488355328) (hc : ((List.replicate n (z.map leafD)).flatten).map D.sh = cs) (h : ∀ g, Keep m (.box g el cs :: st) ∧ k (.ar g 0 n n) (.box g el cs :: st)) : MkN m (el, sz, bytes, z) (.s (.int kl n), .s (.int kc n)) st k := by
 subst hc
 exact ⟨kl, kc, n, rfl, h1, h2, h⟩
theorem s_makeN {t : TypeId} {x y : Operand} (h : Ev (pairX (ev A.e x) (ev A.e y)) fun p => Ev (rowZ P t) fun q => MkN m q p st k) : S P r m ⟨dst, .makeSlice t x y, ty, pos, aft, gd⟩ A st k := by
 obtain ⟨p, h1, ⟨el, sz, bytes, z⟩, h2, kl, kc, n, rfl, h3, h4, h5⟩ := h
 unfold pairX at h1
 split at h1
 · rename_i d d' hx hy
   cases h1
   dsimp only at h3 h4 h5
   refine s_chain (R := fun d st' => ∃ g, d = .ar g 0 n n ∧ st' = .box g el (((List.replicate n (z.map leafD)).flatten).map D.sh) :: st) rfl ?_ ⟨_, _, 0, rfl, rfl⟩ fun d st' ⟨g, e1, e2⟩ => by subst e1 e2; exact h5 g
   refine opC_val (by intro c hc; cases hc) fun ρ w hr hh => .inl ?_
   have hv1 := rep_s (hr _ (by simp [Op.operands]) _ hx)
   have hv2 := rep_s (hr _ (by simp [Op.operands]) _ hy)
   obtain ⟨q1, i, zv, q2, q3, q4, q5, q6, q7, q9, q8⟩ := rowZ_spec h2
   have hby : (i.bytes : Int) * (n : Int) ≤ 281474976710656 := by
    rw [q7, ← Int.natCast_mul, Nat.mul_comm]; omega
   have hrun := run_make (P := P) w t el i zv q1 q2 q3 kl kc n n q_o (Int.le_refl _) hby q_o
   rw [Int.toNat_natCast] at hrun
   have hzs : 0 < zv.cells.size := by omega
   have hcl : (madeCells zv.cells (n * i.size)).toList = (List.replicate n zv.cells.toList).flatten := by
    rw [← q4]; exact range_rep _ hzs n
   have hna : zv.cells.toList.all noAgg = true := List.all_eq_true.2 fun v hv => by
    have := q8 v hv
    unfold zOk at this
    rw [Bool.and_eq_true] at this
    exact this.1
   have hrep : RepL (OwnS st) w (madeCells zv.cells (n * i.size)).toList (((List.replicate n (z.map leafD)).flatten).map D.sh) := by
    rw [hcl, ← q9]; exact (rep_zero hna n).sh
   obtain ⟨k1, k2⟩ := new_box hh el hrep (fun d hd => by
    obtain ⟨d', hd', rfl⟩ := List.mem_map.1 hd
    rw [D.leaf_sh]
    obtain ⟨l, hl, hdl⟩ := List.mem_flatten.1 hd'
    rw [(List.mem_replicate.1 hl).2] at hdl
    obtain ⟨v, hv, rfl⟩ := List.mem_map.1 hdl
    have := q8 v (by rw [q9]; exact hv)
    unfold zOk at this
    rw [Bool.and_eq_true] at this
    exact this.2)
   refine ⟨_, _, ?_, _, _, .ar w.heap.size 0 n n (Nat.le_refl _) (by unfold maxLen; omega), k1, k2, ⟨_, rfl, rfl⟩⟩
   unfold execOp
   simp only [hv1, hv2, Sem.run_bind, hrun, Result.andThen_ok, Sem.run_pure]
 · cases h1
end
theorem empty_row : rowC Mat.empty = [.i 0, .i 0, .str ⟨#[]⟩, .sl .shared [], .i 0, .i 0, .str ⟨#[]⟩, .sl .shared [], .i 0, .i 0, .str ⟨#[]⟩, .sl .shared [], .i 0, .i 0, .str ⟨#[]⟩, .sl .shared [], .i 0, .i 0, .str ⟨#[]⟩, .sl .shared [], .i 0, .i 0, .str ⟨#[]⟩, .sl .shared [], .i 0, .i 0, .str ⟨#[]⟩, .sl .shared [], .i 0, .i 0, .str ⟨#[]⟩, .sl .shared []] := by
 unfold rowC Mat.empty V.zero
 simp only [List.replicate, List.map_cons, List.map_nil, V.cells_mk]
 rfl
theorem emptyRest {fn : FuncId} {st : St} (h : TrF Tryz.prog fn [] st fun d st' => ∃ g cap zs, d = .ar g 0 8 cap ∧ st' = .box g 30 (rowC Mat.empty ++ zs) :: st) : TrF Tryz.prog fn [] st fun d st' => d = .sl .shared (Mat.empty.map V.cells) ∧ st' = st :=
 h.freeze (sz := 4) (by decide) (rowC_each _) rfl
theorem matEmptyF (st : St) : TrF Tryz.prog 20 [] st fun d st' => d = .sl .shared (Mat.empty.map V.cells) ∧ st' = st := by
 refine emptyRest ?_
 refine Qin [0] Tryz.func20 Tryz.results20 Tryz.ntmps20 ?_
 repeat' (first | refine QV ?_ | with_reducible refine s_makeN ?_ | ((apply (mkN_go (n := 8) (cs := rowC Mat.empty))); (focus exact Nat.le_of_ble_eq_true rfl); (focus decide); (focus (rw [empty_row]; rfl)); intro g) | refine QY ?_ | (refine QB ?_; intro b) | (with_reducible refine QZ ?_ <;> (try constructor) <;> intro hb <;> try intro hb1) | fail)
 all_goals exact retA_mk (by simp) q_y (List.Sublist.refl _) (LE.of_eq q_v) ⟨g, 8, [], rfl, by rw [List.append_nil]⟩
theorem refEmpty18F (st : St) : TrF Tryz.prog 21 [] st fun d st' => d = .sl .shared (Mat.empty.map V.cells) ∧ st' = st := by
 refine emptyRest ?_
 refine Qin [0] Tryz.func21 Tryz.results21 Tryz.ntmps21 ?_
 repeat' (first | refine QV ?_ | with_reducible refine s_makeN ?_ | ((apply (mkN_go (n := 8) (cs := rowC Mat.empty))); (focus exact Nat.le_of_ble_eq_true rfl); (focus decide); (focus (rw [empty_row]; rfl)); intro g) | refine QY ?_ | (refine QB ?_; intro b) | (with_reducible refine QZ ?_ <;> (try constructor) <;> intro hb <;> try intro hb1) | fail)
 all_goals exact retA_mk (by simp) q_y (List.Sublist.refl _) (LE.of_eq q_v) ⟨g, 8, [], rfl, by rw [List.append_nil]⟩
theorem empty_ek : EK Mat.empty := ⟨fun v hv => by
 rw [(List.mem_replicate.1 hv).2]
 unfold V.zero
 exact .mk (Nat.zero_le _) (Nat.zero_le _) (fun x hx => by cases hx), by unfold Mat.empty; rw [List.length_replicate]; decide⟩
end
section
attribute [local push_cast] encB encI encC V.cells_mk V.cells_len Nat.mul_one Int.sub_zero List.map_nil beq_self_eq_true bne_self_eq_false List.head?_cons Bool.not_true Bool.not_false Nat.zero_add
structure XK (x : Rl) : Prop where
 p : ∀ p ∈ x.pats, PK p
 l : x.pats.length ≤ 1000
theorem matMatchesF (x : Rl) (F : List Fc) (st : St) : TrF Tryz.prog 56 [.agg x.cells, .sl .shared (F.map Fc.cells)] st fun d st' => d = .fn (.func 87) [] [.ip x.cells, .ip [.sl .shared (F.map Fc.cells)]] ∧ st' = st := by
 unfold Rl.cells
 generalize x.pats.map Pt.cells = PS at *
 generalize x.acts.map Ac.cells = AS at *
 generalize F.map Fc.cells = FS at *
 refine Qin [4] Tryz.func56 Tryz.results56 Tryz.ntmps56 ?_
 exact WR
theorem matIter (x : Rl) (F : List Fc) (hx : XK x) (hF : FKs F) : IterC Tryz.prog 87 [.ip x.cells, .ip [.sl .shared (F.map Fc.cells)]] encM (Mat.mats x F) [] (fun K => K = []) (fun _ K => K = []) := by
 intro l C J Jx hY hJ
 have hEm := Lib.hid matEmptyF
 have hfr := fun b o => fromF x F hx.p hx.l hF l b (Mat.mats x F) J Jx hY x.pats.length 0 q_o [] Mat.empty 0 [] C empty_ek (Nat.zero_le _) (Nat.zero_le _) (by rw [List.drop_zero, List.drop_zero, List.append_nil]; rfl) hJ o
 have hr := hY.reach (Mat.mats x F).length 0 C hJ q_o
 rw [Nat.zero_add] at hr
 have hlen : 0 + (Mat.from_ F (x.pats.drop 0) [] Mat.empty).length = (Mat.mats x F).length := by rw [Nat.zero_add]; rfl
 rw [hlen] at hfr
 have hR2 := fun b o => fromLift (hfr b o) (fun C => fromR x F l b :: C) [] (fun C => .refl _)
 have hE : Hid (∀ S : St → St, ∃ (d : D) (st' : St), (d = .b true ∧ ∃ C', st' = S C' ∧ J (Mat.mats x F).length C') ∨ (d = .b false ∧ ∃ i' C', st' = S C' ∧ Jx i' C')) := fun S => by
  rcases hr with ⟨C', h⟩ | ⟨i', C', h⟩
  · exact ⟨_, _, .inl ⟨rfl, C', rfl, h⟩⟩
  · exact ⟨_, _, .inr ⟨rfl, i', C', rfl, h⟩⟩
 clear hY hJ hfr hr hlen hx hF
 unfold FromQ fromR fromCaps Rl.cells at *
 generalize (Mat.mats x F).length = n at *
 generalize x.pats.map Pt.cells = PS at *
 generalize x.acts.map Ac.cells = AS at *
 generalize F.map Fc.cells = FS at *
 generalize Mat.empty.map V.cells = EC at *
 generalize x.name = nm at *
 generalize x.sal = sal at *
 replace hR2 := Lib.hid hR2
 refine Qin [] Tryz.func87 Tryz.results87 Tryz.ntmps87 ?_
 refine tr_perm (st' := C) (.refl _) ?_
 repeat' (first | refine QV ?_ | ((with_reducible refine w_draw [(b, [.fn (.func 88) [] [.ip [.str nm, .i sal, .sl .shared PS, .sl .shared AS], .ip [.fn (.yield l) [] []], .ip [.sl .shared FS], .ptr b 0]])] ?_ ?_ ?_ ?_ ?_); (iterate 3 (focus kernel_rfl)); (focus ((repeat (first | exact keep_nil | refine keep_more q_m ?_)); done))) | ((with_reducible refine And.intro ?_ ?_); (focus exact q_k)) | refine QY ?_ | (refine QB ?_; intro b) | (with_reducible refine QZ ?_ <;> (try constructor) <;> intro hb <;> try intro hb1) | refine Qc Tryz.call20 ((hEm.out _)) ?_ | ((with_reducible apply (ck_gen Tryz.call88)); (focus exact List.Perm.refl _); (focus exact hR2.out b .tight); (focus exact q_l); (focus exact hE.out _); (rintro d st' (⟨rfl, C', rfl, hJ'⟩ | ⟨rfl, i', C', rfl, hJ'⟩) <;> (try dsimp only))) | fail)
 all_goals first
  | exact retA_mk q_x q_y ((List.Sublist.refl _).cons _) (LE.refl _) ⟨[], C', rfl, .inl ⟨rfl, hJ'⟩⟩
  | exact retA_mk q_x q_y ((List.Sublist.refl _).cons _) (LE.refl _) ⟨[], C', rfl, .inr ⟨_, rfl, hJ'⟩⟩
theorem slicesEqF (o o' : Own) (a b : List Int) (ha : a.length ≤ 1000000) (st : St) : TrF Tryz.prog 60 [.sl o (a.map encI), .sl o' (b.map encI)] st fun d st' => d = .b (decide (a = b)) ∧ st' = st := by
 have hma : (a.map encI).length = a.length := List.length_map ..
 have hmb : (b.map encI).length = b.length := List.length_map ..
 have hca : Hid (∀ (i : Nat) (v : Int), a[i]? = some v → (a.map encI)[i]? = some [.i v]) := fun i v h => by rw [List.getElem?_map, h]; rfl
 have hcb : Hid (∀ (i : Nat) (v : Int), b[i]? = some v → (b.map encI)[i]? = some [.i v]) := fun i v h => by rw [List.getElem?_map, h]; rfl
 obtain ⟨B, hB⟩ : ∃ B, decide (a = b) = B := ⟨_, rfl⟩
 have hne : Hid (a ≠ b → B = false) := fun h => by rw [← hB]; exact decide_eq_false h
 have heq : Hid (a = b → B = true) := fun h => by rw [← hB]; exact decide_eq_true h
 rw [hB]
 clear hB
 generalize a.map encI = AC at *
 generalize b.map encI = BC at *
 by_cases hlen : a.length = b.length
 · have hlen2 : b.length = a.length := hlen.symm
   replace hlen := Lib.hid hlen
   refine Qin [4] Tryz.func60 Tryz.results60 Tryz.ntmps60 ?_
   repeat' (first | refine QX ?_ | (refine QB ?_; intro b) | (refine QP ?_; intro o' ho') | (with_reducible refine QZ ?_ <;> (try constructor) <;> intro hb <;> try intro hb1) | fail)
   refine tr_loop (ι := Nat) (fun i A st' => i ≤ a.length ∧ Hid (a.take i = b.take i) ∧ A.df = [] ∧ A.e 0 = .sl o AC ∧ A.e 1 = .sl o' BC ∧ A.e 12 = .i a.length ∧ A.e 13 = .i i ∧ st = st') (fun i => a.length - i) 0 ⟨Nat.zero_le _, rfl, Qf, Qf, Qf, Qf, Qf, rfl⟩ ?_
   rintro i A st' ⟨hi, HT, hdf, e0, e1, e12, e13, rfl⟩
   by_cases hlt : i < a.length
   · obtain ⟨x, hx⟩ := gEx hlt
     obtain ⟨y, hy⟩ := gEx (l := b) (i := i) q_o
     have hcx := hca.out i x hx
     have hcy := hcb.out i y hy
     by_cases hxy : x = y
     · have h1 : Hid (a.take (i + 1) = b.take (i + 1)) := Lib.hid (by rw [List.take_add_one, List.take_add_one, HT.out, hx, hy, hxy])
       subst hxy
       clear HT hca hcb hx hy heq hne
       repeat' (first | refine QV ?_ | ((with_reducible refine QW ?_); intro hne; simp only [nes, ne1, and_assoc] at hne; repeat (have hq := hne.1; replace hne := hne.2)) | refine QY ?_ | (refine QB ?_; intro b) | (refine QP ?_; intro o' ho') | (with_reducible refine QZ ?_ <;> (try constructor) <;> intro hb <;> try intro hb1) | fail)
       refine ⟨i + 1, ⟨hlt, h1, ?_, ?_, ?_, ?_, ?_, rfl⟩, ?_⟩
       all_goals exact Qf
     · have hB := hne.out fun h => hxy (by rw [h, hy] at hx; exact (Option.some.inj hx).symm)
       subst hB
       clear HT hca hcb hx hy heq hne
       repeat' (first | refine QV ?_ | ((with_reducible refine QW ?_); intro hne; simp only [nes, ne1, and_assoc] at hne; repeat (have hq := hne.1; replace hne := hne.2)) | refine QY ?_ | (refine QB ?_; intro b) | (refine QP ?_; intro o' ho') | (with_reducible refine QZ ?_ <;> (try constructor) <;> intro hb <;> try intro hb1) | fail)
       all_goals exact Qret
   · have h1 := HT.out
     rw [List.take_of_length_le q_o, List.take_of_length_le q_o] at h1
     have hB := heq.out h1
     subst hB
     clear HT hca hcb heq hne
     exact WRa
 · have hB := hne.out fun h => hlen (by rw [h])
   subst hB
   have hl2 : ¬ (a.length : Int) = (b.length : Int) := by omega
   clear hne heq hca hcb
   refine Qin [4] Tryz.func60 Tryz.results60 Tryz.ntmps60 ?_
   exact WRa
end
section
attribute [local push_cast] encB encI V.cells_mk V.cells_take V.cells_len Nat.mul_one Int.sub_zero
theorem refNodesF (v : V) (hok : v.Ok) (hn : v.nodes ≤ 1000) (hd : v.deep ≤ 1000) (st : St) : TrF Tryz.prog 125 [.agg v.cells] st fun x st' => x = .i v.nodes ∧ st' = st := by
 have hC := refCountF v.nodes v (Nat.le_refl _) hok 1001 1000 q_o q_o q_o q_o
 rw [V.cnt_all v 1001 1000 q_o q_o] at hC
 cases v with
 | mk k n s l =>
 rw [V.cells_mk] at *
 replace hC := Lib.hid hC
 generalize (V.mk k n s l).nodes = q at *
 refine Qin [2] Tryz.func125 Tryz.results125 Tryz.ntmps125 ?_
 repeat' (first | refine QX ?_ | (refine QB ?_; intro b) | (with_reducible refine QZ ?_ <;> (try constructor) <;> intro hb <;> try intro hb1) | fail)
 all_goals (refine Qret (hd := ?_); (try simp (disch := omega) only [push_cast, simprocAttr, *]); try (first | exact q_e | refine LE.of_eq ?_))
 exact congrArg D.i q_o
theorem refRightF (v : V) (hok : v.Ok) (hn : v.nodes ≤ 1000) (hd : v.deep ≤ 1000) (st : St) : TrF Tryz.prog 83 [.agg v.cells] st fun x st' => x = .b v.right ∧ st' = st := by
 have hE := refEachF v.nodes v (Nat.le_refl _)
 have hD := refDeepF v.nodes v (Nat.le_refl _) q_o
 have hN := refNodesF v hok hn hd
 unfold V.right
 cases v with
 | mk k n s l =>
 rw [V.cells_mk] at *
 replace hE := Lib.hid hE
 replace hD := Lib.hid hD
 replace hN := Lib.hid hN
 generalize (V.mk k n s l).nodes = nn at *
 generalize (V.mk k n s l).deep = dd at *
 generalize (V.mk k n s l).parts = p at *
 refine Qin [2] Tryz.func83 Tryz.results83 Tryz.ntmps83 ?_
 repeat' (first | refine QX ?_ | (refine QB ?_; intro b) | (with_reducible refine QZ ?_ <;> (try constructor) <;> intro hb <;> try intro hb1) | fail)
 all_goals (refine Qret (hd := ?_); (try simp (disch := omega) only [push_cast, simprocAttr, *]); try (first | exact q_e | refine LE.of_eq ?_))
 all_goals (cases p <;> (first | rfl | (refine congrArg D.b ?_; rw [Bool.eq_iff_iff]; simp only [Bool.true_and, Bool.false_and, Bool.and_true, Bool.and_false, Bool.or_false, Bool.or_true, Bool.true_or, Bool.false_or, true_and, and_true, Bool.not_eq_true', Bool.not_eq_false', decide_eq_true_eq, decide_eq_false_iff_not, beq_iff_eq, beq_eq_false_iff_ne, bne_iff_ne, ne_eq, reduceCtorEq, iff_true, true_iff, iff_false, false_iff, Bool.and_eq_true, Bool.or_eq_true, Bool.false_eq_true, Bool.true_eq_false]; first | done | omega)))
end
section
attribute [local push_cast] encB encI encC V.cells_mk V.cells_len Nat.mul_one Int.sub_zero List.map_nil beq_self_eq_true bne_self_eq_false List.head?_cons Bool.not_true Bool.not_false Nat.zero_add
set_option maxHeartbeats 16000000
namespace Mat
theorem same_drop {a b : List Mt} {i : Nat} {x y : Mt} (h1 : a[i]? = some x) (h2 : b[i]? = some y) : same (a.drop i) (b.drop i) = ((!less x y && !less y x) && same (a.drop (i + 1)) (b.drop (i + 1))) := by
 rw [V.drop_cons h1, V.drop_cons h2, same]
theorem same_len : ∀ {a b : List Mt}, a.length ≠ b.length → same a b = false
 | [], [], h => absurd rfl h
 | [], _ :: _, _ => rfl
 | _ :: _, [], _ => rfl
 | a :: l, b :: m, h => by
  rw [same, same_len (a := l) (b := m) (fun e => h (by rw [List.length_cons, List.length_cons, e])), Bool.and_false]
end Mat
theorem refSame18F (a b : List Mt) (ha : ∀ m ∈ a, m.ids.length ≤ 1000000) (hb0 : ∀ m ∈ b, m.ids.length ≤ 1000000) (hal : a.length ≤ 1000000) (st : St) : TrF Tryz.prog 22 [.sl .shared (a.map Mt.cells), .sl .shared (b.map Mt.cells)] st fun d st' => d = .b (Mat.same a b) ∧ st' = st := by
 have hma : (a.map Mt.cells).length = a.length := List.length_map ..
 have hmb : (b.map Mt.cells).length = b.length := List.length_map ..
 have hca := hMp Mt.cells a
 have hcb := hMp Mt.cells b
 have hL := Lib.hid fun (x y : Mt) (hx : x.ids.length ≤ 1000000) (hy : y.ids.length ≤ 1000000) => refLess18F x y hx hy
 obtain ⟨R, hR⟩ : ∃ R, Mat.same a b = R := ⟨_, rfl⟩
 have HR : Hid (Mat.same (a.drop 0) (b.drop 0) = R) := hR
 have ha2 := Lib.hid ha
 have hb2 := Lib.hid hb0
 by_cases hlen : a.length = b.length
 · have hlen2 : b.length = a.length := hlen.symm
   rw [hR]
   clear hR ha hb0
   replace hlen := Lib.hid hlen
   generalize a.map Mt.cells = AC at *
   generalize b.map Mt.cells = BC at *
   refine Qin [4] Tryz.func22 Tryz.results22 Tryz.ntmps22 ?_
   repeat' (first | refine QX ?_ | (refine QB ?_; intro b) | (with_reducible refine QZ ?_ <;> (try constructor) <;> intro hb <;> try intro hb1) | fail)
   refine tr_loop (ι := Nat) (fun i A st' => i ≤ a.length ∧ Hid (Mat.same (a.drop i) (b.drop i) = R) ∧ A.df = [] ∧ A.e 0 = .sl .shared AC ∧ A.e 1 = .sl .shared BC ∧ A.e 5 = .i i ∧ st = st') (fun i => a.length - i) 0 ⟨Nat.zero_le _, HR, Qf, Qf, Qf, Qf, rfl⟩ ?_
   clear HR
   rintro i A st' ⟨hi, HT, hdf, e0, e1, e5, rfl⟩
   by_cases hlt : i < a.length
   · obtain ⟨x, hx⟩ := gEx hlt
     obtain ⟨y, hy⟩ := gEx (l := b) (i := i) q_o
     have hcx := hca.out i x hx
     have hcy := hcb.out i y hy
     have hL1 := hL.out x y (ha2.out x (List.mem_of_getElem? hx)) (hb2.out y (List.mem_of_getElem? hy))
     have hL2 := hL.out y x (hb2.out y (List.mem_of_getElem? hy)) (ha2.out x (List.mem_of_getElem? hx))
     have HE := HT.out
     rw [Mat.same_drop hx hy] at HE
     clear HT hca hcb hx hy hL ha2 hb2
     unfold Mt.cells at *
     generalize x.ids.map encI = X1 at *
     generalize y.ids.map encI = Y1 at *
     generalize Mat.less x y = q1 at *
     generalize Mat.less y x = q2 at *
     generalize x.rule = r1 at *
     generalize y.rule = r2 at *
     replace hL1 := Lib.hid hL1
     replace hL2 := Lib.hid hL2
     cases q1 with
     | true =>
      have HE2 : false = R := HE
      subst HE2
      clear HE
      repeat' (first | refine QV ?_ | ((with_reducible refine QW ?_); intro hne; simp only [nes, ne1, and_assoc] at hne; repeat (have hq := hne.1; replace hne := hne.2)) | refine QY ?_ | (refine QB ?_; intro b) | (with_reducible refine QZ ?_ <;> (try constructor) <;> intro hb <;> try intro hb1) | refine Qc Tryz.call26 ((hL1.out _)) ?_ | refine Qc Tryz.call26 ((hL2.out _)) ?_ | fail)
      all_goals exact Qret
     | false =>
      cases q2 with
      | true =>
       have HE2 : false = R := HE
       subst HE2
       clear HE
       repeat' (first | refine QV ?_ | ((with_reducible refine QW ?_); intro hne; simp only [nes, ne1, and_assoc] at hne; repeat (have hq := hne.1; replace hne := hne.2)) | refine QY ?_ | (refine QB ?_; intro b) | (with_reducible refine QZ ?_ <;> (try constructor) <;> intro hb <;> try intro hb1) | refine Qc Tryz.call26 ((hL1.out _)) ?_ | refine Qc Tryz.call26 ((hL2.out _)) ?_ | fail)
       all_goals exact Qret
      | false =>
       have HE2 : Hid (Mat.same (a.drop (i + 1)) (b.drop (i + 1)) = R) := HE
       clear HE
       repeat' (first | refine QV ?_ | ((with_reducible refine QW ?_); intro hne; simp only [nes, ne1, and_assoc] at hne; repeat (have hq := hne.1; replace hne := hne.2)) | refine QY ?_ | (refine QB ?_; intro b) | (with_reducible refine QZ ?_ <;> (try constructor) <;> intro hb <;> try intro hb1) | refine Qc Tryz.call26 ((hL1.out _)) ?_ | refine Qc Tryz.call26 ((hL2.out _)) ?_ | fail)
       refine ⟨i + 1, ⟨hlt, HE2, ?_, ?_, ?_, ?_, rfl⟩, ?_⟩
       all_goals exact Qf
   · have HE := HT.out
     rw [List.drop_of_length_le q_o, List.drop_of_length_le q_o] at HE
     have HE2 : true = R := HE
     subst HE2
     clear HT hca hcb hL ha2 hb2 HE
     exact WR
 · rw [Mat.same_len hlen]
   have hl2 : ¬ (a.length : Int) = (b.length : Int) := by omega
   clear hca hcb hL ha2 hb2 HR hR ha hb0
   generalize a.map Mt.cells = AC at *
   generalize b.map Mt.cells = BC at *
   refine Qin [4] Tryz.func22 Tryz.results22 Tryz.ntmps22 ?_
   exact WR
namespace Mat
def headB (S : List Int) (f : Fc) : Bool := decide (1 ≤ f.id) && (decide (0 ≤ f.tmpl) && (decide (f.tmpl < S.length) && decide ((f.s.length : Int) = S.getD f.tmpl.toNat 0)))
def rightL (S : List Int) (F : List Fc) : List Fc → Nat → Bool
 | [], _ => true
 | f :: l, i => headB S f && (f.s.all V.right && (!((F.take i).any fun g => g.id == f.id) && rightL S F l (i + 1)))
def right (S : List Int) (F : List Fc) : Bool := decide (F.length ≤ 7) && rightL S F F 0
theorem rightL_drop {S : List Int} {F : List Fc} {i : Nat} {f : Fc} (h : F[i]? = some f) : rightL S F (F.drop i) i = (headB S f && (f.s.all V.right && (!((F.take i).any fun g => g.id == f.id) && rightL S F (F.drop (i + 1)) (i + 1)))) := by
 rw [V.drop_cons h, rightL]
theorem headB_iff {S : List Int} {f : Fc} : headB S f = true ↔ 1 ≤ f.id ∧ 0 ≤ f.tmpl ∧ f.tmpl < S.length ∧ (f.s.length : Int) = S.getD f.tmpl.toNat 0 := by
 unfold headB
 simp only [Bool.and_eq_true, decide_eq_true_eq]
end Mat
structure FcR (f : Fc) : Prop where
 v : ∀ x ∈ f.s, x.Ok ∧ x.nodes ≤ 1000 ∧ x.deep ≤ 1000
 l : f.s.length ≤ maxLen
theorem refRight18F (F : List Fc) (S : List Int) (hF : F.length ≤ 7 → ∀ f ∈ F, FcR f) (hFl : F.length ≤ maxLen) (hSl : S.length ≤ 1000000) (o : Own) (st : St) : TrF Tryz.prog 49 [.sl .shared (F.map Fc.cells), .sl o (S.map encI)] st fun d st' => d = .b (Mat.right S F) ∧ st' = st := by
 have hFm : (F.map Fc.cells).length = F.length := List.length_map ..
 have hSm : (S.map encI).length = S.length := List.length_map ..
 unfold Mat.right
 by_cases h7 : F.length ≤ 7
 · rw [decide_eq_true h7, Bool.true_and]
   have hFc := hMp Fc.cells F
   have hSc : Hid (∀ (i : Nat) (v : Int), S[i]? = some v → (S.map encI)[i]? = some [.i v]) := fun i v h => by rw [List.getElem?_map, h]; rfl
   have hFR := Lib.hid (hF h7)
   obtain ⟨R, hR⟩ : ∃ R, Mat.rightL S F F 0 = R := ⟨_, rfl⟩
   have HR : Hid (Mat.rightL S F (F.drop 0) 0 = R) := hR
   rw [hR]
   clear hR hF
   generalize F.map Fc.cells = FS at *
   generalize S.map encI = SS at *
   refine Qin [4] Tryz.func49 Tryz.results49 Tryz.ntmps49 ?_
   repeat' (first | refine QX ?_ | (refine QB ?_; intro b) | (refine QP ?_; intro o' ho') | (with_reducible refine QZ ?_ <;> (try constructor) <;> intro hb <;> try intro hb1) | fail)
   refine tr_loopd (ι := Nat) (fun i A st' => i ≤ F.length ∧ Hid (Mat.rightL S F (F.drop i) i = R) ∧ A.df = [] ∧ A.e 0 = .sl .shared FS ∧ A.e 1 = .sl o SS ∧ A.e 5 = .i i ∧ st' = st) (fun i => F.length - i) 0 ⟨Nat.zero_le _, HR, Qf, Qf, Qf, Qf, rfl⟩ ?_
   clear HR
   rintro i A st' ⟨hi, HT, hdf, e0, e1, e5, rfl⟩
   by_cases hlt : i < F.length
   · obtain ⟨f, hf⟩ := gEx hlt
     have hfc := hFc.out i f hf
     have hfr := hFR.out f (List.mem_of_getElem? hf)
     have HE := HT.out
     rw [Mat.rightL_drop hf] at HE
     have hVm : (f.s.map V.cells).length = f.s.length := List.length_map ..
     have hVc := hMp V.cells f.s
     have hVr : Hid (∀ x ∈ f.s, ∀ st, TrF Tryz.prog 83 [.agg x.cells] st fun d st' => d = .b x.right ∧ st' = st) := fun x hx st => refRightF x (hfr.v x hx).1 (hfr.v x hx).2.1 (hfr.v x hx).2.2 st
     have hfl := hfr.l
     unfold maxLen at hfl
     rw [show f.cells = [.i f.id, .i f.time, .i f.tmpl, .i f.ver, .sl .shared (f.s.map V.cells)] from rfl] at hfc
     clear HT hFR hfr
     by_cases hh : Mat.headB S f = true
     · rw [hh, Bool.true_and] at HE
       obtain ⟨g1, g2, g3, g4⟩ := Mat.headB_iff.1 hh
       obtain ⟨t, ht⟩ : ∃ t : Nat, f.tmpl = t := ⟨f.tmpl.toNat, by omega⟩
       rw [ht] at g2 g3 g4 hfc
       rw [Int.toNat_natCast, List.getD_eq_getElem?_getD, List.getElem?_eq_getElem q_o, Option.getD_some] at g4
       have hsc := hSc.out t _ (List.getElem?_eq_getElem (by omega : t < S.length))
       rw [← g4] at hsc
       clear hh hSc ht g4
       clear hf
       generalize f.s = vs at *
       generalize f.id = f0 at *
       generalize f.time = f1 at *
       generalize f.ver = f3 at *
       have HV : Hid (((vs.drop 0).all V.right && (!((F.take i).any fun g => g.id == f0) && Mat.rightL S F (F.drop (i + 1)) (i + 1))) = R) := HE
       clear HE
       generalize hVS : vs.map V.cells = VS at *
       repeat' (first | refine QV ?_ | with_reducible refine s_boxP ?_ | ((with_reducible refine QW ?_); intro hne; simp only [nes, ne1, and_assoc] at hne; repeat (have hq := hne.1; replace hne := hne.2)) | refine QY ?_ | (refine QB ?_; intro b) | (refine QP ?_; intro o' ho') | (with_reducible refine QZ ?_ <;> (try constructor) <;> intro hb <;> try intro hb1) | fail)
       refine tr_loop (ι := Nat) (fun k A2 st2 => k ≤ vs.length ∧ Hid (((vs.drop k).all V.right && (!((F.take i).any fun g => g.id == f0) && Mat.rightL S F (F.drop (i + 1)) (i + 1))) = R) ∧ A2.df = [] ∧ A2.e 0 = .sl .shared FS ∧ A2.e 1 = .sl o SS ∧ A2.e 5 = .i i ∧ A2.e 6 = .ptr b 0 ∧ A2.e 7 = .i k ∧ st2 = .box b 43 [.i f0, .i f1, .i t, .i f3, .sl .shared VS] :: st') (fun k => vs.length - k) 0 ⟨Nat.zero_le _, HV, Qf, Qf, Qf, Qf, Qf, Qf, rfl⟩ ?_
       clear HV hdf e0 e1 e5
       rintro k A2 st2 ⟨hk, HK, hdf, e0, e1, e5, e6, e7, rfl⟩
       by_cases hkl : k < vs.length
       · obtain ⟨x, hx⟩ := gEx hkl
         have hxc := hVc.out k x hx
         have hxr := hVr.out x (List.mem_of_getElem? hx)
         have HE := HK.out
         rw [V.drop_cons hx, List.all_cons] at HE
         clear HK hVc hVr hFc hx
         cases x with
         | mk k1 n1 s1 l1 =>
         rw [V.cells_mk] at hxc hxr
         generalize l1.map V.cells = L1 at *
         cases hq : V.right (V.mk k1 n1 s1 l1) with
         | false =>
          rw [hq] at HE hxr
          have HE2 : false = R := HE
          subst HE2
          clear HE hq
          replace hxr := Lib.hid hxr
          repeat' (first | refine QX ?_ | (refine QB ?_; intro b) | (refine QP ?_; intro o' ho') | (with_reducible refine QZ ?_ <;> (try constructor) <;> intro hb <;> try intro hb1) | refine Qc Tryz.call83 ((hxr.out _)) ?_ | fail)
          all_goals exact Qret
         | true =>
          rw [hq, Bool.true_and] at HE
          rw [hq] at hxr
          clear hq
          replace hxr := Lib.hid hxr
          replace HE := Lib.hid HE
          repeat' (first | refine QX ?_ | (refine QB ?_; intro b) | (refine QP ?_; intro o' ho') | (with_reducible refine QZ ?_ <;> (try constructor) <;> intro hb <;> try intro hb1) | refine Qc Tryz.call83 ((hxr.out _)) ?_ | fail)
          refine ⟨k + 1, ⟨hkl, HE, ?_, ?_, ?_, ?_, ?_, ?_, rfl⟩, by omega⟩
          all_goals exact Qf
       · have HE := HK.out
         rw [List.drop_of_length_le q_o, List.all_nil, Bool.true_and] at HE
         have HW : Hid ((!((F.take i).any fun g => g.id == f0) && Mat.rightL S F (F.drop (i + 1)) (i + 1)) = R) := HE
         have HN : Hid ((F.take 0).any (fun g => g.id == f0) = false) := rfl
         clear HE HK hVc hVr
         repeat' (first | refine QX ?_ | (refine QB ?_; intro b) | (refine QP ?_; intro o' ho') | (with_reducible refine QZ ?_ <;> (try constructor) <;> intro hb <;> try intro hb1) | fail)
         refine tr_loop (ι := Nat) (fun k A2 st2 => k ≤ i ∧ Hid ((F.take k).any (fun g => g.id == f0) = false) ∧ A2.df = [] ∧ A2.e 0 = .sl .shared FS ∧ A2.e 1 = .sl o SS ∧ A2.e 5 = .i i ∧ A2.e 6 = .ptr b 0 ∧ A2.e 8 = .i k ∧ st2 = .box b 43 [.i f0, .i f1, .i t, .i f3, .sl .shared VS] :: st') (fun k => i - k) 0 ⟨Nat.zero_le _, HN, Qf, Qf, Qf, Qf, Qf, Qf, rfl⟩ ?_
         clear HN hdf e0 e1 e5 e6 e7
         rintro j A3 st3 ⟨hj, HJ, hdf, e0, e1, e5, e6, e8, rfl⟩
         by_cases hjl : j < i
         · obtain ⟨g, hg⟩ := gEx (l := F) (i := j) q_o
           have hgc := hFc.out j g hg
           rw [show g.cells = [.i g.id, .i g.time, .i g.tmpl, .i g.ver, .sl .shared (g.s.map V.cells)] from rfl] at hgc
           have hta : (F.take (j + 1)).any (fun g => g.id == f0) = (g.id == f0) := by
            rw [List.take_add_one, hg, Option.toList_some, List.any_append, HJ.out, Bool.false_or, List.any_cons, List.any_nil, Bool.or_false]
           have hmi : g.id = f0 → (F.take i).any (fun g => g.id == f0) = true := fun h => List.any_eq_true.2 ⟨g, List.mem_of_getElem? (i := j) (by rw [List.getElem?_take, if_pos hjl]; exact hg), beq_iff_eq.2 h⟩
           by_cases hid : g.id = f0
           · have HE := HW.out
             rw [hmi hid] at HE
             have HE2 : false = R := HE
             subst HE2 hid
             clear HE HW HJ hFc hta hmi hg
             generalize g.id = g0 at *
             generalize g.time = g1 at *
             generalize g.tmpl = g2 at *
             generalize g.ver = g3 at *
             generalize g.s.map V.cells = GS at *
             repeat' (first | refine QV ?_ | ((with_reducible refine QW ?_); intro hne; simp only [nes, ne1, and_assoc] at hne; repeat (have hq := hne.1; replace hne := hne.2)) | refine QY ?_ | (refine QB ?_; intro b) | (refine QP ?_; intro o' ho') | (with_reducible refine QZ ?_ <;> (try constructor) <;> intro hb <;> try intro hb1) | fail)
             all_goals exact Qret
           · have HJ2 : Hid ((F.take (j + 1)).any (fun g => g.id == f0) = false) := Lib.hid (by rw [hta]; exact beq_eq_false_iff_ne.2 hid)
             clear HJ hFc hta hmi hg HW
             generalize g.id = g0 at *
             generalize g.time = g1 at *
             generalize g.tmpl = g2 at *
             generalize g.ver = g3 at *
             generalize g.s.map V.cells = GS at *
             repeat' (first | refine QV ?_ | ((with_reducible refine QW ?_); intro hne; simp only [nes, ne1, and_assoc] at hne; repeat (have hq := hne.1; replace hne := hne.2)) | refine QY ?_ | (refine QB ?_; intro b) | (refine QP ?_; intro o' ho') | (with_reducible refine QZ ?_ <;> (try constructor) <;> intro hb <;> try intro hb1) | fail)
             refine ⟨j + 1, ⟨hjl, HJ2, ?_, ?_, ?_, ?_, ?_, ?_, rfl⟩, by omega⟩
             all_goals exact Qf
         · have hji : j = i := by omega
           subst hji
           have HE := HW.out
           rw [HJ.out] at HE
           have HE2 : Hid (Mat.rightL S F (F.drop (j + 1)) (j + 1) = R) := HE
           clear HE HW HJ hFc
           repeat' (first | refine QX ?_ | (refine QB ?_; intro b) | (refine QP ?_; intro o' ho') | (with_reducible refine QZ ?_ <;> (try constructor) <;> intro hb <;> try intro hb1) | fail)
           refine ⟨j + 1, st', q_t, ⟨hlt, HE2, ?_, ?_, ?_, ?_, rfl⟩, by omega⟩
           all_goals exact Qf
     · rw [Bool.eq_false_iff.2 hh, Bool.false_and] at HE
       subst HE
       have hh2 : ¬ (1 ≤ f.id ∧ 0 ≤ f.tmpl ∧ f.tmpl < S.length ∧ (f.s.length : Int) = S.getD f.tmpl.toNat 0) := fun h => hh (Mat.headB_iff.2 h)
       clear hh hVc hVr hFc hf
       by_cases ht : 0 ≤ f.tmpl ∧ f.tmpl < S.length
       · obtain ⟨t, htt⟩ : ∃ t : Nat, f.tmpl = t := ⟨f.tmpl.toNat, by omega⟩
         rw [htt] at hfc ht hh2
         rw [Int.toNat_natCast, List.getD_eq_getElem?_getD, List.getElem?_eq_getElem q_o, Option.getD_some] at hh2
         have hsc := hSc.out t _ (List.getElem?_eq_getElem (by omega : t < S.length))
         generalize S[t] = sv at *
         clear hSc htt
         generalize f.id = f0 at *
         generalize f.time = f1 at *
         generalize f.ver = f3 at *
         generalize f.s.map V.cells = VS at *
         generalize f.s.length = n at *
         repeat' (first | refine QV ?_ | with_reducible refine s_boxP ?_ | ((with_reducible refine QW ?_); intro hne; simp only [nes, ne1, and_assoc] at hne; repeat (have hq := hne.1; replace hne := hne.2)) | refine QY ?_ | (refine QB ?_; intro b) | (refine QP ?_; intro o' ho') | (with_reducible refine QZ ?_ <;> (try constructor) <;> intro hb <;> try intro hb1) | fail)
         all_goals exact Qret
       · clear hSc
         generalize f.id = f0 at *
         generalize f.time = f1 at *
         generalize f.ver = f3 at *
         generalize f.tmpl = f2 at *
         generalize f.s.map V.cells = VS at *
         clear hh2
         repeat' (first | refine QV ?_ | with_reducible refine s_boxP ?_ | ((with_reducible refine QW ?_); intro hne; simp only [nes, ne1, and_assoc] at hne; repeat (have hq := hne.1; replace hne := hne.2)) | refine QY ?_ | (refine QB ?_; intro b) | (refine QP ?_; intro o' ho') | (with_reducible refine QZ ?_ <;> (try constructor) <;> intro hb <;> try intro hb1) | fail)
         all_goals exact Qret
   · have HE := HT.out
     rw [List.drop_of_length_le q_o, Mat.rightL] at HE
     subst HE
     clear HT hFc hSc hFR
     exact WRa
 · rw [decide_eq_false h7, Bool.false_and]
   generalize F.map Fc.cells = FS at *
   generalize S.map encI = SS at *
   clear hF
   refine Qin [4] Tryz.func49 Tryz.results49 Tryz.ntmps49 ?_
   exact WRa
end
section
attribute [local push_cast] encB encI encC V.cells_mk V.cells_len Nat.mul_one Int.sub_zero List.map_nil beq_self_eq_true bne_self_eq_false List.head?_cons Bool.not_true Bool.not_false Nat.zero_add
namespace Mat
theorem from_len {F : List Fc} : ∀ (ps : List Pt) (ids : List Int) (env : List V), ∀ y ∈ from_ F ps ids env, y.1.length ≤ ids.length + ps.length
 | [], ids, env, y, hy => by
  rw [from_, List.mem_singleton] at hy
  subst hy
  exact Nat.le_refl _
 | p :: ps, ids, env, y, hy => by
  rw [from_] at hy
  split at hy
  · split at hy
    · have := from_len ps ids env y hy
      rw [List.length_cons]; omega
    · cases hy
  · obtain ⟨q, -, h⟩ := List.mem_flatMap.1 hy
    have := from_len ps _ _ y h
    rw [List.length_append, List.length_singleton] at this
    rw [List.length_cons]; omega
theorem mats_len {x : Rl} {F : List Fc} {y : List Int × List V} (hy : y ∈ mats x F) : y.1.length ≤ x.pats.length := by
 have := from_len x.pats [] empty y hy
 simpa using this
def envP (x : Rl) (F : List Fc) (ids : List Int) : Option (List V) := ((mats x F).find? fun y => decide (y.1 = ids)).map Prod.snd
end Mat
def envD : Option (List V) → D
 | some e => .tup [.sl .shared (e.map V.cells), .b true]
 | none => .tup [.sl .tight [], .b false]
theorem find_take {α : Type} {p : α → Bool} {L : List α} {i : Nat} {y : α} (h : L[i]? = some y) (h1 : ∀ x ∈ L.take i, p x = false) (h2 : p y = true) : L.find? p = some y := by
 rw [← List.take_append_drop i L, V.drop_cons h, List.find?_append, List.find?_eq_none.2 fun x hx => by rw [h1 x hx]; exact Bool.false_ne_true, Option.none_or, List.find?_cons, h2]
theorem matEnvF (x : Rl) (F : List Fc) (hx : XK x) (hF : FKs F) (ids : List Int) (hid : ids.length ≤ 1000000) (st : St) : TrF Tryz.prog 27 [.agg x.cells, .sl .shared (F.map Fc.cells), .sl .shared (ids.map encI)] st fun d st' => d = envD (Mat.envP x F ids) ∧ st' = st := by
 have hMa := matMatchesF x F
 have hIt := Lib.hid (matIter x F hx hF)
 have hEq := Lib.hid fun (y : List Int × List V) (hy : y ∈ Mat.mats x F) => slicesEqF .shared .shared y.1 ids (by have := Mat.mats_len hy; have := hx.l; omega)
 unfold Mat.envP
 generalize Mat.mats x F = L at *
 clear hx hF hid
 unfold Rl.cells at *
 generalize x.pats.map Pt.cells = PS at *
 generalize x.acts.map Ac.cells = AS at *
 generalize F.map Fc.cells = FS at *
 generalize ids.map encI = IC at *
 generalize x.name = nm at *
 generalize x.sal = sal at *
 replace hMa := Lib.hid hMa
 refine trF_enterG (G := twoA Tryz.prog (.cell 6 25) (.cell 7 4)) Tryz.func27 rfl (by rw [Tryz.ntmps27]; exact Nat.le_of_ble_eq_true rfl) (fun h1 h2 h3 => res_two rfl h1 h2 h3) ?_
 simp only [Tryz.ntmps27]
 repeat' (first | refine QX ?_ | (refine QB ?_; intro b) | (with_reducible refine QZ ?_ <;> (try constructor) <;> intro hb <;> try intro hb1) | refine Qc Tryz.call56 ((hMa.out _)) ?_ | fail)
 rename_i b6
 refine tr_perm (st' := [] ++ (.box b 4 [.b false] :: .box b6 25 [.sl .tight []] :: st)) (.refl _) ?_
 refine tr_rangeS hIt.out Tryz.call87 q_v (fun _ => rfl) rfl (fun i C => Hid (∀ y ∈ L.take i, decide (y.1 = ids) = false) ∧ C = .box b 4 [.b false] :: .box b6 25 [.sl .tight []] :: st) (fun c i C => c = Code.ret ∧ ∃ y, L.find? (fun y => decide (y.1 = ids)) = some y ∧ C = .box b 4 [.b true] :: .box b6 25 [.sl .shared (y.2.map V.cells)] :: st) ⟨Lib.hid (fun y hy => by cases hy), rfl⟩ ?_ ?_ ?_ ?_
 · rintro i y C hy ⟨hT, rfl⟩
   cases hq : decide (y.1 = ids) with
   | true => exact .inr ⟨_, _, rfl, y, find_take hy hT.out hq, rfl⟩
   | false => exact .inl ⟨_, Lib.hid (fun z hz => by
    rw [List.take_add_one, hy, Option.toList_some, List.mem_append, List.mem_singleton] at hz
    rcases hz with hz | rfl
    · exact hT.out z hz
    · exact hq), rfl⟩
 · rintro l i y C K hy ⟨hT, rfl⟩
   have hE := hEq.out y (List.mem_of_getElem? hy)
   have hf : decide (y.1 = ids) = true → L.find? (fun y => decide (y.1 = ids)) = some y := fun h => find_take hy hT.out h
   have hn : decide (y.1 = ids) = false → Hid (∀ z ∈ L.take (i + 1), decide (z.1 = ids) = false) := fun hq z hz => by
    rw [List.take_add_one, hy, Option.toList_some, List.mem_append, List.mem_singleton] at hz
    rcases hz with hz | rfl
    · exact hT.out z hz
    · exact hq
   clear hIt hEq hMa hT hy
   obtain ⟨y1, y2⟩ := y
   dsimp only at hE hf hn
   obtain ⟨q, hq⟩ : ∃ q, decide (y1 = ids) = q := ⟨_, rfl⟩
   rw [hq] at hE hf hn
   clear hq
   generalize hY1 : y1.map encI = Y1 at *
   generalize hY2 : y2.map V.cells = Y2 at *
   replace hE := Lib.hid hE
   replace hf := Lib.hid hf
   replace hn := Lib.hid hn
   refine (?_ : Tr _ _ _ _ (AA.put (AA.put ⟨_, []⟩ (some 13) (.sl .shared (y1.map encI))) (some 14) (.sl .shared (y2.map V.cells))) (.box b 4 [.b false] :: .box b6 25 [.sl .tight []] :: (st ++ K)) _)
   rw [hY1, hY2]
   repeat' (first | refine QX ?_ | (refine QB ?_; intro b) | (with_reducible refine QZ ?_ <;> (try constructor) <;> intro hb <;> try intro hb1) | fail)
   refine ⟨.box b 4 [.b false] :: .box b6 25 [.sl .tight []] :: st, List.Sublist.refl _, fun K' => ?_⟩
   clear K
   refine (?_ : Tr _ _ _ _ _ (.box b 4 [.b false] :: .box b6 25 [.sl .tight []] :: (st ++ K')) _)
   cases q with
   | true =>
    have hfo := hf.out rfl
    clear hf hn
    replace hfo := Lib.hid hfo
    repeat' (first | refine QX ?_ | (refine QB ?_; intro b) | (with_reducible refine QZ ?_ <;> (try constructor) <;> intro hb <;> try intro hb1) | refine Qc Tryz.call60 ((hE.out _)) ?_ | fail)
    all_goals exact ⟨.box b 4 [.b true] :: .box b6 25 [.sl .shared Y2] :: st, List.Sublist.refl _, rfl, _, hfo.out, by rw [← hY2]⟩
   | false =>
    have hno := hn.out rfl
    clear hf hn
    repeat' (first | refine QX ?_ | (refine QB ?_; intro b) | (with_reducible refine QZ ?_ <;> (try constructor) <;> intro hb <;> try intro hb1) | refine Qc Tryz.call60 ((hE.out _)) ?_ | fail)
    all_goals exact ⟨_, List.Sublist.refl _, hno, rfl⟩
 · rintro d K1 C' rfl ⟨hT, rfl⟩
   have hn := hT.out
   rw [List.take_length] at hn
   have hL : L.find? (fun y => decide (y.1 = ids)) = none := List.find?_eq_none.2 fun x hx => by rw [hn x hx]; exact Bool.false_ne_true
   rw [hL]
   clear hIt hEq hMa hT hn hL
   change Tr _ _ _ _ _ _ _
   refine tr_perm (st' := markR d :: .box b 4 [.b false] :: .box b6 25 [.sl .tight []] :: st) (.refl _) ?_
   repeat' (first | refine QX ?_ | (refine QB ?_; intro b) | (with_reducible refine QZ ?_ <;> (try constructor) <;> intro hb <;> try intro hb1) | fail)
   all_goals exact retG_mk (rs := [d]) (by simp) q_y (by repeat (first | exact out_here | apply out_there)) ⟨_, _, rfl, cell_mk q_v q_m q_v q_v, cell_mk q_v q_m q_v q_v⟩ (((List.Sublist.refl _).cons _).cons _) (LE.refl _) ⟨rfl, rfl⟩
 · rintro c d i K1 C' rfl ⟨rfl, y, hL, rfl⟩
   rw [hL]
   clear hIt hEq hMa hL
   obtain ⟨y1, y2⟩ := y
   unfold envD
   dsimp only [Option.map_some]
   generalize y2.map V.cells = Y2 at *
   change Tr _ _ _ _ _ _ _
   refine tr_perm (st' := markR d :: .box b 4 [.b true] :: .box b6 25 [.sl .shared Y2] :: st) (.refl _) ?_
   repeat' (first | refine QX ?_ | (refine QB ?_; intro b) | (with_reducible refine QZ ?_ <;> (try constructor) <;> intro hb <;> try intro hb1) | fail)
   all_goals exact retG_mk (rs := [d]) (by simp) q_y (by repeat (first | exact out_here | apply out_there)) ⟨_, _, rfl, cell_mk q_v q_m q_v q_v, cell_mk q_v q_m q_v q_v⟩ (((List.Sublist.refl _).cons _).cons _) (LE.refl _) ⟨rfl, rfl⟩
end
end Go.Proofs.YtoeidpmjifjplaaGreat
section
namespace Go.Proofs
open Go.Shelf
def Tryz.sortMatch_ren : Go.Shelf.Ren := ⟨fun | 6 => 57 | 15 => 93 | 14 => 92 | 28 => 137 | 29 => 138 | 20 => 129 | 21 => 130 | 22 => 131 | 23 => 132 | 24 => 133 | 25 => 134 | 26 => 135 | 27 => 136 | 46 => 167 | 47 => 168 | 48 => 169 | 49 => 170 | 50 => 171 | 57 => 194 | n => n, fun | 22 => 48 | 24 => 52 | 25 => 94 | 3 => 3 | 39 => 161 | 0 => 0 | 53 => 210 | 55 => 212 | 4 => 4 | 46 => 204 | 45 => 203 | 50 => 168 | 5 => 5 | 9 => 9 | 66 => 240 | 70 => 244 | 76 => 260 | 77 => 261 | n => n, fun | n => n⟩
theorem Tryz.sortMatch : Go.Proofs.SlLaysF0.n6 Tryz.prog Tryz.sortMatch_ren := {
 mixed := by kernel_rfl
 f6 := ⟨Tryz.f57.name, by decide, Tryz.func57.trans (congrArg some (by kernel_rfl))⟩
 f14 := ⟨Tryz.f92.name, by decide, Tryz.func92.trans (congrArg some (by kernel_rfl))⟩
 f15 := Tryz.func93.trans (congrArg some (by kernel_rfl))
 f20 := ⟨Tryz.f129.name, by decide, Tryz.func129.trans (congrArg some (by kernel_rfl))⟩
 f21 := ⟨Tryz.f130.name, by decide, Tryz.func130.trans (congrArg some (by kernel_rfl))⟩
 f22 := ⟨Tryz.f131.name, by decide, Tryz.func131.trans (congrArg some (by kernel_rfl))⟩
 f23 := ⟨Tryz.f132.name, by decide, Tryz.func132.trans (congrArg some (by kernel_rfl))⟩
 f24 := ⟨Tryz.f133.name, by decide, Tryz.func133.trans (congrArg some (by kernel_rfl))⟩
 f25 := ⟨Tryz.f134.name, by decide, Tryz.func134.trans (congrArg some (by kernel_rfl))⟩
 f26 := ⟨Tryz.f135.name, by decide, Tryz.func135.trans (congrArg some (by kernel_rfl))⟩
 f27 := ⟨Tryz.f136.name, by decide, Tryz.func136.trans (congrArg some (by kernel_rfl))⟩
 f28 := Tryz.func137.trans (congrArg some (by kernel_rfl))
 f29 := Tryz.func138.trans (congrArg some (by kernel_rfl))
 f46 := ⟨Tryz.f167.name, by decide, Tryz.func167.trans (congrArg some (by kernel_rfl))⟩
 f47 := Tryz.func168.trans (congrArg some (by kernel_rfl))
 f48 := Tryz.func169.trans (congrArg some (by kernel_rfl))
 f49 := ⟨Tryz.f170.name, by decide, Tryz.func170.trans (congrArg some (by kernel_rfl))⟩
 f50 := ⟨Tryz.f171.name, by decide, Tryz.func171.trans (congrArg some (by kernel_rfl))⟩
 f57 := ⟨Tryz.f194.name, by decide, Tryz.func194.trans (congrArg some (by kernel_rfl))⟩
 t0 := Tryz.underlying0
 a0 := Tryz.isAgg0
 z0 := Tryz.sizeOf0
 v0 := Tryz.zeroValue0
 t3 := Tryz.underlying3
 a3 := Tryz.isAgg3
 z3 := Tryz.sizeOf3
 v3 := Tryz.zeroValue3
 t4 := Tryz.underlying4
 a4 := Tryz.isAgg4
 z4 := Tryz.sizeOf4
 v4 := Tryz.zeroValue4
 t5 := Tryz.underlying5
 a5 := Tryz.isAgg5
 z5 := Tryz.sizeOf5
 v5 := Tryz.zeroValue5
 t9 := Tryz.underlying9
 a9 := Tryz.isAgg9
 z9 := Tryz.sizeOf9
 v9 := Tryz.zeroValue9
 t22 := Tryz.underlying48
 a22 := Tryz.isAgg48
 z22 := Tryz.sizeOf48
 v22 := Tryz.zeroValue48
 t25 := Tryz.underlying94
 a25 := Tryz.isAgg94
 z25 := Tryz.sizeOf94
 v25 := Tryz.zeroValue94
 t39 := Tryz.underlying161
 a39 := Tryz.isAgg161
 z39 := Tryz.sizeOf161
 v39 := Tryz.zeroValue161
 t45 := Tryz.underlying203
 a45 := Tryz.isAgg203
 z45 := Tryz.sizeOf203
 v45 := Tryz.zeroValue203
 t46 := Tryz.underlying204
 a46 := Tryz.isAgg204
 z46 := Tryz.sizeOf204
 v46 := Tryz.zeroValue204
 t50 := Tryz.underlying168
 a50 := Tryz.isAgg168
 z50 := Tryz.sizeOf168
 v50 := Tryz.zeroValue168
 t53 := Tryz.underlying210
 a53 := Tryz.isAgg210
 z53 := Tryz.sizeOf210
 v53 := Tryz.zeroValue210
 t55 := Tryz.underlying212
 a55 := Tryz.isAgg212
 z55 := Tryz.sizeOf212
 v55 := Tryz.zeroValue212
 t66 := Tryz.underlying240
 a66 := Tryz.isAgg240
 z66 := Tryz.sizeOf240
 v66 := Tryz.zeroValue240
 t70 := Tryz.underlying244
 a70 := Tryz.isAgg244
 z70 := Tryz.sizeOf244
 v70 := Tryz.zeroValue244
 t76 := Tryz.underlying260
 a76 := Tryz.isAgg260
 z76 := Tryz.sizeOf260
 v76 := Tryz.zeroValue260
 t77 := Tryz.underlying261
 a77 := Tryz.isAgg261
 z77 := Tryz.sizeOf261
 v77 := Tryz.zeroValue261 }
end Go.Proofs
end
namespace Go.Proofs.YtoeidpmjifjplaaGreat
open Go.RowKit
section
open Go.RowKit Go.Sort
def rowM (l : List Mt) : List D := (l.map Mt.cells).flatten
theorem rowM_each (l : List Mt) : ∀ e ∈ l.map Mt.cells, e.length = 2 := fun e he => by
 obtain ⟨x, -, rfl⟩ := List.mem_map.1 he
 rfl
theorem rowM_len (l : List Mt) : (rowM l).length = l.length * 2 := by
 unfold rowM
 rw [flat_len (rowM_each l), List.length_map]
theorem grown_of_ext {W w' : World} (h : Ext (OwnS []) W (OwnS []) w') : ∃ q os', w' = grow (W.drewN q) os' := by
 refine ⟨w'.drawn - W.drawn, w'.heap.extract W.heap.size w'.heap.size, ?_⟩
 have hd := h.dr
 have ho := h.os
 have ht := h.tape
 have hu := h.output
 have hs := h.size
 have hb := h.block
 obtain ⟨heap', tape', drawn', os', output'⟩ := w'
 obtain ⟨heap, tape, drawn, os, output⟩ := W
 unfold grow World.drewN
 dsimp only at *
 subst ho ht hu
 have hheap : heap' = heap ++ heap'.extract heap.size heap'.size := by
  apply Array.ext_getElem?
  intro i
  rcases Nat.lt_or_ge i heap.size with hi | hi
  · rw [Array.getElem?_append_left hi]
    exact hb i hi fun off => OwnS.nil i off
  · rw [Array.getElem?_append_right hi, Array.getElem?_extract]
    split
    · congr 1; omega
    · rw [Array.getElem?_eq_none q_o]
 rw [← hheap]
 congr 1
 omega
structure Cell (O : Nat → Nat → Prop) (w : World) where
 v1 : Value
 v2 : Value
 m : Mt
 h1 : v1 = .int .i64 m.rule
 h2 : Rep O w v2 (.sl .shared (m.ids.map encI))
 hl : m.ids.length ≤ 1000000
def Cell.enc {O : Nat → Nat → Prop} {w : World} (c : Cell O w) : List Value := [c.v1, c.v2]
theorem cells_of {O : Nat → Nat → Prop} {w : World} : ∀ {l : List Mt} {us : List Value}, RepL O w us (rowM l) → (∀ m ∈ l, m.ids.length ≤ 1000000) → ∃ cs : List (Cell O w), cs.map Cell.m = l ∧ (cs.map Cell.enc).flatten = us
 | [], us, h, _ => by
  obtain rfl := h.inv_nil
  exact ⟨[], rfl, rfl⟩
 | m :: l, us, h, hl => by
  have e : rowM (m :: l) = .i m.rule :: .sl .shared (m.ids.map encI) :: rowM l := by
   unfold rowM
   rw [List.map_cons, List.flatten_cons]
   rfl
  rw [e] at h
  obtain ⟨u, t, rfl, q1, q2⟩ := h.inv_cons
  obtain ⟨u2, t2, rfl, q3, q4⟩ := q2.inv_cons
  obtain ⟨cs, k1, k2⟩ := cells_of q4 fun x hx => hl x (List.mem_cons_of_mem _ hx)
  refine ⟨⟨u, u2, m, rep_s q1, q3, hl m (List.mem_cons_self ..)⟩ :: cs, by rw [List.map_cons, k1], ?_⟩
  rw [List.map_cons, List.flatten_cons, k2]
  rfl
theorem enc_len {O : Nat → Nat → Prop} {w : World} (c : Cell O w) : c.enc.length = 2 := rfl
theorem cells_get {O : Nat → Nat → Prop} {w : World} : ∀ (cs : List (Cell O w)) (t : Nat), ((cs.map Cell.enc).flatten)[t]? = (cs[t / 2]?).bind fun c => c.enc[t % 2]?
 | [], t => by simp
 | c :: cs, 0 => rfl
 | c :: cs, 1 => rfl
 | c :: cs, t + 2 => by
  have h1 : (t + 2) / 2 = t / 2 + 1 := by omega
  have h2 : (t + 2) % 2 = t % 2 := by omega
  rw [h1, h2, List.getElem?_cons_succ, List.map_cons, List.flatten_cons]
  have := cells_get cs t
  rw [← this]
  rfl
theorem flatK_list {O : Nat → Nat → Prop} {w : World} [Inhabited (Cell O w)] (cs : List (Cell O w)) : (flatK Cell.enc 2 cs.toArray).toList = (cs.map Cell.enc).flatten := by
 apply List.ext_getElem?
 intro t
 rw [cells_get]
 by_cases ht : t < cs.length * 2
 · have hs : t < (flatK Cell.enc 2 cs.toArray).size := by rw [size_flatK]; simpa using ht
   have h1 := get_flatK Cell.enc 2 cs.toArray t (by simpa using ht)
   rw [getElem!_pos _ t hs] at h1
   rw [Array.getElem?_toList, Array.getElem?_eq_getElem hs, h1]
   have h2 : t / 2 < cs.length := by omega
   rw [List.getElem?_eq_getElem h2, Option.bind_some, getElem!_pos _ (t / 2) (by simpa using h2)]
   have h3 : t % 2 < (cs[t / 2]).enc.length := by rw [enc_len]; omega
   simp only [List.getElem_toArray]
   rw [getElem!_pos _ (t % 2) h3, List.getElem?_eq_getElem h3]
 · rw [List.getElem?_eq_none (l := cs) q_o, Array.getElem?_toList, Array.getElem?_eq_none (by rw [size_flatK]; simp; omega)]
   rfl
theorem cells_rep {O : Nat → Nat → Prop} {w : World} : ∀ cs : List (Cell O w), RepL O w (cs.map Cell.enc).flatten (rowM (cs.map Cell.m))
 | [] => RepL.nil
 | c :: cs => by
  have e : rowM ((c :: cs).map Cell.m) = .i c.m.rule :: .sl .shared (c.m.ids.map encI) :: rowM (cs.map Cell.m) := by
   unfold rowM
   rw [List.map_cons, List.map_cons, List.flatten_cons]
   rfl
  rw [e, List.map_cons, List.flatten_cons]
  show RepL O w (c.v1 :: c.v2 :: (cs.map Cell.enc).flatten) _
  refine RepL.cons ?_ (RepL.cons c.h2 (cells_rep cs))
  rw [c.h1]
  exact .s _ rfl
theorem rowM_leaf (l : List Mt) : ∀ d ∈ rowM l, d.leaf = true := by
 intro d hd
 obtain ⟨e, he, hd⟩ := List.mem_flatten.1 hd
 obtain ⟨m, -, rfl⟩ := List.mem_map.1 he
 unfold Mt.cells at hd
 rcases List.mem_cons.1 hd with rfl | hd
 · rfl
 · rw [List.mem_singleton] at hd
   subst hd
   rfl
theorem ltM {O : Nat → Nat → Prop} {w : World} (x y : Cell O w) : ltOf (fun x y : Cell O w => Mat.ord x.m y.m) x y = Mat.less x.m y.m := rfl
theorem swoM (O : Nat → Nat → Prop) (w : World) : SWO (ltOf (fun x y : Cell O w => Mat.ord x.m y.m)) where
 irrefl x := by rw [ltM]; unfold Mat.less; rw [Mat.ord_self]; rfl
 trans x y z h1 h2 := by
  rw [ltM] at *
  unfold Mat.less at *
  exact decide_eq_true (Mat.ord_trans (of_decide_eq_true h1) (of_decide_eq_true h2))
 ntrans x y z h1 h2 := by
  rw [ltM] at *
  exact Mat.not_less.2 (Mat.le_trans (Mat.not_less.1 h2) (Mat.not_less.1 h1))
theorem grow_ext (O : Nat → Nat → Prop) (w : World) (os : Array Obj) : Ext O w O (grow w os) :=
 ⟨Nat.le_refl _, rfl, rfl, rfl, by show w.heap.size ≤ (w.heap ++ os).size; rw [Array.size_append]; exact Nat.le_add_right _ _, fun _ _ _ h => h, fun b hb _ => by show (w.heap ++ os)[b]? = _; rw [Array.getElem?_append_left hb], fun b c E fr h => ⟨c, fr, by show (w.heap ++ os)[b]? = _; rw [Array.getElem?_append_left (Array.getElem?_eq_some_iff.1 h).1]; exact h, rfl, fun _ _ => rfl⟩⟩
theorem grow_holds {st : St} {w : World} (h : Holds st w) (os : Array Obj) : Holds st (grow w os) := h.keep (grow_ext _ w os) fun b hb => by show (w.heap ++ os)[b]? = _; rw [Array.getElem?_append_left hb]
theorem sort_ext {g : Nat} {ty : TypeId} {cs : List D} {st : St} {w : World} {us : Array Value} (hb : w.heap[g]? = some (.cells us ty (0, 0))) (m : Nat) (F : Array Value) (os : Array Obj) : Ext (OwnS (.box g ty cs :: st)) w (OwnS []) (grow (Sort.putRow id (Sort.ahead w m) g 0 F) os) := by
 have hown : ∀ off, OwnS (.box g ty cs :: st) g off := fun off => OwnS.cons_iff.2 (.inl ⟨rfl, Nat.zero_le _⟩)
 have hat : ∀ b, b < w.heap.size → b ≠ g → (grow (Sort.putRow id (Sort.ahead w m) g 0 F) os).heap[b]? = w.heap[b]? := fun b hl hn => by
  unfold grow Sort.putRow Sort.mapBlock Sort.ahead
  dsimp only
  rw [Array.getElem?_append_left (by rw [Array.size_modify]; exact hl), Array.getElem?_modify, if_neg (Ne.symm hn)]
 have hg : (grow (Sort.putRow id (Sort.ahead w m) g 0 F) os).heap[g]? = some (.cells (Sort.putCells id 0 F us) ty (0, 0)) := by
  have hl := (Array.getElem?_eq_some_iff.1 hb).1
  unfold grow Sort.putRow Sort.mapBlock Sort.ahead
  dsimp only
  rw [Array.getElem?_append_left (by rw [Array.size_modify]; exact hl), Array.getElem?_modify, if_pos rfl, hb]
  rfl
 refine ⟨Nat.le_add_right _ _, rfl, rfl, rfl, ?_, fun b off _ h => absurd h (OwnS.nil b off), fun b hl hno => ?_, fun b c E fr hc => ?_⟩
 · unfold grow Sort.putRow Sort.mapBlock Sort.ahead
   dsimp only
   rw [Array.size_append, Array.size_modify]
   exact Nat.le_add_right _ _
 · exact hat b hl fun e => hno 0 (e ▸ hown 0)
 · by_cases e : b = g
   · subst e
     rw [hb] at hc
     cases hc
     exact ⟨_, _, hg, by simp [Sort.putCells], fun off hno => absurd (hown off) hno⟩
   · exact ⟨c, fr, (hat b (Array.getElem?_eq_some_iff.1 hc).1 e).trans hc, rfl, fun _ _ => rfl⟩
theorem cmp_lays {g : Nat} {ty : TypeId} {cs : List D} {st : St} {w : World} {us : Array Value} [Inhabited (Cell (OwnS (.box g ty cs :: st)) w)] (hb : w.heap[g]? = some (.cells us ty (0, 0))) (n : Nat) :
 CmpLays Tryz.prog 58 #[] Cell.enc 2 (fun x y : Cell (OwnS (.box g ty cs :: st)) w => Mat.ord x.m y.m) g 0 n w := by
 intro m os dk _ x y
 have he : Ext (OwnS (.box g ty cs :: st)) w (OwnS []) (sortWorldK Cell.enc 2 w g 0 m dk os) := by
  unfold sortWorldK putRowK
  exact sort_ext hb m _ os
 generalize sortWorldK Cell.enc 2 w g 0 m dk os = W at he ⊢
 have hx : ∀ c : Cell (OwnS (.box g ty cs :: st)) w, Rep (OwnS []) W (.agg c.enc.toArray) (.agg c.m.cells) := fun c => by
  have h2 := c.h2.ext he
  have h1 : Rep (OwnS []) W c.v1 (.i c.m.rule) := by rw [c.h1]; exact .s _ rfl
  have hr : RepL (OwnS []) W c.enc c.m.cells := RepL.cons h1 (RepL.cons h2 RepL.nil)
  exact .agg _ _ hr.1 hr.2
 have hv : RepL (OwnS []) W (#[Value.agg x.enc.toArray, Value.agg y.enc.toArray] ++ (#[] : Array Value)).toList [.agg x.m.cells, .agg y.m.cells] := by
  rw [Array.append_empty]
  exact RepL.cons (hx x) (RepL.cons (hx y) RepL.nil)
 have hcall := matOrderF x.m y.m x.hl y.hl [] _ W hv (holds_nil W)
 refine hcall.mono ?_
 rintro e w' ⟨v, rfl, d, st', h1, -, h3, rfl, rfl⟩
 have hv1 := rep_s h1
 subst hv1
 exact ⟨rfl, grown_of_ext h3⟩
theorem matSortF (g cap : Nat) (l : List Mt) (zs : List D) (hl0 : l ≠ []) (hm : ∀ m ∈ l, m.ids.length ≤ 1000000) (hll : l.length ≤ 1000000) (st : St) : TrF Tryz.prog 57 [.ar g 0 l.length cap, .fn (.func 58) [] []] (.box g 52 (rowM l ++ zs) :: st) fun d st' => ∃ l', l'.Perm l ∧ Mat.Srt l' ∧ d = .tup [] ∧ st' = .box g 52 (rowM l' ++ zs) :: st := by
 intro vs w hv hh
 obtain ⟨lv⟩ := vs
 obtain ⟨v0, t0, e0, h1, hv⟩ := hv.inv_cons
 obtain ⟨v1, t1, e1, h2, hv⟩ := hv.inv_cons
 have e2 := hv.inv_nil
 dsimp only at e0
 subst e2 e1 e0
 cases h1 with
 | ar _ _ _ _ c1 c2 =>
 cases h2 with
 | fn _ us1 us2 _ _ q1 q2 q3 q4 =>
 obtain rfl : us1 = [] := List.eq_nil_of_length_eq_zero q1
 obtain rfl : us2 = [] := List.eq_nil_of_length_eq_zero q2
 obtain ⟨⟨us, hb, hr⟩, hlc⟩ := hh.2 _ (List.mem_cons_self ..)
 have hrt := hr.take (l.length * 2)
 rw [List.take_append_of_le_length (by rw [rowM_len]; exact Nat.le_refl _), List.take_of_length_le (l := rowM l) (by rw [rowM_len]; exact Nat.le_refl _)] at hrt
 obtain ⟨cs, hcm, hcu⟩ := cells_of hrt hm
 have hcl : cs.length = l.length := by
  have := congrArg List.length hcm
  rwa [List.length_map] at this
 obtain ⟨c0, hc0⟩ : ∃ c0, c0 ∈ cs := by
  cases cs with
  | nil => exact absurd hcm.symm hl0
  | cons c cs => exact ⟨c, List.mem_cons_self ..⟩
 haveI : Inhabited (Cell (OwnS (.box g 52 (rowM l ++ zs) :: st)) w) := ⟨c0⟩
 have hul : us.size = l.length * 2 + zs.length := by
  have := hr.1
  rw [List.length_append, rowM_len, Array.length_toList] at this
  exact this
 have hfl : (flatK Cell.enc 2 cs.toArray).toList = us.toList.take (l.length * 2) := by rw [flatK_list, hcu]
 have hH : HoldsK Cell.enc 2 w g 0 cs.toArray := fun j hj => by
  have hj2 : j < l.length * 2 := by rw [size_flatK] at hj; simpa [hcl] using hj
  refine ⟨?_, ?_⟩
  · rw [Nat.zero_add]
    have h3 : (flatK Cell.enc 2 cs.toArray).toList[j]? = us.toList[j]? := by rw [hfl, List.getElem?_take, if_pos hj2]
    rw [Array.getElem?_toList, Array.getElem?_toList, Array.getElem?_eq_getElem hj, Array.getElem?_eq_getElem q_o] at h3
    rw [getElem!_pos _ j hj]
    show _ = some (id _)
    rw [id, Option.some.inj h3]
    have := cell_of_row w g j us 52 (0, 0) hb
    rw [this, Array.getElem?_eq_getElem q_o]
  · unfold World.frozen?
    dsimp only
    rw [hb]; simp
 have hc := AnyQ.slices_SortFunc Tryz.sortMatch 2 Tryz.isAgg52 Tryz.sizeOf52 Cell.enc (fun _ => rfl) (fun x v hv => by
  rcases List.mem_cons.1 hv with rfl | hv
  · rw [x.h1]; rfl
  · rw [List.mem_singleton] at hv
    subst hv
    exact x.h2.leafOne rfl) (fun x y : Cell (OwnS (.box g 52 (rowM l ++ zs) :: st)) w => Mat.ord x.m y.m) (swoM _ _) 58 #[] g 0 cap cs.toArray w Tryz.call58 (cmp_lays hb _) hH (Array.getElem?_eq_some_iff.1 hb).1 (by simp; omega)
 rw [show cs.toArray.size = l.length by simpa using hcl] at hc
 refine hc.mono ?_
 rintro e w' ⟨rfl, d', n, os, ⟨hps, -, hpp⟩, hsrt, rfl⟩
 have hds : d'.size = l.length := by rw [hps]; simpa using hcl
 have hext : ∀ a : Array (Cell (OwnS (.box g 52 (rowM l ++ zs) :: st)) w), a.size = l.length → (a.extract 0 l.length).toList = a.toList := fun a ha => by
  rw [Array.toList_extract]
  simp only [List.extract_eq_take_drop, Nat.sub_zero, List.drop_zero]
  exact List.take_of_length_le (by rw [Array.length_toList, ha]; exact Nat.le_refl _)
 rw [hext d' hds, hext cs.toArray (by simpa using hcl)] at hpp
 have hperm : (d'.toList.map Cell.m).Perm l := (hpp.map Cell.m).trans (List.Perm.of_eq hcm)
 have hsort : Mat.Srt (d'.toList.map Cell.m) := by
  refine List.pairwise_iff_getElem.2 fun i j hi hj hij => ?_
  rw [List.length_map, Array.length_toList] at hi hj
  have h3 := hsrt i j (Nat.zero_le _) hij q_o
  rw [ltM, getElem!_pos _ i hi, getElem!_pos _ j hj] at h3
  rw [List.getElem_map, List.getElem_map, Array.getElem_toList, Array.getElem_toList]
  exact Mat.not_less.1 h3
 obtain ⟨F, hF⟩ : ∃ F, flatK Cell.enc 2 d' = F := ⟨_, rfl⟩
 have hFl : F.toList = (d'.toList.map Cell.enc).flatten := by
  have := flatK_list d'.toList
  rw [Array.toArray_toList, hF] at this
  exact this
 have hFs : F.size = l.length * 2 := by rw [← hF, size_flatK, hds]
 have hFll : F.toList.length = l.length * 2 := by rw [← hFs]; exact Array.length_toList
 have hus : (Sort.putCells id 0 F us).toList = (d'.toList.map Cell.enc).flatten ++ us.toList.drop (l.length * 2) := by
  rw [← hFl]
  apply List.ext_getElem?
  intro k
  unfold Sort.putCells
  rw [Array.getElem?_toList, Array.getElem?_mapIdx]
  by_cases hk : k < l.length * 2
  · have hk2 : k < us.size := by omega
    rw [List.getElem?_append_left q_o, Array.getElem?_eq_getElem hk2, Array.getElem?_toList, Array.getElem?_eq_getElem (by omega : k < F.size), Option.map_some, if_pos ⟨Nat.zero_le _, by omega⟩, Nat.sub_zero, getElem!_pos _ k q_o]
    rfl
  · have e : l.length * 2 + (k - F.toList.length) = k := by omega
    rw [List.getElem?_append_right q_o, List.getElem?_drop, e, Array.getElem?_toList]
    cases us[k]? with
    | none => rfl
    | some u => rw [Option.map_some, if_neg q_o]
 have hrep : RepL (OwnS (.box g 52 (rowM l ++ zs) :: st)) w (Sort.putCells id 0 F us).toList (rowM (d'.toList.map Cell.m) ++ zs) := by
  rw [hus]
  refine RepL.append (cells_rep _) ?_
  have := hr.drop (l.length * 2)
  rwa [List.drop_append, List.drop_of_length_le (l := rowM l) (by rw [rowM_len]; omega), List.nil_append, show l.length * 2 - (rowM l).length = 0 by rw [rowM_len]; omega, List.drop_zero] at this
 have hlt := (Array.getElem?_eq_some_iff.1 hb).1
 have hs := set_any (w' := Sort.putRow id (Sort.ahead w n) g 0 F) hh hb (by simp [Sort.putCells]) (Nat.le_add_right _ _) rfl rfl rfl (by simp [Sort.putRow, Sort.mapBlock, Sort.ahead]) (by
  simp only [Sort.putRow, Sort.mapBlock, Sort.ahead]
  rw [Array.getElem?_modify]
  simp [hb, Sort.onCells]) (fun k hk => by
  simp only [Sort.putRow, Sort.mapBlock, Sort.ahead]
  rw [Array.getElem?_modify, if_neg (Ne.symm hk)]) hrep (fun d hd => by
   rw [List.mem_append] at hd
   exact hd.elim (rowM_leaf _ d) fun h => hlc d (List.mem_append_right _ h))
 have hw : sortWorldK Cell.enc 2 w g 0 n d' os = grow (Sort.putRow id (Sort.ahead w n) g 0 F) os := by rw [← hF]; rfl
 rw [hw]
 have hg := grow_holds hs.1 os
 exact ⟨_, rfl, .tup [], _, .tup [] [] rfl (fun i h => absurd h (Nat.not_lt_zero _)), hg, hs.2.trans (grow_ext _ _ os), d'.toList.map Cell.m, hperm, hsort, rfl, rfl⟩
theorem matSortNilF (st : St) : TrF Tryz.prog 57 [.sl .tight [], .fn (.func 58) [] []] st fun d st' => d = .tup [] ∧ st' = st := by
 intro vs w hv hh
 obtain ⟨lv⟩ := vs
 obtain ⟨v0, t0, e0, h1, hv⟩ := hv.inv_cons
 obtain ⟨v1, t1, e1, h2, hv⟩ := hv.inv_cons
 have e2 := hv.inv_nil
 dsimp only at e0
 subst e2 e1 e0
 obtain ⟨a, cap, us, sz, rfl, -⟩ := calm_src h1
 have hc : Calls Tryz.prog 57 #[.slice a 0 cap, v1] w fun e w' => e = .returned (.tuple #[]) ∧ w' = w := AnyF.slices_SortFunc_none Tryz.sortMatch a cap v1 w
 refine hc.mono ?_
 rintro e w' ⟨rfl, rfl⟩
 exact ⟨_, rfl, .tup [], st, .tup [] [] rfl (fun i h => absurd h (Nat.not_lt_zero _)), hh, Ext.refl _ _, rfl, rfl⟩
end
section
attribute [local push_cast] encB encI encC V.cells_mk V.cells_len Nat.mul_one Int.sub_zero List.map_nil beq_self_eq_true bne_self_eq_false List.head?_cons Bool.not_true Bool.not_false Nat.zero_add
namespace Mat
theorem raws_drop {f : Rl → List (List Int)} {R : List Rl} {i : Nat} {x : Rl} (h : R[i]? = some x) : flatR f (R.drop i) i = (f x).map (Mt.mk i) ++ flatR f (R.drop (i + 1)) (i + 1 : Nat) := by
 rw [V.drop_cons h, flatR]; rfl
def sortM (l : List Mt) : List Mt := l.foldl ins []
theorem sortM_srt (l : List Mt) : Srt (sortM l) ∧ (sortM l).Perm l := by
 have h := fold_ins l [] List.Pairwise.nil
 rw [List.append_nil] at h
 exact h
theorem sortM_eq {l m : List Mt} (h1 : m.Perm l) (h2 : Srt m) : m = sortM l := srt_unique h2 (sortM_srt l).1 (h1.trans (sortM_srt l).2.symm)
end Mat
def OutS (b5 : Nat) (acc : List Mt) (rest st' : St) : Prop := (acc = [] ∧ st' = .box b5 48 [.sl .tight []] :: rest) ∨ (acc ≠ [] ∧ ∃ g cap zs, (rowM acc ++ zs).length = cap * 2 ∧ st' = .box b5 48 [.ar g 0 acc.length cap] :: .box g 52 (rowM acc ++ zs) :: rest)
theorem rowM_app (l : List Mt) (m : Mt) : rowM (l ++ [m]) = rowM l ++ [m.cells].flatten := by
 unfold rowM
 rw [List.map_append, List.flatten_append]
 rfl
def AllRaw (L : List Mt) (st : St) (d : D) (st' : St) : Prop := (L = [] ∧ d = .sl .tight [] ∧ st' = st) ∨ (L ≠ [] ∧ ∃ g cap zs, d = .ar g 0 L.length cap ∧ st' = .box g 52 (rowM (Mat.sortM L) ++ zs) :: st)
theorem OutS_ex (b5 : Nat) (acc : List Mt) (rest : St) : ∃ st', OutS b5 acc rest st' := by
 by_cases h : acc = []
 · exact ⟨_, .inl ⟨h, rfl⟩⟩
 · exact ⟨_, .inr ⟨h, 0, acc.length, [], by rw [List.append_nil, rowM_len], rfl⟩⟩
theorem perm_m3 {m a b c : Res} {s : St} : (m :: a :: b :: c :: s).Perm (a :: b :: c :: m :: s) := (List.Perm.swap _ _ _).trans (((List.Perm.swap _ _ _).trans ((List.Perm.swap _ _ _).cons _)).cons _)
theorem perm_m4 {m a b c e : Res} {s : St} : (m :: a :: b :: c :: e :: s).Perm (a :: b :: c :: e :: m :: s) := perm_m3.trans ((((List.Perm.swap _ _ _).cons _).cons _).cons _)
theorem perm_in2 {a b : Res} {M s : St} : (a :: b :: (M ++ s)).Perm (M ++ (a :: b :: s)) := by
 have h : ([a, b] ++ (M ++ s)).Perm (M ++ ([a, b] ++ s)) := by
  rw [← List.append_assoc, ← List.append_assoc]
  exact List.perm_append_comm.append_right s
 exact h
theorem perm_in1 {a : Res} {M s : St} : (a :: (M ++ s)).Perm (M ++ (a :: s)) := List.perm_middle.symm
theorem retA_marks {ts : List Tmp} {R : D → St → Prop} {ex : Exit} {A : AA} {X : D} {st st0 s2 : St} {rs : List Nat} (hex : ex = .normal ∨ ex = .ret) (hdf : A.df = rs.map mark) (hp : st.Perm (rs.map markR ++ s2)) (hs : st0.Sublist s2) (hd : LE (resD ts A.e) X) (hR : R X st0) : retA ts R ex A st := by
 rcases hex with rfl | rfl <;> exact ⟨rs, X, s2, st0, hdf, hp, hs, hd, hR⟩
theorem matAllRawF (R : List Rl) (F : List Fc) (hR : ∀ x ∈ R, XK x) (hRl : R.length ≤ 1000) (hF : FKs F) (hM : (Mat.raws R F).length ≤ 1000000) (st : St) : TrF Tryz.prog 23 [.sl .shared (R.map Rl.cells), .sl .shared (F.map Fc.cells)] st (AllRaw (Mat.raws R F) st) := by
 have hMa := Lib.hid fun (x : Rl) => matMatchesF x F
 have hIt := Lib.hid fun (x : Rl) (hx : x ∈ R) => matIter x F (hR x hx) hF
 have hRm : (R.map Rl.cells).length = R.length := List.length_map ..
 have hRc := hMp Rl.cells R
 obtain ⟨M, hMe⟩ : ∃ M, Mat.raws R F = M := ⟨_, rfl⟩
 have HM : Hid ([] ++ Mat.flatR (fun x => (Mat.mats x F).map Prod.fst) (R.drop 0) (0 : Nat) = M) := hMe
 have hids : Hid (∀ x ∈ R, ∀ y ∈ Mat.mats x F, y.1.length ≤ 1000000) := fun x hx y hy => by
  have := Mat.mats_len hy
  have := (hR x hx).l
  omega
 rw [hMe] at hM ⊢
 clear hMe hR hF
 obtain ⟨FR, hFR⟩ : ∃ FR : Nat → List Mt, FR = fun i => Mat.flatR (fun x => (Mat.mats x F).map Prod.fst) (R.drop i) i := ⟨_, rfl⟩
 have HM0 : Hid ([] ++ FR 0 = M) := by rw [hFR]; exact HM.out
 have hstep : Hid (∀ (i : Nat) (x : Rl), R[i]? = some x → FR i = ((Mat.mats x F).map Prod.fst).map (Mt.mk i) ++ FR (i + 1)) := fun i x h => by rw [hFR]; exact Mat.raws_drop h
 have hend : Hid (FR R.length = []) := by rw [hFR]; dsimp only; rw [List.drop_length]; rfl
 clear HM hFR
 unfold AllRaw
 generalize R.map Rl.cells = RS at *
 generalize hFS : F.map Fc.cells = FS at *
 refine Qin [4] Tryz.func23 Tryz.results23 Tryz.ntmps23 ?_
 repeat' (first | refine QX ?_ | (refine QB ?_; intro b) | (with_reducible refine QZ ?_ <;> (try constructor) <;> intro hb <;> try intro hb1) | fail)
 obtain ⟨b5, rfl⟩ : ∃ q, q = b := ⟨_, rfl⟩
 refine tr_loopd (ι := Nat) (fun i A st' => i ≤ R.length ∧ A.e 1 = .sl .shared FS ∧ A.e 5 = .ptr b5 0 ∧ A.e 9 = .sl .shared RS ∧ A.e 10 = .i R.length ∧ A.e 11 = .i i ∧ ∃ rs acc, A.df = List.map mark rs ∧ Hid (acc ++ FR i = M) ∧ Hid (∀ m ∈ acc, m.ids.length ≤ 1000000) ∧ OutS b5 acc (List.map markR rs ++ st) st') (fun i => R.length - i) 0 ⟨Nat.zero_le _, Qf, Qf, Qf, Qf, Qf, [], [], rfl, HM0, Lib.hid (fun m hm => by cases hm), .inl ⟨rfl, rfl⟩⟩ ?_
 clear HM0
 rintro i A st' ⟨hi, e1, e5, e9, e10, e11, rs, acc, hdf, HA, hAi, hO⟩
 by_cases hlt : i < R.length
 · obtain ⟨x, hx⟩ := gEx hlt
   have hxc := hRc.out i x hx
   have hFi := hstep.out i x hx
   have hIx := hIt.out x (List.mem_of_getElem? hx)
   have hidx := hids.out x (List.mem_of_getElem? hx)
   have hMx := hMa.out x
   have HE := HA.out
   rw [hFi] at HE
   clear hRc hstep hIt hids hMa hx HA hFi hend
   generalize Mat.mats x F = L at *
   obtain ⟨mj, hmj⟩ : ∃ mj : Nat → List Mt, mj = fun j => ((L.take j).map Prod.fst).map (Mt.mk i) := ⟨_, rfl⟩
   have hmj0 : mj 0 = [] := by rw [hmj]; rfl
   have hmjL : mj L.length = (L.map Prod.fst).map (Mt.mk i) := by rw [hmj]; dsimp only; rw [List.take_length]
   have hmjs : Hid (∀ (j : Nat) (y : List Int × List V), L[j]? = some y → mj (j + 1) = mj j ++ [⟨i, y.1⟩]) := fun j y h => by
    rw [hmj]
    dsimp only
    rw [List.take_add_one, h, Option.toList_some, List.map_append, List.map_append]
    rfl
   have hmjm : Hid (∀ m ∈ mj L.length, m.ids.length ≤ 1000000) := fun m hm => by
    rw [hmj] at hm
    dsimp only at hm
    obtain ⟨y, hy, rfl⟩ := List.mem_map.1 hm
    obtain ⟨z, hz, rfl⟩ := List.mem_map.1 hy
    exact hidx z (List.mem_of_mem_take hz)
   have hmjl : Hid (∀ j, (acc ++ mj j).length ≤ 1000000) := fun j => by
    have h1 := congrArg List.length HE
    rw [List.length_append, List.length_append, List.length_map, List.length_map] at h1
    rw [List.length_append, hmj]
    dsimp only
    rw [List.length_map, List.length_map, List.length_take]
    omega
   rw [← hmjL, ← List.append_assoc] at HE
   replace HE := Lib.hid HE
   clear hmj hmjL
   rw [show x.cells = [.str x.name, .i x.sal, .sl .shared (x.pats.map Pt.cells), .sl .shared (x.acts.map Ac.cells)] from rfl] at *
   generalize x.pats.map Pt.cells = PS at *
   generalize x.acts.map Ac.cells = AS at *
   generalize x.name = nm at *
   generalize x.sal = sal at *
   replace hMx := Lib.hid hMx
   replace hIx := Lib.hid hIx
   replace hidx := Lib.hid hidx
   repeat' (first | with_reducible refine s_boxP ?_ | refine QX ?_ | (refine QB ?_; intro b) | (with_reducible refine QZ ?_ <;> (try constructor) <;> intro hb <;> try intro hb1) | refine Qc Tryz.call56 ((hMx.out _)) ?_ | fail)
   rename_i b6
   obtain ⟨XC, hXC⟩ : ∃ XC, XC = [D.str nm, D.i sal, D.sl .shared PS, D.sl .shared AS] := ⟨_, rfl⟩
   refine tr_perm (st' := [] ++ (.box b 34 XC :: .box b6 3 [.i i] :: st')) (by rw [hXC]; exact .refl _) ?_
   refine tr_range hIx.out Tryz.call87 q_v (fun _ => rfl) rfl (fun j C => ∃ core, C.Perm (.box b 34 XC :: .box b6 3 [.i i] :: core) ∧ OutS b5 (acc ++ mj j) (List.map markR rs ++ st) core) (fun _ _ _ => False) ⟨st', .refl _, by rw [hmj0, List.append_nil]; exact hO⟩ (fun j _ => by
    obtain ⟨core, h⟩ := OutS_ex b5 (acc ++ mj j) (List.map markR rs ++ st)
    exact ⟨_, core, .refl _, h⟩) ?_ ?_ (fun _ _ _ _ _ _ h => h.elim)
   · rintro l j ⟨y1, y2⟩ C K hy ⟨core, hp, hO2⟩
     have hs := hmjs.out j _ hy
     have hl := hmjl.out j
     dsimp only at hs
     clear hIx hMx hmjs hmjl HE hO hmj0 hidx hy hmjm
     generalize hY1 : y1.map encI = Y1 at *
     generalize hY2 : y2.map V.cells = Y2 at *
     have hmc : Mt.cells ⟨(i : Int), y1⟩ = [.i i, .sl .shared Y1] := by rw [← hY1]; rfl
     generalize hme : (⟨(i : Int), y1⟩ : Mt) = me at *
     refine tr_perm (hp.append_right K) ?_
     refine (?_ : Tr _ _ _ _ (AA.put (AA.put ⟨_, []⟩ (some 19) (.sl .shared (y1.map encI))) (some 20) (.sl .shared (y2.map V.cells))) (.box b 34 XC :: .box b6 3 [.i i] :: (core ++ K)) _)
     rw [hY1, hY2]
     clear hp
     repeat' (first | refine QX ?_ | (refine QB ?_; intro b) | (with_reducible refine QZ ?_ <;> (try constructor) <;> intro hb <;> try intro hb1) | fail)
     refine ⟨.box b 34 XC :: .box b6 3 [.i i] :: core, List.Sublist.refl _, fun K' => ?_⟩
     clear K
     rcases hO2 with ⟨hnil, rfl⟩ | ⟨hne, g, cap, zs, hz, rfl⟩
     · have hsm : acc ++ mj (j + 1) = [me] := by rw [hs, ← List.append_assoc, hnil]; rfl
       have hrm : rowM [me] = [[D.i i, D.sl .shared Y1]].flatten := by
        unfold rowM
        rw [List.map_cons, hmc]; rfl
       refine (?_ : Tr _ _ _ _ _ (.box b 34 XC :: .box b6 3 [.i i] :: .box b5 48 [.sl .tight []] :: ((List.map markR rs ++ st) ++ K')) _)
       repeat' (first | refine QV ?_ | with_reducible refine s_appN ?_ | with_reducible refine rn_go ?_ | ((with_reducible apply rn2_go); (focus exact q_n); (focus exact len_one rfl); (focus exact q_n); (focus exact q_n); intro g' cap' zs' hc hl') | refine QY ?_ | (refine QB ?_; intro b) | (with_reducible refine QZ ?_ <;> (try constructor) <;> intro hb <;> try intro hb1) | fail)
       refine ⟨.box g' 52 (_ ++ zs') :: .box b 34 XC :: .box b6 3 [.i i] :: .box b5 48 [.ar g' 0 1 cap'] :: (List.map markR rs ++ st), List.Sublist.refl _, .box b5 48 [.ar g' 0 1 cap'] :: .box g' 52 ([[D.i i, D.sl .shared Y1]].flatten ++ zs') :: (List.map markR rs ++ st), perm_m3, .inr ⟨?_, g', cap', zs', ?_, ?_⟩⟩
       · rw [hsm]; exact List.cons_ne_nil _ _
       · rw [hsm, hrm]; exact hl'
       · rw [hsm, hrm]; rfl
     · have hrl : (rowM (acc ++ mj j)).length = (acc ++ mj j).length * 2 := rowM_len _
       refine (?_ : Tr _ _ _ _ _ (.box b 34 XC :: .box b6 3 [.i i] :: .box b5 48 [.ar g 0 (acc ++ mj j).length cap] :: .box g 52 (rowM (acc ++ mj j) ++ zs) :: ((List.map markR rs ++ st) ++ K')) _)
       have hsm : acc ++ mj (j + 1) = (acc ++ mj j) ++ [me] := by rw [hs, List.append_assoc]
       have hra := rowM_app (acc ++ mj j) me
       rw [hmc] at hra
       have hle : ((acc ++ mj j) ++ [me]).length = (acc ++ mj j).length + 1 := List.length_append
       generalize rowM (acc ++ mj j) = RW at *
       generalize (acc ++ mj j).length = n at *
       repeat' (first | refine QV ?_ | with_reducible refine s_appR ?_ | with_reducible refine rk_go ?_ | ((with_reducible apply (r2_go hrl hz)); (focus (intro g' cs'; repeat (first | exact ra_h | apply ra_t))); (focus exact len_one rfl); (iterate 2 (focus exact q_n)); intro g' cap' zs' hc hl') | refine QY ?_ | (refine QB ?_; intro b) | (with_reducible refine QZ ?_ <;> (try constructor) <;> intro hb <;> try intro hb1) | fail)
       refine ⟨.box b 34 XC :: .box b6 3 [.i i] :: .box b5 48 [.ar g' 0 (n + 1) cap'] :: .box g' 52 (RW ++ [[D.i i, D.sl .shared Y1]].flatten ++ zs') :: (List.map markR rs ++ st), List.Sublist.refl _, _, .refl _, .inr ⟨?_, g', cap', zs', ?_, ?_⟩⟩
       · rw [hsm]; exact List.append_ne_nil_of_right_ne_nil _ (List.cons_ne_nil _ _)
       · rw [hsm, hra]; exact hl'
       · rw [hsm, hra, hle]
   · rintro d K1 C' rfl ⟨core, hp, hO2⟩
     have hE2 := HE.out
     rw [List.append_assoc] at hE2
     have hAi2 : Hid (∀ m ∈ acc ++ mj L.length, m.ids.length ≤ 1000000) := fun m hm => by
      rcases List.mem_append.1 hm with hm | hm
      · exact hAi.out m hm
      · exact hmjm.out m hm
     clear hmjm
     clear hIx hMx hmjs hmjl hO hmj0 hidx HE hAi
     change Tr _ _ _ _ _ _ _
     rcases hO2 with ⟨hnil, rfl⟩ | ⟨hne, g, cap, zs, hz, rfl⟩
     · refine tr_perm (st' := .box b 34 XC :: .box b6 3 [.i i] :: .box b5 48 [.sl .tight []] :: markR d :: (List.map markR rs ++ st)) ((hp.cons _).trans perm_m3) ?_
       repeat' (first | refine QX ?_ | (refine QB ?_; intro b) | (with_reducible refine QZ ?_ <;> (try constructor) <;> intro hb <;> try intro hb1) | fail)
       refine ⟨i + 1, .box b5 48 [.sl .tight []] :: markR d :: (List.map markR rs ++ st), ((List.Sublist.refl _).cons _).cons _, ⟨hlt, ?_, ?_, ?_, ?_, ?_, d :: rs, acc ++ mj L.length, ?_, Lib.hid (by rw [List.append_assoc]; exact hE2), hAi2, .inl ⟨hnil, rfl⟩⟩, by omega⟩
       all_goals first | exact congrArg (List.cons (mark d)) hdf | exact Qf
     · refine tr_perm (st' := .box b 34 XC :: .box b6 3 [.i i] :: .box b5 48 [.ar g 0 (acc ++ mj L.length).length cap] :: .box g 52 (rowM (acc ++ mj L.length) ++ zs) :: markR d :: (List.map markR rs ++ st)) ((hp.cons _).trans perm_m4) ?_
       obtain ⟨n, hn⟩ : ∃ n, n = (acc ++ mj L.length).length := ⟨_, rfl⟩
       obtain ⟨RW, hRW⟩ : ∃ RW, RW = rowM (acc ++ mj L.length) ++ zs := ⟨_, rfl⟩
       rw [← hn, ← hRW]
       rw [← hRW] at hz
       repeat' (first | refine QX ?_ | (refine QB ?_; intro b) | (with_reducible refine QZ ?_ <;> (try constructor) <;> intro hb <;> try intro hb1) | fail)
       refine ⟨i + 1, .box b5 48 [.ar g 0 n cap] :: .box g 52 RW :: markR d :: (List.map markR rs ++ st), ((List.Sublist.refl _).cons _).cons _, ⟨hlt, ?_, ?_, ?_, ?_, ?_, d :: rs, acc ++ mj L.length, ?_, Lib.hid (by rw [List.append_assoc]; exact hE2), hAi2, .inr ⟨hne, g, cap, zs, by rw [← hRW]; exact hz, by rw [hn, hRW]; rfl⟩⟩, by omega⟩
       all_goals first | exact congrArg (List.cons (mark d)) hdf | exact Qf
 · have hil : i = R.length := by omega
   subst hil
   have HE := HA.out
   rw [hend.out, List.append_nil] at HE
   subst HE
   clear HA hend hRc hstep hIt hids hMa
   rcases hO with ⟨rfl, rfl⟩ | ⟨hne, g, cap, zs, hz, rfl⟩
   · have hSn := Lib.hid matSortNilF
     repeat' (first | refine QX ?_ | (refine QB ?_; intro b) | (with_reducible refine QZ ?_ <;> (try constructor) <;> intro hb <;> try intro hb1) | refine Qc Tryz.call57 ((hSn.out _)) ?_ | fail)
     all_goals exact retA_marks q_x hdf perm_in1 ((List.Sublist.refl _).cons _) (LE.of_eq q_v) (.inl ⟨rfl, rfl, rfl⟩)
   · have hS := Lib.hid (matSortF g cap acc zs hne hAi.out hM)
     have hEx : Hid (∀ st : St, ∃ (d : D) (st' : St) (l' : List Mt), l'.Perm acc ∧ Mat.Srt l' ∧ d = .tup [] ∧ st' = .box g 52 (rowM l' ++ zs) :: st) := fun st => ⟨_, _, Mat.sortM acc, (Mat.sortM_srt acc).2, (Mat.sortM_srt acc).1, rfl, rfl⟩
     repeat' (first | refine QX ?_ | (refine QB ?_; intro b) | (with_reducible refine QZ ?_ <;> (try constructor) <;> intro hb <;> try intro hb1) | ((with_reducible apply (ck_gen Tryz.call57)); (focus exact List.Perm.swap _ _ _); (focus exact hS.out _); (focus exact LEL.refl _); (focus exact hEx.out _); (rintro d st' ⟨l', hp', hs', rfl, rfl⟩)) | fail)
     have hl' := Mat.sortM_eq hp' hs'
     exact retA_marks q_x hdf perm_in2 (((List.Sublist.refl _).cons _).cons_cons _) (LE.of_eq q_v) (.inr ⟨hne, g, cap, zs, rfl, by rw [hl']⟩)
end
section
attribute [local push_cast] encB encI encC V.cells_mk V.cells_len Nat.mul_one Int.sub_zero List.map_nil beq_self_eq_true bne_self_eq_false List.head?_cons
namespace Rul
theorem slots_in {L : List Tm} {k : Nat} {t : Tm} (h : L[k]? = some t) : slots L (k : Int) = (Sch.verX t (Sch.last t)).slots := by
 have := (List.getElem?_eq_some_iff.1 h).1
 unfold slots
 rw [if_pos ⟨by omega, by omega⟩, Int.toNat_natCast, h]
theorem slots_out {L : List Tm} {k : Int} (h : ¬ (0 ≤ k ∧ k < L.length)) : slots L k = [] := if_neg h
end Rul
theorem ruleSlotsF (L : List Tm) (hL : ∀ t ∈ L, TOk t) (hl : L.length ≤ 1000000) (k : Int) (st : St) : TrF Tryz.prog 48 [.sl .shared (L.map Tm.cells), .i k] st fun d st' => d = .sl .shared ((Rul.slots L k).map Sl.cells) ∧ st' = st := by
 have hm : (L.map Tm.cells).length = L.length := List.length_map ..
 by_cases hk : 0 ≤ k ∧ k < L.length
 · obtain ⟨n, rfl⟩ : ∃ n : Nat, (n : Int) = k := ⟨k.toNat, Int.toNat_of_nonneg hk.1⟩
   obtain ⟨t, ht⟩ := gEx (l := L) (i := n) q_o
   have hc : (L.map Tm.cells)[n]? = some t.cells := by rw [List.getElem?_map, ht]; rfl
   have hLa := schLastF t (hL t (List.mem_of_getElem? ht))
   have hAt := schAtF t (hL t (List.mem_of_getElem? ht)) (Sch.last t)
   rw [Rul.slots_in ht]
   clear hL ht
   generalize L.map Tm.cells = LS at *
   generalize Sch.verX t (Sch.last t) = x at *
   generalize Sch.verB t (Sch.last t) = xb at *
   generalize Sch.last t = la at *
   unfold Vr.cells at hAt
   generalize x.slots.map Sl.cells = X1 at *
   generalize x.cols.map encC = X2 at *
   unfold Tm.cells at *
   generalize t.slots.map Sl.cells = SL at *
   generalize t.steps.map Stp.cells = TL at *
   generalize t.name = nm at *
   replace hLa := Lib.hid hLa
   replace hAt := Lib.hid hAt
   obtain ⟨hk1, hk2⟩ := hk
   refine Qin [4] Tryz.func48 Tryz.results48 Tryz.ntmps48 ?_
   repeat' (first | refine QV ?_ | ((with_reducible apply (w_drawT (.node [0, 1, 2, 3, 4, 5, 6, 7] 13 8 (.node [8] 13 9 (.leaf [9, 10, 11, 12, 13, 14, 15]) (.leaf [13, 9, 10, 11, 12, 14, 15])) (.leaf [13, 8, 9, 10, 11, 12, 14, 15])) 16)); rfl; (iterate 3 kernel_rfl); (focus (simp only [Plan.lists, pickL, List.getElem?_cons_zero, List.getElem?_cons_succ]; exact rfl)); intro hne; (try simp only [nes, ne1, and_assoc] at hne); (repeat (have hq := hne.1; replace hne := hne.2)); simp only [wPL]) | with_reducible refine both_go ?_ ?_ | refine QY ?_ | (refine QB ?_; intro b) | (with_reducible refine QZ ?_ <;> (try constructor) <;> intro hb <;> try intro hb1) | fail)
   all_goals exact Qret
 · rw [Rul.slots_out hk]
   generalize L.map Tm.cells = LS at *
   by_cases h0 : k < 0
   · refine Qin [4] Tryz.func48 Tryz.results48 Tryz.ntmps48 ?_
     exact WR
   · have h1 : (L.length : Int) ≤ k := by omega
     refine Qin [4] Tryz.func48 Tryz.results48 Tryz.ntmps48 ?_
     exact WR
namespace Rul
end Rul
end
section
def bent : Nat → List Int → List MapEntry
 | _, [] => []
 | i, n :: l => ⟨.int .i64 n, .bool true, i⟩ :: bent (i + 1) l
def bmapO (l : List Int) : Obj := .map (bent 0 l).toArray l.length
def bmap (r : Nat) (l : List Int) : Res := .raw r (bmapO l)
abbrev D.mp (r : Nat) : D := .s (.map (some r))
def insK (l : List Int) (n : Int) : List Int := if n ∈ l then l else l ++ [n]
theorem bent_append (l m : List Int) : ∀ i, bent i (l ++ m) = bent i l ++ bent (i + l.length) m := by
 induction l with
 | nil => intro i; rfl
 | cons n l ih => intro i; simp only [List.cons_append, bent, ih, List.length_cons]; rw [show i + 1 + l.length = i + (l.length + 1) by omega]
theorem bent_len (l : List Int) : ∀ i, (bent i l).length = l.length := by
 induction l with
 | nil => intro i; rfl
 | cons n l ih => intro i; simp only [bent, List.length_cons, ih]
theorem find_bent (n : Int) : ∀ (l : List Int) (i j : Nat), (n ∈ l → ∃ k, k < l.length ∧ Instr.findNow (.int .i64) (.int .i64 n) (bent i l) j = some (some (j + k, .bool true)) ∧ (bent i l)[k]? = some ⟨.int .i64 n, .bool true, i + k⟩) ∧ (n ∉ l → Instr.findNow (.int .i64) (.int .i64 n) (bent i l) j = some none)
 | [], i, j => ⟨fun h => (by cases h), fun _ => rfl⟩
 | m :: l, i, j => by
  have hs : Instr.sameNow (.int .i64) (.int .i64 n) (.int .i64 m) = some (n == m) := by simp [Instr.sameNow]
  have ih := find_bent n l (i + 1) (j + 1)
  by_cases h : n = m
  · subst h
    refine ⟨fun _ => ⟨0, by simp, ?_, rfl⟩, fun hn => absurd (List.mem_cons_self ..) hn⟩
    simp [bent, Instr.findNow, hs]
  · have hf : (n == m) = false := beq_eq_false_iff_ne.2 h
    refine ⟨fun hm => ?_, fun hm => ?_⟩
    · obtain ⟨k, k1, k2, k3⟩ := ih.1 ((List.mem_cons.1 hm).resolve_left h)
      refine ⟨k + 1, by simpa using k1, ?_, ?_⟩
      · simp only [bent, Instr.findNow, hs, hf, k2]
        rw [show j + 1 + k = j + (k + 1) by omega]
      · simp only [bent, List.getElem?_cons_succ, k3]
        rw [show i + 1 + k = i + (k + 1) by omega]
    · simp only [bent, Instr.findNow, hs, hf]
      exact ih.2 fun hk => hm (List.mem_cons_of_mem _ hk)
section
variable {P : Program} {r : Option Nat} {o : Oper} {e : Nat → D} {st : St} {K : D → St → Prop} {t kt et : TypeId} {b : Nat} {n : Int} {l : List Int}
theorem run_checkI (hk : P.underlying kt = some (.int .i64)) (em : Bool) (w : World) : (Instr.checkKey em 10000 kt (.int .i64 n)).run P w = .ok () w := Go.MapKept.run_checkKey (k := .int .i64 n) hk (by simp [Go.MapKept.IsKey]) em 9999
theorem run_findI (hk : P.underlying kt = some (.int .i64)) (w : World) {x : Option (Nat × Value)} (h : Instr.findNow (.int .i64) (.int .i64 n) (bent 0 l) 0 = some x) : (Instr.findKey kt (.int .i64 n) (bent 0 l)).run P w = .ok x w := Go.MapKept.run_findKey hk h
theorem opC_makeMap (ho : o.op = .makeMap t none) (h : ∀ b, K (.mp b) (bmap b [] :: st)) : OpC P r o e st K := by
 refine opC_val (by rw [ho]; intro c hc; cases hc) fun ρ w hr hh => .inl ?_
 obtain ⟨k1, k2⟩ := new_own hh (.raw w.heap.size (.map #[] 0)) (fun b e => by cases e; rfl) (.map #[] 0) fun he => heap_alloc_new w _
 unfold execOp
 rw [ho]
 exact ⟨.map (some w.heap.size), _, rfl, .mp w.heap.size, _, .s _ rfl, k1, k2, h _⟩
theorem opC_lookup {x y : Operand} (ho : o.op = .lookup t x y false) (hx : ev e x = some (.mp b)) (hy : ev e y = some (.i n)) (hm : bmap b l ∈ st) (hu : P.underlying t = some (.map kt et)) (hk : P.underlying kt = some (.int .i64)) (hz : (P.info? et).bind (·.zero) = some (.bool false)) (h : K (.b (decide (n ∈ l))) st) : OpC P r o e st K := by
 refine opC_val (by rw [ho]; intro c hc; cases hc) fun ρ w hr hh => .inl ?_
 have hp := hr _ (by simp [ho, Op.operands]) _ hx
 have hv := hr _ (by simp [ho, Op.operands]) _ hy
 have hb : w.heap[b]? = some (bmapO l) := hh.2 _ hm
 unfold execOp
 rw [ho]
 simp only
 generalize ρ x = p at hp
 generalize ρ y = v at hv
 cases hp
 cases hv
 have hz2 : (zeroValue et).run P w = .ok (.bool false) w := by
  cases hi : P.info? et with
  | none => rw [hi] at hz; cases hz
  | some i =>
   rw [hi] at hz
   simp only [Option.bind_some] at hz
   simp [zeroValue, typeInfo, hi, hz]
 have hget : (getObj b).run P w = .ok (bmapO l) w := Go.MapKept.run_getObj_map hb
 by_cases hn : n ∈ l
 · obtain ⟨k, k1, k2, k3⟩ := (find_bent n l 0 0).1 hn
   refine ⟨.bool true, w, ?_, .b (decide (n ∈ l)), st, ?_, hh, Ext.refl _ _, h⟩
   · simp [Instr.lookup, run_underlying hu, hget, bmapO, run_checkI hk, run_findI hk w k2]
   · rw [decide_eq_true hn]; exact .s _ rfl
 · have k2 := (find_bent n l 0 0).2 hn
   refine ⟨.bool false, w, ?_, .b (decide (n ∈ l)), st, ?_, hh, Ext.refl _ _, h⟩
   · simp [Instr.lookup, run_underlying hu, hget, bmapO, run_checkI hk, run_findI hk w k2, hz2]
   · rw [decide_eq_false hn]; exact .s _ rfl
theorem opC_mapUpdate {x y z : Operand} {s1 : St} (ho : o.op = .mapUpdate t x y z) (hx : ev e x = some (.mp b)) (hy : ev e y = some (.i n)) (hz : ev e z = some (.b true)) (hm : ResAt (bmap b l) (bmap b (insK l n)) st s1) (hu : P.underlying t = some (.map kt et)) (hk : P.underlying kt = some (.int .i64)) (h : K D.un s1) : OpC P r o e st K := by
 refine opC_val (by rw [ho]; intro c hc; cases hc) fun ρ w hr hh => .inr ?_
 have hp := hr _ (by simp [ho, Op.operands]) _ hx
 have hv := hr _ (by simp [ho, Op.operands]) _ hy
 have hzv := hr _ (by simp [ho, Op.operands]) _ hz
 obtain ⟨s0, p1, p2⟩ := hm.perm
 have hh' := hh.perm p1
 have hb : w.heap[b]? = some (bmapO l) := hh'.2 _ (List.mem_cons_self ..)
 unfold execOp
 rw [ho]
 simp only
 generalize ρ x = p at hp
 generalize ρ y = v at hv
 generalize ρ z = u at hzv
 cases hp
 cases hv
 cases hzv
 have hget : (getObj b).run P w = .ok (bmapO l) w := Go.MapKept.run_getObj_map hb
 have hset : ∀ o, (setObj b o).run P w = .ok () (w.putObj b o) := fun o => Go.MapKept.run_setObj_map o hb
 obtain ⟨q1, q2⟩ := raw_set (o' := bmapO (insK l n)) hh' (fun c E fr h => by cases h)
 refine ⟨_, ?_, D.un, s1, .s undef rfl, q1.perm p2.symm, q2.perm p1 p2, h⟩
 by_cases hn : n ∈ l
 · obtain ⟨k, k1, k2, k3⟩ := (find_bent n l 0 0).1 hn
   have hmod : (bent 0 l).toArray.modify k (fun e => { e with key := .int .i64 n, val := .bool true }) = (bent 0 l).toArray := by
    apply Array.ext_getElem?
    intro j
    rw [Array.getElem?_modify]
    split
    · rename_i hj; subst hj
      simp [k3]
    · rfl
   have hl2 : k < (bent 0 l).length := by rw [bent_len]; exact k1
   have hkk : (((bent 0 l).toArray[k]?).map (·.key)).getD (.int .i64 n) = .int .i64 n := by simp [k3]
   simp only [Instr.mapUpdate, Sem.run_bind, run_underlying hu, Result.andThen_ok, hget, bmapO, run_checkI hk, run_findI hk w k2, hset, insK, if_pos hn]
   have hmod2 : (bent 0 l).modify k (fun e => { e with key := .int .i64 n, val := .bool true }) = bent 0 l := by simpa using hmod
   simp [k3, Instr.keyThatStays, Instr.sameBits, hmod2, hset]
 · have k2 := (find_bent n l 0 0).2 hn
   simp only [Instr.mapUpdate, Sem.run_bind, run_underlying hu, Result.andThen_ok, hget, bmapO, run_checkI hk, run_findI hk w k2, insK, if_neg hn]
   simp [hset, bent_append, bent, bmapO]
end
def mapT (P : Program) (t : TypeId) : Bool :=
 match P.underlying t with
 | some (.map kt et) => (match P.underlying kt with | some (.int .i64) => true | _ => false) && (match (P.info? et).bind (·.zero) with | some (.bool false) => true | _ => false)
 | _ => false
theorem mapT_spec {P : Program} {t : TypeId} (h : mapT P t = true) : ∃ kt et, P.underlying t = some (.map kt et) ∧ P.underlying kt = some (.int .i64) ∧ (P.info? et).bind (·.zero) = some (.bool false) := by
 unfold mapT at h
 split at h
 · rename_i kt et hu
   rw [Bool.and_eq_true] at h
   obtain ⟨h1, h2⟩ := h
   refine ⟨kt, et, hu, ?_, ?_⟩
   · split at h1
     · assumption
     · cases h1
   · split at h2
     · assumption
     · cases h2
 · cases h
section
variable {P : Program} {r : Option Nat} {m : Option Ro} {A : AA} {st : St} {k : D → St → Prop} {dst : Option Tmp} {ty : TypeId} {pos : String} {aft : Array Edge} {gd : Option (Nat × Bool)} {t : TypeId} {b : Nat} {n : Int} {l : List Int}
def MkM (m : Option Ro) (st : St) (k : D → St → Prop) : Prop := ∀ b, Keep m (bmap b [] :: st) ∧ k (.mp b) (bmap b [] :: st)
theorem mm_go (h : ∀ b, Keep m (bmap b [] :: st) ∧ k (.mp b) (bmap b [] :: st)) : MkM m st k := h
theorem s_makeMap (h : MkM m st k) : S P r m ⟨dst, .makeMap t none, ty, pos, aft, gd⟩ A st k :=
 s_chain (R := fun d s => ∃ b, d = .mp b ∧ s = bmap b [] :: st) rfl (opC_makeMap rfl fun b => ⟨b, rfl, rfl⟩) ⟨_, _, 0, rfl, rfl⟩ fun d s ⟨b, e1, e2⟩ => by subst e1 e2; exact h b
def LkM (P : Program) (m : Option Ro) (t : TypeId) (d d' : D) (st : St) (k : D → St → Prop) : Prop :=
 ∃ b n l, d = .mp b ∧ d' = .i n ∧ bmap b l ∈ st ∧ mapT P t = true ∧ Keep m st ∧ k (.b (decide (n ∈ l))) st
theorem s_lookup {x y : Operand} (h : Ev (ev A.e x) fun d => Ev (ev A.e y) fun d' => LkM P m t d d' st k) : S P r m ⟨dst, .lookup t x y false, ty, pos, aft, gd⟩ A st k := by
 obtain ⟨d, h1, d', h2, b, n, l, rfl, rfl, hm, ht, h3⟩ := h
 obtain ⟨kt, et, t1, t2, t3⟩ := mapT_spec ht
 exact s_chain (R := fun d s => d = .b (decide (n ∈ l)) ∧ s = st) rfl (opC_lookup rfl h1 h2 hm t1 t2 t3 ⟨rfl, rfl⟩) ⟨_, _, rfl, rfl⟩ fun d s ⟨e1, e2⟩ => by subst e1 e2; exact h3
def UpM (P : Program) (m : Option Ro) (t : TypeId) (d d' d'' : D) (st : St) (k : D → St → Prop) : Prop :=
 ∃ b n l s1, d = .mp b ∧ d' = .i n ∧ d'' = .b true ∧ ResAt (bmap b l) (bmap b (insK l n)) st s1 ∧ mapT P t = true ∧ Keep m s1 ∧ k D.un s1
theorem s_mapUpdate {x y z : Operand} (h : Ev (ev A.e x) fun d => Ev (ev A.e y) fun d' => Ev (ev A.e z) fun d'' => UpM P m t d d' d'' st k) : S P r m ⟨dst, .mapUpdate t x y z, ty, pos, aft, gd⟩ A st k := by
 obtain ⟨d, h1, d', h2, d'', h4, b, n, l, s1, rfl, rfl, rfl, hm, ht, h3⟩ := h
 obtain ⟨kt, et, t1, t2, t3⟩ := mapT_spec ht
 exact s_chain (R := fun d s => d = D.un ∧ s = s1) rfl (opC_mapUpdate rfl h1 h2 h4 hm t1 t2 ⟨rfl, rfl⟩) ⟨_, _, rfl, rfl⟩ fun d s ⟨e1, e2⟩ => by subst e1 e2; exact h3
instance i_s_makeMap : Go1 (S P r m ⟨dst, .makeMap t none, ty, pos, aft, gd⟩ A st k) (MkM m st k) := ⟨s_makeMap⟩
instance i_s_lookup {x y : Operand} : Go1 (S P r m ⟨dst, .lookup t x y false, ty, pos, aft, gd⟩ A st k) (Ev (ev A.e x) fun d => Ev (ev A.e y) fun d' => LkM P m t d d' st k) := ⟨s_lookup⟩
instance i_s_mapUpdate {x y z : Operand} : Go1 (S P r m ⟨dst, .mapUpdate t x y z, ty, pos, aft, gd⟩ A st k) (Ev (ev A.e x) fun d => Ev (ev A.e y) fun d' => Ev (ev A.e z) fun d'' => UpM P m t d d' d'' st k) := ⟨s_mapUpdate⟩
end
class MpI (b : Nat) (st : St) (l : outParam (List Int)) (s1 : outParam (List Int → St)) : Prop where
 mem : bmap b l ∈ st
 go : ∀ l', ResAt (bmap b l) (bmap b l') st (s1 l')
instance mp_here {b : Nat} {l : List Int} {st : St} : MpI b (bmap b l :: st) l (fun l' => bmap b l' :: st) := ⟨List.Mem.head _, fun _ => ResAt.here⟩
instance (priority := low) mp_there {b : Nat} {l : List Int} {x : Res} {st : St} {s1 : List Int → St} [h : MpI b st l s1] : MpI b (x :: st) l (fun l' => x :: s1 l') := ⟨List.Mem.tail _ h.mem, fun l' => ResAt.there (h.go l')⟩
section
variable {P : Program} {m : Option Ro} {st : St} {k : D → St → Prop} {t : TypeId} {b : Nat} {n : Int} {l : List Int} {s1 : List Int → St}
instance i_lkm [h : MpI b st l s1] : Go5 (LkM P m t (.s (.map (some b))) (.s (.int .i64 n)) st k) (mapT P t = true) (Keep m st ∧ k (.b (decide (n ∈ l))) st) := ⟨fun ht hk => ⟨b, n, l, rfl, rfl, h.mem, ht, hk⟩⟩
instance i_upm [h : MpI b st l s1] : Go5 (UpM P m t (.s (.map (some b))) (.s (.int .i64 n)) (.s (.bool true)) st k) (mapT P t = true) (Keep m (s1 (insK l n)) ∧ k D.un (s1 (insK l n))) := ⟨fun ht hk => ⟨b, n, l, _, rfl, rfl, rfl, h.go _, ht, hk⟩⟩
end
end
section
attribute [local push_cast] encB encI encC V.cells_mk V.cells_len Nat.mul_one Int.sub_zero List.map_nil beq_self_eq_true bne_self_eq_false List.head?_cons
namespace Rul
def idx {α σ : Type} (F : σ → α → Bool × σ) : σ → List α → Nat → Int × σ
 | s, [], _ => (-1, s)
 | s, a :: l, i => if (F s a).1 = true then ((i : Int), (F s a).2) else idx F (F s a).2 l (i + 1)
def anyS {α σ : Type} (F : σ → α → Bool × σ) : σ → List α → Bool × σ
 | s, [] => (false, s)
 | s, a :: l => if (F s a).1 = true then (true, (F s a).2) else anyS F (F s a).2 l
theorem idx_any {α σ : Type} (F : σ → α → Bool × σ) : ∀ (l : List α) (s : σ) (i : Nat), (idx F s l i).2 = (anyS F s l).2 ∧ decide ((idx F s l i).1 ≥ 0) = (anyS F s l).1
 | [], s, i => ⟨rfl, rfl⟩
 | a :: l, s, i => by
  rw [idx, anyS]
  split
  · exact ⟨rfl, decide_eq_true (by show (i : Int) ≥ 0; omega)⟩
  · exact idx_any F l _ _
theorem idx_drop {α σ : Type} (F : σ → α → Bool × σ) {L : List α} {i : Nat} {a : α} (h : L[i]? = some a) (s : σ) : idx F s (L.drop i) i = if (F s a).1 = true then ((i : Int), (F s a).2) else idx F (F s a).2 (L.drop (i + 1)) (i + 1) := by
 obtain ⟨h1, rfl⟩ := List.getElem?_eq_some_iff.1 h
 rw [List.drop_eq_getElem_cons h1, idx]
theorem idx_le {α σ : Type} (F : σ → α → Bool × σ) : ∀ (l : List α) (s : σ) (i : Nat), -1 ≤ (idx F s l i).1 ∧ (idx F s l i).1 ≤ i + l.length
 | [], s, i => ⟨Int.le_refl _, by show (-1 : Int) ≤ _; omega⟩
 | a :: l, s, i => by
  rw [idx]
  split
  · dsimp only; rw [List.length_cons]; omega
  · have := idx_le F l (F s a).2 (i + 1)
    rw [List.length_cons]; omega
end Rul
theorem idxFTest {σ : Type} (fn : FuncId) (caps : List D) (hcall : ∀ args w, (callFunc fn args).run Tryz.prog w = .ok (.enter fn args) w) (L : List Ts) (hl : L.length ≤ 1000000) (F : σ → Ts → Bool × σ) (S : σ → St)
 (hF : ∀ a ∈ L, ∀ s, TrF Tryz.prog fn (.agg a.cells :: caps) (S s) fun d st' => d = .b (F s a).1 ∧ st' = S (F s a).2) (s0 : σ) : TrF Tryz.prog 180 [.sl .shared (L.map Ts.cells), .fn (.func fn) [] caps] (S s0) fun d st' => d = .i (Rul.idx F s0 L 0).1 ∧ st' = S (Rul.idx F s0 L 0).2 := by
 obtain ⟨R, hR⟩ : ∃ R, Rul.idx F s0 L 0 = R := ⟨_, rfl⟩
 rw [hR]
 have HF : Hid (Rul.idx F s0 (L.drop 0) 0 = R) := hR
 have hm : (L.map Ts.cells).length = L.length := List.length_map ..
 have hc := hMp Ts.cells L
 have hF2 := Lib.hid hF
 clear hR hF
 generalize L.map Ts.cells = LS at *
 refine Qin [4] Tryz.func180 Tryz.results180 Tryz.ntmps180 ?_
 repeat' (first | refine QX ?_ | (refine QB ?_; intro b) | (with_reducible refine QZ ?_ <;> (try constructor) <;> intro hb <;> try intro hb1) | fail)
 refine tr_loopd (ι := Nat) (fun i A st' => i ≤ L.length ∧ A.df = [] ∧ A.e 0 = .sl .shared LS ∧ A.e 1 = .fn (.func fn) [] caps ∧ A.e 7 = .i L.length ∧ A.e 8 = .i i ∧ ∃ s, Hid (Rul.idx F s (L.drop i) i = R) ∧ st' = S s) (fun i => L.length - i) 0 ⟨Nat.zero_le _, Qf, Qf, Qf, Qf, Qf, s0, HF, rfl⟩ ?_
 clear HF
 rintro i A st' ⟨hi, hdf, e0, e1, e7, e8, s, HT, rfl⟩
 by_cases hlt : i < L.length
 · obtain ⟨a, ha⟩ := gEx hlt
   have h1 := hc.out i a ha
   have hG := hF2.out a (List.mem_of_getElem? ha) s
   have HE := HT.out
   rw [Rul.idx_drop F ha] at HE
   clear HT ha hF2
   generalize F s a = q at *
   obtain ⟨q, s'⟩ := q
   dsimp only at *
   cases a with
   | mk kind slot var val =>
   cases val with
   | mk k1 n1 s1 l1 =>
   rw [Ts.cells_mk] at h1 hG
   replace hG := Lib.hid hG
   cases q with
   | true =>
    rw [if_pos rfl] at HE
    subst HE
    repeat' (first | refine QX ?_ | (refine QB ?_; intro b) | (with_reducible refine QZ ?_ <;> (try constructor) <;> intro hb <;> try intro hb1) | refine Qc hcall hG.out ?_ | fail)
    all_goals exact Qret
   | false =>
    rw [if_neg Bool.false_ne_true] at HE
    replace HE := Lib.hid HE
    repeat' (first | refine QX ?_ | (refine QB ?_; intro b) | (with_reducible refine QZ ?_ <;> (try constructor) <;> intro hb <;> try intro hb1) | refine Qc hcall hG.out ?_ | fail)
    refine ⟨i + 1, S s', q_u, ⟨hlt, ?_, ?_, ?_, ?_, ?_, s', HE, rfl⟩, by omega⟩
    all_goals exact Qf
 · have HE := HT.out
   rw [List.drop_of_length_le q_o, Rul.idx] at HE
   subst HE
   clear HT hF2
   exact WR
theorem conFTest {σ : Type} (fn : FuncId) (caps : List D) (hcall : ∀ args w, (callFunc fn args).run Tryz.prog w = .ok (.enter fn args) w) (L : List Ts) (hl : L.length ≤ 1000000) (F : σ → Ts → Bool × σ) (S : σ → St)
 (hF : ∀ a ∈ L, ∀ s, TrF Tryz.prog fn (.agg a.cells :: caps) (S s) fun d st' => d = .b (F s a).1 ∧ st' = S (F s a).2) (s0 : σ) : TrF Tryz.prog 150 [.sl .shared (L.map Ts.cells), .fn (.func fn) [] caps] (S s0) fun d st' => d = .b (Rul.anyS F s0 L).1 ∧ st' = S (Rul.anyS F s0 L).2 := by
 have hI := idxFTest fn caps hcall L hl F S hF s0
 obtain ⟨e1, e2⟩ := Rul.idx_any F L s0 0
 have hle := Rul.idx_le F L s0 0
 rw [← e1, ← e2]
 clear e1 e2 hF
 generalize Rul.idx F s0 L 0 = R at *
 obtain ⟨R, s'⟩ := R
 generalize L.map Ts.cells = LS at *
 dsimp only at *
 replace hI := Lib.hid hI
 by_cases hR : R ≥ 0
 · rw [decide_eq_true hR]
   refine Qin [4] Tryz.func150 Tryz.results150 Tryz.ntmps150 ?_
   repeat' (first | refine QX ?_ | (refine QB ?_; intro b) | (with_reducible refine QZ ?_ <;> (try constructor) <;> intro hb <;> try intro hb1) | refine Qc Tryz.call180 hI.out ?_ | fail)
   all_goals exact Qret
 · rw [decide_eq_false hR]
   refine Qin [4] Tryz.func150 Tryz.results150 Tryz.ntmps150 ?_
   repeat' (first | refine QX ?_ | (refine QB ?_; intro b) | (with_reducible refine QZ ?_ <;> (try constructor) <;> intro hb <;> try intro hb1) | refine Qc Tryz.call180 hI.out ?_ | fail)
   all_goals exact Qret
theorem idxFPat {σ : Type} (fn : FuncId) (caps : List D) (hcall : ∀ args w, (callFunc fn args).run Tryz.prog w = .ok (.enter fn args) w) (L : List Pt) (hl : L.length ≤ 1000000) (F : σ → Pt → Bool × σ) (S : σ → St)
 (hF : ∀ a ∈ L, ∀ s, TrF Tryz.prog fn (.agg a.cells :: caps) (S s) fun d st' => d = .b (F s a).1 ∧ st' = S (F s a).2) (s0 : σ) : TrF Tryz.prog 149 [.sl .shared (L.map Pt.cells), .fn (.func fn) [] caps] (S s0) fun d st' => d = .i (Rul.idx F s0 L 0).1 ∧ st' = S (Rul.idx F s0 L 0).2 := by
 obtain ⟨R, hR⟩ : ∃ R, Rul.idx F s0 L 0 = R := ⟨_, rfl⟩
 rw [hR]
 have HF : Hid (Rul.idx F s0 (L.drop 0) 0 = R) := hR
 have hm : (L.map Pt.cells).length = L.length := List.length_map ..
 have hc := hMp Pt.cells L
 have hF2 := Lib.hid hF
 clear hR hF
 generalize L.map Pt.cells = LS at *
 refine Qin [4] Tryz.func149 Tryz.results149 Tryz.ntmps149 ?_
 repeat' (first | refine QX ?_ | (refine QB ?_; intro b) | (with_reducible refine QZ ?_ <;> (try constructor) <;> intro hb <;> try intro hb1) | fail)
 refine tr_loopd (ι := Nat) (fun i A st' => i ≤ L.length ∧ A.df = [] ∧ A.e 0 = .sl .shared LS ∧ A.e 1 = .fn (.func fn) [] caps ∧ A.e 7 = .i L.length ∧ A.e 8 = .i i ∧ ∃ s, Hid (Rul.idx F s (L.drop i) i = R) ∧ st' = S s) (fun i => L.length - i) 0 ⟨Nat.zero_le _, Qf, Qf, Qf, Qf, Qf, s0, HF, rfl⟩ ?_
 clear HF
 rintro i A st' ⟨hi, hdf, e0, e1, e7, e8, s, HT, rfl⟩
 by_cases hlt : i < L.length
 · obtain ⟨a, ha⟩ := gEx hlt
   have h1 := hc.out i a ha
   have hG := hF2.out a (List.mem_of_getElem? ha) s
   have HE := HT.out
   rw [Rul.idx_drop F ha] at HE
   clear HT ha hF2
   generalize F s a = q at *
   obtain ⟨q, s'⟩ := q
   dsimp only at *
   unfold Pt.cells at h1 hG
   cases a with
   | mk tmpl neg tests =>
   dsimp only at h1 hG
   generalize tests.map Ts.cells = TS at *
   replace hG := Lib.hid hG
   cases q with
   | true =>
    rw [if_pos rfl] at HE
    subst HE
    repeat' (first | refine QX ?_ | (refine QB ?_; intro b) | (with_reducible refine QZ ?_ <;> (try constructor) <;> intro hb <;> try intro hb1) | refine Qc hcall hG.out ?_ | fail)
    all_goals exact Qret
   | false =>
    rw [if_neg Bool.false_ne_true] at HE
    replace HE := Lib.hid HE
    repeat' (first | refine QX ?_ | (refine QB ?_; intro b) | (with_reducible refine QZ ?_ <;> (try constructor) <;> intro hb <;> try intro hb1) | refine Qc hcall hG.out ?_ | fail)
    refine ⟨i + 1, S s', q_u, ⟨hlt, ?_, ?_, ?_, ?_, ?_, s', HE, rfl⟩, by omega⟩
    all_goals exact Qf
 · have HE := HT.out
   rw [List.drop_of_length_le q_o, Rul.idx] at HE
   subst HE
   clear HT hF2
   exact WR
theorem conFPat {σ : Type} (fn : FuncId) (caps : List D) (hcall : ∀ args w, (callFunc fn args).run Tryz.prog w = .ok (.enter fn args) w) (L : List Pt) (hl : L.length ≤ 1000000) (F : σ → Pt → Bool × σ) (S : σ → St)
 (hF : ∀ a ∈ L, ∀ s, TrF Tryz.prog fn (.agg a.cells :: caps) (S s) fun d st' => d = .b (F s a).1 ∧ st' = S (F s a).2) (s0 : σ) : TrF Tryz.prog 116 [.sl .shared (L.map Pt.cells), .fn (.func fn) [] caps] (S s0) fun d st' => d = .b (Rul.anyS F s0 L).1 ∧ st' = S (Rul.anyS F s0 L).2 := by
 have hI := idxFPat fn caps hcall L hl F S hF s0
 obtain ⟨e1, e2⟩ := Rul.idx_any F L s0 0
 have hle := Rul.idx_le F L s0 0
 rw [← e1, ← e2]
 clear e1 e2 hF
 generalize Rul.idx F s0 L 0 = R at *
 obtain ⟨R, s'⟩ := R
 generalize L.map Pt.cells = LS at *
 dsimp only at *
 replace hI := Lib.hid hI
 by_cases hR : R ≥ 0
 · rw [decide_eq_true hR]
   refine Qin [4] Tryz.func116 Tryz.results116 Tryz.ntmps116 ?_
   repeat' (first | refine QX ?_ | (refine QB ?_; intro b) | (with_reducible refine QZ ?_ <;> (try constructor) <;> intro hb <;> try intro hb1) | refine Qc Tryz.call149 hI.out ?_ | fail)
   all_goals exact Qret
 · rw [decide_eq_false hR]
   refine Qin [4] Tryz.func116 Tryz.results116 Tryz.ntmps116 ?_
   repeat' (first | refine QX ?_ | (refine QB ?_; intro b) | (with_reducible refine QZ ?_ <;> (try constructor) <;> intro hb <;> try intro hb1) | refine Qc Tryz.call149 hI.out ?_ | fail)
   all_goals exact Qret
theorem idxFAct {σ : Type} (fn : FuncId) (caps : List D) (hcall : ∀ args w, (callFunc fn args).run Tryz.prog w = .ok (.enter fn args) w) (L : List Ac) (hl : L.length ≤ 1000000) (F : σ → Ac → Bool × σ) (S : σ → St)
 (hF : ∀ a ∈ L, ∀ s, TrF Tryz.prog fn (.agg a.cells :: caps) (S s) fun d st' => d = .b (F s a).1 ∧ st' = S (F s a).2) (s0 : σ) : TrF Tryz.prog 153 [.sl .shared (L.map Ac.cells), .fn (.func fn) [] caps] (S s0) fun d st' => d = .i (Rul.idx F s0 L 0).1 ∧ st' = S (Rul.idx F s0 L 0).2 := by
 obtain ⟨R, hR⟩ : ∃ R, Rul.idx F s0 L 0 = R := ⟨_, rfl⟩
 rw [hR]
 have HF : Hid (Rul.idx F s0 (L.drop 0) 0 = R) := hR
 have hm : (L.map Ac.cells).length = L.length := List.length_map ..
 have hc := hMp Ac.cells L
 have hF2 := Lib.hid hF
 clear hR hF
 generalize L.map Ac.cells = LS at *
 refine Qin [4] Tryz.func153 Tryz.results153 Tryz.ntmps153 ?_
 repeat' (first | refine QX ?_ | (refine QB ?_; intro b) | (with_reducible refine QZ ?_ <;> (try constructor) <;> intro hb <;> try intro hb1) | fail)
 refine tr_loopd (ι := Nat) (fun i A st' => i ≤ L.length ∧ A.df = [] ∧ A.e 0 = .sl .shared LS ∧ A.e 1 = .fn (.func fn) [] caps ∧ A.e 7 = .i L.length ∧ A.e 8 = .i i ∧ ∃ s, Hid (Rul.idx F s (L.drop i) i = R) ∧ st' = S s) (fun i => L.length - i) 0 ⟨Nat.zero_le _, Qf, Qf, Qf, Qf, Qf, s0, HF, rfl⟩ ?_
 clear HF
 rintro i A st' ⟨hi, hdf, e0, e1, e7, e8, s, HT, rfl⟩
 by_cases hlt : i < L.length
 · obtain ⟨a, ha⟩ := gEx hlt
   have h1 := hc.out i a ha
   have hG := hF2.out a (List.mem_of_getElem? ha) s
   have HE := HT.out
   rw [Rul.idx_drop F ha] at HE
   clear HT ha hF2
   generalize F s a = q at *
   obtain ⟨q, s'⟩ := q
   dsimp only at *
   unfold Ac.cells at h1 hG
   cases a with
   | mk kind pat tmpl slot vals =>
   dsimp only at h1 hG
   generalize vals.map Ex.cells = ES at *
   replace hG := Lib.hid hG
   cases q with
   | true =>
    rw [if_pos rfl] at HE
    subst HE
    repeat' (first | refine QX ?_ | (refine QB ?_; intro b) | (with_reducible refine QZ ?_ <;> (try constructor) <;> intro hb <;> try intro hb1) | refine Qc hcall hG.out ?_ | fail)
    all_goals exact Qret
   | false =>
    rw [if_neg Bool.false_ne_true] at HE
    replace HE := Lib.hid HE
    repeat' (first | refine QX ?_ | (refine QB ?_; intro b) | (with_reducible refine QZ ?_ <;> (try constructor) <;> intro hb <;> try intro hb1) | refine Qc hcall hG.out ?_ | fail)
    refine ⟨i + 1, S s', q_u, ⟨hlt, ?_, ?_, ?_, ?_, ?_, s', HE, rfl⟩, by omega⟩
    all_goals exact Qf
 · have HE := HT.out
   rw [List.drop_of_length_le q_o, Rul.idx] at HE
   subst HE
   clear HT hF2
   exact WR
theorem conFAct {σ : Type} (fn : FuncId) (caps : List D) (hcall : ∀ args w, (callFunc fn args).run Tryz.prog w = .ok (.enter fn args) w) (L : List Ac) (hl : L.length ≤ 1000000) (F : σ → Ac → Bool × σ) (S : σ → St)
 (hF : ∀ a ∈ L, ∀ s, TrF Tryz.prog fn (.agg a.cells :: caps) (S s) fun d st' => d = .b (F s a).1 ∧ st' = S (F s a).2) (s0 : σ) : TrF Tryz.prog 119 [.sl .shared (L.map Ac.cells), .fn (.func fn) [] caps] (S s0) fun d st' => d = .b (Rul.anyS F s0 L).1 ∧ st' = S (Rul.anyS F s0 L).2 := by
 have hI := idxFAct fn caps hcall L hl F S hF s0
 obtain ⟨e1, e2⟩ := Rul.idx_any F L s0 0
 have hle := Rul.idx_le F L s0 0
 rw [← e1, ← e2]
 clear e1 e2 hF
 generalize Rul.idx F s0 L 0 = R at *
 obtain ⟨R, s'⟩ := R
 generalize L.map Ac.cells = LS at *
 dsimp only at *
 replace hI := Lib.hid hI
 by_cases hR : R ≥ 0
 · rw [decide_eq_true hR]
   refine Qin [4] Tryz.func119 Tryz.results119 Tryz.ntmps119 ?_
   repeat' (first | refine QX ?_ | (refine QB ?_; intro b) | (with_reducible refine QZ ?_ <;> (try constructor) <;> intro hb <;> try intro hb1) | refine Qc Tryz.call153 hI.out ?_ | fail)
   all_goals exact Qret
 · rw [decide_eq_false hR]
   refine Qin [4] Tryz.func119 Tryz.results119 Tryz.ntmps119 ?_
   repeat' (first | refine QX ?_ | (refine QB ?_; intro b) | (with_reducible refine QZ ?_ <;> (try constructor) <;> intro hb <;> try intro hb1) | refine Qc Tryz.call153 hI.out ?_ | fail)
   all_goals exact Qret
theorem idxFRule {σ : Type} (fn : FuncId) (caps : List D) (hcall : ∀ args w, (callFunc fn args).run Tryz.prog w = .ok (.enter fn args) w) (L : List Rl) (hl : L.length ≤ 1000000) (F : σ → Rl → Bool × σ) (S : σ → St)
 (hF : ∀ a ∈ L, ∀ s, TrF Tryz.prog fn (.agg a.cells :: caps) (S s) fun d st' => d = .b (F s a).1 ∧ st' = S (F s a).2) (s0 : σ) : TrF Tryz.prog 122 [.sl .shared (L.map Rl.cells), .fn (.func fn) [] caps] (S s0) fun d st' => d = .i (Rul.idx F s0 L 0).1 ∧ st' = S (Rul.idx F s0 L 0).2 := by
 obtain ⟨R, hR⟩ : ∃ R, Rul.idx F s0 L 0 = R := ⟨_, rfl⟩
 rw [hR]
 have HF : Hid (Rul.idx F s0 (L.drop 0) 0 = R) := hR
 have hm : (L.map Rl.cells).length = L.length := List.length_map ..
 have hc := hMp Rl.cells L
 have hF2 := Lib.hid hF
 clear hR hF
 generalize L.map Rl.cells = LS at *
 refine Qin [4] Tryz.func122 Tryz.results122 Tryz.ntmps122 ?_
 repeat' (first | refine QX ?_ | (refine QB ?_; intro b) | (with_reducible refine QZ ?_ <;> (try constructor) <;> intro hb <;> try intro hb1) | fail)
 refine tr_loopd (ι := Nat) (fun i A st' => i ≤ L.length ∧ A.df = [] ∧ A.e 0 = .sl .shared LS ∧ A.e 1 = .fn (.func fn) [] caps ∧ A.e 7 = .i L.length ∧ A.e 8 = .i i ∧ ∃ s, Hid (Rul.idx F s (L.drop i) i = R) ∧ st' = S s) (fun i => L.length - i) 0 ⟨Nat.zero_le _, Qf, Qf, Qf, Qf, Qf, s0, HF, rfl⟩ ?_
 clear HF
 rintro i A st' ⟨hi, hdf, e0, e1, e7, e8, s, HT, rfl⟩
 by_cases hlt : i < L.length
 · obtain ⟨a, ha⟩ := gEx hlt
   have h1 := hc.out i a ha
   have hG := hF2.out a (List.mem_of_getElem? ha) s
   have HE := HT.out
   rw [Rul.idx_drop F ha] at HE
   clear HT ha hF2
   generalize F s a = q at *
   obtain ⟨q, s'⟩ := q
   dsimp only at *
   unfold Rl.cells at h1 hG
   cases a with
   | mk nm sal pats acts =>
   dsimp only at h1 hG
   generalize pats.map Pt.cells = PS at *
   generalize acts.map Ac.cells = AS at *
   replace hG := Lib.hid hG
   cases q with
   | true =>
    rw [if_pos rfl] at HE
    subst HE
    repeat' (first | refine QX ?_ | (refine QB ?_; intro b) | (with_reducible refine QZ ?_ <;> (try constructor) <;> intro hb <;> try intro hb1) | refine Qc hcall hG.out ?_ | fail)
    all_goals exact Qret
   | false =>
    rw [if_neg Bool.false_ne_true] at HE
    replace HE := Lib.hid HE
    repeat' (first | refine QX ?_ | (refine QB ?_; intro b) | (with_reducible refine QZ ?_ <;> (try constructor) <;> intro hb <;> try intro hb1) | refine Qc hcall hG.out ?_ | fail)
    refine ⟨i + 1, S s', q_u, ⟨hlt, ?_, ?_, ?_, ?_, ?_, s', HE, rfl⟩, by omega⟩
    all_goals exact Qf
 · have HE := HT.out
   rw [List.drop_of_length_le q_o, Rul.idx] at HE
   subst HE
   clear HT hF2
   exact WR
theorem conFRule {σ : Type} (fn : FuncId) (caps : List D) (hcall : ∀ args w, (callFunc fn args).run Tryz.prog w = .ok (.enter fn args) w) (L : List Rl) (hl : L.length ≤ 1000000) (F : σ → Rl → Bool × σ) (S : σ → St)
 (hF : ∀ a ∈ L, ∀ s, TrF Tryz.prog fn (.agg a.cells :: caps) (S s) fun d st' => d = .b (F s a).1 ∧ st' = S (F s a).2) (s0 : σ) : TrF Tryz.prog 79 [.sl .shared (L.map Rl.cells), .fn (.func fn) [] caps] (S s0) fun d st' => d = .b (Rul.anyS F s0 L).1 ∧ st' = S (Rul.anyS F s0 L).2 := by
 have hI := idxFRule fn caps hcall L hl F S hF s0
 obtain ⟨e1, e2⟩ := Rul.idx_any F L s0 0
 have hle := Rul.idx_le F L s0 0
 rw [← e1, ← e2]
 clear e1 e2 hF
 generalize Rul.idx F s0 L 0 = R at *
 obtain ⟨R, s'⟩ := R
 generalize L.map Rl.cells = LS at *
 dsimp only at *
 replace hI := Lib.hid hI
 by_cases hR : R ≥ 0
 · rw [decide_eq_true hR]
   refine Qin [4] Tryz.func79 Tryz.results79 Tryz.ntmps79 ?_
   repeat' (first | refine QX ?_ | (refine QB ?_; intro b) | (with_reducible refine QZ ?_ <;> (try constructor) <;> intro hb <;> try intro hb1) | refine Qc Tryz.call122 hI.out ?_ | fail)
   all_goals exact Qret
 · rw [decide_eq_false hR]
   refine Qin [4] Tryz.func79 Tryz.results79 Tryz.ntmps79 ?_
   repeat' (first | refine QX ?_ | (refine QB ?_; intro b) | (with_reducible refine QZ ?_ <;> (try constructor) <;> intro hb <;> try intro hb1) | refine Qc Tryz.call122 hI.out ?_ | fail)
   all_goals exact Qret
end
section
attribute [local push_cast] encB encI encC V.cells_mk V.cells_len Nat.mul_one Int.sub_zero List.map_nil beq_self_eq_true List.head?_cons
def Sch.has (t k : Nat) : Bool := t / 2 ^ k % 2 == 1
structure VQ (v : V) : Prop where
 ok : v.Ok
 nodes : v.nodes ≤ 1000
 deep : v.deep ≤ 1000
def CopyR (x : Vr) (st : St) (d : D) (st' : St) : Prop := ∃ gs cS zS gc cC zC, VL cS zS cC zC x ∧ d = .agg [.ar gs 0 x.slots.length cS, .ar gc 0 x.cols.length cC] ∧ st' = .box gc 3 (colC x.cols ++ zC) :: .box gs 184 (slotC x.slots ++ zS) :: st
def Sch.restV (s : Stp) : Bool :=
 if s.kind = 1 then decide (s.order.length = 0) && (s.col == 0)
 else if s.kind = 2 then bare s.slot false false && decide (s.order.length = 0)
 else if s.kind = 3 then bare s.slot true false && decide (s.order.length = 0)
 else if s.kind = 4 then bare s.slot false true && decide (s.order.length = 0)
 else bare s.slot false false && (s.col == 0)
end
end Go.Proofs.YtoeidpmjifjplaaGreat
