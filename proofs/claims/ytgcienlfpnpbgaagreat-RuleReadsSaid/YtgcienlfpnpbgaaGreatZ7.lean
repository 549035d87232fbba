/- Texts put together. No statement is proved here. -/
import Derived.Test.YtgcienlfpnpbgaaGreatZ6
set_option linter.all false
set_option maxRecDepth 10000
set_option maxHeartbeats 8000000
namespace Go.Proofs.YtgcienlfpnpbgaaGreat
open Go.RowKit
section
attribute [local push_cast] encB encI encC V.cells_mk V.cells_len Nat.mul_one Int.sub_zero List.map_nil beq_self_eq_true List.head?_cons
theorem retA_perm {ts : List Tmp} {R : D → St → Prop} {ex : Exit} {A : AA} {X : D} {st st0 s2 : St} (hex : ex = .normal ∨ ex = .ret) (hdf : A.df = []) (hp : st.Perm s2) (hs : st0.Sublist s2) (hd : LE (resD ts A.e) X) (hR : R X st0) : retA ts R ex A st := by
 rcases hex with rfl | rfl <;> exact ⟨[], X, s2, st0, hdf, hp, hs, hd, hR⟩
theorem reo_drop {cols : List Nat} {order : List Int} {j : Nat} {k : Int} {out : List Nat} (h : order[j]? = some k) : Sch.reo cols (order.drop j) out = if 0 ≤ k ∧ k < cols.length ∧ cols.getD k.toNat 0 ∉ out then Sch.reo cols (order.drop (j + 1)) (out ++ [cols.getD k.toNat 0]) else none := by
 obtain ⟨h1, rfl⟩ := List.getElem?_eq_some_iff.1 h
 rw [List.drop_eq_getElem_cons h1, Sch.reo]
theorem schReorderF (bx gs cS gc cC : Nat) (zS zC : List D) (x : Vr) (stp : Stp) (hx : VW x) (hc1 : 1 ≤ x.cols.length) (hs : stp.Ok) (hz : VL cS zS cC zC x) (s : St) : TrF Tryz.prog 219 [.ptr bx 0, .agg stp.cells] (VB bx gs cS zS gc cC zC x s) (StepR Sch.reorderS x stp bx s) := by
 obtain ⟨ls, lc, hcs⟩ := hx
 obtain ⟨hn, hbg, ho⟩ := hs
 obtain ⟨hz1, hz2⟩ := hz
 have hB := schBareF stp.slot false false hbg
 have e2 := Lib.hid (cols_each x.cols)
 have f2 := Lib.hid (colC_flat x)
 have l2 : Hid ((x.cols.map encC).length = x.cols.length) := List.length_map ..
 have hF : Hid (Sch.reorderS x stp = if stp.col = 0 ∧ Sch.bare stp.slot false false = true ∧ stp.order.length = x.cols.length then (Sch.reo x.cols stp.order []).map fun c => ⟨x.slots, c⟩ else none) := rfl
 by_cases hno : ¬ (stp.col = 0 ∧ Sch.bare stp.slot false false = true ∧ stp.order.length = x.cols.length)
 · have hF2 : Hid (Sch.reorderS x stp = none) := Lib.hid (by rw [hF.out, if_neg hno])
   unfold StepR VL VB Stp.cells
   generalize Sch.reorderS x stp = F at *
   clear hF
   cases stp with
   | mk kd col slot order =>
   cases slot with
   | mk nm ty rq dv =>
   cases dv with
   | mk k n sv l =>
   dsimp only at hB ho hno ⊢
   generalize Sch.bare _ false false = q at *
   generalize slotC x.slots = R1 at *
   generalize colC x.cols = R2 at *
   rw [Sl.cells_mk] at *
   dsimp only [List.cons_append, List.nil_append] at ⊢
   generalize x.slots.length = m1 at *
   generalize x.cols.length = m2 at *
   replace hB := Lib.hid hB
   have hno' : col ≠ 0 ∨ (col = 0 ∧ q = false) ∨ (col = 0 ∧ q = true ∧ (order.length : Int) ≠ m2) := by
    by_cases h1 : col = 0
    · cases q
      · exact .inr (.inl ⟨h1, rfl⟩)
      · refine .inr (.inr ⟨h1, rfl, fun h => hno ⟨h1, rfl, by omega⟩⟩)
    · exact .inl h1
   clear hno
   rcases hno' with h0 | ⟨rfl, rfl⟩ | ⟨rfl, rfl, h0⟩
   all_goals skip
   all_goals (
    refine Qin [4] Tryz.func219 Tryz.results219 Tryz.ntmps219 ?_
    repeat' (first | refine QV ?_ | ((with_reducible refine w_draw [(bx, [.ar gs 0 m1 cS, .ar gc 0 m2 cC])] ?_ ?_ ?_ ?_ ?_); (iterate 3 (focus kernel_rfl)); (focus ((repeat (first | exact keep_nil | refine keep_more q_m ?_)); done))) | ((with_reducible refine And.intro ?_ ?_); (focus exact q_k)) | refine QY ?_ | (refine QB ?_; intro b) | (with_reducible refine QZ ?_ <;> (try constructor) <;> intro hb <;> try intro hb1) | fail)
    all_goals ((refine retA_mk q_x q_y q_u (LE.of_eq ?_) (.inl ⟨hF2.out, rfl, rfl⟩)); simp (disch := omega) only [push_cast, simprocAttr, *]))
 have hyes := Decidable.of_not_not hno
 obtain ⟨h1, h2, h3⟩ := hyes
 have hF2 : Hid (Sch.reorderS x stp = (Sch.reo x.cols stp.order []).map fun c => ⟨x.slots, c⟩) := Lib.hid (by rw [hF.out, if_pos ⟨h1, h2, h3⟩])
 clear hF hno
 rw [h2] at hB
 clear h2
 have hcl := colC_len x.cols
 have hle2 : x.cols.length ≤ cC := by rw [List.length_append] at hz2; omega
 have hcell : Hid (∀ (i c : Nat), x.cols[i]? = some c → ∃ tl, List.drop i (colC x.cols ++ zC) = D.i c :: tl) := fun i c hc => by
  have hL2 : (x.cols.map encC)[i]? = some [D.i c] := by rw [List.getElem?_map, hc]; rfl
  obtain ⟨tl, h⟩ := row_drop (sz := 1) (o := 0) zC _ i (cols_each x.cols) hL2 q_o
  rw [Nat.mul_one, Nat.add_zero] at h
  exact ⟨tl, h⟩
 unfold StepR VL VB Stp.cells
 generalize Sch.reorderS x stp = F at *
 cases stp with
 | mk kd col slot order =>
 cases slot with
 | mk nm ty rq dv =>
 cases dv with
 | mk k n sv l =>
 dsimp only at hB ho h1 h3 hF2 ⊢
 subst h1
 rw [Sl.cells_mk] at *
 dsimp only [List.cons_append, List.nil_append] at ⊢
 obtain ⟨R1, hR1⟩ : ∃ R1, slotC x.slots = R1 := ⟨_, rfl⟩
 obtain ⟨R2, hR2⟩ : ∃ R2, colC x.cols = R2 := ⟨_, rfl⟩
 obtain ⟨m1, hm1⟩ : ∃ m1, x.slots.length = m1 := ⟨_, rfl⟩
 obtain ⟨m2, hm2⟩ : ∃ m2, x.cols.length = m2 := ⟨_, rfl⟩
 simp only [hR1, hR2, hm1, hm2] at hz1 hz2 hcl hle2 h3 hc1 hcell lc ls ⊢
 replace hR1 := Lib.hid hR1
 replace hR2 := Lib.hid hR2
 replace hm1 := Lib.hid hm1
 replace hm2 := Lib.hid hm2
 replace hB := Lib.hid hB
 obtain ⟨B, hBr⟩ : ∃ B, Sch.reo x.cols order [] = B := ⟨_, rfl⟩
 have HB : Hid (Sch.reo x.cols (order.drop 0) [] = B) := hBr
 rw [hBr] at hF2
 clear hBr
 refine Qin [4] Tryz.func219 Tryz.results219 Tryz.ntmps219 ?_
 repeat' (first | refine QV ?_ | ((with_reducible refine w_draw [(bx, [.ar gs 0 m1 cS, .ar gc 0 m2 cC])] ?_ ?_ ?_ ?_ ?_); (iterate 3 (focus kernel_rfl)); (focus ((repeat (first | exact keep_nil | refine keep_more q_m ?_)); done))) | ((with_reducible refine And.intro ?_ ?_); (focus exact q_k)) | refine QY ?_ | (refine QB ?_; intro b) | (with_reducible refine QZ ?_ <;> (try constructor) <;> intro hb <;> try intro hb1) | fail)
 refine tr_loopd (ι := Nat) (fun j A st' => j ≤ order.length ∧ A.df = [] ∧ A.e 0 = .ptr bx 0 ∧ A.e 29 = .sl .shared (order.map encI) ∧ A.e 30 = .i order.length ∧ A.e 31 = .i j ∧ ∃ out : List Nat, out.length = j ∧ Hid (Sch.reo x.cols (order.drop j) out = B) ∧ ((j = 0 ∧ A.e 5 = .sl .tight [] ∧ st' = .box bx 141 [.ar gs 0 m1 cS, .ar gc 0 m2 cC] :: .box gs 75 (R1 ++ zS) :: .box gc 3 (R2 ++ zC) :: s) ∨
  (0 < j ∧ ∃ go co zo, A.e 5 = .ar go 0 j co ∧ (colC out ++ zo).length = co * 1 ∧ st' = .box go 3 (colC out ++ zo) :: .box bx 141 [.ar gs 0 m1 cS, .ar gc 0 m2 cC] :: .box gs 75 (R1 ++ zS) :: .box gc 3 (R2 ++ zC) :: s))) (fun j => order.length - j) 0 ⟨Nat.zero_le _, Qf, Qf, Qf, Qf, Qf, [], rfl, HB, .inl ⟨rfl, Qf, rfl⟩⟩ ?_
 rintro j A st' ⟨hj, hdf, e0, e29, e30, e31, out, hol, HT, hcase⟩
 clear HB
 by_cases hlt : j < order.length
 · obtain ⟨k, hk⟩ := gEx hlt
   have HE := HT.out
   rw [reo_drop hk, hm2.out] at HE
   clear HT
   by_cases hkr : 0 ≤ k ∧ k < (m2 : Int)
   · obtain ⟨hk0, hk1⟩ := hkr
     obtain ⟨kn, rfl⟩ := Int.eq_ofNat_of_zero_le hk0
     obtain ⟨c, hc⟩ : ∃ c, x.cols[kn]? = some c := ⟨_, List.getElem?_eq_getElem (by rw [hm2.out]; omega)⟩
     obtain ⟨t1, hld⟩ := hcell.out kn c hc
     have hgd : x.cols.getD kn 0 = c := by rw [List.getD_eq_getElem?_getD, hc]; rfl
     rw [Int.toNat_natCast, hgd] at HE
     have hCt := containsF .shared out c []
     have f3 : Hid ((out.map encC).flatten = colC out) := rfl
     have e3 := Lib.hid (cols_each out)
     have l3 : Hid ((out.map encC).length = j) := Lib.hid (by rw [List.length_map, hol])
     have g3 := Lib.hid (colC_add out c)
     have hro : (colC out).length = j * 1 := by rw [colC_len, hol]
     clear hgd hc
     by_cases hmem : c ∈ out
     · rw [if_neg (fun h => h.2.2 hmem)] at HE
       replace HE := Lib.hid HE
       rw [decide_eq_true hmem] at hCt
       replace hCt := Lib.hid hCt
       rcases hcase with ⟨rfl, e5, rfl⟩ | ⟨hj0, go, co, zo, e5, hlo, rfl⟩
       · rw [List.eq_nil_of_length_eq_zero hol] at hmem; cases hmem
       · generalize colC out = Ro at *
         generalize out.map encC = Lo at *
         repeat' (first | refine QX ?_ | (refine QB ?_; intro b) | (with_reducible refine QZ ?_ <;> (try constructor) <;> intro hb <;> try intro hb1) | ((with_reducible apply (ck_lend Tryz.call229)); (focus exact hCt.out); (focus exact ⟨Lend.rowE q_m f3.out (by decide) e3.out l3.out, Lend.refl _, trivial⟩)) | fail)
         all_goals ((refine retA_mk q_x q_y q_u (LE.of_eq ?_) (.inl ⟨by rw [hF2.out, ← HE.out]; rfl, rfl, rfl⟩)); simp (disch := omega) only [push_cast, simprocAttr, *])
     · rw [if_pos ⟨hk0, hk1, hmem⟩] at HE
       replace HE := Lib.hid HE
       rw [decide_eq_false hmem] at hCt
       replace hCt := Lib.hid hCt
       rcases hcase with ⟨rfl, e5, rfl⟩ | ⟨hj0, go, co, zo, e5, hlo, rfl⟩
       · have hno := List.eq_nil_of_length_eq_zero hol
         subst hno
         rw [List.map_nil] at hCt
         repeat' (first | refine QV ?_ | with_reducible refine s_appN ?_ | with_reducible refine rn_go ?_ | ((with_reducible apply rn2_go); (focus exact q_n); (focus exact len_one rfl); (focus exact q_n); (focus exact q_n); intro go' co' zo' hco hlo') | refine QY ?_ | (refine QB ?_; intro b) | (with_reducible refine QZ ?_ <;> (try constructor) <;> intro hb <;> try intro hb1) | ((with_reducible apply (ck_lend Tryz.call229)); (focus exact hCt.out); (focus exact ⟨Lend.sl _ _, Lend.refl _, trivial⟩)) | fail)
         refine ⟨1, .box go' 3 ([[.i c]].flatten ++ zo') :: .box bx 141 [.ar gs 0 m1 cS, .ar gc 0 m2 cC] :: .box gs 75 (R1 ++ zS) :: .box gc 3 (R2 ++ zC) :: s, q_u, ⟨hlt, ?_, ?_, ?_, ?_, ?_, [c], rfl, HE, .inr ⟨Nat.zero_lt_one, go', co', zo', ?_, ?_, ?_⟩⟩, ?_⟩
         · exact Qf
         · exact Qf
         · exact Qf
         · exact Qf
         · exact Qf
         · exact Qf
         · exact hlo'
         · rfl
         · omega
       · generalize colC out = Ro at *
         generalize out.map encC = Lo at *
         repeat' (first | refine QV ?_ | with_reducible refine s_appR ?_ | with_reducible refine rk_go ?_ | ((with_reducible apply (r2_go hro hlo)); (focus (intro g' cs'; repeat (first | exact ra_h | apply ra_t))); (focus exact len_one rfl); (focus exact q_n); (focus exact q_n); intro go' co' zo' hco hlo') | refine QY ?_ | (refine QB ?_; intro b) | (with_reducible refine QZ ?_ <;> (try constructor) <;> intro hb <;> try intro hb1) | ((with_reducible apply (ck_lend Tryz.call229)); (focus exact hCt.out); (focus exact ⟨Lend.rowE q_m f3.out (by decide) e3.out l3.out, Lend.refl _, trivial⟩)) | fail)
         refine ⟨j + 1, .box go' 3 (Ro ++ [[.i c]].flatten ++ zo') :: .box bx 141 [.ar gs 0 m1 cS, .ar gc 0 m2 cC] :: .box gs 75 (R1 ++ zS) :: .box gc 3 (R2 ++ zC) :: s, q_u, ⟨hlt, ?_, ?_, ?_, ?_, ?_, out ++ [c], by rw [List.length_append, hol]; rfl, HE, .inr ⟨Nat.succ_pos _, go', co', zo', ?_, ?_, ?_⟩⟩, ?_⟩
         · exact Qf
         · exact Qf
         · exact Qf
         · exact Qf
         · exact Qf
         · exact Qf
         · rw [g3.out]; exact hlo'
         · rw [g3.out]
         · omega
   · rw [if_neg (fun h => hkr ⟨h.1, h.2.1⟩)] at HE
     replace HE := Lib.hid HE
     have hkr' : k < 0 ∨ (0 ≤ k ∧ (m2 : Int) ≤ k) := by omega
     clear hkr
     rcases hkr' with hk0 | ⟨hk0, hk1⟩ <;> rcases hcase with ⟨rfl, e5, rfl⟩ | ⟨hj0, go, co, zo, e5, hlo, rfl⟩
     all_goals skip
     all_goals (
      repeat' (first | refine QX ?_ | (refine QB ?_; intro b) | (with_reducible refine QZ ?_ <;> (try constructor) <;> intro hb <;> try intro hb1) | fail)
      all_goals ((refine retA_mk q_x q_y q_u (LE.of_eq ?_) (.inl ⟨by rw [hF2.out, ← HE.out]; rfl, rfl, rfl⟩)); simp (disch := omega) only [push_cast, simprocAttr, *]))
 · have HE := HT.out
   rw [List.drop_of_length_le q_o, Sch.reo] at HE
   have hjm : j = m2 := by omega
   subst hjm
   rcases hcase with ⟨rfl, e5, rfl⟩ | ⟨hj0, go, co, zo, e5, hlo, rfl⟩
   · omega
   · have hco : Hid (colC out = colC out) := rfl
     generalize hRo : colC out = Ro at *
     replace hRo := Lib.hid hRo
     replace HE := Lib.hid HE
     clear HT
     repeat' (first | refine QX ?_ | (refine QB ?_; intro b) | (with_reducible refine QZ ?_ <;> (try constructor) <;> intro hb <;> try intro hb1) | fail)
     all_goals ((refine retA_perm (s2 := .box bx 141 [.ar gs 0 m1 cS, .ar go 0 j co] :: .box gs 75 (R1 ++ zS) :: .box go 3 (Ro ++ zo) :: .box gc 3 (R2 ++ zC) :: s) (st0 := .box bx 141 [.ar gs 0 m1 cS, .ar go 0 j co] :: .box gs 75 (R1 ++ zS) :: .box go 3 (Ro ++ zo) :: s) q_x q_y ?_ (((List.sublist_cons_self _ _).cons₂ _).cons₂ _ |>.cons₂ _) (LE.of_eq ?_) (.inr ⟨⟨x.slots, out⟩, gs, cS, zS, go, co, zo, ?_, ⟨?_, ?_⟩, rfl, ?_⟩)); (focus exact (List.Perm.swap _ _ _).trans (.cons _ (.swap _ _ _))); (focus simp (disch := omega) only [push_cast, simprocAttr, *]); (focus (rw [hF2.out, ← HE.out]; rfl)); (focus (rw [hR1.out]; exact hz1)); (focus (rw [hRo.out]; exact hlo)); (focus (rw [hR1.out, hRo.out, hm1.out, hol])))
theorem schCopiedF (gs cS gc cC : Nat) (zS zC : List D) (x : Vr) (h1 : x.slots ≠ []) (h2 : x.cols ≠ []) (hx : VW x) (st : St) (m1 : Res.box gs 75 (slotC x.slots ++ zS) ∈ st) (m2 : Res.box gc 3 (colC x.cols ++ zC) ∈ st) : TrF Tryz.prog 193 [.agg [.ar gs 0 x.slots.length cS, .ar gc 0 x.cols.length cC]] st fun d st' => d = .agg x.cells ∧ st' = st := by
 have hA := Lib.hid fun b cs => cloneSF gs cS x.slots zS h1 (by have := hx.ls; omega) (.box b 141 cs :: st) (List.mem_cons_of_mem _ m1)
 have hB := Lib.hid fun b cs => cloneIF gc cC x.cols zC h2 (by have := hx.lc; omega) (.box b 141 cs :: st) (List.mem_cons_of_mem _ m2)
 unfold Vr.cells
 refine QinC 2 141 Tryz.func193 Tryz.ntmps193 ?_
 repeat' (first | refine QX ?_ | (refine QB ?_; intro b) | (with_reducible refine QZ ?_ <;> (try constructor) <;> intro hb <;> try intro hb1) | refine Qc Tryz.call213 (hA.out _ _) ?_ | refine Qc Tryz.call214 (hB.out _ _) ?_ | fail)
 all_goals exact QretC
theorem schDoersF (st : St) : TrF Tryz.prog 194 [] st fun d st' => d = .agg [.s .nilFunc, .fn (.func 215) [] [], .fn (.func 216) [] [], .fn (.func 217) [] [], .fn (.func 218) [] [], .fn (.func 219) [] []] ∧ st' = st := by
 refine trF_enterC (G := cellA 0 216 Tryz.prog) Tryz.func194 rfl (by rw [Tryz.ntmps194]; exact Nat.le_of_ble_eq_true rfl) (fun h1 h2 h3 => res_cell rfl h1 h2 h3) ?_
 simp only [Tryz.ntmps194]
 repeat' (first | refine QX ?_ | (refine QB ?_; intro b) | (with_reducible refine QZ ?_ <;> (try constructor) <;> intro hb <;> try intro hb1) | fail)
 all_goals exact QretC
end
section
section
variable {P : Program} {f : FuncId} {args : List D} {st : St} {R : D → St → Prop} {w : World} {A : AA}
def oneA (P : Program) (r : ResultVar) (A : AA) (st : St) (d : D) : Prop :=
 match r with
 | .tmp t => A.e t = d
 | .cell t T => cellA t T P A st d
def twoA (P : Program) (r1 r2 : ResultVar) (A : AA) (st : St) (d : D) : Prop := ∃ d1 d2, d = .tup [d1, d2] ∧ oneA P r1 A st d1 ∧ oneA P r2 A st d2
def readOne (tmps : Array Value) : ResultVar → Sem Value
 | .tmp t => pure (tmps.getD t undef)
 | .cell a t => do loadVar t (← asAddr (tmps.getD a undef))
theorem res_one {r : ResultVar} {a : Act} {N : Nat} {d : D} (h1 : RelA N (OwnS st) w a A) (h2 : Holds st w) (h3 : oneA P r A st d) : ∃ v, (readOne a.tmps r).run P w = .ok v w ∧ Rep (OwnS st) w v d := by
 cases r with
 | tmp t =>
  have : A.e t = d := h3
  exact ⟨_, rfl, this ▸ h1.2.2 t⟩
 | cell t T =>
  obtain ⟨b, off, ty, cs, ti, k1, k2, k3, k4⟩ := h3
  have hp := h1.2.2 t
  rw [k1] at hp
  have hv : a.tmps.getD t undef = .pointer (some ⟨b, off, none⟩) := by
   generalize a.tmps.getD t undef = v at hp
   cases hp; rfl
  obtain ⟨v, q1, q2⟩ := run_loadBox h2 k2 k3 k4
  refine ⟨v, ?_, q2⟩
  have q3 : (loadVar T ⟨b, off, none⟩).run P w = .ok v w := by
   simpa [Instr.loadAt, Instr.sureAddr] using q1
  show ((do loadVar T (← asAddr (a.tmps.getD t undef))) : Sem Value).run P w = _
  rw [hv]
  simp [asAddr, q3]
theorem res_two {fn : Func} {r1 r2 : ResultVar} (hr : fn.results = #[r1, r2]) {a : Act} {N : Nat} {d : D} (h1 : RelA N (OwnS st) w a A) (h2 : Holds st w) (h3 : twoA P r1 r2 A st d) : ∃ v, (results fn a.tmps).run P w = .ok v w ∧ Rep (OwnS st) w v d := by
 obtain ⟨d1, d2, rfl, k1, k2⟩ := h3
 obtain ⟨v1, q1, p1⟩ := res_one h1 h2 k1
 obtain ⟨v2, q2, p2⟩ := res_one h1 h2 k2
 refine ⟨.tuple #[v1, v2], ?_, ?_⟩
 · have hm : results fn a.tmps = (do
    let vs ← fn.results.mapM (readOne a.tmps)
    pure (if h : vs.size = 1 then vs[0] else .tuple vs)) := by
    unfold results
    congr 2
   rw [hm, hr]
   simp only [Array.mapM_eq_mapM_toList, List.mapM_cons, List.mapM_nil, Sem.run_bind, q1, q2, Result.andThen_ok, Sem.run_pure, map_eq_pure_bind]
   rfl
 · exact .tup [v1, v2] [d1, d2] rfl (RepL.cons p1 (RepL.cons p2 .nil)).2
def retG (G : AA → St → D → Prop) (R : D → St → Prop) : Exit → AA → St → Prop
 | .normal, A, st | .ret, A, st => ∃ (rs : List Nat) (d0 d : D) (s2 st' : St), A.df = rs.map mark ∧ st.Perm (rs.map markR ++ s2) ∧ G A s2 d0 ∧ st'.Sublist s2 ∧ LE d0 d ∧ R d st'
 | _, _, _ => False
theorem leaves_marksG {fn : Func} {tmps : Array Value} {Rw : Ending → World → Prop} : ∀ (rs : List Nat) (w : World), rs.Nodup → (∀ r ∈ rs, w.heap[r]? = some (.deferred (some []))) →
 (∀ w', w'.os = w.os → w'.tape = w.tape → w'.output = w.output → w'.heap.size = w.heap.size → (∀ b, b ∉ rs → w'.heap[b]? = w.heap[b]?) → ∃ v, (results fn tmps).run P w' = .ok v w' ∧ Rw (.returned v) w') → LeavesInM Fence.wide 0 P fn tmps Rw (rs.map mark) .returning w
 | [], w, _, _, hw => by
  obtain ⟨v, h1, h2⟩ := hw w rfl rfl rfl rfl fun _ _ => rfl
  show LeavesIn Fence.wide 0 P fn tmps Rw [] .returning w
  exact ⟨v, h1, h2⟩
 | r :: rs, w, hn, hb, hw => by
  have hr := hb r (List.mem_cons_self ..)
  have hlt := (Array.getElem?_eq_some_iff.1 hr).1
  refine ⟨(by intro h; cases h), .inl ⟨r, _, rfl, run_takeDeferred hr, leaves_marksG rs _ (List.nodup_cons.1 hn).2 (fun x hx => ?_) fun w' h1 h2 h3 h4 h5 => ?_⟩⟩
  · rw [World.putObj_heap_other (by intro e; subst e; exact (List.nodup_cons.1 hn).1 hx)]
    exact hb x (List.mem_cons_of_mem _ hx)
  · refine hw w' h1 h2 h3 (by rw [h4]; simp) fun b hb => ?_
    rw [h5 b fun h => hb (List.mem_cons_of_mem _ h)]
    exact World.putObj_heap_other fun e => hb (e ▸ List.mem_cons_self ..)
theorem trF_enterG {fn : Func} {c : Code} {G : AA → St → D → Prop} (hf : P.funcs[f]? = some fn) (hb : fn.body = some c) (hn : args.length ≤ fn.ntmps) (hres : ∀ {a A w st d}, RelA fn.ntmps (OwnS st) w a A → Holds st w → G A st d → ∃ v, (results fn a.tmps).run P w = .ok v w ∧ Rep (OwnS st) w v d)
 (h : Tr P fn.ntmps none c ⟨initE args, []⟩ st (retG G R)) : TrF P f args st R := by
 intro vs w hv hw
 refine (callsIn_wide (n := 0)).1 (callsIn_of_wp_marks hf hb trivial ?_ rfl)
 have hvl : vs.size = args.length := by rw [← Array.length_toList]; exact hv.1
 have hrel : RelA fn.ntmps (OwnS st) w { tmps := vs ++ Array.replicate (fn.ntmps - vs.size) undef, defers := [] } ⟨initE args, []⟩ := by
  refine ⟨by simp [hvl]; omega, rfl, fun t => ?_⟩
  show Rep _ _ _ (args.getD t D.un)
  simp only [Array.getD_eq_getD_getElem?, List.getD_eq_getElem?_getD]
  rcases Nat.lt_or_ge t args.length with ht | ht
  · have h1 : t < vs.toList.length := by simp; omega
    have := hv.2 t h1 ht
    rw [Array.getElem?_append_left q_o, List.getElem?_eq_getElem ht, Array.getElem?_eq_getElem q_o]
    simpa using this
  · rw [Array.getElem?_append_right q_o, List.getElem?_eq_none ht]
    simp only [Option.getD_none]
    by_cases h2 : t - vs.size < fn.ntmps - vs.size
    · rw [Array.getElem?_replicate, if_pos h2]
      exact .s undef rfl
    · rw [Array.getElem?_replicate, if_neg h2]
      exact .s undef rfl
 refine wpIn_mono (h _ w hrel hw) fun ex a' w' ⟨A', st', k1, k2, k3, k4⟩ => ?_
 have main : (∃ (rs : List Nat) (d0 d : D) (s2 st'' : St), A'.df = rs.map mark ∧ st'.Perm (rs.map markR ++ s2) ∧ G A' s2 d0 ∧ st''.Sublist s2 ∧ LE d0 d ∧ R d st'') → LeavesInM (FR none) 0 P fn a'.tmps (fun e w' => ∃ v, e = .returned v ∧ PostV st w R v w') a'.defers .returning w' := by
  rintro ⟨rs, d0, d, s2, st'', q1, q2, qg, qs, q3, q4⟩
  rw [k1.2.1, q1]
  have hh := k2.perm q2
  have hnd : rs.Nodup := by
   have := List.Pairwise.sublist (List.sublist_append_left _ _) hh.1
   rw [List.pairwise_map] at this
   exact this.imp fun {a b} hab e => hab a rfl (by rw [e]; rfl)
  have hblk : ∀ r ∈ rs, w'.heap[r]? = some (.deferred (some [])) := fun r hr => hh.2 (markR r) (List.mem_append_left _ (List.mem_map_of_mem hr))
  refine leaves_marksG rs w' hnd hblk fun w'' e1 e2 e3 e4 e5 => ?_
  have hown : ∀ b off, OwnS s2 b off → OwnS st' b off := fun b off ⟨x, hx, ho⟩ => ⟨x, q2.mem_iff.2 (List.mem_append_right _ hx), ho⟩
  have hmk : ∀ r ∈ rs, ∀ off, OwnS st' r off := fun r hr off => ⟨markR r, q2.mem_iff.2 (List.mem_append_left _ (List.mem_map_of_mem hr)), rfl, Nat.zero_le _⟩
  have he : Ext (OwnS st') w' (OwnS s2) w'' := by
   refine ⟨e1, e2, e3, by omega, fun b off _ ho => hown b off ho, fun b hb hno => e5 b fun hr => hno 0 (hmk b hr 0), fun b c E fr hc => ⟨c, fr, ?_, rfl, fun _ _ => rfl⟩⟩
   rw [e5 b fun hr => by rw [hblk b hr] at hc; cases hc]
   exact hc
  have hh2 : Holds s2 w'' := by
   refine ⟨(List.pairwise_append.1 hh.1).2.1, fun x hx => (k2.2 x (q2.mem_iff.2 (List.mem_append_right _ hx))).ext he fun b hb => e5 b fun hr => ?_⟩
   exact (List.pairwise_append.1 hh.1).2.2 (markR b) (List.mem_map_of_mem hr) x hx b rfl hb
  obtain ⟨v, r1, r2⟩ := hres (a := a') (A := A') ⟨k1.1, k1.2.1, fun t => (k1.2.2 t).ext he⟩ hh2 qg
  have hd := Ext.drop (st := s2) (st' := st'') (fun _ h => qs.subset h) w''
  exact ⟨v, r1, v, rfl, d, st'', q3 _ _ _ (r2.ext hd), hh2.sub qs, (k3.trans he).trans hd, q4⟩
 cases ex with
 | normal => exact main k4
 | ret => exact main k4
 | exit id => exact k4.elim
 | goto l => exact k4.elim
 | panic c => exact k4.elim
 | outgrown => exact k4.elim
theorem cell_mk {t : Tmp} {T : TypeId} {ti : TI} {b off : Nat} {ty : TypeId} {cs : List D} {d : D} (hp : A.e t = .ptr b off) (hm : Res.box b ty cs ∈ st) (ht : tinfo P T = some ti) (hd : readD ti (cs.drop off) = some d) : cellA t T P A st d := ⟨b, off, ty, cs, ti, hp, hm, ht, hd⟩
theorem retG_mk {G : AA → St → D → Prop} {ex : Exit} {A : AA} {d X : D} {st st0 s2 : St} {rs : List Nat} (hex : ex = .normal ∨ ex = .ret) (hdf : A.df = rs.map mark) (hp : st.Perm (rs.map markR ++ s2)) (hG : G A s2 d) (hs : st0.Sublist s2) (hl : LE d X) (hR : R X st0) : retG G R ex A st := by
 rcases hex with rfl | rfl <;> exact ⟨rs, d, X, s2, st0, hdf, hp, hG, hs, hl, hR⟩
end
end
section
attribute [local push_cast] encB encI encC V.cells_mk V.cells_len Nat.mul_one Int.sub_zero List.map_nil beq_self_eq_true List.head?_cons
def FirstR (t : Tm) (st : St) (d : D) (st' : St) : Prop :=
 (Sch.firstV t = none ∧ (d = .tup [.agg [.sl .tight [], .sl .tight []], .b false] ∨ ∃ gs n cS gc m cC, d = .tup [.agg [.ar gs 0 n cS, .ar gc 0 m cC], .b false]) ∧ st' = st) ∨
  ∃ x gs cS zS gc cC zC, Sch.firstV t = some x ∧ VL cS zS cC zC x ∧ d = .tup [.agg [.ar gs 0 x.slots.length cS, .ar gc 0 x.cols.length cC], .b true] ∧ st' = .box gs 75 (slotC x.slots ++ zS) :: .box gc 3 (colC x.cols ++ zC) :: st
theorem firstL_drop {slots : List Sl} {i : Nat} {s : Sl} {x : Vr} (h : slots[i]? = some s) : Sch.firstL (slots.drop i) x = if Sch.sound s = true ∧ Sch.col x s.name < 0 then Sch.firstL (slots.drop (i + 1)) ⟨x.slots ++ [s], x.cols ++ [x.slots.length]⟩ else none := by
 obtain ⟨h1, rfl⟩ := List.getElem?_eq_some_iff.1 h
 rw [List.drop_eq_getElem_cons h1, Sch.firstL]
theorem schFirstF (t : Tm) (hs : ∀ s ∈ t.slots, s.dv.nodes ≤ 1000) (hl : t.slots.length ≤ 1000) (ht : t.steps.length ≤ 1000) (st : St) : TrF Tryz.prog 192 [.agg t.cells] st (FirstR t st) := by
 have hN := Lib.hid (valIsNameF t.name)
 have hF : Hid (Sch.firstV t = if V.isName t.name.data.toList = true ∧ 1 ≤ t.slots.length ∧ t.slots.length ≤ 8 ∧ t.steps.length ≤ 8 then Sch.firstL t.slots ⟨[], []⟩ else none) := rfl
 unfold FirstR VL
 generalize Sch.firstV t = F at *
 cases t with
 | mk nm slots steps =>
 unfold Tm.cells
 dsimp only at hN hF hs hl ht ⊢
 generalize V.isName nm.data.toList = qn at *
 generalize hTS : steps.map Stp.cells = TS at *
 have hTSl : TS.length = steps.length := by rw [← hTS, List.length_map]
 generalize steps.length = ms at *
 clear hTS
 refine trF_enterG (G := twoA Tryz.prog (.cell 2 141) (.tmp 3)) Tryz.func192 rfl (by rw [Tryz.ntmps192]; exact Nat.le_of_ble_eq_true rfl) (fun h1 h2 h3 => res_two rfl h1 h2 h3) ?_
 simp only [Tryz.ntmps192]
 by_cases hc : qn = true ∧ 1 ≤ slots.length ∧ slots.length ≤ 8 ∧ ms ≤ 8
 case neg =>
  have hF2 : Hid (F = none) := Lib.hid (by rw [hF.out, if_neg hc])
  have hno : qn = false ∨ (qn = true ∧ (slots.length : Int) < 1) ∨ (qn = true ∧ 1 ≤ (slots.length : Int) ∧ 8 < (slots.length : Int)) ∨ (qn = true ∧ 1 ≤ (slots.length : Int) ∧ (slots.length : Int) ≤ 8 ∧ 8 < (ms : Int)) := by
   cases qn
   · exact .inl rfl
   · refine .inr ?_
     by_cases h1 : 1 ≤ slots.length
     · by_cases h2 : slots.length ≤ 8
       · by_cases h3 : ms ≤ 8
         · exact absurd ⟨rfl, h1, h2, h3⟩ hc
         · exact .inr (.inr ⟨rfl, by omega, by omega, by omega⟩)
       · exact .inr (.inl ⟨rfl, by omega, by omega⟩)
     · exact .inl ⟨rfl, by omega⟩
  clear hc hF
  rcases hno with rfl | ⟨rfl, h1⟩ | ⟨rfl, h1, h2⟩ | ⟨rfl, h1, h2, h3⟩
  all_goals skip
  all_goals (
   repeat' (first | refine QX ?_ | (refine QB ?_; intro b) | (with_reducible refine QZ ?_ <;> (try constructor) <;> intro hb <;> try intro hb1) | fail)
   all_goals ((refine retG_mk (rs := []) q_x q_y (List.Perm.refl _) ⟨_, _, rfl, cell_mk q_s q_m q_s q_v, q_w⟩ q_u (LE.refl _) (.inl ⟨hF2.out, (by first | exact .inl rfl | exact .inr ⟨_, _, _, _, _, _, rfl⟩), rfl⟩))))
 case pos =>
  have hF2 : Hid (F = Sch.firstL slots ⟨[], []⟩) := Lib.hid (by rw [hF.out, if_pos hc])
  obtain ⟨rfl, h1, h2, h3⟩ := hc
  clear hF
  obtain ⟨B, hB⟩ : ∃ B, Sch.firstL slots ⟨[], []⟩ = B := ⟨_, rfl⟩
  have HB : Hid (Sch.firstL (slots.drop 0) ⟨[], []⟩ = B) := hB
  rw [hB] at hF2
  clear hB
  have hsN := Lib.hid hs
  clear hs
  repeat' (first | refine QX ?_ | (refine QB ?_; intro b) | (with_reducible refine QZ ?_ <;> (try constructor) <;> intro hb <;> try intro hb1) | fail)
  rename_i b2 _ _
  revert b
  intro b4
  refine tr_loopd (ι := Nat) (fun i A st' => i ≤ slots.length ∧ A.df = [] ∧ A.e 2 = .ptr b2 0 ∧ A.e 4 = .ptr b4 0 ∧ A.e 32 = .sl .shared (slots.map Sl.cells) ∧ A.e 33 = .i slots.length ∧ A.e 34 = .i i ∧ ∃ x : Vr, x.slots.length = i ∧ x.cols.length = i ∧ Hid (Sch.firstL (slots.drop i) x = B) ∧
   ((i = 0 ∧ x = ⟨[], []⟩ ∧ st' = .box b4 141 [.sl .tight [], .sl .tight []] :: .box b2 141 [.sl .tight [], .sl .tight []] :: st) ∨ (0 < i ∧ ∃ gs cS zS gc cC zC, (slotC x.slots ++ zS).length = cS * 7 ∧ (colC x.cols ++ zC).length = cC * 1 ∧ st' = .box gc 3 (colC x.cols ++ zC) :: .box gs 75 (slotC x.slots ++ zS) :: .box b4 141 [.ar gs 0 i cS, .ar gc 0 i cC] :: .box b2 141 [.sl .tight [], .sl .tight []] :: st))) (fun i => slots.length - i) 0 ⟨Nat.zero_le _, Qf, Qf, Qf, Qf, Qf, Qf, ⟨[], []⟩, rfl, rfl, HB, .inl ⟨rfl, rfl, rfl⟩⟩ ?_
  rintro i A st' ⟨hi, hdf, e2, e4, e32, e33, e34, x, hxs, hxc, HT, hcase⟩
  clear HB
  by_cases hlt : i < slots.length
  · obtain ⟨sl, hsl⟩ := gEx hlt
    have HE := HT.out
    rw [firstL_drop hsl] at HE
    clear HT
    have hn := hsN.out sl (List.mem_of_getElem? hsl)
    have hS := schSoundF sl q_o
    have hC := schColF x.slots x.cols sl.name q_o q_o []
    have hcl : (slots.map Sl.cells)[i]? = some sl.cells := by rw [List.getElem?_map, hsl]; rfl
    have hml : (slots.map Sl.cells).length = slots.length := List.length_map ..
    clear hsl
    unfold Sch.col at HE
    have g1 := Lib.hid (slotC_add x.slots sl)
    have g2 := Lib.hid (colC_add x.cols x.slots.length)
    have hF3 : Hid (F = B) := hF2
    cases sl with
    | mk snm sty srq sdv =>
    cases sdv with
    | mk sk sn ss sL =>
    rw [Sl.cells_mk] at hS hcl g1
    dsimp only at hS hC HE hn g1
    generalize Sch.sound _ = q at *
    rcases hcase with ⟨rfl, hx0, rfl⟩ | ⟨hi0, gs, cS, zS, gc, cC, zC, hz1, hz2, rfl⟩
    · have hl1 : x.slots = [] := List.eq_nil_of_length_eq_zero hxs
      have hl2 : x.cols = [] := List.eq_nil_of_length_eq_zero hxc
      rw [hl1, hl2, List.map_nil, List.map_nil] at hC
      rw [hl1, hl2] at HE
      rw [Sch.colL] at hC HE
      generalize slots.map Sl.cells = SL at *
      replace hS := Lib.hid hS
      replace hC := Lib.hid hC
      replace hcl := hcl
      cases q with
      | false =>
       rw [if_neg (fun h => Bool.noConfusion h.1)] at HE
       have hF4 : Hid (F = none) := Lib.hid (hF3.out.trans HE.symm)
       clear HE
       repeat' (first | refine QX ?_ | (refine QB ?_; intro b) | (with_reducible refine QZ ?_ <;> (try constructor) <;> intro hb <;> try intro hb1) | ((with_reducible apply (ck_lend Tryz.call212)); (focus exact hC.out); (focus exact ⟨Lend.agg ⟨Lend.sl _ _, Lend.sl _ _, trivial⟩, Lend.refl _, trivial⟩)) | fail)
       all_goals ((refine retG_mk (rs := []) q_x q_y (List.Perm.refl _) ⟨_, _, rfl, cell_mk q_s q_m q_s q_v, q_w⟩ q_u (LE.refl _) (.inl ⟨hF4.out, (by first | exact .inl rfl | exact .inr ⟨_, _, _, _, _, _, rfl⟩), rfl⟩)))
      | true =>
       rw [if_pos ⟨rfl, by decide⟩] at HE
       replace HE := Lib.hid HE
       repeat' (first | refine QV ?_ | ((with_reducible apply (w_drawQ [(b4, [.sl .tight [], .sl .tight []]), (b, [.str snm, .i sty, .b srq, .i sk, .i sn, .str ss, .sl .shared (sL.map V.cells)])] 9)); (iterate 4 (focus kernel_rfl)); (focus (simp only [List.take_succ_cons, List.take_zero]; exact rfl)); (focus (simp only [List.drop_succ_cons, List.drop_zero]; exact rfl)); (focus exact q_k); intro hne; simp only [nes, ne1, and_assoc] at hne; repeat (have hq := hne.1; replace hne := hne.2)) | ((with_reducible refine Exists.intro [] ?_); (with_reducible refine And.intro ?_ ?_); (focus exact q_k)) | ((with_reducible refine And.intro ?_ ?_); (focus exact q_k)) | with_reducible refine s_appN ?_ | with_reducible refine rn_go ?_ | ((with_reducible apply rn2_go); (focus exact q_n); (focus exact len_one rfl); (focus exact q_n); (focus exact q_n); intro g' c' z' hc' hl') | refine QY ?_ | (refine QB ?_; intro b) | (with_reducible refine QZ ?_ <;> (try constructor) <;> intro hb <;> try intro hb1) | ((with_reducible apply (ck_lend Tryz.call212)); (focus exact hC.out); (focus exact ⟨Lend.agg ⟨Lend.sl _ _, Lend.sl _ _, trivial⟩, Lend.refl _, trivial⟩)) | fail)
       rename_i gs' cS' zS' hcs' hls'
       refine ⟨1, .box g' 3 ([[D.i 0]].flatten ++ z') :: .box gs' 75 ([[.str snm, .i sty, .b srq, .i sk, .i sn, .str ss, .sl .shared (sL.map V.cells)]].flatten ++ zS') :: .box b4 141 [.ar gs' 0 1 cS', .ar g' 0 1 c'] :: .box b2 141 [.sl .tight [], .sl .tight []] :: st, ?_, ⟨hlt, ?_, ?_, ?_, ?_, ?_, ?_, ⟨[] ++ [.mk snm sty srq (.mk sk sn ss sL)], [] ++ [([] : List Sl).length]⟩, rfl, rfl, HE, .inr ⟨Nat.zero_lt_one, gs', cS', zS', g', c', z', ?_, ?_, ?_⟩⟩, ?_⟩
       · (repeat (first | exact List.Sublist.refl _ | with_reducible apply List.Sublist.cons_cons | apply List.Sublist.cons))
       iterate 6 (focus exact Qf)
       · rw [show slotC ([] ++ [Sl.mk snm sty srq (.mk sk sn ss sL)]) = [(Sl.mk snm sty srq (.mk sk sn ss sL)).cells].flatten from rfl, Sl.cells_mk]
         exact hls'
       · exact hl'
       · rw [show slotC ([] ++ [Sl.mk snm sty srq (.mk sk sn ss sL)]) = [(Sl.mk snm sty srq (.mk sk sn ss sL)).cells].flatten from rfl, Sl.cells_mk]
         rfl
       · omega
    · have hr1 := slotC_len x.slots
      have hr2 := colC_len x.cols
      have e1 := Lib.hid (slots_each x.slots)
      have e2 := Lib.hid (cols_each x.cols)
      have f1 := Lib.hid (slotC_flat x)
      have f2 := Lib.hid (colC_flat x)
      have l1 : Hid ((x.slots.map Sl.cells).length = i) := Lib.hid (by rw [List.length_map, hxs])
      have l2 : Hid ((x.cols.map encC).length = i) := Lib.hid (by rw [List.length_map, hxc])
      rw [hxs] at hr1 HE g2
      rw [hxc] at hr2
      generalize Sch.colL x.slots snm x.cols = cv at *
      obtain ⟨S1, hS1⟩ : ∃ S1, slotC x.slots = S1 := ⟨_, rfl⟩
      obtain ⟨C1, hC1⟩ : ∃ C1, colC x.cols = C1 := ⟨_, rfl⟩
      rw [hS1] at hz1 hr1 f1 g1
      rw [hC1] at hz2 hr2 f2 g2
      rw [hS1, hC1]
      clear hS1 hC1
      generalize x.slots.map Sl.cells = L1 at *
      generalize x.cols.map encC = L2 at *
      generalize slots.map Sl.cells = SL at *
      replace hS := Lib.hid hS
      replace hC := Lib.hid hC
      by_cases hqc : q = true ∧ cv < 0
      · obtain ⟨rfl, hcv⟩ := hqc
        rw [if_pos ⟨rfl, hcv⟩] at HE
        replace HE := Lib.hid HE
        replace hxs := Lib.hid hxs
        replace hxc := Lib.hid hxc
        repeat' (first | refine QV ?_ | ((with_reducible apply (w_drawQ [(b4, [.ar gs 0 i cS, .ar gc 0 i cC]), (b, [.str snm, .i sty, .b srq, .i sk, .i sn, .str ss, .sl .shared (sL.map V.cells)])] 9)); (iterate 4 (focus kernel_rfl)); (focus (simp only [List.take_succ_cons, List.take_zero]; exact rfl)); (focus (simp only [List.drop_succ_cons, List.drop_zero]; exact rfl)); (focus exact q_k); intro hne; simp only [nes, ne1, and_assoc] at hne; repeat (have hq := hne.1; replace hne := hne.2)) | ((with_reducible refine Exists.intro [] ?_); (with_reducible refine And.intro ?_ ?_); (focus exact q_k)) | ((with_reducible refine And.intro ?_ ?_); (focus exact q_k)) | with_reducible refine s_appR ?_ | with_reducible refine rk_go ?_ | ((with_reducible apply (r2_go hr1 hz1)); (focus (intro g' cs'; repeat (first | exact ra_h | apply ra_t))); (focus exact len_one rfl); (focus exact q_n); (focus exact q_n); intro gs' cS' zS' hcs hls) | ((with_reducible apply (r2_go hr2 hz2)); (focus (intro g' cs'; repeat (first | exact ra_h | apply ra_t))); (focus exact len_one rfl); (focus exact q_n); (focus exact q_n); intro gc' cC' zC' hcc hlc) | refine QY ?_ | (refine QB ?_; intro b) | (with_reducible refine QZ ?_ <;> (try constructor) <;> intro hb <;> try intro hb1) | ((with_reducible apply (ck_lend Tryz.call212)); (focus exact hC.out); (focus exact ⟨Lend.agg ⟨Lend.rowE q_m f1.out (by decide) e1.out l1.out, Lend.rowE q_m f2.out (by decide) e2.out l2.out, trivial⟩, Lend.refl _, trivial⟩)) | fail)
        refine ⟨i + 1, .box gc' 3 (C1 ++ [[D.i i]].flatten ++ zC') :: .box gs' 75 (S1 ++ [[.str snm, .i sty, .b srq, .i sk, .i sn, .str ss, .sl .shared (sL.map V.cells)]].flatten ++ zS') :: .box b4 141 [.ar gs' 0 (i + 1) cS', .ar gc' 0 (i + 1) cC'] :: .box b2 141 [.sl .tight [], .sl .tight []] :: st, ?_, ⟨hlt, ?_, ?_, ?_, ?_, ?_, ?_, ⟨x.slots ++ [.mk snm sty srq (.mk sk sn ss sL)], x.cols ++ [i]⟩, ?_, ?_, HE, .inr ⟨Nat.succ_pos _, gs', cS', zS', gc', cC', zC', ?_, ?_, ?_⟩⟩, ?_⟩
        · (repeat (first | exact List.Sublist.refl _ | with_reducible apply List.Sublist.cons_cons | apply List.Sublist.cons))
        iterate 6 (focus exact Qf)
        · rw [List.length_append, hxs.out]; rfl
        · rw [List.length_append, hxc.out]; rfl
        · rw [g1.out]; exact hls
        · rw [g2.out]; exact hlc
        · rw [g1.out, g2.out]
        · omega
      · rw [if_neg hqc] at HE
        have hF4 : Hid (F = none) := Lib.hid (hF3.out.trans HE.symm)
        clear HE
        have hno : q = false ∨ (q = true ∧ 0 ≤ cv) := by
         cases q
         · exact .inl rfl
         · exact .inr ⟨rfl, by
            have : ¬ cv < 0 := fun h => hqc ⟨rfl, h⟩
            omega⟩
        clear hqc
        rcases hno with rfl | ⟨rfl, hcv⟩
        all_goals skip
        all_goals (
         repeat' (first | refine QX ?_ | (refine QB ?_; intro b) | (with_reducible refine QZ ?_ <;> (try constructor) <;> intro hb <;> try intro hb1) | ((with_reducible apply (ck_lend Tryz.call212)); (focus exact hC.out); (focus exact ⟨Lend.agg ⟨Lend.rowE q_m f1.out (by decide) e1.out l1.out, Lend.rowE q_m f2.out (by decide) e2.out l2.out, trivial⟩, Lend.refl _, trivial⟩)) | fail)
         all_goals ((refine retG_mk (rs := []) q_x q_y (List.Perm.refl _) ⟨_, _, rfl, cell_mk q_s q_m q_s q_v, q_w⟩ q_u (LE.refl _) (.inl ⟨hF4.out, (by first | exact .inl rfl | exact .inr ⟨_, _, _, _, _, _, rfl⟩), rfl⟩))))
  · have HE := HT.out
    rw [List.drop_of_length_le q_o, Sch.firstL] at HE
    clear HT
    have hil : Hid (i = slots.length) := Lib.hid q_o
    rcases hcase with ⟨rfl, hx0, rfl⟩ | ⟨hi0, gs, cS, zS, gc, cC, zC, hz1, hz2, rfl⟩
    · have := hil.out
      omega
    · obtain ⟨S1, hS1⟩ : ∃ S1, slotC x.slots = S1 := ⟨_, rfl⟩
      obtain ⟨C1, hC1⟩ : ∃ C1, colC x.cols = C1 := ⟨_, rfl⟩
      rw [hS1, hC1]
      generalize slots.map Sl.cells = SL at *
      replace hS1 := Lib.hid hS1
      replace hC1 := Lib.hid hC1
      replace HE := Lib.hid HE
      replace hxs := Lib.hid hxs
      replace hxc := Lib.hid hxc
      repeat' (first | refine QX ?_ | (refine QB ?_; intro b) | (with_reducible refine QZ ?_ <;> (try constructor) <;> intro hb <;> try intro hb1) | fail)
      replace HE := HE.out
      replace hxs := hxs.out
      replace hxc := hxc.out
      all_goals ((refine retG_mk (rs := []) (s2 := .box gs 75 (S1 ++ zS) :: .box gc 3 (C1 ++ zC) :: .box b4 141 [.ar gs 0 i cS, .ar gc 0 i cC] :: .box b2 141 [.ar gs 0 i cS, .ar gc 0 i cC] :: st) (st0 := .box gs 75 (S1 ++ zS) :: .box gc 3 (C1 ++ zC) :: st) q_x q_y (.swap _ _ _) ⟨_, _, rfl, cell_mk q_s q_m q_s q_v, q_w⟩ (((List.Sublist.refl _).cons _).cons _ |>.cons_cons _ |>.cons_cons _) (LE.refl _) (.inr ⟨x, gs, cS, zS, gc, cC, zC, by rw [hF2.out, ← HE], ⟨?_, ?_⟩, by rw [hxs, hxc], ?_⟩)); (focus exact hz1); (focus exact hz2); (focus (rw [hS1.out, hC1.out])))
end
structure TOk (t : Tm) : Prop where
 ls : t.slots.length ≤ 1000
 lt : t.steps.length ≤ 1000
 os : ∀ s ∈ t.slots, s.dv.nodes ≤ 1000
 ot : ∀ s ∈ t.steps, s.Ok
namespace Sch
structure VI (n : Nat) (x : Vr) : Prop where
 ls : x.slots.length ≤ n
 lp : 1 ≤ x.slots.length
 cp : 1 ≤ x.cols.length
 lc : x.cols.length ≤ 8
 cs : ∀ c ∈ x.cols, c < x.slots.length
theorem VI.vw {n : Nat} {x : Vr} (h : VI n x) (hn : n ≤ 1000) : VW x := ⟨by have := h.ls; omega, h.lc, h.cs⟩
theorem VI.mono {n m : Nat} {x : Vr} (h : VI n x) (hn : n ≤ m) : VI m x := ⟨by have := h.ls; omega, h.lp, h.cp, h.lc, h.cs⟩
theorem reo_sub {cols : List Nat} : ∀ (l : List Int) (out r : List Nat), reo cols l out = some r → (∀ c ∈ out, c ∈ cols) → (∀ c ∈ r, c ∈ cols) ∧ r.length = out.length + l.length
 | [], out, r, h, ho => by cases h; exact ⟨ho, rfl⟩
 | k :: l, out, r, h, ho => by
  rw [reo] at h
  split at h
  · rename_i hk
    have hc : cols.getD k.toNat 0 ∈ cols := by
     have : k.toNat < cols.length := by omega
     rw [List.getD_eq_getElem?_getD, List.getElem?_eq_getElem this]
     exact List.getElem_mem this
    obtain ⟨h1, h2⟩ := reo_sub l _ r h (by
     intro c hc'
     rcases List.mem_append.1 hc' with h | h
     · exact ho c h
     · rw [List.mem_singleton] at h
       subst h; exact hc)
    refine ⟨h1, ?_⟩
    rw [h2, List.length_append, List.length_cons, List.length_cons, List.length_nil]; omega
  · cases h
theorem step_vi {n : Nat} {x y : Vr} {s : Stp} (hx : VI n x) (h : stepV x s = some y) : VI (n + 1) y := by
 obtain ⟨h1, h2, h3, h4, h5⟩ := hx
 unfold stepV at h
 split at h
 · unfold addS at h
   split at h
   · rename_i hc
     cases h
     refine ⟨by simp; omega, by simp, by simp, by simp; omega, fun c hc' => ?_⟩
     rcases List.mem_append.1 hc' with h | h
     · have := h5 c h; simp; omega
     · rw [List.mem_singleton] at h
       subst h; simp
   · cases h
 · split at h
   · unfold loseS at h
     split at h
     · rename_i hc
       cases h
       have hi : s.col.toNat < x.cols.length := by
        have := hc.1
        unfold column at this
        simp at this; omega
       refine ⟨by simp; omega, by simp; omega, ?_, ?_, fun c hc' => h5 c (List.mem_of_mem_eraseIdx hc')⟩
       · show 1 ≤ (x.cols.eraseIdx _).length
         rw [List.length_eraseIdx_of_lt hi]; omega
       · show (x.cols.eraseIdx _).length ≤ 8
         rw [List.length_eraseIdx_of_lt hi]; omega
     · cases h
   · split at h
     · unfold renameS at h
       split at h
       · cases h
         exact ⟨by simp; omega, by simp; omega, h3, h4, fun c hc' => by have := h5 c hc'; simpa using this⟩
       · cases h
     · split at h
       · unfold widenS at h
         split at h
         · cases h
           exact ⟨by simp; omega, by simp; omega, h3, h4, fun c hc' => by have := h5 c hc'; simpa using this⟩
         · cases h
       · split at h
         · unfold reorderS at h
           split at h
           · rename_i hc
             cases hr : reo x.cols s.order [] with
             | none => rw [hr] at h; cases h
             | some r =>
              rw [hr] at h
              cases h
              obtain ⟨k1, k2⟩ := reo_sub _ _ _ hr (fun c h => by cases h)
              have hl : r.length = x.cols.length := by rw [k2]; simp; omega
              exact ⟨by show x.slots.length ≤ _; omega, h2, by show 1 ≤ r.length; omega, by show r.length ≤ 8; omega, fun c hc' => h5 c (k1 c hc')⟩
           · cases h
         · cases h
theorem firstL_vi : ∀ (l : List Sl) (x y : Vr), (∀ c ∈ x.cols, c < x.slots.length) → x.cols.length = x.slots.length → firstL l x = some y → (∀ c ∈ y.cols, c < y.slots.length) ∧ y.cols.length = y.slots.length ∧ y.slots = x.slots ++ l
 | [], x, y, h1, h2, h => by cases h; exact ⟨h1, h2, (List.append_nil _).symm⟩
 | s :: l, x, y, h1, h2, h => by
  rw [firstL] at h
  split at h
  · obtain ⟨k1, k2, k3⟩ := firstL_vi l _ y (fun c hc => by
     rcases List.mem_append.1 hc with h | h
     · have := h1 c h; simp; omega
     · rw [List.mem_singleton] at h
       subst h; simp) (by simp; omega) h
    refine ⟨k1, k2, ?_⟩
    rw [k3, List.append_assoc]; rfl
  · cases h
theorem first_vi {t : Tm} {x : Vr} (h : firstV t = some x) : VI 8 x ∧ x.slots = t.slots ∧ t.steps.length ≤ 8 := by
 unfold firstV at h
 split at h
 · rename_i hc
   obtain ⟨k1, k2, k3⟩ := firstL_vi _ _ _ (fun c h => by cases h) rfl h
   rw [List.nil_append] at k3
   have hl : x.slots.length = t.slots.length := by rw [k3]
   exact ⟨⟨by omega, by omega, by omega, by omega, k1⟩, k3, hc.2.2.2⟩
 · cases h
theorem versL_drop {x : Vr} {l : List Stp} {i : Nat} {s : Stp} (h : l[i]? = some s) : versL x (l.drop i) = match stepV x s with
 | none => []
 | some y => y :: versL y (l.drop (i + 1)) := by
 obtain ⟨h1, rfl⟩ := List.getElem?_eq_some_iff.1 h
 rw [List.drop_eq_getElem_cons h1, versL]
 all_goals (cases stepV x l[i] <;> rfl)
theorem versL_vi : ∀ (l : List Stp) (n : Nat) (x : Vr), VI n x → ∀ y ∈ versL x l, VI (n + l.length) y
 | [], _, _, _, y, hy => by cases hy
 | s :: l, n, x, hx, y, hy => by
  rw [versL] at hy
  cases hs : stepV x s with
  | none => rw [hs] at hy; cases hy
  | some z =>
   rw [hs] at hy
   have hz := step_vi hx hs
   rcases List.mem_cons.1 hy with rfl | hy
   · exact hz.mono (by rw [List.length_cons]; omega)
   · exact (versL_vi l _ z hz y hy).mono (by rw [List.length_cons]; omega)
theorem versL_len : ∀ (l : List Stp) (x : Vr), (versL x l).length ≤ l.length
 | [], _ => Nat.le_refl _
 | s :: l, x => by
  rw [versL]
  split
  · exact Nat.zero_le _
  · rename_i y hy
    have := versL_len l y
    rw [List.length_cons, List.length_cons]; omega
theorem vers_vi {t : Tm} {y : Vr} (h : y ∈ vers t) : VI 16 y := by
 unfold vers at h
 split at h
 · cases h
 · rename_i x hx
   obtain ⟨k1, -, k2⟩ := first_vi hx
   rcases List.mem_cons.1 h with rfl | h
   · exact k1.mono q_o
   · exact (versL_vi _ _ _ k1 y h).mono q_o
theorem vers_len (t : Tm) : (vers t).length ≤ t.steps.length + 1 ∧ (vers t).length ≤ 9 := by
 unfold vers
 split
 · exact ⟨Nat.zero_le _, Nat.zero_le _⟩
 · rename_i x hx
   have := versL_len t.steps x
   have := (first_vi hx).2.2
   rw [List.length_cons]; omega
end Sch
section
attribute [local push_cast] encB encI encC V.cells_mk V.cells_len Nat.mul_one Int.sub_zero List.map_nil beq_self_eq_true List.head?_cons
def doTab : List D := [.s .nilFunc, .fn (.func 215) [] [], .fn (.func 216) [] [], .fn (.func 217) [] [], .fn (.func 218) [] [], .fn (.func 219) [] []]
theorem stepR_of {F G : Vr → Stp → Option Vr} {x : Vr} {stp : Stp} {bx : Nat} {s : St} (h : F x stp = G x stp) : StepR F x stp bx s = StepR G x stp bx s := by
 unfold StepR; rw [h]
theorem doTabF (x : Vr) (stp : Stp) (hx : VW x) (hc1 : 1 ≤ x.cols.length) (hs : stp.Ok) (hk : 1 ≤ stp.kind ∧ stp.kind ≤ 5) : ∃ (n : Nat) (f : FuncId), stp.kind = n ∧ n ≤ 5 ∧ (∃ tl, doTab.drop n = .fn (.func f) [] [] :: tl) ∧ (∀ args w, (callFunc f args).run Tryz.prog w = .ok (.enter f args) w) ∧
 ∀ (bx gs cS gc cC : Nat) (zS zC : List D), VL cS zS cC zC x → ∀ s, TrF Tryz.prog f [.ptr bx 0, .agg stp.cells] (VB bx gs cS zS gc cC zC x s) (StepR Sch.stepV x stp bx s) := by
 have hk' : stp.kind = 1 ∨ stp.kind = 2 ∨ stp.kind = 3 ∨ stp.kind = 4 ∨ stp.kind = 5 := by omega
 rcases hk' with h | h | h | h | h
 · exact ⟨1, _, h, by decide, ⟨_, rfl⟩, Tryz.call215, fun bx gs cS gc cC zS zC hz s => stepR_of (G := Sch.stepV) (by unfold Sch.stepV; rw [if_pos h]) ▸ schAddF bx gs cS gc cC zS zC x stp hx hs hz s⟩
 · exact ⟨2, _, h, by decide, ⟨_, rfl⟩, Tryz.call216, fun bx gs cS gc cC zS zC hz s => stepR_of (G := Sch.stepV) (by unfold Sch.stepV; rw [if_neg (show ¬ stp.kind = 1 by omega), if_pos h]) ▸ schLoseF bx gs cS gc cC zS zC x stp hx hs hz s⟩
 · exact ⟨3, _, h, by decide, ⟨_, rfl⟩, Tryz.call217, fun bx gs cS gc cC zS zC hz s => stepR_of (G := Sch.stepV) (by unfold Sch.stepV; rw [if_neg (show ¬ stp.kind = 1 by omega), if_neg (show ¬ stp.kind = 2 by omega), if_pos h]) ▸ schRenameF bx gs cS gc cC zS zC x stp hx hs hz s⟩
 · exact ⟨4, _, h, by decide, ⟨_, rfl⟩, Tryz.call218, fun bx gs cS gc cC zS zC hz s => stepR_of (G := Sch.stepV) (by unfold Sch.stepV; rw [if_neg (show ¬ stp.kind = 1 by omega), if_neg (show ¬ stp.kind = 2 by omega), if_neg (show ¬ stp.kind = 3 by omega), if_pos h]) ▸ schWidenF bx gs cS gc cC zS zC x stp hx hs hz s⟩
 · exact ⟨5, _, h, by decide, ⟨_, rfl⟩, Tryz.call219, fun bx gs cS gc cC zS zC hz s => stepR_of (G := Sch.stepV) (by unfold Sch.stepV; rw [if_neg (show ¬ stp.kind = 1 by omega), if_neg (show ¬ stp.kind = 2 by omega), if_neg (show ¬ stp.kind = 3 by omega), if_neg (show ¬ stp.kind = 4 by omega), if_pos h]) ▸ schReorderF bx gs cS gc cC zS zC x stp hx hc1 hs hz s⟩
theorem firstR_ex (t : Tm) (st : St) : ∃ d st', FirstR t st d st' := by
 unfold FirstR
 cases h : Sch.firstV t with
 | none => exact ⟨_, _, .inl ⟨rfl, .inl rfl, rfl⟩⟩
 | some x => exact ⟨_, _, .inr ⟨x, 0, x.slots.length, [], 0, x.cols.length, [], rfl, ⟨by rw [List.append_nil, slotC_len], by rw [List.append_nil, colC_len]⟩, rfl, rfl⟩⟩
theorem stepR_ex (x : Vr) (stp : Stp) (bx : Nat) (s : St) : ∃ d st', StepR Sch.stepV x stp bx s d st' := by
 unfold StepR
 cases h : Sch.stepV x stp with
 | none => exact ⟨_, _, .inl ⟨rfl, rfl, rfl⟩⟩
 | some y => exact ⟨_, _, .inr ⟨y, 0, y.slots.length, [], 0, y.cols.length, [], rfl, ⟨by rw [List.append_nil, slotC_len], by rw [List.append_nil, colC_len]⟩, rfl, rfl⟩⟩
def verD (p : Vr × Nat) : List D := [.i p.2, .agg p.1.cells]
theorem versF (t : Tm) (st : St) : TrF Tryz.prog 161 [.agg t.cells] st fun d st' => ∃ tb, d = .fn (.func 191) [] [.ptr tb 0] ∧ st' = .box tb 36 t.cells :: st := by
 unfold Tm.cells
 generalize t.slots.map Sl.cells = SL
 generalize t.steps.map Stp.cells = TL
 refine Qin [2] Tryz.func161 Tryz.results161 Tryz.ntmps161 ?_
 repeat' (first | with_reducible refine s_boxP ?_ | refine QX ?_ | (refine QB ?_; intro b) | (with_reducible refine QZ ?_ <;> (try constructor) <;> intro hb <;> try intro hb1) | fail)
 all_goals exact retA_mk q_x rfl q_u (LE.of_eq q_v) ⟨_, rfl, rfl⟩
theorem versIter (tb : Nat) (t : Tm) (ht : TOk t) : IterC Tryz.prog 191 [.ptr tb 0] verD ((Sch.vers t).zipIdx 1) [.box tb 36 t.cells] (fun K => K = [.box tb 36 t.cells]) (fun _ K => K = [.box tb 36 t.cells]) := by
 intro l C J Jx hY hJ
 have HY := Lib.hid hY
 have HJ := Lib.hid hJ
 clear hY hJ
 have hFi := Lib.hid (schFirstF t ht.os ht.ls ht.lt)
 have hot := Lib.hid ht.ot
 have hcells : Hid (t.cells = [.str t.name, .sl .shared (t.slots.map Sl.cells), .sl .shared (t.steps.map Stp.cells)]) := rfl
 obtain ⟨Vs, hVs⟩ : ∃ Vs, Sch.vers t = Vs := ⟨_, rfl⟩
 have hV : Hid (Vs = match Sch.firstV t with | none => [] | some x => x :: Sch.versL x t.steps) := hVs.symm
 have hvi : Hid (∀ y ∈ Vs, Sch.VI 16 y) := Lib.hid (by rw [← hVs]; exact fun y => Sch.vers_vi)
 rw [hVs] at HY ⊢
 clear hVs
 have hLl : (Vs.zipIdx 1).length = Vs.length := List.length_zipIdx
 have hget : Hid (∀ i x, Vs[i]? = some x → (Vs.zipIdx 1)[i]? = some (x, 1 + i)) := fun i x h => by rw [List.getElem?_zipIdx, h]; rfl
 generalize Vs.zipIdx 1 = L at *
 unfold FirstR at hFi
 have hex := Lib.hid (firstR_ex t)
 unfold FirstR at hex
 generalize hTC : t.cells = TC at *
 have hTC2 := hcells.out
 subst hTC2
 generalize t.slots.map Sl.cells = SL at *
 generalize hSt : t.steps.map Stp.cells = TL at *
 replace hSt := Lib.hid hSt
 replace hTC := Lib.hid hTC
 refine Qin [] Tryz.func191 Tryz.results191 Tryz.ntmps191 ?_
 refine tr_perm (st' := .box tb 36 [.str t.name, .sl .shared SL, .sl .shared TL] :: C) (.refl _) ?_
 repeat' (first | refine QX ?_ | (refine QB ?_; intro b) | (with_reducible refine QZ ?_ <;> (try constructor) <;> intro hb <;> try intro hb1) | ((with_reducible apply (ck_gen Tryz.call192)); (focus exact List.Perm.refl _); (focus exact hFi.out _); (focus exact LEL.refl _); (focus exact hex.out _); (rintro d st' (⟨hn, rfl | ⟨gs, n1, cS, gc, n2, cC, rfl⟩, rfl⟩ | ⟨x, gs, cS, zS, gc, cC, zC, hx, hz, rfl, rfl⟩))) | fail)
 · have hL0 : L.length = 0 := by rw [hLl, hV.out, hn]; rfl
   exact retA_mk q_x rfl q_u (LE.refl _) ⟨[_], C, rfl, .inl ⟨rfl, by rw [hL0]; exact HJ.out⟩⟩
 · have hL0 : L.length = 0 := by rw [hLl, hV.out, hn]; rfl
   exact retA_mk q_x rfl q_u (LE.refl _) ⟨[_], C, rfl, .inl ⟨rfl, by rw [hL0]; exact HJ.out⟩⟩
 have hV1 : Vs = x :: Sch.versL x t.steps := by rw [hV.out, hx]
 have hx0 : Vs[0]? = some x := by rw [hV1]; rfl
 have hT0 : Hid (Sch.versL x (t.steps.drop 0) = Vs.drop 1) := Lib.hid (by rw [hV1]; rfl)
 have hVx := hvi.out x (List.mem_of_getElem? hx0)
 have hg0 := hget.out 0 x hx0
 replace hx0 := Lib.hid hx0
 have hdoF := schDoersF
 have hLl2 := Lib.hid hLl
 clear hV hV1 hex hFi hx hLl
 obtain ⟨b3, rfl⟩ : ∃ q, q = b := ⟨_, rfl⟩
 have hcp := Lib.hid (schCopiedF gs cS gc cC zS zC x (fun h => by have := hVx.lp; rw [h] at this; simp at this) (fun h => by have := hVx.cp; rw [h] at this; simp at this) (hVx.vw q_o))
 obtain ⟨TB, hTB⟩ : ∃ TB, TB = doTab := ⟨_, rfl⟩
 have hdo : Hid (∀ st, TrF Tryz.prog 194 [] st fun d st' => d = .agg TB ∧ st' = st) := by rw [hTB]; exact hdoF
 have hTBl : TB.length = 6 := by rw [hTB]; rfl
 have hTBa : TB.all D.leaf = true := by rw [hTB]; rfl
 replace hTB := Lib.hid hTB
 clear hdoF
 repeat' (first | refine QV ?_ | ((with_reducible apply (s_yield HY.out HJ.out hg0)); (focus exact q_v); (focus exact q_v); (focus exact q_l); (focus (repeat (first | exact tl_nil | apply tl_cons)); done); all_goals (intro C' hC')) | refine QY ?_ | (refine QB ?_; intro b) | (with_reducible refine QZ ?_ <;> (try constructor) <;> intro hb <;> try intro hb1) | refine Qc Tryz.call193 (hcp.out _ q_m q_m) ?_ | fail)
 rotate_left
 · exact retA_mk q_x q_y q_u (LE.refl _) ⟨[_], C', rfl, .inr ⟨_, rfl, hC'⟩⟩
 obtain ⟨b5, rfl⟩ : ∃ q, q = b := ⟨_, rfl⟩
 refine tr_perm (st' := .box b3 141 [.ar gs 0 x.slots.length cS, .ar gc 0 x.cols.length cC] :: .box gs 75 (slotC x.slots ++ zS) :: .box gc 3 (colC x.cols ++ zC) :: .box b5 216 TB :: .box tb 36 [.str t.name, .sl .shared SL, .sl .shared TL] :: C') (by (repeat (first | exact List.Perm.refl _ | refine perm_cons_out (by repeat (first | exact out_here | apply out_there)) ?_))) ?_
 have hJ0 := Lib.hid hC'
 have hTl : TL.length = t.steps.length := by rw [← hSt.out, List.length_map]
 have hms := ht.lt
 clear hg0 hcp
 refine tr_loopd (ι := Nat) (fun i A st' => ∃ x gs cS zS gc cC zC C', i ≤ TL.length ∧ VL cS zS cC zC x ∧ Hid (Vs[i]? = some x) ∧ Hid (Sch.versL x (t.steps.drop i) = Vs.drop (i + 1)) ∧ Hid (J (i + 1) C') ∧ A.df = [] ∧ A.e 0 = .fn (.yield l) [] [] ∧ A.e 1 = .ptr tb 0 ∧ A.e 3 = .ptr b3 0 ∧ A.e 5 = .ptr b5 0 ∧ A.e 24 = .sl .shared TL ∧ A.e 25 = .i TL.length ∧ A.e 26 = .i i ∧
  st' = .box b3 141 [.ar gs 0 x.slots.length cS, .ar gc 0 x.cols.length cC] :: .box gs 75 (slotC x.slots ++ zS) :: .box gc 3 (colC x.cols ++ zC) :: .box b5 216 TB :: .box tb 36 [.str t.name, .sl .shared SL, .sl .shared TL] :: C') (fun i => TL.length - i) 0 ⟨x, gs, cS, zS, gc, cC, zC, C', Nat.zero_le _, hz, hx0, hT0, hJ0, Qf, Qf, Qf, Qf, Qf, Qf, Qf, Qf, rfl⟩ ?_
 clear hx0 hT0 hJ0 hz hVx hC' HJ
 rintro i A st' ⟨x, gs, cS, zS, gc, cC, zC, C', hi, hz, hxi, hTi, hJi, hdf, e0, e1, e3, e5, e24, e25, e26, rfl⟩
 have hVx := hvi.out x (List.mem_of_getElem? hxi.out)
 by_cases hlt : i < TL.length
 · obtain ⟨stp, hstp⟩ := gEx (l := t.steps) (i := i) q_o
   have hso := hot.out stp (List.mem_of_getElem? hstp)
   have hTd := hTi.out
   rw [Sch.versL_drop hstp] at hTd
   have hcl : TL[i]? = some stp.cells := by rw [← hSt.out, List.getElem?_map, hstp]; rfl
   have hin : i < Vs.length := (List.getElem?_eq_some_iff.1 hxi.out).1
   by_cases hk : 1 ≤ stp.kind ∧ stp.kind ≤ 5
   · obtain ⟨nk, f, hkn, hn5, ⟨tl, htl⟩, hent, hTr⟩ := doTabF x stp (hVx.vw q_o) hVx.cp hso hk
     have hTr2 := Lib.hid (hTr b3 gs cS gc cC zS zC hz)
     have hSR := Lib.hid (stepR_ex x stp b3)
     obtain ⟨hk1, hk2⟩ := hk
     clear hTr hTi
     rw [← hTB.out] at htl
     unfold StepR VB at hTr2 hSR
     have hvw : Hid (∀ y, Sch.stepV x stp = some y → Vs[i + 1]? = some y ∧ Sch.versL y (t.steps.drop (i + 1)) = Vs.drop (i + 1 + 1)) := fun y hy => by
      rw [hy] at hTd
      have h1 : Vs[i + 1]? = some y := by
       have : (Vs.drop (i + 1))[0]? = some y := by rw [← hTd]; rfl
       rwa [List.getElem?_drop, Nat.add_zero] at this
      refine ⟨h1, ?_⟩
      rw [V.drop_cons h1] at hTd
      exact (List.cons.inj hTd).2
     have hvn : Hid (Sch.stepV x stp = none → Vs.length = i + 1) := fun h => by
      rw [h] at hTd
      have := congrArg List.length hTd
      rw [List.length_drop, List.length_nil] at this
      omega
     obtain ⟨n2, hn2⟩ : ∃ n2 : Nat, 1 + (i + 1) = n2 := ⟨_, rfl⟩
     have hn3 : (i : Int) + 2 = (n2 : Int) := by omega
     have hgY : Hid (∀ y, Sch.stepV x stp = some y → L[i + 1]? = some (y, n2)) := fun y hy => by rw [← hn2]; exact hget.out _ _ (hvw.out y hy).1
     have hcp : Hid (∀ y, Sch.stepV x stp = some y → ∀ (gs cS gc cC : Nat) (zS zC : List D) (st : St), Res.box gs 75 (slotC y.slots ++ zS) ∈ st → Res.box gc 3 (colC y.cols ++ zC) ∈ st → TrF Tryz.prog 193 [.agg [.ar gs 0 y.slots.length cS, .ar gc 0 y.cols.length cC]] st fun d st' => d = .agg y.cells ∧ st' = st) := fun y hy gs cS gc cC zS zC st m1 m2 => by
      have hVy := hvi.out y (List.mem_of_getElem? (hvw.out y hy).1)
      exact schCopiedF gs cS gc cC zS zC y (fun h => by have := hVy.lp; rw [h] at this; simp at this) (fun h => by have := hVy.cp; rw [h] at this; simp at this) (hVy.vw q_o) st m1 m2
     have hn2b : n2 ≤ 2000 ∧ i ≤ 2000 ∧ TL.length ≤ 2000 := by omega
     obtain ⟨hb1, hb2, hb3⟩ := hn2b
     replace hn2 := Lib.hid hn2
     clear hTd hstp hxi hVx
     generalize Sch.stepV x stp = F at *
     cases stp with
     | mk kd col slot order =>
     cases slot with
     | mk nm ty rq dv =>
     cases dv with
     | mk k n sv lv =>
     unfold Stp.cells at hcl hTr2
     rw [Sl.cells_mk] at hcl hTr2
     dsimp only [List.cons_append, List.nil_append] at hcl hTr2 hkn hk1 hk2
     subst hkn
     replace hcl := hcl
     have hentH := Lib.hid hent
     clear hent
     replace hin := Lib.hid hin
     replace hLl2 := Lib.hid hLl2
     replace hTl := Lib.hid hTl
     repeat' (first | refine QV ?_ | ((with_reducible apply (s_yield HY.out hJi.out hgy.out)); (focus exact q_v); (focus exact q_v); (focus exact q_l); (focus (repeat (first | exact tl_nil | apply tl_cons)); done); all_goals (intro C' hC')) | ((with_reducible apply (w_drawQ [(b5, TB), (b, [.i nk, .i col, .str nm, .i ty, .b rq, .i k, .i n, .str sv, .sl .shared (lv.map V.cells), .sl .shared (order.map encI)])] 14)); (iterate 4 (focus kernel_rfl)); (focus (simp only [List.take_succ_cons, List.take_zero]; exact rfl)); (focus (simp only [List.drop_succ_cons, List.drop_zero]; exact rfl)); (focus exact q_k); intro hne; simp only [nes, ne1, and_assoc] at hne; repeat (have hq := hne.1; replace hne := hne.2)) | ((with_reducible refine Exists.intro [(b3, [.ar gs1 0 y.slots.length cS1, .ar gc1 0 y.cols.length cC1])] ?_); (with_reducible refine And.intro ?_ ?_); (focus exact q_k)) | ((with_reducible refine And.intro ?_ ?_); (focus exact q_k)) | ((with_reducible refine Exists.intro [] ?_); (with_reducible refine And.intro ?_ ?_); (focus exact keep_nil)) | refine QY ?_ | (refine QB ?_; intro b) | (with_reducible refine QZ ?_ <;> (try constructor) <;> intro hb <;> try intro hb1) | ((with_reducible apply (ck_gen hentH.out)); (focus (show List.Perm _ (VB b3 gs cS zS gc cC zC x (.box b 79 [.i nk, .i col, .str nm, .i ty, .b rq, .i k, .i n, .str sv, .sl .shared (lv.map V.cells), .sl .shared (order.map encI)] :: .box b5 216 TB :: .box tb 36 [.str t.name, .sl .shared SL, .sl .shared TL] :: C')); (repeat (first | exact List.Perm.refl _ | refine perm_cons_out (by repeat (first | exact out_here | apply out_there)) ?_)); done)); (focus exact hTr2.out _); (focus exact LEL.refl _); (focus exact hSR.out _); (rintro d st' (⟨hn1, rfl, rfl⟩ | ⟨y, gs1, cS1, zS1, gc1, cC1, zC1, hy, hz1, rfl, rfl⟩) <;> (try (have hgy := Lib.hid (hgY.out y hy); have hcy := Lib.hid (hcp.out y hy gs1 cS1 gc1 cC1 zS1 zC1); replace hy := Lib.hid hy)))) | refine Qc Tryz.call193 (hcy.out _ q_m q_m) ?_ | fail)
     · have hL1 : L.length = i + 1 := by rw [hLl2.out.out, hvn.out hn1]
       exact retA_mk q_x q_y q_t (LE.refl _) ⟨[_], C', rfl, .inl ⟨rfl, by rw [hL1]; exact hJi.out⟩⟩
     · obtain ⟨q1, q2⟩ := hvw.out y hy.out
       refine ⟨i + 1, .box b3 141 [.ar gs1 0 y.slots.length cS1, .ar gc1 0 y.cols.length cC1] :: .box gs1 75 (slotC y.slots ++ zS1) :: .box gc1 3 (colC y.cols ++ zC1) :: .box b5 216 TB :: .box tb 36 [.str t.name, .sl .shared SL, .sl .shared TL] :: C', ?_, ⟨y, gs1, cS1, zS1, gc1, cC1, zC1, C', hlt, hz1, q1, q2, hC', ?_, ?_, ?_, ?_, ?_, ?_, ?_, ?_, rfl⟩, ?_⟩
       · (repeat (first | exact List.Sublist.refl _ | with_reducible apply List.Sublist.cons_cons | apply List.Sublist.cons))
       iterate 8 (focus exact Qf)
       · omega
     · exact retA_mk q_x q_y q_t (LE.refl _) ⟨[_], C', rfl, .inr ⟨_, rfl, hC'⟩⟩
   · have hn1 : Sch.stepV x stp = none := by
      unfold Sch.stepV
      rw [if_neg q_o, if_neg q_o, if_neg q_o, if_neg q_o, if_neg q_o]
     rw [hn1] at hTd
     have hL1 : L.length = i + 1 := by
      rw [hLl2.out]
      have := congrArg List.length hTd
      rw [List.length_drop, List.length_nil] at this
      omega
     have hk' : stp.kind < 1 ∨ (1 ≤ stp.kind ∧ 5 < stp.kind) := by omega
     clear hTd hstp hk hn1 hTi hxi
     replace hL1 := Lib.hid hL1
     cases stp with
     | mk kd col slot order =>
     cases slot with
     | mk nm ty rq dv =>
     cases dv with
     | mk k n sv lv =>
     unfold Stp.cells at hcl
     rw [Sl.cells_mk] at hcl
     dsimp only [List.cons_append, List.nil_append] at hcl hk'
     have hb3 : TL.length ≤ 2000 ∧ i ≤ 2000 := by omega
     obtain ⟨hb3, hb4⟩ := hb3
     replace hTl := Lib.hid hTl
     replace hLl2 := Lib.hid hLl2
     replace hin := Lib.hid hin
     rcases hk' with hk1 | ⟨hk1, hk2⟩
     all_goals skip
     all_goals (
      repeat' (first | refine QV ?_ | ((with_reducible apply (w_drawN [(b, [.i kd, .i col, .str nm, .i ty, .b rq, .i k, .i n, .str sv, .sl .shared (lv.map V.cells), .sl .shared (order.map encI)])])); (iterate 3 (focus kernel_rfl)); (focus exact q_k); intro hne; simp only [nes, ne1, and_assoc] at hne; repeat (have hq := hne.1; replace hne := hne.2)) | ((with_reducible refine And.intro ?_ ?_); (focus exact q_k)) | refine QY ?_ | (refine QB ?_; intro b) | (with_reducible refine QZ ?_ <;> (try constructor) <;> intro hb <;> try intro hb1) | fail)
      all_goals exact retA_mk q_x q_y q_t (LE.refl _) ⟨[_], C', rfl, .inl ⟨rfl, by rw [hL1.out]; exact hJi.out⟩⟩)
 · have hL1 : L.length = i + 1 := by
    have h1 := hTi.out
    rw [List.drop_of_length_le q_o, Sch.versL] at h1
    have := congrArg List.length h1
    rw [List.length_drop, List.length_nil] at this
    have hin : i < Vs.length := (List.getElem?_eq_some_iff.1 hxi.out).1
    rw [hLl2.out]; omega
   replace hL1 := Lib.hid hL1
   replace hTl := Lib.hid hTl
   replace hLl2 := Lib.hid hLl2
   repeat' (first | refine QX ?_ | (refine QB ?_; intro b) | (with_reducible refine QZ ?_ <;> (try constructor) <;> intro hb <;> try intro hb1) | fail)
   all_goals exact retA_mk q_x q_y q_t (LE.refl _) ⟨[_], C', rfl, .inl ⟨rfl, by rw [hL1.out]; exact hJi.out⟩⟩
theorem versF' (t : Tm) (st : St) : TrF Tryz.prog 161 [.agg t.cells] st fun d st' => ∃ tb : Nat, True ∧ d = .fn (.func 191) [] [.ptr tb 0] ∧ st' = .box tb 36 t.cells :: st :=
 (versF t st).mono fun _ _ ⟨tb, h1, h2⟩ => ⟨tb, trivial, h1, h2⟩
theorem schLastF (t : Tm) (ht : TOk t) (st : St) : TrF Tryz.prog 113 [.agg t.cells] st fun d st' => d = .i (Sch.last t) ∧ st' = st := by
 have hVF := Lib.hid (versF' t)
 have hIt := Lib.hid fun tb => versIter tb t ht
 have hLl : Hid (((Sch.vers t).zipIdx 1).length = (Sch.vers t).length) := Lib.hid List.length_zipIdx
 have hget : Hid (∀ i x, ((Sch.vers t).zipIdx 1)[i]? = some x → x.2 = i + 1) := fun i x h => by
  rw [List.getElem?_zipIdx] at h
  cases hv : (Sch.vers t)[i]? with
  | none => rw [hv] at h; cases h
  | some y => rw [hv] at h; cases h; exact Nat.add_comm 1 i
 have hlast : Hid (Sch.last t = if (Sch.vers t).length = t.steps.length + 1 then t.steps.length + 1 else 0) := rfl
 have hvl := (Sch.vers_len t).1
 have hms := ht.lt
 generalize Sch.last t = LT at *
 generalize (Sch.vers t).zipIdx 1 = L at *
 generalize (Sch.vers t).length = vl at *
 have hTL : (t.steps.map Stp.cells).length = t.steps.length := List.length_map ..
 unfold Tm.cells at hVF hIt ⊢
 generalize t.slots.map Sl.cells = SL at *
 generalize t.steps.map Stp.cells = TL at *
 generalize t.steps.length = ms at *
 generalize t.name = nm at *
 refine Qin [2] Tryz.func113 Tryz.results113 Tryz.ntmps113 ?_
 repeat' (first | with_reducible refine s_boxP ?_ | refine QX ?_ | (refine QB ?_; intro b) | (with_reducible refine QZ ?_ <;> (try constructor) <;> intro hb <;> try intro hb1) | ((with_reducible apply (ck_ex Tryz.call161)); (focus exact LEL.refl _); (focus exact hVF.out _); (focus exact ⟨0, trivial⟩); intro tb htb) | fail)
 rename_i b1
 refine tr_perm (st' := [.box tb 36 [.str nm, .sl .shared SL, .sl .shared TL]] ++ (.box b 3 [.i 0] :: .box b1 36 [.str nm, .sl .shared SL, .sl .shared TL] :: st)) (.refl _) ?_
 refine tr_range (hIt.out tb) Tryz.call191 q_v (fun _ => rfl) rfl (fun i C => C = .box b 3 [.i i] :: .box b1 36 [.str nm, .sl .shared SL, .sl .shared TL] :: st) (fun _ _ _ => False) rfl (fun i _ => ⟨_, rfl⟩) ?_ ?_ (fun _ _ _ _ _ _ h => h.elim)
 · rintro l i ⟨y, v⟩ C K hx rfl
   have hv : v = i + 1 := hget.out i _ hx
   subst hv
   have hil : i < L.length := (List.getElem?_eq_some_iff.1 hx).1
   have hib : i ≤ 2000 := by have := hLl.out; omega
   clear hx hil
   refine (?_ : Tr _ _ _ _ (AA.put (AA.put ⟨_, []⟩ (some 7) (.i ((i + 1 : Nat) : Int))) (some 8) (.agg y.cells)) (.box b 3 [.i i] :: .box b1 36 [.str nm, .sl .shared SL, .sl .shared TL] :: (st ++ K)) _)
   repeat' (first | refine QX ?_ | (refine QB ?_; intro b) | (with_reducible refine QZ ?_ <;> (try constructor) <;> intro hb <;> try intro hb1) | fail)
   refine ⟨.box b 3 [.i i] :: .box b1 36 [.str nm, .sl .shared SL, .sl .shared TL] :: st, List.Sublist.refl _, fun K' => ?_⟩
   refine (?_ : Tr _ _ _ _ _ (.box b 3 [.i i] :: .box b1 36 [.str nm, .sl .shared SL, .sl .shared TL] :: (st ++ K')) _)
   repeat' (first | refine QX ?_ | (refine QB ?_; intro b) | (with_reducible refine QZ ?_ <;> (try constructor) <;> intro hb <;> try intro hb1) | fail)
   exact ⟨_, List.Sublist.refl _, rfl⟩
 · rintro d K1 C' rfl rfl
   rw [hLl.out]
   clear hIt
   change Tr _ _ _ _ _ _ _
   by_cases hc : vl = ms + 1
   · have hL2 : LT = vl := by rw [hlast.out, if_pos hc, hc]
     clear hlast
     have hc2 : (vl : Int) = (ms : Int) + 1 := by omega
     clear hc
     refine tr_perm (st' := .box b 3 [.i vl] :: .box b1 36 [.str nm, .sl .shared SL, .sl .shared TL] :: markR d :: .box tb 36 [.str nm, .sl .shared SL, .sl .shared TL] :: st) (by show List.Perm (markR d :: .box tb 36 [.str nm, .sl .shared SL, .sl .shared TL] :: .box b 3 [.i vl] :: .box b1 36 [.str nm, .sl .shared SL, .sl .shared TL] :: st) _; (repeat (first | exact List.Perm.refl _ | refine perm_cons_out (by repeat (first | exact out_here | apply out_there)) ?_))) ?_
     repeat' (first | refine QX ?_ | (refine QB ?_; intro b) | (with_reducible refine QZ ?_ <;> (try constructor) <;> intro hb <;> try intro hb1) | fail)
     all_goals (refine retA_mark (by simp) q_y (by repeat (first | exact out_here | apply out_there)) q_u ?_ ⟨rfl, rfl⟩; (try simp (disch := omega) only [push_cast, simprocAttr, *]); try (first | exact q_e | refine LE.of_eq ?_))
   · have hL2 : LT = 0 := by rw [hlast.out, if_neg hc]
     clear hlast
     have hc2 : ¬ (vl : Int) = (ms : Int) + 1 := by omega
     clear hc
     refine tr_perm (st' := .box b 3 [.i vl] :: .box b1 36 [.str nm, .sl .shared SL, .sl .shared TL] :: markR d :: .box tb 36 [.str nm, .sl .shared SL, .sl .shared TL] :: st) (by show List.Perm (markR d :: .box tb 36 [.str nm, .sl .shared SL, .sl .shared TL] :: .box b 3 [.i vl] :: .box b1 36 [.str nm, .sl .shared SL, .sl .shared TL] :: st) _; (repeat (first | exact List.Perm.refl _ | refine perm_cons_out (by repeat (first | exact out_here | apply out_there)) ?_))) ?_
     repeat' (first | refine QX ?_ | (refine QB ?_; intro b) | (with_reducible refine QZ ?_ <;> (try constructor) <;> intro hb <;> try intro hb1) | fail)
     all_goals (refine retA_mark (by simp) q_y (by repeat (first | exact out_here | apply out_there)) q_u ?_ ⟨rfl, rfl⟩; (try simp (disch := omega) only [push_cast, simprocAttr, *]); try (first | exact q_e | refine LE.of_eq ?_))
theorem schRightF (t : Tm) (ht : TOk t) (st : St) : TrF Tryz.prog 50 [.agg t.cells] st fun d st' => d = .b (decide (0 < Sch.last t)) ∧ st' = st := by
 have hL := Lib.hid (schLastF t ht)
 generalize Sch.last t = n at *
 unfold Tm.cells at *
 generalize t.slots.map Sl.cells = SL at *
 generalize t.steps.map Stp.cells = TL at *
 refine Qin [2] Tryz.func50 Tryz.results50 Tryz.ntmps50 ?_
 repeat' (first | with_reducible refine s_boxP ?_ | refine QX ?_ | (refine QB ?_; intro b) | (with_reducible refine QZ ?_ <;> (try constructor) <;> intro hb <;> try intro hb1) | fail)
 all_goals (refine Qret (hd := ?_); (try simp (disch := omega) only [push_cast, simprocAttr, *]); try (first | exact q_e | refine LE.of_eq ?_))
 all_goals (refine congrArg D.b (decide_eq_decide.2 ?_); omega)
def Sch.verX (t : Tm) (v : Int) : Vr := (Sch.ver t v).getD ⟨[], []⟩
def Sch.verB (t : Tm) (v : Int) : Bool := (Sch.ver t v).isSome
theorem schAtF (t : Tm) (ht : TOk t) (v : Int) (st : St) : TrF Tryz.prog 112 [.agg t.cells, .i v] st fun d st' => d = .tup [.agg (Sch.verX t v).cells, .b (Sch.verB t v)] ∧ st' = st := by
 have hVF := Lib.hid (versF' t)
 have hRi := schRightF t ht
 have hIt := Lib.hid fun tb => versIter tb t ht
 have hLl : Hid (((Sch.vers t).zipIdx 1).length = (Sch.vers t).length) := Lib.hid List.length_zipIdx
 have hget : Hid (∀ i x, ((Sch.vers t).zipIdx 1)[i]? = some x → x.2 = i + 1 ∧ (Sch.vers t)[i]? = some x.1) := fun i x h => by
  rw [List.getElem?_zipIdx] at h
  cases hv : (Sch.vers t)[i]? with
  | none => rw [hv] at h; cases h
  | some y => rw [hv] at h; cases h; exact ⟨Nat.add_comm 1 i, rfl⟩
 have hver : Hid (Sch.ver t v = if 0 < Sch.last t ∧ 1 ≤ v then (Sch.vers t)[(v - 1).toNat]? else none) := rfl
 have hvl := (Sch.vers_len t).1
 have hms := ht.lt
 have hvl2 : Hid ((Sch.vers t).length ≤ 2000) := Lib.hid q_o
 unfold Sch.verX Sch.verB
 generalize Sch.ver t v = VT at *
 generalize (Sch.vers t).zipIdx 1 = L at *
 generalize Sch.vers t = Vs at *
 clear hvl hms
 unfold Tm.cells at hVF hIt hRi ⊢
 generalize t.slots.map Sl.cells = SL at *
 generalize t.steps.map Stp.cells = TL at *
 generalize t.name = nm at *
 refine trF_enterG (G := twoA Tryz.prog (.cell 4 141) (.cell 5 4)) Tryz.func112 rfl (by rw [Tryz.ntmps112]; exact Nat.le_of_ble_eq_true rfl) (fun h1 h2 h3 => res_two rfl h1 h2 h3) ?_
 simp only [Tryz.ntmps112]
 by_cases hr : 0 < Sch.last t
 · rw [decide_eq_true hr] at hRi
   replace hRi := Lib.hid hRi
   have hver2 : Hid (VT = if 1 ≤ v then Vs[(v - 1).toNat]? else none) := Lib.hid (by rw [hver.out]; simp [hr])
   clear hver
   repeat' (first | with_reducible refine s_boxP ?_ | refine QX ?_ | (refine QB ?_; intro b) | (with_reducible refine QZ ?_ <;> (try constructor) <;> intro hb <;> try intro hb1) | ((with_reducible apply (ck_ex Tryz.call161)); (focus exact LEL.refl _); (focus exact hVF.out _); (focus exact ⟨0, trivial⟩); intro tb htb) | fail)
   rename_i b2 b3 b4
   obtain ⟨b5, rfl⟩ : ∃ q, q = b := ⟨_, rfl⟩
   clear hRi
   refine tr_perm (st' := [.box tb 36 [.str nm, .sl .shared SL, .sl .shared TL]] ++ (.box b5 4 [.s (.bool false)] :: .box b4 141 [.sl .tight [], .sl .tight []] :: .box b3 3 [.i v] :: .box b2 36 [.str nm, .sl .shared SL, .sl .shared TL] :: st)) (.refl _) ?_
   refine tr_rangeS (hIt.out tb) Tryz.call191 q_v (fun _ => rfl) rfl (fun i C => Hid (∀ j, j < i → (j : Int) + 1 ≠ v) ∧ C = .box b5 4 [.s (.bool false)] :: .box b4 141 [.sl .tight [], .sl .tight []] :: .box b3 3 [.i v] :: .box b2 36 [.str nm, .sl .shared SL, .sl .shared TL] :: st) (fun c i C => ∃ x : Vr, c = .ret ∧ Hid (VT = some x) ∧ C = .box b5 4 [.s (.bool true)] :: .box b4 141 x.cells :: .box b3 3 [.i v] :: .box b2 36 [.str nm, .sl .shared SL, .sl .shared TL] :: st)
    ⟨fun j hj => absurd hj (Nat.not_lt_zero _), rfl⟩ ?_ ?_ ?_ ?_
   · rintro i ⟨x, k⟩ C hx ⟨hj, rfl⟩
     obtain ⟨h1, h2⟩ := hget.out i _ hx
     by_cases hv : (i : Int) + 1 = v
     · exact .inr ⟨.ret, _, x, rfl, by rw [hver2.out, if_pos q_o, show (v - 1).toNat = i by omega]; exact h2, rfl⟩
     · refine .inl ⟨_, fun j hj' => ?_, rfl⟩
       by_cases hji : j = i
       · subst hji; exact hv
       · exact hj.out j q_o
   · rintro l i ⟨x, k⟩ C K hx ⟨hj, rfl⟩
     obtain ⟨h1, h2⟩ := hget.out i _ hx
     dsimp only at h1 h2
     subst h1
     have hib : i ≤ 2000 := by
      have := (List.getElem?_eq_some_iff.1 hx).1
      have := hLl.out
      have := hvl2.out
      omega
     have hvx : Hid ((i : Int) + 1 = v → VT = some x) := fun hv => by rw [hver2.out, if_pos q_o, show (v - 1).toNat = i by omega]; exact h2
     have hnx : Hid ((i : Int) + 1 ≠ v → ∀ j, j < i + 1 → (j : Int) + 1 ≠ v) := fun hv j hj' => by
      by_cases hji : j = i
      · subst hji; exact hv
      · exact hj.out j q_o
     clear hx h2 hj hIt
     dsimp only [verD, Vr.cells]
     generalize hX1 : x.slots.map Sl.cells = X1 at *
     generalize hX2 : x.cols.map encC = X2 at *
     replace hX1 := Lib.hid hX1
     replace hX2 := Lib.hid hX2
     refine (?_ : Tr _ _ _ _ (AA.put (AA.put ⟨_, []⟩ (some 14) (.i ((i + 1 : Nat) : Int))) (some 15) (.agg [.sl .shared X1, .sl .shared X2])) (.box b5 4 [.s (.bool false)] :: .box b4 141 [.sl .tight [], .sl .tight []] :: .box b3 3 [.i v] :: .box b2 36 [.str nm, .sl .shared SL, .sl .shared TL] :: (st ++ K)) _)
     repeat' (first | refine QX ?_ | (refine QB ?_; intro b) | (with_reducible refine QZ ?_ <;> (try constructor) <;> intro hb <;> try intro hb1) | fail)
     obtain ⟨b7, rfl⟩ : ∃ q, q = b := ⟨_, rfl⟩
     refine ⟨.box b7 141 [.sl .shared X1, .sl .shared X2] :: .box b5 4 [.s (.bool false)] :: .box b4 141 [.sl .tight [], .sl .tight []] :: .box b3 3 [.i v] :: .box b2 36 [.str nm, .sl .shared SL, .sl .shared TL] :: st, List.Sublist.refl _, fun K' => ?_⟩
     refine (?_ : Tr _ _ _ _ _ (.box b7 141 [.sl .shared X1, .sl .shared X2] :: .box b5 4 [.s (.bool false)] :: .box b4 141 [.sl .tight [], .sl .tight []] :: .box b3 3 [.i v] :: .box b2 36 [.str nm, .sl .shared SL, .sl .shared TL] :: (st ++ K')) _)
     repeat' (first | refine QX ?_ | (refine QB ?_; intro b) | (with_reducible refine QZ ?_ <;> (try constructor) <;> intro hb <;> try intro hb1) | fail)
     · exact ⟨.box b5 4 [.s (.bool true)] :: .box b4 141 [.sl .shared X1, .sl .shared X2] :: .box b3 3 [.i v] :: .box b2 36 [.str nm, .sl .shared SL, .sl .shared TL] :: st, .cons _ (.refl _), ⟨x, rfl, hvx.out hb, by rw [hX1.out, hX2.out]⟩⟩
     · exact ⟨.box b5 4 [.s (.bool false)] :: .box b4 141 [.sl .tight [], .sl .tight []] :: .box b3 3 [.i v] :: .box b2 36 [.str nm, .sl .shared SL, .sl .shared TL] :: st, .cons _ (.refl _), hnx.out hb, rfl⟩
   · rintro d K1 C' rfl ⟨hj, rfl⟩
     have hVN : VT = none := by
      rw [hver2.out]
      split
      · rename_i h1
        refine List.getElem?_eq_none ?_
        have hl := hLl.out
        refine Nat.le_of_not_lt fun hlt => ?_
        exact hj.out (v - 1).toNat q_o q_o
      · rfl
     subst hVN
     clear hIt hj hver2
     change Tr _ _ _ _ _ _ _
     repeat' (first | refine QX ?_ | (refine QB ?_; intro b) | (with_reducible refine QZ ?_ <;> (try constructor) <;> intro hb <;> try intro hb1) | fail)
     all_goals exact retG_mk (rs := [d]) (s2 := .box tb 36 [.str nm, .sl .shared SL, .sl .shared TL] :: .box b5 4 [.s (.bool false)] :: .box b4 141 [.sl .tight [], .sl .tight []] :: .box b3 3 [.i v] :: .box b2 36 [.str nm, .sl .shared SL, .sl .shared TL] :: st) q_x rfl (List.Perm.refl _) ⟨_, _, rfl, cell_mk q_s q_m q_s q_v, cell_mk q_s q_m q_s q_v⟩ q_t (LE.tup (l' := [.agg [.sl .shared [], .sl .shared []], .b false]) ⟨LE.agg (l := [.sl .tight [], .sl .tight []]) ⟨LE.sl _ _, LE.sl _ _, trivial⟩, LE.refl _, trivial⟩) ⟨rfl, rfl⟩
   · rintro c d i K1 C' rfl ⟨x, rfl, hx, rfl⟩
     have hVS := hx.out
     subst hVS
     clear hIt hver2
     repeat' (first | refine QX ?_ | (refine QB ?_; intro b) | (with_reducible refine QZ ?_ <;> (try constructor) <;> intro hb <;> try intro hb1) | fail)
     all_goals exact retG_mk (rs := [d]) (s2 := .box tb 36 [.str nm, .sl .shared SL, .sl .shared TL] :: .box b5 4 [.s (.bool true)] :: .box b4 141 x.cells :: .box b3 3 [.i v] :: .box b2 36 [.str nm, .sl .shared SL, .sl .shared TL] :: st) q_x rfl (List.Perm.refl _) ⟨_, _, rfl, cell_mk q_s q_m q_s q_v, cell_mk q_s q_m q_s q_v⟩ q_t (LE.refl _) ⟨rfl, rfl⟩
 · rw [decide_eq_false hr] at hRi
   replace hRi := Lib.hid hRi
   have hver2 : VT = none := by rw [hver.out]; simp [hr]
   subst hver2
   repeat' (first | with_reducible refine s_boxP ?_ | refine QX ?_ | (refine QB ?_; intro b) | (with_reducible refine QZ ?_ <;> (try constructor) <;> intro hb <;> try intro hb1) | ((with_reducible apply (ck_ex Tryz.call161)); (focus exact LEL.refl _); (focus exact hVF.out _); (focus exact ⟨0, trivial⟩); intro tb htb) | fail)
   all_goals exact retG_mk (rs := []) q_x q_y (List.Perm.refl _) ⟨_, _, rfl, cell_mk q_s q_m q_s q_v, cell_mk q_s q_m q_s q_v⟩ q_t (LE.tup (l' := [.agg [.sl .shared [], .sl .shared []], .b false]) ⟨LE.agg (l := [.sl .tight [], .sl .tight []]) ⟨LE.sl _ _, LE.sl _ _, trivial⟩, LE.refl _, trivial⟩) ⟨rfl, rfl⟩
def twoT : Tm := ⟨⟨#[116]⟩, [⟨⟨#[97]⟩, 4, false, .mk 2 0 ⟨#[]⟩ []⟩, ⟨⟨#[98]⟩, 4, true, .mk 2 0 ⟨#[]⟩ []⟩], [⟨2, 0, ⟨⟨#[]⟩, 0, false, .mk 0 0 ⟨#[]⟩ []⟩, []⟩, ⟨1, 0, ⟨⟨#[99]⟩, 5, false, .mk 0 0 ⟨#[]⟩ []⟩, []⟩]⟩
theorem twoC : twoT.cells = [.str ⟨#[116]⟩, .sl .shared [[.str ⟨#[97]⟩, .i 4, .b false, .i 2, .i 0, .str ⟨#[]⟩, .sl .shared []], [.str ⟨#[98]⟩, .i 4, .b true, .i 2, .i 0, .str ⟨#[]⟩, .sl .shared []]],
 .sl .shared [[.i 2, .i 0, .str ⟨#[]⟩, .i 0, .b false, .i 0, .i 0, .str ⟨#[]⟩, .sl .shared [], .sl .shared []], [.i 1, .i 0, .str ⟨#[99]⟩, .i 5, .b false, .i 0, .i 0, .str ⟨#[]⟩, .sl .shared [], .sl .shared []]]] := by
 unfold twoT Tm.cells
 simp only [List.map_cons, List.map_nil, Stp.cells, Sl.cells_mk, List.cons_append, List.nil_append]
theorem refInt10F (n : Int) (st : St) : TrF Tryz.prog 132 [.i n] st fun x st' => x = .agg (V.mk 2 n ⟨#[]⟩ []).cells ∧ st' = st := by
 refine QinC 2 73 Tryz.func132 Tryz.ntmps132 ?_
 repeat' (first | refine QX ?_ | (refine QB ?_; intro b) | (with_reducible refine QZ ?_ <;> (try constructor) <;> intro hb <;> try intro hb1) | fail)
 all_goals exact QretC
theorem twoOk : TOk twoT := by
 refine ⟨by decide, by decide, ?_, ?_⟩
 · intro s hs
   simp only [twoT, List.mem_cons, List.not_mem_nil, or_false] at hs
   rcases hs with rfl | rfl <;> decide
 · intro s hs
   have hb : ∀ k n : Int, (V.mk k n ⟨#[]⟩ []).Bg := fun _ _ => .mk (Nat.zero_le _) (Nat.zero_le _) fun x h => by cases h
   simp only [twoT, List.mem_cons, List.not_mem_nil, or_false] at hs
   rcases hs with rfl | rfl <;> exact ⟨by decide, hb _ _, by decide⟩
theorem twoL : Sch.last twoT = 3 := by kernel_rfl
abbrev sA : List D := [.str ⟨#[97]⟩, .i 4, .b false, .i 2, .i 0, .str ⟨#[]⟩, .sl .shared []]
abbrev sB : List D := [.str ⟨#[98]⟩, .i 4, .b true, .i 2, .i 0, .str ⟨#[]⟩, .sl .shared []]
abbrev sC : List D := [.str ⟨#[99]⟩, .i 5, .b false, .i 0, .i 0, .str ⟨#[]⟩, .sl .shared []]
theorem twoF (st : St) : TrF Tryz.prog 48 [] st fun d st' => d = .agg twoT.cells ∧ st' = st := by
 have hI := refInt10F 0
 rw [V.cells_mk] at hI
 rw [twoC]
 replace hI := Lib.hid hI
 refine QinC 0 36 Tryz.func48 Tryz.ntmps48 ?_
 repeat' (first | refine QX ?_ | (refine QB ?_; intro b) | (with_reducible refine QZ ?_ <;> (try constructor) <;> intro hb <;> try intro hb1) | fail)
 all_goals exact QretC
end
section
attribute [local push_cast] encB encI encC V.cells_mk V.cells_len Nat.mul_one Int.sub_zero List.map_nil beq_self_eq_true bne_self_eq_false List.head?_cons
namespace Reg
def findL (nm : ByteArray) : List Tm → Nat → Int
 | [], _ => -1
 | t :: l, i => if t.name.toList == nm.toList then i else findL nm l (i + 1)
def find (L : List Tm) (nm : ByteArray) : Int := findL nm L 0
theorem findL_drop {L : List Tm} {nm : ByteArray} {i : Nat} {t : Tm} (h : L[i]? = some t) : findL nm (L.drop i) i = if t.name.toList == nm.toList then (i : Int) else findL nm (L.drop (i + 1)) (i + 1) := by
 obtain ⟨h1, rfl⟩ := List.getElem?_eq_some_iff.1 h
 rw [List.drop_eq_getElem_cons h1, findL]
def rightL (L : List Tm) : List Tm → Nat → Bool
 | [], _ => true
 | t :: l, i => decide (i < 6) && (decide (0 < Sch.last t) && ((find L t.name == (i : Int)) && rightL L l (i + 1)))
def right (L : List Tm) : Bool := rightL L L 0
theorem rightL_drop {L l : List Tm} {i : Nat} {t : Tm} (h : l[i]? = some t) : rightL L (l.drop i) i = (decide (i < 6) && (decide (0 < Sch.last t) && ((find L t.name == (i : Int)) && rightL L (l.drop (i + 1)) (i + 1)))) := by
 obtain ⟨h1, rfl⟩ := List.getElem?_eq_some_iff.1 h
 rw [List.drop_eq_getElem_cons h1, rightL]
end Reg
theorem regFind1F (t : Tm) (nm : ByteArray) (st : St) : TrF Tryz.prog 64 [.agg t.cells, .ip [.str nm]] st fun d st' => d = .b (t.name.toList == nm.toList) ∧ st' = st := by
 unfold Tm.cells
 generalize t.slots.map Sl.cells = SL at *
 generalize t.steps.map Stp.cells = TL at *
 generalize t.name = n at *
 refine Qin [3] Tryz.func64 Tryz.results64 Tryz.ntmps64 ?_
 exact WR
theorem regIndexF (L : List Tm) (nm : ByteArray) (hl : L.length ≤ 1000000) (st : St) : TrF Tryz.prog 63 [.sl .shared (L.map Tm.cells), .fn (.func 64) [] [.ip [.str nm]]] st fun d st' => d = .i (Reg.find L nm) ∧ st' = st := by
 unfold Reg.find
 obtain ⟨F, hF⟩ : ∃ F, Reg.findL nm L 0 = F := ⟨_, rfl⟩
 rw [hF]
 have HF : Hid (Reg.findL nm (L.drop 0) 0 = F) := hF
 have hm : (L.map Tm.cells).length = L.length := List.length_map ..
 have hc := hMp Tm.cells L
 clear hF
 generalize L.map Tm.cells = LS at *
 refine Qin [4] Tryz.func63 Tryz.results63 Tryz.ntmps63 ?_
 repeat' (first | refine QX ?_ | (refine QB ?_; intro b) | (with_reducible refine QZ ?_ <;> (try constructor) <;> intro hb <;> try intro hb1) | fail)
 refine tr_loopd (ι := Nat) (fun i A st' => i ≤ L.length ∧ Hid (Reg.findL nm (L.drop i) i = F) ∧ A.df = [] ∧ A.e 0 = .sl .shared LS ∧ A.e 1 = .fn (.func 64) [] [.ip [.str nm]] ∧ A.e 7 = .i L.length ∧ A.e 8 = .i i ∧ st = st') (fun i => L.length - i) 0 ⟨Nat.zero_le _, HF, Qf, Qf, Qf, Qf, Qf, rfl⟩ ?_
 rintro i A st' ⟨hi, HT, hdf, e0, e1, e7, e8, rfl⟩
 clear HF
 by_cases hlt : i < L.length
 · obtain ⟨t, ht⟩ := gEx hlt
   have h1 := hc.out i t ht
   have HE := HT.out
   rw [Reg.findL_drop ht] at HE
   have hG := regFind1F t nm
   clear HT ht
   generalize (t.name.toList == nm.toList) = q at *
   unfold Tm.cells at h1 hG
   generalize t.slots.map Sl.cells = SL at *
   generalize t.steps.map Stp.cells = TL at *
   replace hG := Lib.hid hG
   cases q with
   | true =>
    rw [if_pos rfl] at HE
    subst HE
    exact WR
   | false =>
    rw [if_neg Bool.false_ne_true] at HE
    replace HE := Lib.hid HE
    repeat' (first | refine QX ?_ | (refine QB ?_; intro b) | (with_reducible refine QZ ?_ <;> (try constructor) <;> intro hb <;> try intro hb1) | fail)
    refine ⟨i + 1, st, q_u, ⟨hlt, HE, ?_, ?_, ?_, ?_, ?_, rfl⟩, by omega⟩
    all_goals exact Qf
 · have HE := HT.out
   rw [List.drop_of_length_le q_o, Reg.findL] at HE
   subst HE
   clear HT
   exact WR
theorem regFindF (L : List Tm) (nm : ByteArray) (hl : L.length ≤ 1000000) (st : St) : TrF Tryz.prog 21 [.sl .shared (L.map Tm.cells), .str nm] st fun d st' => d = .i (Reg.find L nm) ∧ st' = st := by
 have hI := regIndexF L nm hl
 generalize Reg.find L nm = q at *
 generalize L.map Tm.cells = LS at *
 replace hI := Lib.hid hI
 refine Qin [4] Tryz.func21 Tryz.results21 Tryz.ntmps21 ?_
 exact WR
theorem regRightF (L : List Tm) (hL : ∀ t ∈ L, TOk t) (hl : L.length ≤ 1000000) (st : St) : TrF Tryz.prog 16 [.sl .shared (L.map Tm.cells)] st fun d st' => d = .b (Reg.right L) ∧ st' = st := by
 unfold Reg.right
 obtain ⟨F, hF⟩ : ∃ F, Reg.rightL L L 0 = F := ⟨_, rfl⟩
 rw [hF]
 have HF : Hid (Reg.rightL L (L.drop 0) 0 = F) := hF
 have hm : (L.map Tm.cells).length = L.length := List.length_map ..
 have hc := hMp Tm.cells L
 have hFi := Lib.hid fun (nm : ByteArray) => regFindF L nm hl
 have hL2 := Lib.hid hL
 clear hF hL
 obtain ⟨LS, hLS⟩ : ∃ LS, L.map Tm.cells = LS := ⟨_, rfl⟩
 rw [hLS] at hm hc hFi ⊢
 clear hLS
 refine Qin [2] Tryz.func16 Tryz.results16 Tryz.ntmps16 ?_
 repeat' (first | refine QX ?_ | (refine QB ?_; intro b) | (with_reducible refine QZ ?_ <;> (try constructor) <;> intro hb <;> try intro hb1) | fail)
 refine tr_loopd (ι := Nat) (fun i A st' => i ≤ L.length ∧ Hid (Reg.rightL L (L.drop i) i = F) ∧ A.df = [] ∧ A.e 0 = .sl .shared LS ∧ A.e 5 = .sl .shared LS ∧ A.e 6 = .i L.length ∧ A.e 7 = .i i ∧ st = st') (fun i => L.length - i) 0 ⟨Nat.zero_le _, HF, Qf, Qf, Qf, Qf, Qf, rfl⟩ ?_
 rintro i A st' ⟨hi, HT, hdf, e0, e5, e6, e7, rfl⟩
 clear HF
 by_cases hlt : i < L.length
 · obtain ⟨t, ht⟩ := gEx hlt
   have h1 := hc.out i t ht
   have HE := HT.out
   rw [Reg.rightL_drop ht] at HE
   have hR := schRightF t (hL2.out t (List.mem_of_getElem? ht))
   have hG := hFi.out t.name
   clear HT ht
   obtain ⟨G, hGG⟩ : ∃ G, Reg.rightL L (L.drop (i + 1)) (i + 1) = G := ⟨_, rfl⟩
   rw [hGG] at HE
   replace hGG := Lib.hid hGG
   obtain ⟨q2, hq2⟩ : ∃ q, decide (0 < Sch.last t) = q := ⟨_, rfl⟩
   rw [hq2] at HE hR
   generalize Reg.find L t.name = fi at *
   clear hq2
   unfold Tm.cells at h1 hR
   generalize t.slots.map Sl.cells = SL at *
   generalize t.steps.map Stp.cells = TL at *
   generalize t.name = nm at *
   replace hR := Lib.hid hR
   replace hG := Lib.hid hG
   by_cases hi6 : i < 6
   · rw [decide_eq_true hi6, Bool.true_and] at HE
     cases q2 with
     | false =>
      rw [Bool.false_and] at HE
      subst HE
      exact WR
     | true =>
      rw [Bool.true_and] at HE
      by_cases hf : fi = (i : Int)
      · rw [beq_iff_eq.2 hf, Bool.true_and] at HE
        subst hf
        replace HE := Lib.hid (hGG.out.trans HE)
        clear hGG
        repeat' (first | refine QX ?_ | (refine QB ?_; intro b) | (with_reducible refine QZ ?_ <;> (try constructor) <;> intro hb <;> try intro hb1) | fail)
        refine ⟨i + 1, st, q_u, ⟨hlt, HE, ?_, ?_, ?_, ?_, ?_, rfl⟩, by omega⟩
        all_goals exact Qf
      · rw [beq_eq_false_iff_ne.2 hf, Bool.false_and] at HE
        subst HE
        exact WR
   · rw [decide_eq_false hi6, Bool.false_and] at HE
     subst HE
     exact WR
 · have HE := HT.out
   rw [List.drop_of_length_le q_o, Reg.rightL] at HE
   subst HE
   clear HT
   exact WR
end
section
attribute [local push_cast] encB encI Nat.mul_one
namespace B
def be : Nat → Nat → List UInt8
 | 0, _ => []
 | m + 1, x => UInt8.ofNat (x / 256 ^ m) :: be m x
theorem be_len : ∀ m x, (be m x).length = m
 | 0, _ => rfl
 | m + 1, x => by rw [be, List.length_cons, be_len m x]
end B
theorem u8_wrap (n : Nat) : IntKind.u8.wrap (n : Int) = ((UInt8.ofNat n).toNat : Int) := by
 rw [UInt8.toNat_ofNat']
 simp [IntKind.wrap, IntKind.bits, IntKind.signed]
theorem chop1_map (l : List UInt8) : chop 1 l.length (l.map D.y) = l.map encB := by
 induction l with
 | nil => rfl
 | cons b l ih => rw [List.length_cons, chop, List.map_cons, List.map_cons, List.take_succ_cons, List.take_zero, List.drop_succ_cons, List.drop_zero, ih]; rfl
open B in
theorem binRowF (x m : Nat) (hm : m ≤ 1000) (st : St) : TrF Tryz.prog 159 [.s (.int .u64 x), .i m] st fun d st' => d = .sl .tight ((be m x).map encB) ∧ st' = st := by
 refine Qin [4] Tryz.func159 Tryz.results159 Tryz.ntmps159 ?_
 repeat' (first | refine QX ?_ | (refine QB ?_; intro b) | (with_reducible refine QZ ?_ <;> (try constructor) <;> intro hb <;> try intro hb1) | with_reducible refine s_make ?_ | with_reducible refine mk_go ?_ | ((with_reducible apply mk2_go); (focus omega); (focus omega); (focus exact rfl); intro g) | fail)
 refine tr_loop (ι := Nat) (fun q A st' => q ≤ m ∧ A.df = [] ∧ A.e 5 = .ar g 0 m m ∧ A.e 6 = .i ((q : Int) - 1) ∧ A.e 0 = .s (.int .u64 ((x / 256 ^ (m - q) : Nat) : Int)) ∧ ∃ L, st' = .box g 5 L :: st ∧ L.length = m ∧ Hid (L = List.replicate q (.y 0) ++ (be (m - q) x).map D.y)) (fun q => q) m ⟨Nat.le_refl _, rfl, Qf, Qf, by rw [Nat.sub_self, Nat.pow_zero, Nat.div_one]; rfl, _, rfl, List.length_replicate, by rw [Nat.sub_self]; show List.replicate m _ = List.replicate m _ ++ []; rw [List.append_nil]; rfl⟩ ?_
 rintro q A st' ⟨hq, hdf, e5, e6, e0, L, rfl, hL, HL⟩
 cases q with
 | zero =>
  have hLe := HL.out
  rw [Nat.sub_zero, List.replicate_zero, List.nil_append] at hLe
  have hfin := chop1_map (be m x)
  rw [be_len, ← hLe] at hfin
  refine tr_freezeA .tight (.inr rfl) (n := m) (off := 0) (cap := m) [5] 1 (.refl _) q_o (by rw [hL]; omega) (fun _ => rfl) (fun t ht => by rw [List.mem_singleton.1 ht]; exact e5) fun A' hdf' h1 h2 => ?_
  have e5' := h1 5 (List.mem_singleton.2 rfl)
  have e6' := h2 6 rfl
  rw [e6] at e6'
  rw [List.drop_zero, hfin] at e5'
  rw [hdf] at hdf'
  clear h1 h2 e5 e6 e0 hLe hfin HL hL hdf
  exact WR
 | succ i =>
  replace e6 : A.e 6 = .i i := by rw [e6]; congr 2; omega
  have hLe := HL.out
  have ht : L.take i = List.replicate i (.y 0) := by
   rw [hLe, List.take_append_of_le_length (by simp), List.take_replicate, Nat.min_eq_left q_o]
  have hd : L.drop (i + 1) = (be (m - (i + 1)) x).map D.y := by
   rw [hLe, List.drop_left' (by simp)]
  have hX : ((x / 256 ^ (m - (i + 1)) : Nat) : Int) / 256 = ((x / 256 ^ (m - i) : Nat) : Int) := by
   rw [show m - i = (m - (i + 1)) + 1 by omega, Nat.pow_succ, ← Nat.div_div_eq_div_mul]; rfl
  have hB : be (m - i) x = UInt8.ofNat (x / 256 ^ (m - (i + 1))) :: be (m - (i + 1)) x := by
   rw [show m - i = (m - (i + 1)) + 1 by omega, be]
  have hW := u8_wrap (x / 256 ^ (m - (i + 1)))
  generalize x / 256 ^ (m - (i + 1)) = X at *
  have hNew : Hid (List.replicate i (.y 0) ++ [D.y (UInt8.ofNat X)] ++ (be (m - (i + 1)) x).map D.y = List.replicate i (.y 0) ++ (be (m - i) x).map D.y) := by
   show _ = _
   rw [hB]; simp
  have hTl : ((be (m - (i + 1)) x).map D.y).length = m - (i + 1) := by rw [List.length_map, be_len]
  clear hLe HL hB
  generalize (be (m - (i + 1)) x).map D.y = T at *
  repeat' (first | refine QX ?_ | (refine QB ?_; intro b) | (with_reducible refine QZ ?_ <;> (try constructor) <;> intro hb <;> try intro hb1) | fail)
  refine ⟨i, ⟨by omega, ?_, ?_, ?_, ?_, _, rfl, by simp; omega, hNew⟩, ?_⟩
  all_goals exact Qf
open B in
theorem binNumF (n : Int) (st : St) : TrF Tryz.prog 134 [.i n] st fun d st' => d = .sl .tight ((if 0 ≤ n ∧ n ≤ 2147483647 then be 4 n.toNat else []).map encB) ∧ st' = st := by
 refine Qin [2] Tryz.func134 Tryz.results134 Tryz.ntmps134 ?_
 by_cases h : 0 ≤ n ∧ n ≤ 2147483647
 · rw [if_pos h]
   obtain ⟨m, rfl⟩ : ∃ m : Nat, n = m := ⟨n.toNat, by omega⟩
   obtain ⟨h1, h2⟩ := h
   have hW : IntKind.u64.wrap (m : Int) = m := by simp [IntKind.wrap, IntKind.bits, IntKind.signed]; omega
   rw [Int.toNat_natCast]
   repeat' (first | refine QX ?_ | (refine QB ?_; intro b) | (with_reducible refine QZ ?_ <;> (try constructor) <;> intro hb <;> try intro hb1) | refine Qc Tryz.call159 (binRowF m 4 q_o _) ?_ | fail)
   all_goals exact Qret
 · rw [if_neg h]
   exact WR
open B in
theorem binLongF (n : Int) (hn : -9223372036854775808 ≤ n ∧ n ≤ 9223372036854775807) (st : St) : TrF Tryz.prog 94 [.i n] st fun d st' => d = .sl .tight ((be 8 (IntKind.u64.wrap n).toNat).map encB) ∧ st' = st := by
 refine Qin [2] Tryz.func94 Tryz.results94 Tryz.ntmps94 ?_
 obtain ⟨m, hm⟩ : ∃ m : Nat, IntKind.u64.wrap n = m := ⟨(IntKind.u64.wrap n).toNat, by
  have : 0 ≤ IntKind.u64.wrap n := by simp [IntKind.wrap, IntKind.bits, IntKind.signed]; omega
  omega⟩
 rw [hm, Int.toNat_natCast]
 repeat' (first | refine QX ?_ | (refine QB ?_; intro b) | (with_reducible refine QZ ?_ <;> (try constructor) <;> intro hb <;> try intro hb1) | refine Qc Tryz.call159 (binRowF m 8 q_o _) ?_ | fail)
 all_goals exact Qret
open B in
theorem binByteF (n : Int) (st : St) : TrF Tryz.prog 136 [.i n] st fun d st' => d = .sl .tight ((if 0 ≤ n ∧ n ≤ 255 then [UInt8.ofNat n.toNat] else []).map encB) ∧ st' = st := by
 refine Qin [2] Tryz.func136 Tryz.results136 Tryz.ntmps136 ?_
 by_cases h : 0 ≤ n ∧ n ≤ 255
 · rw [if_pos h]
   obtain ⟨m, rfl⟩ : ∃ m : Nat, n = m := ⟨n.toNat, by omega⟩
   obtain ⟨h1, h2⟩ := h
   have hW := u8_wrap m
   rw [Int.toNat_natCast]
   exact WR
 · rw [if_neg h]
   exact WR
namespace B
def tx (l : List UInt8) : List UInt8 := be 4 l.length ++ l
end B
open B in
theorem binTextF (s : ByteArray) (hs : s.size ≤ 1000000) (st : St) : TrF Tryz.prog 55 [.str s] st fun d st' => d = .sl .shared ((tx s.data.toList).map encB) ∧ st' = st := by
 have hN := binNumF s.size
 rw [if_pos q_o, Int.toNat_natCast] at hN
 have hN := Lib.hid hN
 have h4 : (be 4 s.size).length = 4 := be_len _ _
 have ht : tx s.data.toList = be 4 s.size ++ s.data.toList := by unfold tx; congr 1
 rw [ht]
 clear ht
 generalize be 4 s.size = hd at *
 refine Qin [2] Tryz.func55 Tryz.results55 Tryz.ntmps55 ?_
 refine tr_room 5 1 4 ?_
 have h4 : (hd.map encB).length = 4 := by rw [List.length_map]; exact h4
 rw [← h4]
 exact WRa
end
section
attribute [local push_cast] encB encI Nat.mul_one
open Go.RowKit B
structure RS where
 o : Own
 l : List UInt8
 bad : Bool
namespace RS
def cells (s : RS) : List D := [.sl s.o (s.l.map encB), .b s.bad]
attribute [local push_cast] RS.cells
def fail : RS := ⟨.tight, [], true⟩
attribute [local push_cast] RS.fail
def cut (s : RS) (n : Nat) : RS := ⟨.shared, s.l.drop n, s.bad⟩
attribute [local push_cast] RS.cut
end RS
attribute [local push_cast] RS.cells RS.fail RS.cut
abbrev rdR (b : Nat) (s : RS) : Res := .box b 92 s.cells
theorem rdFailF (b : Nat) (s : RS) (st : St) : TrF Tryz.prog 169 [.ptr b 0] (rdR b s :: st) fun x st' => x = .tup [] ∧ st' = rdR b .fail :: st := by
 refine Qin [] Tryz.func169 Tryz.results169 Tryz.ntmps169 ?_
 exact WR
theorem rdBadF (b : Nat) (s : RS) (st : St) : TrF Tryz.prog 80 [.ptr b 0] (rdR b s :: st) fun x st' => x = .b s.bad ∧ st' = rdR b s :: st := by
 refine Qin [2] Tryz.func80 Tryz.results80 Tryz.ntmps80 ?_
 exact WR
theorem rdLeftF (b : Nat) (s : RS) (st : St) : TrF Tryz.prog 30 [.ptr b 0] (rdR b s :: st) fun x st' => x = .i s.l.length ∧ st' = rdR b s :: st := by
 refine Qin [2] Tryz.func30 Tryz.results30 Tryz.ntmps30 ?_
 exact WR
def B.num (l : List UInt8) : Nat := l.foldl (fun n c => n * 256 + c.toNat) 0
theorem B.num_snoc (l : List UInt8) (c : UInt8) : num (l ++ [c]) = num l * 256 + c.toNat := by unfold num; rw [List.foldl_append]; rfl
theorem B.fold_lt : ∀ (l : List UInt8) (a k : Nat), a < 256 ^ k → l.foldl (fun n c => n * 256 + c.toNat) a < 256 ^ (k + l.length)
 | [], a, k, h => h
 | c :: l, a, k, h => by
  rw [List.foldl_cons, List.length_cons, show k + (l.length + 1) = (k + 1) + l.length by omega]
  refine B.fold_lt l _ _ ?_
  have := c.toNat_lt
  rw [Nat.pow_succ]; omega
theorem B.num_lt (l : List UInt8) : num l < 256 ^ l.length := by
 have := B.fold_lt l 0 0 (by decide)
 rwa [Nat.zero_add] at this
theorem or_byte (n c : Nat) (hn : n < 72057594037927936) (hc : c < 256) : bits .or .u64 ((n * 256 : Nat) : Int) (c : Int) = ((n * 256 + c : Nat) : Int) := by
 rw [u64_or_nat _ _ q_o q_o]
 have := Nat.shiftLeft_add_eq_or_of_lt (i := 8) (b := c) q_o n
 rw [Nat.shiftLeft_eq] at this
 rw [← this]
theorem binNumberF (o : Own) (l : List UInt8) (hl : l.length ≤ 8) (st : St) : TrF Tryz.prog 172 [.sl o (l.map encB)] st fun x st' => x = .s (.int .u64 (num l : Nat)) ∧ st' = st := by
 refine Qin [2] Tryz.func172 Tryz.results172 Tryz.ntmps172 ?_
 repeat' (first | refine QX ?_ | (refine QB ?_; intro b) | (refine QP ?_; intro o' ho') | (with_reducible refine QZ ?_ <;> (try constructor) <;> intro hb <;> try intro hb1) | fail)
 refine tr_loop (ι := Nat) (fun i A st' => i ≤ l.length ∧ A.df = [] ∧ A.e 3 = .s (.int .u64 (num (l.take i) : Nat)) ∧ A.e 6 = .sl o (l.map encB) ∧ A.e 7 = .i l.length ∧ A.e 8 = .i i ∧ st = st') (fun i => l.length - i) 0 ⟨Nat.zero_le _, Qf, Qf, Qf, Qf, Qf, rfl⟩ ?_
 rintro i A st' ⟨hi, hdf, e3, e6, e7, e8, rfl⟩
 by_cases hlt : i < l.length
 · obtain ⟨x, hx⟩ := gEx hlt
   have hs : num (l.take (i + 1)) = num (l.take i) * 256 + x.toNat := by rw [List.take_succ, hx]; exact num_snoc _ _
   have hn : num (l.take i) < 72057594037927936 := by
    have h1 := num_lt (l.take i)
    rw [List.length_take, Nat.min_eq_left hi] at h1
    exact Nat.lt_of_lt_of_le h1 (Nat.pow_le_pow_right q_o (show i ≤ 7 by omega))
   have hx2 := x.toNat_lt
   have hor := or_byte (num (l.take i)) x.toNat hn hx2
   have hw1 : IntKind.u64.wrap (((num (l.take i) : Nat) : Int) * 256) = ((num (l.take i) * 256 : Nat) : Int) := by
    simp [IntKind.wrap, IntKind.bits, IntKind.signed]; omega
   have hw2 : IntKind.u64.wrap (x.toNat : Int) = x.toNat := by
    simp [IntKind.wrap, IntKind.bits, IntKind.signed]; omega
   rw [← hs, Int.natCast_mul] at hor
   rw [Int.natCast_mul] at hw1
   replace hor : bits .or .u64 ((num (l.take i) : Int) * 256) (x.toNat : Int) = (num (l.take (i + 1)) : Nat) := hor
   replace hw1 : IntKind.u64.wrap (((num (l.take i) : Nat) : Int) * 256) = ((num (l.take i) : Nat) : Int) * 256 := hw1
   clear hs
   generalize num (l.take i) = q0 at *
   repeat' (first | refine QX ?_ | (refine QB ?_; intro b) | (refine QP ?_; intro o' ho') | (with_reducible refine QZ ?_ <;> (try constructor) <;> intro hb <;> try intro hb1) | fail)
   refine ⟨i + 1, ⟨hlt, ?_, ?_, ?_, ?_, ?_, rfl⟩, ?_⟩
   all_goals exact Qf
 · rw [List.take_of_length_le q_o] at e3
   exact WRa
theorem rdByte1F (o : Own) (c : UInt8) (l : List UInt8) (st : St) : TrF Tryz.prog 166 [.sl o ((c :: l).map encB)] st fun x st' => x = .tup [.i c.toNat, .b true] ∧ st' = st := by
 have hw := c.toNat_lt
 refine Qin [2,3] Tryz.func166 Tryz.results166 Tryz.ntmps166 ?_
 exact WRa
theorem rdNum1F (o : Own) (l : List UInt8) (hl : l.length = 4) (st : St) : TrF Tryz.prog 179 [.sl o (l.map encB)] st fun x st' => x = .tup [.i (num l), .b (decide ((num l : Int) ≤ 2147483647))] ∧ st' = st := by
 have h1 : num l < 4294967296 := by
  have := num_lt l
  rw [hl] at this; exact this
 have hN := Lib.hid (binNumberF o l q_o)
 generalize num l = q at *
 clear hl
 refine Qin [2,3] Tryz.func179 Tryz.results179 Tryz.ntmps179 ?_
 repeat' (first | refine QX ?_ | (refine QB ?_; intro b) | (refine QP ?_; intro o' ho') | (with_reducible refine QZ ?_ <;> (try constructor) <;> intro hb <;> try intro hb1) | fail)
 all_goals (refine Qret (hd := ?_); (try simp (disch := omega) only [push_cast, simprocAttr, *]); try (first | exact q_e | refine LE.of_eq ?_))
 all_goals exact Qf
theorem rdLong1F (o : Own) (l : List UInt8) (hl : l.length = 8) (st : St) : TrF Tryz.prog 171 [.sl o (l.map encB)] st fun x st' => x = .tup [.i (IntKind.i64.wrap (num l)), .b true] ∧ st' = st := by
 have hN := Lib.hid (binNumberF o l q_o)
 generalize num l = q at *
 clear hl
 refine Qin [2,3] Tryz.func171 Tryz.results171 Tryz.ntmps171 ?_
 exact WRa
theorem rdText1F (o : Own) (l : List UInt8) (st : St) : TrF Tryz.prog 144 [.sl o (l.map encB)] st fun x st' => x = .tup [.str ⟨l.toArray⟩, .b true] ∧ st' = st := by
 refine Qin [2,3] Tryz.func144 Tryz.results144 Tryz.ntmps144 ?_
 exact WRa
end
section
attribute [local push_cast] encB encI RS.cells RS.fail RS.cut Nat.mul_one
open Go.RowKit B
namespace RS
def byte (s : RS) : Int × RS := if s.bad = true then (0, fail) else match s.l with
 | [] => (0, fail)
 | c :: _ => (c.toNat, s.cut 1)
def rnum (s : RS) : Int × RS := if s.bad = true ∨ s.l.length < 4 then (0, fail) else if num (s.l.take 4) ≤ 2147483647 then (num (s.l.take 4), s.cut 4) else (0, fail)
def long (s : RS) : Int × RS := if s.bad = true ∨ s.l.length < 8 then (0, fail) else (IntKind.i64.wrap (num (s.l.take 8)), s.cut 8)
def textN (s : RS) (n : Int) : ByteArray × RS := if s.bad = true ∨ n < 0 ∨ s.l.length < n then (⟨#[]⟩, fail) else (⟨(s.l.take n.toNat).toArray⟩, s.cut n.toNat)
def text (s : RS) : ByteArray × RS := s.rnum.2.textN s.rnum.1
end RS
theorem takeByteF (b : Nat) (s : RS) (st : St) : TrF Tryz.prog 165 [.ptr b 0, .i 1, .fn (.func 166) [] []] (rdR b s :: st) fun x st' => x = .i s.byte.1 ∧ st' = rdR b s.byte.2 :: st := by
 obtain ⟨o, l, bad⟩ := s
 have hB := Lib.hid (rdBadF b ⟨o, l, bad⟩)
 have hF := Lib.hid (rdFailF b ⟨o, l, bad⟩)
 cases bad with
 | true =>
  show TrF _ _ _ _ fun x st' => x = .i 0 ∧ st' = rdR b .fail :: st
  refine Qin [6] Tryz.func165 Tryz.results165 Tryz.ntmps165 ?_
  exact WR
 | false =>
  cases l with
  | nil =>
   show TrF _ _ _ _ fun x st' => x = .i 0 ∧ st' = rdR b .fail :: st
   refine Qin [6] Tryz.func165 Tryz.results165 Tryz.ntmps165 ?_
   exact WR
  | cons c t =>
   show TrF _ _ _ _ fun x st' => x = .i c.toNat ∧ st' = rdR b ⟨.shared, t, false⟩ :: st
   have hlt : ¬ ((t.length : Int) + 1 < 1) := by omega
   have htk : List.take t.length (List.map encB t) = List.map encB t := List.take_of_length_le (by simp)
   refine Qin [6] Tryz.func165 Tryz.results165 Tryz.ntmps165 ?_
   repeat' (first | refine QX ?_ | (refine QB ?_; intro b) | (with_reducible refine QZ ?_ <;> (try constructor) <;> intro hb <;> try intro hb1) | refine Qc Tryz.call166 (rdByte1F _ c [] _) ?_ | fail)
   all_goals exact Qret
theorem takeNumF (b : Nat) (o : Own) (l p t : List UInt8) (hl : p ++ t = l) (hp : p.length = 4) (hx : num p ≤ 2147483647) (st : St) : TrF Tryz.prog 165 [.ptr b 0, .i 4, .fn (.func 179) [] []] (rdR b ⟨o, l, false⟩ :: st) fun x st' => x = .i (num p) ∧ st' = rdR b ⟨.shared, t, false⟩ :: st := by
 have hB := Lib.hid (rdBadF b ⟨o, l, false⟩)
 have hC := fun o => rdNum1F o p hp
 have hx : ((num p : Nat) : Int) ≤ 2147483647 := by omega
 have hln : l.length = 4 + t.length := by rw [← hl, List.length_append, hp]
 have hT : List.take 4 (List.map encB l) = List.map encB p := by rw [← List.map_take, ← hl, ← hp, List.take_left]
 have hD : List.drop 4 (List.map encB l) = List.map encB t := by rw [← List.map_drop, ← hl, ← hp, List.drop_left]
 have hTT : List.take t.length (List.map encB t) = List.map encB t := List.take_of_length_le (by simp)
 replace hC := Lib.hid hC
 clear hl
 generalize num p = q at *
 refine Qin [6] Tryz.func165 Tryz.results165 Tryz.ntmps165 ?_
 repeat' (first | refine QX ?_ | (refine QB ?_; intro b) | (refine QP ?_; intro o' ho') | (with_reducible refine QZ ?_ <;> (try constructor) <;> intro hb <;> try intro hb1) | refine Qc Tryz.call179 (hC.out _ _) ?_ | fail)
 all_goals exact Qret
theorem takeLongF (b : Nat) (o : Own) (l p t : List UInt8) (hl : p ++ t = l) (hp : p.length = 8) (st : St) : TrF Tryz.prog 170 [.ptr b 0, .i 8, .fn (.func 171) [] []] (rdR b ⟨o, l, false⟩ :: st) fun x st' => x = .i (IntKind.i64.wrap (num p)) ∧ st' = rdR b ⟨.shared, t, false⟩ :: st := by
 have hB := Lib.hid (rdBadF b ⟨o, l, false⟩)
 have hC := fun o => rdLong1F o p hp
 skip
 have hln : l.length = 8 + t.length := by rw [← hl, List.length_append, hp]
 have hT : List.take 8 (List.map encB l) = List.map encB p := by rw [← List.map_take, ← hl, ← hp, List.take_left]
 have hD : List.drop 8 (List.map encB l) = List.map encB t := by rw [← List.map_drop, ← hl, ← hp, List.drop_left]
 have hTT : List.take t.length (List.map encB t) = List.map encB t := List.take_of_length_le (by simp)
 replace hC := Lib.hid hC
 clear hl
 generalize num p = q at *
 refine Qin [6] Tryz.func170 Tryz.results170 Tryz.ntmps170 ?_
 repeat' (first | refine QX ?_ | (refine QB ?_; intro b) | (refine QP ?_; intro o' ho') | (with_reducible refine QZ ?_ <;> (try constructor) <;> intro hb <;> try intro hb1) | refine Qc Tryz.call171 (hC.out _ _) ?_ | fail)
 all_goals exact Qret
theorem takeTextF (b : Nat) (o : Own) (l p t : List UInt8) (n : Nat) (hl : p ++ t = l) (hp : p.length = n) (st : St) : TrF Tryz.prog 143 [.ptr b 0, .i n, .fn (.func 144) [] []] (rdR b ⟨o, l, false⟩ :: st) fun x st' => x = .str ⟨p.toArray⟩ ∧ st' = rdR b ⟨.shared, t, false⟩ :: st := by
 have hB := Lib.hid (rdBadF b ⟨o, l, false⟩)
 have hC := Lib.hid fun o => rdText1F o p
 have hln : l.length = n + t.length := by rw [← hl, List.length_append, hp]
 have hT : List.take n (List.map encB l) = List.map encB p := by rw [← List.map_take, ← hl, ← hp, List.take_left]
 have hD : List.drop n (List.map encB l) = List.map encB t := by rw [← List.map_drop, ← hl, ← hp, List.drop_left]
 have hTT : List.take t.length (List.map encB t) = List.map encB t := List.take_of_length_le (by simp)
 clear hl
 refine Qin [6] Tryz.func143 Tryz.results143 Tryz.ntmps143 ?_
 repeat' (first | refine QX ?_ | (refine QB ?_; intro b) | (refine QP ?_; intro o' ho') | (with_reducible refine QZ ?_ <;> (try constructor) <;> intro hb <;> try intro hb1) | refine Qc Tryz.call144 (hC.out _ _) ?_ | fail)
 all_goals exact Qret
theorem takeNum0F (b : Nat) (s : RS) (h : s.bad = true ∨ (s.l.length : Int) < 4) (st : St) : TrF Tryz.prog 165 [.ptr b 0, .i 4, .fn (.func 179) [] []] (rdR b s :: st) fun x st' => x = .i 0 ∧ st' = rdR b .fail :: st := by
 obtain ⟨o, l, bad⟩ := s
 have hB := Lib.hid (rdBadF b ⟨o, l, bad⟩)
 have hF := Lib.hid (rdFailF b ⟨o, l, bad⟩)
 cases bad with
 | true =>
  clear h
  refine Qin [6] Tryz.func165 Tryz.results165 Tryz.ntmps165 ?_
  exact WR
 | false =>
  have h := h.resolve_left Bool.false_ne_true
  dsimp only at h
  refine Qin [6] Tryz.func165 Tryz.results165 Tryz.ntmps165 ?_
  exact WR
theorem takeLong0F (b : Nat) (s : RS) (h : s.bad = true ∨ (s.l.length : Int) < 8) (st : St) : TrF Tryz.prog 170 [.ptr b 0, .i 8, .fn (.func 171) [] []] (rdR b s :: st) fun x st' => x = .i 0 ∧ st' = rdR b .fail :: st := by
 obtain ⟨o, l, bad⟩ := s
 have hB := Lib.hid (rdBadF b ⟨o, l, bad⟩)
 have hF := Lib.hid (rdFailF b ⟨o, l, bad⟩)
 cases bad with
 | true =>
  clear h
  refine Qin [6] Tryz.func170 Tryz.results170 Tryz.ntmps170 ?_
  exact WR
 | false =>
  have h := h.resolve_left Bool.false_ne_true
  dsimp only at h
  refine Qin [6] Tryz.func170 Tryz.results170 Tryz.ntmps170 ?_
  exact WR
theorem takeText0F (b : Nat) (s : RS) (n : Int) (h : s.bad = true ∨ n < 0 ∨ (s.l.length : Int) < n) (st : St) : TrF Tryz.prog 143 [.ptr b 0, .i n, .fn (.func 144) [] []] (rdR b s :: st) fun x st' => x = .str ⟨#[]⟩ ∧ st' = rdR b .fail :: st := by
 obtain ⟨o, l, bad⟩ := s
 have hB := Lib.hid (rdBadF b ⟨o, l, bad⟩)
 have hF := Lib.hid (rdFailF b ⟨o, l, bad⟩)
 cases bad with
 | true =>
  clear h
  refine Qin [6] Tryz.func143 Tryz.results143 Tryz.ntmps143 ?_
  exact WR
 | false =>
  have h := h.resolve_left Bool.false_ne_true
  dsimp only at h
  refine Qin [6] Tryz.func143 Tryz.results143 Tryz.ntmps143 ?_
  exact WR
theorem takeNum1F (b : Nat) (o : Own) (l p t : List UInt8) (hl : p ++ t = l) (hp : p.length = 4) (hx : ¬ num p ≤ 2147483647) (st : St) : TrF Tryz.prog 165 [.ptr b 0, .i 4, .fn (.func 179) [] []] (rdR b ⟨o, l, false⟩ :: st) fun x st' => x = .i 0 ∧ st' = rdR b .fail :: st := by
 have hB := Lib.hid (rdBadF b ⟨o, l, false⟩)
 have hF := Lib.hid (rdFailF b ⟨o, l, false⟩)
 have hC := Lib.hid fun o => rdNum1F o p hp
 have hx : ¬ ((num p : Nat) : Int) ≤ 2147483647 := by omega
 have hln : l.length = 4 + t.length := by rw [← hl, List.length_append, hp]
 have hT : List.take 4 (List.map encB l) = List.map encB p := by rw [← List.map_take, ← hl, ← hp, List.take_left]
 clear hl
 generalize num p = q at *
 refine Qin [6] Tryz.func165 Tryz.results165 Tryz.ntmps165 ?_
 repeat' (first | refine QX ?_ | (refine QB ?_; intro b) | (refine QP ?_; intro o' ho') | (with_reducible refine QZ ?_ <;> (try constructor) <;> intro hb <;> try intro hb1) | refine Qc Tryz.call179 (hC.out _ _) ?_ | fail)
 all_goals exact Qret
end
section
attribute [local push_cast] encB encI V.cells_mk V.cells_take V.cells_len Nat.mul_one
open Go.RowKit B
namespace V
mutual
def put : V → List UInt8
 | .mk k n s l => UInt8.ofNat k.toNat :: (if k = 1 then [UInt8.ofNat n.toNat] else if k = 2 then be 8 (IntKind.u64.wrap n).toNat else if k = 3 ∨ k = 4 then tx s.data.toList else if k = 5 then be 4 l.length ++ putL l else [])
def putL : List V → List UInt8
 | [] => []
 | x :: l => x.put ++ putL l
end
theorem sgl_facts {k n : Int} {s : ByteArray} {len : Nat} (h : sgl k n s len = true) : 0 ≤ k ∧ k ≤ 5 ∧ (k ≠ 2 → 0 ≤ n ∧ n ≤ 1) ∧ s.size ≤ 200 ∧ (k ≠ 3 ∧ k ≠ 4 → s.size = 0) ∧ (k = 5 → len ≤ 20) := by
 unfold sgl at h
 by_cases k0 : k = 0
 · subst k0; simp at h; obtain ⟨h1, h2⟩ := h; subst h2; simp; omega
 by_cases k1 : k = 1
 · subst k1; simp at h; obtain ⟨h1, h2⟩ := h; subst h2; simp; omega
 by_cases k2 : k = 2
 · subst k2; simp at h; subst h; simp
 by_cases k3 : k = 3
 · subst k3
   simp at h
   have := h.2
   unfold isName at this
   simp at this
   simp; omega
 by_cases k4 : k = 4
 · subst k4; simp at h; simp; omega
 by_cases k5 : k = 5
 · subst k5; simp at h; obtain ⟨h1, h2, h3⟩ := h; subst h2; simp; omega
 simp [k0, k1, k2, k3, k4, k5] at h
theorem parts_facts {k n : Int} {s : ByteArray} {l : List V} (h : (V.mk k n s l).parts = true) : sgl k n s l.length = true ∧ (k = 5 ∨ l = []) ∧ ∀ x ∈ l, x.parts = true := by
 rw [parts] at h
 simp only [Bool.and_eq_true, Bool.or_eq_true, decide_eq_true_eq] at h
 obtain ⟨⟨h1, h2⟩, h3⟩ := h
 refine ⟨h1, h2.imp id List.eq_nil_of_length_eq_zero, ?_⟩
 rw [partsL_all] at h3
 exact List.all_eq_true.1 h3
mutual
theorem put_le : ∀ v : V, v.parts = true → v.put.length ≤ 205 * v.nodes
 | .mk k n s l, h => by
  obtain ⟨h1, h2, h3⟩ := parts_facts h
  obtain ⟨f1, f2, f3, f4, f5, f6⟩ := sgl_facts h1
  have h4 := putL_le l h3
  have h5 : (tx s.data.toList).length = 4 + s.size := by unfold tx; rw [List.length_append, be_len]; simp
  rw [put, nodes, List.length_cons]
  split
  · simp; omega
  split
  · rw [be_len]; omega
  split
  · rw [h5]; omega
  split
  · rw [List.length_append, be_len]; omega
  · simp; omega
theorem putL_le : ∀ l : List V, (∀ x ∈ l, x.parts = true) → (putL l).length ≤ 205 * nodesL l
 | [], _ => by simp [putL]
 | x :: l, h => by
  have := put_le x (h x (List.mem_cons_self ..))
  have := putL_le l fun y hy => h y (List.mem_cons_of_mem _ hy)
  rw [putL, nodesL, List.length_append]; omega
end
theorem putL_app (a b : List V) : putL (a ++ b) = putL a ++ putL b := by
 induction a with
 | nil => rw [List.nil_append, putL, List.nil_append]
 | cons x a ih => rw [List.cons_append, putL, putL, ih, List.append_assoc]
theorem right_in {k n : Int} {s : ByteArray} {l : List V} (h : (V.mk k n s l).right = true) {x : V} (hx : x ∈ l) : x.right = true := by
 rw [right_iff] at h ⊢
 obtain ⟨h1, h2, h3⟩ := h
 refine ⟨(parts_facts h1).2.2 x hx, ?_, ?_⟩
 · have : x.deep ≤ deepL l := by
    clear h1 h2 h3
    induction l with
    | nil => cases hx
    | cons y l ih =>
     rw [deepL]
     rcases List.mem_cons.1 hx with rfl | hx
     · omega
     · have := ih hx; omega
   rw [deep] at h2
   split at h2
   · omega
   · rename_i hc
     have : l ≠ [] := List.ne_nil_of_mem hx
     exact absurd (.inr this) hc
 · have := nodes_lt (k := k) (n := n) (s := s) hx
   omega
end V
end
section
attribute [local push_cast] encB encI V.cells_mk V.cells_take V.cells_len Nat.mul_one
open Go.RowKit B
namespace V
def bin (v : V) : List UInt8 := if v.right = true then v.put else []
end V
open V in
theorem binValueF : ∀ (N : Nat) (v : V), v.nodes ≤ N → v.nodes ≤ 4611686018427387904 → v.Ok → ∀ st, TrF Tryz.prog 138 [.agg v.cells] st fun d st' => ∃ o', o' ≠ .shared ∧ d = .sl o' (v.bin.map encB) ∧ st' = .room o' 5 1 (v.bin.map encB).length :: st
 | 0, v, h, _, _ => by have := v.nodes_pos; omega
 | N + 1, .mk k n s l, hN, hB, hok => by
  intro st
  obtain ⟨-, hkn, -, -, hall⟩ := hok
  have hR := Lib.hid (valRightF (.mk k n s l) hB)
  have IH := Lib.hid fun x (hx : x ∈ l) => binValueF N x (by have := nodes_lt (k := k) (n := n) (s := s) hx; omega) (by have := nodes_lt (k := k) (n := n) (s := s) hx; omega) (hall x hx)
  clear hN hB hall
  unfold V.bin
  by_cases hr : (V.mk k n s l).right = true
  case neg =>
   rw [if_neg hr]
   have hr' : (V.mk k n s l).right = false := by simpa using hr
   rw [V.cells_mk, hr'] at hR
   rw [V.cells_mk]
   clear hr IH
   refine Qin [2] Tryz.func138 Tryz.results138 Tryz.ntmps138 ?_
   refine tr_room 5 1 0 ?_
   repeat' (first | refine QX ?_ | (refine QB ?_; intro b) | (refine QP ?_; intro o' ho') | (with_reducible refine QZ ?_ <;> (try constructor) <;> intro hb <;> try intro hb1) | fail)
   all_goals ((apply ret_own (by simp) q_y); (focus exact q_v); (focus (first | assumption | (intro h; cases h))); (focus exact q_u))
   all_goals rfl
  rw [if_pos hr]
  have hrin := Lib.hid fun x (hx : x ∈ l) => right_in hr hx
  obtain ⟨hpa, -, hnn⟩ := right_iff.1 hr
  obtain ⟨h1, h2, h3⟩ := parts_facts hpa
  obtain ⟨f1, f2, f3, f4, f5, f6⟩ := sgl_facts h1
  have hpl := putL_le l h3
  rw [nodes] at hnn
  rw [V.cells_mk, hr] at hR
  rw [V.cells_mk]
  have hput : (V.mk k n s l).put = UInt8.ofNat k.toNat :: (if k = 1 then [UInt8.ofNat n.toNat] else if k = 2 then be 8 (IntKind.u64.wrap n).toNat else if k = 3 ∨ k = 4 then tx s.data.toList else if k = 5 then be 4 l.length ++ putL l else []) := put.eq_1 ..
  rw [hput]
  have hKb := binByteF k
  rw [if_pos q_o] at hKb
  replace hKb := Lib.hid hKb
  have hT := Lib.hid (binTextF s q_o)
  have hT5 : (tx s.data.toList).length = 4 + s.size := by unfold tx; rw [List.length_append, be_len]; simp
  clear hput hr h1 h3 hpa
  refine Qin [2] Tryz.func138 Tryz.results138 Tryz.ntmps138 ?_
  refine tr_room 5 1 1 ?_
  by_cases k1 : k = 1
  · subst k1
    obtain ⟨m, rfl⟩ : ∃ m : Nat, n = m := ⟨n.toNat, by have := f3 q_o; omega⟩
    have hW := u8_wrap m
    clear f3 f5 f6 hT IH hrin
    rw [if_pos rfl, Int.toNat_natCast]
    repeat' (first | refine QX ?_ | (refine QB ?_; intro b) | (refine QP ?_; intro o' ho') | (with_reducible refine QZ ?_ <;> (try constructor) <;> intro hb <;> try intro hb1) | fail)
    all_goals ((apply ret_own (by simp) q_y); (focus exact q_v); (focus (first | assumption | (intro h; cases h))); (focus exact q_u))
    all_goals rfl
  rw [if_neg k1]
  have b1 : (k == 1) = false := by simpa using k1
  by_cases k2 : k = 2
  · subst k2
    have hL := Lib.hid (binLongF n hkn)
    have h8 := be_len 8 (IntKind.u64.wrap n).toNat
    clear f3 f5 f6 hT IH hrin
    rw [if_pos rfl]
    generalize be 8 (IntKind.u64.wrap n).toNat = bs at *
    repeat' (first | refine QX ?_ | (refine QB ?_; intro b) | (refine QP ?_; intro o' ho') | (with_reducible refine QZ ?_ <;> (try constructor) <;> intro hb <;> try intro hb1) | fail)
    all_goals ((apply ret_own (by simp) q_y); (focus exact q_v); (focus (first | assumption | (intro h; cases h))); (focus exact q_u))
    all_goals rfl
  rw [if_neg k2]
  have b2 : (k == 2) = false := by simpa using k2
  by_cases k3 : k = 3 ∨ k = 4
  · rw [if_pos k3]
    have b34 : k = 3 ∨ k = 4 := k3
    clear f3 f5 f6 IH hrin h2
    generalize tx s.data.toList = bs at *
    rcases k3 with rfl | rfl
    · repeat' (first | refine QX ?_ | (refine QB ?_; intro b) | (refine QP ?_; intro o' ho') | (with_reducible refine QZ ?_ <;> (try constructor) <;> intro hb <;> try intro hb1) | fail)
      all_goals ((apply ret_own (by simp) q_y); (focus exact q_v); (focus (first | assumption | (intro h; cases h))); (focus exact q_u))
      all_goals rfl
    · repeat' (first | refine QX ?_ | (refine QB ?_; intro b) | (refine QP ?_; intro o' ho') | (with_reducible refine QZ ?_ <;> (try constructor) <;> intro hb <;> try intro hb1) | fail)
      all_goals ((apply ret_own (by simp) q_y); (focus exact q_v); (focus (first | assumption | (intro h; cases h))); (focus exact q_u))
      all_goals rfl
  rw [if_neg k3]
  have b3 : (k == 3) = false := by simp; omega
  have b4 : (k == 4) = false := by simp; omega
  by_cases k5 : k = 5
  case neg =>
   rw [if_neg k5]
   have b5 : (k == 5) = false := by simpa using k5
   clear f3 f5 f6 hT IH hrin
   repeat' (first | refine QX ?_ | (refine QB ?_; intro b) | (refine QP ?_; intro o' ho') | (with_reducible refine QZ ?_ <;> (try constructor) <;> intro hb <;> try intro hb1) | fail)
   all_goals ((apply ret_own (by simp) q_y); (focus exact q_v); (focus (first | assumption | (intro h; cases h))); (focus exact q_u))
   all_goals rfl
  subst k5
  rw [if_pos rfl]
  have hN := binNumF l.length
  have hl20 := f6 rfl
  rw [if_pos q_o, Int.toNat_natCast] at hN
  replace hN := Lib.hid hN
  have h4 := be_len 4 l.length
  clear f3 f5 f6 hT h2 k1 k2 k3 b1 b2 b3 b4
  generalize be 4 l.length = hd at *
  repeat' (first | refine QX ?_ | (refine QB ?_; intro b) | (refine QP ?_; intro o' ho') | (with_reducible refine QZ ?_ <;> (try constructor) <;> intro hb <;> try intro hb1) | fail)
  clear hN hKb hR hT5
  refine tr_loopd (ι := Nat) (fun i A st' => i ≤ l.length ∧ A.df = [] ∧ A.e 46 = .sl .shared (l.map V.cells) ∧ A.e 47 = .i l.length ∧ A.e 48 = .i i ∧ ∃ o', o' ≠ .shared ∧ ∃ B : List UInt8, Hid (B = UInt8.ofNat (Int.toNat 5) :: (hd ++ putL (l.take i))) ∧ B.length = 5 + (putL (l.take i)).length ∧ A.e 3 = .sl o' (B.map encB) ∧ st' = .room o' 5 1 (B.map encB).length :: st) (fun i => l.length - i) 0 ⟨Nat.zero_le _, Qf, Qf, Qf, Qf, _, by assumption, UInt8.ofNat (Int.toNat 5) :: hd, by show _ = _; simp [putL], by simp [putL]; omega, Qf, rfl⟩ ?_
  clear o' ho' h4
  rintro i A st' ⟨hi, hdf, e46, e47, e48, o', ho', B, HB, hBl, e3, rfl⟩
  by_cases hlt : i < l.length
  · obtain ⟨x, hx⟩ := gEx hlt
    have ih := IH.out x (mem_of hx)
    have hxr := hrin.out x (mem_of hx)
    unfold V.bin at ih
    rw [if_pos hxr] at ih
    have htk : putL (l.take (i + 1)) = putL (l.take i) ++ x.put := by
     rw [List.take_succ, hx, putL_app]; simp [putL]
    have hln : (putL (l.take i)).length + x.put.length ≤ (putL l).length := by
     have := congrArg List.length (congrArg putL (List.take_append_drop (i + 1) l))
     rw [putL_app, htk, List.length_append, List.length_append] at this
     omega
    have HB2 : Hid (B ++ x.put = UInt8.ofNat (Int.toNat 5) :: (hd ++ putL (l.take (i + 1)))) := by
     show _ = _
     rw [htk, HB.out]; simp
    have hBl2 : (B ++ x.put).length = 5 + (putL (l.take (i + 1))).length := by
     rw [htk, List.length_append, List.length_append]; omega
    clear IH hrin HB htk hxr
    cases x with
    | mk k1 n1 s1 l1 =>
     rw [V.cells_mk] at ih
     replace ih := Lib.hid ih
     generalize (V.mk k1 n1 s1 l1).put = bs at *
     obtain ⟨q1, hq1⟩ : ∃ q, (putL (l.take (i + 1))).length = q := ⟨_, rfl⟩
     rw [hq1] at hBl2
     replace hq1 := Lib.hid hq1
     generalize (putL (l.take i)).length = q0 at *
     repeat' (first | refine QX ?_ | (refine QB ?_; intro b) | (refine QP ?_; intro o' ho') | (with_reducible refine QZ ?_ <;> (try constructor) <;> intro hb <;> try intro hb1) | (refine QE Tryz.call138 (ih.out _) ?_; intro o1 ho1) | fail)
     refine ⟨i + 1, .room o' 5 1 ((B ++ bs).map encB).length :: st, ?_, ⟨hlt, ?_, ?_, ?_, ?_, o', ho', B ++ bs, HB2, hBl2.trans (by rw [hq1.out]), ?_, rfl⟩, ?_⟩
     · rw [List.map_append]; (repeat (first | exact List.Sublist.refl _ | apply List.Sublist.cons))
     all_goals exact Qf
  · have hBe : B = UInt8.ofNat (Int.toNat 5) :: (hd ++ putL l) := by
     rw [HB.out, List.take_of_length_le q_o]
    rw [← hBe]
    clear hBe HB IH hrin
    repeat' (first | refine QX ?_ | (refine QB ?_; intro b) | (refine QP ?_; intro o' ho') | (with_reducible refine QZ ?_ <;> (try constructor) <;> intro hb <;> try intro hb1) | fail)
    all_goals ((apply ret_own (by simp) q_y); (focus exact q_v); (focus (first | assumption | (intro h; cases h))); (focus exact q_u))
    all_goals rfl
end
section
attribute [local push_cast] encB encI V.cells_mk V.cells_take V.cells_len Nat.mul_one
open Go.RowKit B
theorem rdByteF (b : Nat) (s : RS) (st : St) : TrF Tryz.prog 116 [.ptr b 0] (rdR b s :: st) fun x st' => x = .i s.byte.1 ∧ st' = rdR b s.byte.2 :: st := by
 have hC := Lib.hid (takeByteF b s)
 generalize s.byte = q at *
 refine Qin [2] Tryz.func116 Tryz.results116 Tryz.ntmps116 ?_
 exact WR
theorem take_split (l : List UInt8) (n : Nat) (h : n ≤ l.length) : l.take n ++ l.drop n = l ∧ (l.take n).length = n := ⟨List.take_append_drop n l, by rw [List.length_take]; omega⟩
theorem rdNumF (b : Nat) (s : RS) (st : St) : TrF Tryz.prog 142 [.ptr b 0] (rdR b s :: st) fun x st' => x = .i s.rnum.1 ∧ st' = rdR b s.rnum.2 :: st := by
 have hC : ∀ st, TrF Tryz.prog 165 [.ptr b 0, .i 4, .fn (.func 179) [] []] (rdR b s :: st) fun x st' => x = .i s.rnum.1 ∧ st' = rdR b s.rnum.2 :: st := by
  unfold RS.rnum
  by_cases h : s.bad = true ∨ s.l.length < 4
  · rw [if_pos h]
    exact takeNum0F b s (h.imp id fun h => by omega)
  · rw [if_neg h]
    obtain ⟨o, l, bad⟩ := s
    dsimp only at h ⊢
    cases bad with
    | true => exact absurd (.inl rfl) h
    | false =>
     obtain ⟨h1, h2⟩ := take_split l 4 q_o
     split
     · rename_i hx; exact takeNumF b o l _ _ h1 h2 hx
     · rename_i hx; exact takeNum1F b o l _ _ h1 h2 hx
 replace hC := Lib.hid hC
 generalize s.rnum = q at *
 refine Qin [2] Tryz.func142 Tryz.results142 Tryz.ntmps142 ?_
 exact WR
theorem rdLongF (b : Nat) (s : RS) (st : St) : TrF Tryz.prog 126 [.ptr b 0] (rdR b s :: st) fun x st' => x = .i s.long.1 ∧ st' = rdR b s.long.2 :: st := by
 have hC : ∀ st, TrF Tryz.prog 170 [.ptr b 0, .i 8, .fn (.func 171) [] []] (rdR b s :: st) fun x st' => x = .i s.long.1 ∧ st' = rdR b s.long.2 :: st := by
  unfold RS.long
  by_cases h : s.bad = true ∨ s.l.length < 8
  · rw [if_pos h]
    exact takeLong0F b s (h.imp id fun h => by omega)
  · rw [if_neg h]
    obtain ⟨o, l, bad⟩ := s
    dsimp only at h ⊢
    cases bad with
    | true => exact absurd (.inl rfl) h
    | false =>
     obtain ⟨h1, h2⟩ := take_split l 8 q_o
     exact takeLongF b o l _ _ h1 h2
 replace hC := Lib.hid hC
 generalize s.long = q at *
 refine Qin [2] Tryz.func126 Tryz.results126 Tryz.ntmps126 ?_
 exact WR
theorem rdTextF (b : Nat) (s : RS) (st : St) : TrF Tryz.prog 75 [.ptr b 0] (rdR b s :: st) fun x st' => x = .str s.text.1 ∧ st' = rdR b s.text.2 :: st := by
 have hN := Lib.hid (rdNumF b s)
 have hC : ∀ st, TrF Tryz.prog 143 [.ptr b 0, .i s.rnum.1, .fn (.func 144) [] []] (rdR b s.rnum.2 :: st) fun x st' => x = .str s.text.1 ∧ st' = rdR b s.text.2 :: st := by
  unfold RS.text RS.textN
  generalize s.rnum = q
  obtain ⟨n, s1⟩ := q
  dsimp only
  by_cases h : s1.bad = true ∨ n < 0 ∨ s1.l.length < n
  · rw [if_pos h]
    exact takeText0F b s1 n h
  · rw [if_neg h]
    obtain ⟨o, l, bad⟩ := s1
    dsimp only at h ⊢
    cases bad with
    | true => exact absurd (.inl rfl) h
    | false =>
     obtain ⟨m, rfl⟩ : ∃ m : Nat, n = m := ⟨n.toNat, by omega⟩
     obtain ⟨h1, h2⟩ := take_split l m q_o
     exact takeTextF b o l _ _ m h1 h2
 replace hC := Lib.hid hC
 generalize s.rnum = q at *
 generalize s.text = q' at *
 refine Qin [2] Tryz.func75 Tryz.results75 Tryz.ntmps75 ?_
 exact WR
namespace RS
def vals (f : RS → V × RS) : Nat → RS → List V × RS
 | 0, s => ([], s)
 | n + 1, s => if s.bad = true then ([], s) else ((f s).1 :: (vals f n (f s).2).1, (vals f n (f s).2).2)
def list5 (f : Option (RS → V × RS)) (n : Int) (s : RS) : V × RS :=
 match f with
 | none => (.mk 5 0 ⟨#[]⟩ [], fail)
 | some f => if 20 < n then (.mk 5 0 ⟨#[]⟩ [], fail) else (.mk 5 0 ⟨#[]⟩ (vals f n.toNat s).1, (vals f n.toNat s).2)
def body (f : Option (RS → V × RS)) (s : RS) : V × RS :=
 if s.byte.1 = 1 then (.mk 1 s.byte.2.byte.1 ⟨#[]⟩ [], s.byte.2.byte.2)
 else if s.byte.1 = 2 then (.mk 2 s.byte.2.long.1 ⟨#[]⟩ [], s.byte.2.long.2)
 else if s.byte.1 = 3 ∨ s.byte.1 = 4 then (.mk s.byte.1 0 s.byte.2.text.1 [], s.byte.2.text.2)
 else if s.byte.1 = 5 then list5 f s.byte.2.rnum.1 s.byte.2.rnum.2
 else (.mk s.byte.1 0 ⟨#[]⟩ [], s.byte.2)
def value : Nat → RS → V × RS
 | 0 => body none
 | d + 1 => body (some (value d))
theorem rnum_pos (s : RS) : 0 ≤ s.rnum.1 := by
 unfold rnum; split
 · exact Int.le_refl _
 · split
   · exact Int.natCast_nonneg _
   · exact Int.le_refl _
end RS
end
section
attribute [local push_cast] encB encI V.cells_mk V.cells_take V.cells_len Nat.mul_one
open Go.RowKit B
theorem tr_once {P : Program} {N : Nat} {r : Option Nat} {A : AA} {st : St} {Q : Exit → AA → St → Prop} {c : Code} (h : Tr P N r c A st (thenA (fun _ _ => False) Q)) : Tr P N r (.loop c) A st Q :=
 tr_loop (fun (_ : Unit) A' st' => A' = A ∧ st' = st) (fun _ => 0) () ⟨rfl, rfl⟩ fun _ A' st' ⟨e1, e2⟩ => by
  subst e1 e2
  exact tr_mono h fun ex A s hq => by cases ex <;> first | exact hq.elim | exact hq
theorem keep_one {b : Nat} {ty : TypeId} {cs : List D} {st : St} (h : Res.box b ty cs ∈ st) : Keep (some [(b, cs)]) st := fun b' cs' hl => by
 rw [List.lookup_cons] at hl
 split at hl
 · rename_i he
   cases hl
   have : b' = b := eq_of_beq he
   subst this
   exact ⟨ty, h⟩
 · cases hl
theorem q_1 {p : Prop} (h : p := by exact keep_one q_m) : p := h
namespace RS
def sub : Nat → Option (RS → V × RS)
 | 0 => none
 | e + 1 => some (value e)
theorem value_eq (d : Nat) (s : RS) : value d s = body (sub d) s := by cases d <;> rfl
end RS
open RS in
theorem rdValueF : ∀ (d : Nat), d ≤ 4 → ∀ (rb : Nat) (s : RS) (st : St), TrF Tryz.prog 167 [.ptr rb 0, .i d] (rdR rb s :: st) fun x st' => x = .agg (RS.value d s).1.cells ∧ st' = rdR rb (RS.value d s).2 :: st := fun d => by
 induction d using Nat.strongRecOn with
 | _ d IHd =>
 intro hd4 rb s st
 have IH : ∀ f, sub d = some f → ∀ b s st, TrF Tryz.prog 167 [.ptr b 0, .i ((d : Int) - 1)] (rdR b s :: st) fun x st' => x = .agg (f s).1.cells ∧ st' = rdR b (f s).2 :: st := by
  intro f hf
  cases d with
  | zero => cases hf
  | succ e =>
   cases hf
   intro b s st
   have := IHd e q_o q_o b s st
   rwa [show (((e + 1 : Nat) : Int) - 1) = (e : Int) by omega]
 have hd0 : d = 0 ↔ sub d = none := by cases d <;> simp [sub]
 rw [value_eq]
 clear IHd
 generalize sub d = f? at *
 have hB := Lib.hid (rdByteF rb s)
 unfold body
 generalize s.byte = q at *
 obtain ⟨k, s1⟩ := q
 dsimp only at *
 refine QinC 4 73 Tryz.func167 Tryz.ntmps167 ?_
 refine tr_room 73 4 0 ?_
 by_cases k1 : k = 1
 · subst k1
   rw [if_pos rfl]
   have hB2 := Lib.hid (rdByteF rb s1)
   generalize s1.byte = q2 at *
   clear IH hd0
   repeat' (first | refine QX ?_ | (refine QB ?_; intro b) | (refine QP ?_; intro o' ho') | (with_reducible refine QZ ?_ <;> (try constructor) <;> intro hb <;> try intro hb1) | refine QR Tryz.call116 hB.out ?_ | refine QR Tryz.call116 hB2.out ?_ | fail)
   all_goals exact QretC
 rw [if_neg k1]
 have b1 : (k == 1) = false := by simpa using k1
 by_cases k2 : k = 2
 · subst k2
   rw [if_pos rfl]
   have hB2 := Lib.hid (rdLongF rb s1)
   generalize s1.long = q2 at *
   clear IH hd0
   repeat' (first | refine QX ?_ | (refine QB ?_; intro b) | (refine QP ?_; intro o' ho') | (with_reducible refine QZ ?_ <;> (try constructor) <;> intro hb <;> try intro hb1) | fail)
   all_goals exact QretC
 rw [if_neg k2]
 have b2 : (k == 2) = false := by simpa using k2
 by_cases k3 : k = 3 ∨ k = 4
 · rw [if_pos k3]
   have hB2 := Lib.hid (rdTextF rb s1)
   generalize s1.text = q2 at *
   clear IH hd0 b1 b2 k1 k2
   rcases k3 with rfl | rfl
   · repeat' (first | refine QX ?_ | (refine QB ?_; intro b) | (refine QP ?_; intro o' ho') | (with_reducible refine QZ ?_ <;> (try constructor) <;> intro hb <;> try intro hb1) | fail)
     all_goals exact QretC
   · repeat' (first | refine QX ?_ | (refine QB ?_; intro b) | (refine QP ?_; intro o' ho') | (with_reducible refine QZ ?_ <;> (try constructor) <;> intro hb <;> try intro hb1) | fail)
     all_goals exact QretC
 rw [if_neg k3]
 have b3 : (k == 3) = false := by simp; omega
 have b4 : (k == 4) = false := by simp; omega
 by_cases k5 : k = 5
 case neg =>
  rw [if_neg k5]
  have b5 : (k == 5) = false := by simpa using k5
  clear IH hd0
  repeat' (first | refine QX ?_ | (refine QB ?_; intro b) | (refine QP ?_; intro o' ho') | (with_reducible refine QZ ?_ <;> (try constructor) <;> intro hb <;> try intro hb1) | fail)
  all_goals exact QretC
 subst k5
 rw [if_pos rfl]
 have hN := Lib.hid (rdNumF rb s1)
 have hnp := rnum_pos s1
 clear k1 k2 k3 b1 b2 b3 b4
 generalize s1.rnum = q2 at *
 obtain ⟨n, s2⟩ := q2
 dsimp only at *
 have hF := Lib.hid (rdFailF rb s2)
 have hBad := Lib.hid (rdBadF rb)
 by_cases hbad : d = 0 ∨ 20 < n
 · have hres : list5 f? n s2 = (V.mk 5 0 ⟨#[]⟩ [], fail) := by
    unfold list5
    cases f? with
    | none => rfl
    | some f =>
     have : d ≠ 0 := fun h => by have := hd0.1 h; cases this
     exact if_pos q_o
   rw [hres]
   clear hres hd0 IH
   have hbad' : (d : Int) = 0 ∨ 20 < n := by omega
   clear hbad
   repeat' (first | refine QX ?_ | (refine QB ?_; intro b) | (refine QP ?_; intro o' ho') | (with_reducible refine QZ ?_ <;> (try constructor) <;> intro hb <;> try intro hb1) | fail)
   all_goals
    refine tr_once ?_
    by_cases hn0 : 0 < n
    · repeat' (first | refine QX ?_ | (refine QB ?_; intro b) | (refine QP ?_; intro o' ho') | (with_reducible refine QZ ?_ <;> (try constructor) <;> intro hb <;> try intro hb1) | refine QR Tryz.call80 (hBad.out fail) ?_ | fail)
      all_goals exact QretC
    · repeat' (first | refine QX ?_ | (refine QB ?_; intro b) | (refine QP ?_; intro o' ho') | (with_reducible refine QZ ?_ <;> (try constructor) <;> intro hb <;> try intro hb1) | fail)
      all_goals exact QretC
 obtain ⟨f, rfl⟩ : ∃ f, f? = some f := by
  cases f? with
  | none => exact absurd (.inl (hd0.2 rfl)) hbad
  | some f => exact ⟨f, rfl⟩
 have hI := Lib.hid (IH f rfl rb)
 obtain ⟨m, rfl⟩ : ∃ m : Nat, n = m := ⟨n.toNat, by omega⟩
 rw [show list5 (some f) m s2 = (V.mk 5 0 ⟨#[]⟩ (vals f m s2).1, (vals f m s2).2) from if_neg q_o]
 have hd1 : ¬ (d : Int) = 0 := by omega
 have hm20 : m ≤ 20 := by omega
 obtain ⟨res, hres⟩ : ∃ r, vals f m s2 = r := ⟨_, rfl⟩
 have hE : Hid ([] ++ (vals f (m - 0) s2).1 = res.1 ∧ (vals f (m - 0) s2).2 = res.2) := by
  show _ ∧ _
  rw [Nat.sub_zero, hres]
  exact ⟨rfl, rfl⟩
 rw [hres]
 clear hres
 clear IH hd0 hbad hF
 repeat' (first | refine QX ?_ | (refine QB ?_; intro b) | (refine QP ?_; intro o' ho') | (with_reducible refine QZ ?_ <;> (try constructor) <;> intro hb <;> try intro hb1) | fail)
 rename_i b4 _
 clear hB hN
 refine tr_loopd (ι := Nat) (fun i A st' => i ≤ m ∧ A.df = [] ∧ A.e 0 = .ptr rb 0 ∧ A.e 1 = .i d ∧ A.e 4 = .ptr b4 0 ∧ A.e 5 = .ptr b 0 ∧ A.e 40 = .i m ∧ A.e 41 = .i i ∧ ∃ o' L s' zs, o' ≠ .shared ∧ L.length ≤ i ∧ zs.length = 4 ∧ Hid (L ++ (vals f (m - i) s').1 = res.1 ∧ (vals f (m - i) s').2 = res.2) ∧ st' = .box b 73 [.i 5, .i 0, .str ⟨#[]⟩, .sl o' (L.map V.cells)] :: .box b4 73 zs :: .room o' 73 4 (L.map V.cells).length :: rdR rb s' :: st) (fun i => m - i) 0 ⟨Nat.zero_le _, Qf, Qf, Qf, Qf, Qf, Qf, Qf, .tight, [], s2, _, by simp, Nat.le_refl _, rfl, hE, rfl⟩ ?_
 clear hE hnp
 rintro i A st' ⟨hi, hdf, e0, e1, e4, e5, e40, e41, o', L, s', zs, ho', hLi, hzs, hE, rfl⟩
 have hLc : (L.map V.cells).length = L.length := List.length_map _
 by_cases hlt : i < m
 · have hHE := hE.out
   rw [show m - i = (m - (i + 1)) + 1 by omega, vals] at hHE
   cases hsb : s'.bad with
   | true =>
    rw [hsb, if_pos rfl] at hHE
    obtain ⟨r1, r2⟩ := res
    obtain ⟨hr1, hr2⟩ := hHE
    dsimp only at hr1 hr2
    rw [List.append_nil] at hr1
    subst hr1 hr2
    have hBs := hBad.out s'
    rw [hsb] at hBs
    replace hBs := Lib.hid hBs
    clear hE hI hBad
    repeat' (first | refine QX ?_ | (refine QB ?_; intro b) | (refine QP ?_; intro o' ho') | (with_reducible refine QZ ?_ <;> (try constructor) <;> intro hb <;> try intro hb1) | fail)
    all_goals exact QretC
   | false =>
    rw [hsb, if_neg Bool.false_ne_true] at hHE
    have hIs := hI.out s'
    have hBs := hBad.out s'
    rw [hsb] at hBs
    generalize f s' = x3 at *
    obtain ⟨⟨k1, n1, t1, l1⟩, s3⟩ := x3
    dsimp only at hHE hIs
    rw [V.cells_mk] at hIs
    have hE2 : Hid ((L ++ [V.mk k1 n1 t1 l1]) ++ (vals f (m - (i + 1)) s3).1 = res.1 ∧ (vals f (m - (i + 1)) s3).2 = res.2) := by
     show _ ∧ _
     rw [List.append_assoc]
     exact hHE
    replace hBs := Lib.hid hBs
    replace hIs := Lib.hid hIs
    clear hE hI hBad hHE
    have hL4 : ∀ a ∈ L.map V.cells, a.length = 4 := fun a ha => by
     obtain ⟨x, -, rfl⟩ := List.mem_map.1 ha
     exact V.cells_len x
    repeat' (first | refine QV ?_ | ((with_reducible refine w_draw [(b, [.i 5, .i 0, .str ⟨#[]⟩, .sl o' (L.map V.cells)])] ?_ ?_ ?_ ?_ ?_); (focus kernel_rfl); (focus kernel_rfl); (focus kernel_rfl); (focus exact keep_one (List.Mem.head _))) | ((with_reducible refine And.intro ?_ ?_); (focus exact q_1)) | ((with_reducible apply (a2_go ho')); (focus (intro o'; repeat (first | exact ra_h | apply ra_t))); (focus exact hL4); (focus exact len_one rfl); (focus (simp only [List.length_map, List.length_cons, List.length_nil]; omega)); (focus (simp only [List.length_map, List.length_cons, List.length_nil]; omega)); intro o' ho') | refine QY ?_ | (refine QB ?_; intro b) | (refine QP ?_; intro o' ho') | (with_reducible refine QZ ?_ <;> (try constructor) <;> intro hb <;> try intro hb1) | fail)
    refine ⟨i + 1, .box b 73 [.i 5, .i 0, .str ⟨#[]⟩, .sl o' ((L ++ [V.mk k1 n1 t1 l1]).map V.cells)] :: .box b4 73 zs :: .room o' 73 4 ((L ++ [V.mk k1 n1 t1 l1]).map V.cells).length :: rdR rb s3 :: st, ?_, ⟨hlt, ?_, ?_, ?_, ?_, ?_, ?_, ?_, o', L ++ [V.mk k1 n1 t1 l1], s3, zs, ho', ?_, hzs, hE2, rfl⟩, ?_⟩
    · simp only [List.map_append, List.map_cons, List.map_nil, V.cells_mk]; (repeat (first | exact List.Sublist.refl _ | apply List.Sublist.cons))
    · exact Qf
    · exact Qf
    · exact Qf
    · exact Qf
    · exact Qf
    · exact Qf
    · exact Qf
    · rw [List.length_append, List.length_singleton]; omega
    · omega
 · have hHE := hE.out
   rw [show m - i = 0 by omega, vals] at hHE
   obtain ⟨r1, r2⟩ := res
   obtain ⟨hr1, hr2⟩ := hHE
   dsimp only at hr1 hr2
   rw [List.append_nil] at hr1
   subst hr1 hr2
   clear hE hI hBad
   repeat' (first | refine QX ?_ | (refine QB ?_; intro b) | (refine QP ?_; intro o' ho') | (with_reducible refine QZ ?_ <;> (try constructor) <;> intro hb <;> try intro hb1) | fail)
   all_goals exact QretC
end
end Go.Proofs.YtgcienlfpnpbgaaGreat
