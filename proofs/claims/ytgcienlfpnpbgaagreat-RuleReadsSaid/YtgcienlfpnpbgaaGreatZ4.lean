/- Texts put together. No statement is proved here. -/
import Derived.Laws.OwnMore
import Derived.OpenShut
import Derived.ShutString
import Derived.ChangeOld
import Derived.Below
import Derived.ProofKit
import Derived.Test.YtgcienlfpnpbgaaGreatProg
import Derived.Test.YtgcienlfpnpbgaaGreatZ3
set_option linter.all false
set_option maxRecDepth 10000
set_option maxHeartbeats 8000000
namespace Go.Proofs.YtgcienlfpnpbgaaGreat
open Go.RowKit
section
section
variable {P : Program} {N : Nat} {r : Option Nat} {A : AA} {st : St} {Q : Exit → AA → St → Prop} {m : Option Ro} {k : D → St → Prop} {dst : Option Tmp} {ty : TypeId} {pos : String} {aft : Array Edge} {gd : Option (Nat × Bool)} {o : Oper} {w : World}
def oneT (P : Program) (t : TypeId) : Option (TypeId × Nat × Value) := (tinfo P t).bind fun ti => match ti.k with
 | .slice el 1 bytes [z] => if noAgg z && (leafD z).leaf then some (el, bytes, z) else none
 | _ => none
theorem oneT_spec {t : TypeId} {el : TypeId} {bytes : Nat} {z : Value} (h : oneT P t = some (el, bytes, z)) : P.underlying t = some (.slice el) ∧ (∃ i zv, P.info? el = some i ∧ i.zero = some zv ∧ zv.cells.toList = [z] ∧ i.size = 1 ∧ i.bytes = bytes) ∧ noAgg z = true ∧ (leafD z).leaf = true := by
 unfold oneT at h
 cases ht : tinfo P t with
 | none => rw [ht] at h; cases h
 | some ti =>
  rw [ht, Option.bind_some] at h
  split at h
  · rename_i el' bytes' z' hk
    split at h
    · rename_i hz
      cases h
      obtain ⟨hu, ii, zv, q1, q2, q3, q4, q5, q6, q7⟩ := (und_of_k ht).2.2.2.2.1 _ _ _ _ hk
      rw [Bool.and_eq_true] at hz
      exact ⟨hu, ⟨ii, zv, q1, by assumption, by assumption, by assumption, by assumption⟩, hz.1, hz.2⟩
    · cases h
  · cases h
theorem zeros_rep {O : Nat → Nat → Prop} {z : Value} (h : noAgg z = true) (n : Nat) : RepL O w (List.replicate n z) (List.replicate n (leafD z)) := by
 have := RepL.map (O := O) (w := w) (l := List.replicate n z) (f := id) (g := leafD) (fun x hx => by rw [(List.mem_replicate.1 hx).2]; exact leafD_rep h)
 rwa [List.map_id, List.map_replicate] at this
def MakK (P : Program) (m : Option Ro) (t : TypeId) (p : D × D) (st : St) (k : D → St → Prop) : Prop :=
 ∃ (kd : IntKind) (n : Nat) (el : TypeId) (bytes : Nat) (z : Value), p = (.s (.int kd n), .s (.int kd n)) ∧ oneT P t = some (el, bytes, z) ∧ n * bytes ≤ 140737488355328 ∧ n ≤ 140737488355328 ∧ ∀ g, Keep m (.box g el (List.replicate n (leafD z)) :: st) ∧ k (.ar g 0 n n) (.box g el (List.replicate n (leafD z)) :: st)
theorem s_make {t : TypeId} {x y : Operand} (h : Ev (pairX (ev A.e x) (ev A.e y)) fun p => MakK P m t p st k) : S P r m ⟨dst, .makeSlice t x y, ty, pos, aft, gd⟩ A st k := by
 obtain ⟨p, h1, kd, n, el, bytes, z, rfl, h2, h3, h4, h5⟩ := h
 unfold pairX at h1
 split at h1
 · rename_i d d' hx hy
   cases h1
   refine s_chain (R := fun d st' => ∃ g, d = .ar g 0 n n ∧ st' = .box g el (List.replicate n (leafD z)) :: st) rfl ?_ ⟨_, _, 0, rfl, rfl⟩ fun d st' ⟨g, e1, e2⟩ => by subst e1 e2; exact h5 g
   refine opC_val (by intro c hc; cases hc) fun ρ w hr hh => .inl ?_
   have hv1 := rep_s (hr _ (by simp [Op.operands]) _ hx)
   have hv2 := rep_s (hr _ (by simp [Op.operands]) _ hy)
   obtain ⟨q1, ⟨i, zv, q2, q3, q4, q5, q6⟩, q7, q8⟩ := oneT_spec h2
   have hby : (i.bytes : Int) * (n : Int) ≤ 281474976710656 := by
    rw [q6, ← Int.natCast_mul, Nat.mul_comm]; omega
   have hrun := run_make (P := P) w t el i zv q1 q2 q3 kd kd n n q_o (Int.le_refl _) hby q_o
   have hz : zv.cells = #[z] := by
    apply Array.ext'
    simpa using q4
   rw [q5, Nat.mul_one, Int.toNat_natCast, hz] at hrun
   have hcells : madeCells #[z] n = (List.replicate n z).toArray := by
    apply Array.ext'
    rw [toList_madeCells_one]
   rw [hcells] at hrun
   obtain ⟨k1, k2⟩ := new_box hh el (zeros_rep (w := w) q7 n) (fun d hd => by rw [(List.mem_replicate.1 hd).2]; exact q8)
   refine ⟨_, _, ?_, _, _, .ar w.heap.size 0 n n (Nat.le_refl _) (by unfold maxLen; omega), k1, k2, ⟨_, rfl, rfl⟩⟩
   unfold execOp
   simp only [hv1, hv2, Sem.run_bind, hrun, Result.andThen_ok, Sem.run_pure]
 · cases h1
def Mak2 (m : Option Ro) (q : TypeId × Nat × Value) (n : Nat) (st : St) (k : D → St → Prop) : Prop := (n * q.2.1 ≤ 140737488355328 ∧ n ≤ 140737488355328) ∧ ∀ g, Keep m (.box g q.1 (List.replicate n (leafD q.2.2)) :: st) ∧ k (.ar g 0 n n) (.box g q.1 (List.replicate n (leafD q.2.2)) :: st)
theorem mk_go {t : TypeId} {kd : IntKind} {n : Nat} (h : Ev (oneT P t) fun q => Mak2 m q n st k) : MakK P m t (.s (.int kd n), .s (.int kd n)) st k := by
 obtain ⟨⟨el, bytes, z⟩, h1, ⟨h2, h3⟩, h4⟩ := h
 exact ⟨kd, n, el, bytes, z, rfl, h1, h2, h3, h4⟩
theorem mk2_go {el : TypeId} {bytes n : Nat} {z : Value} {dz : D} (h1 : n * bytes ≤ 140737488355328) (h2 : n ≤ 140737488355328) (hz : leafD z = dz) (h : ∀ g, Keep m (.box g el (List.replicate n dz) :: st) ∧ k (.ar g 0 n n) (.box g el (List.replicate n dz) :: st)) : Mak2 m (el, bytes, z) n st k := by
 subst hz
 exact ⟨⟨h1, h2⟩, h⟩
theorem chopA_len {sz : Nat} : ∀ (n : Nat) (cs : List D), (chop sz n cs).length = n
 | 0, _ => rfl
 | n + 1, cs => by rw [chop, List.length_cons, chopA_len n]
theorem chopA_each {sz : Nat} : ∀ (n : Nat) (cs : List D), n * sz ≤ cs.length → ∀ e ∈ chop sz n cs, e.length = sz
 | 0, _, _, e, he => by cases he
 | n + 1, cs, h, e, he => by
  rw [Nat.succ_mul] at h
  rw [chop] at he
  rcases List.mem_cons.1 he with rfl | he
  · rw [List.length_take]; omega
  · exact chopA_each n _ (by rw [List.length_drop]; omega) e he
theorem chopA_flat {sz : Nat} : ∀ (n : Nat) (cs : List D), n * sz ≤ cs.length → (chop sz n cs).flatten = cs.take (n * sz)
 | 0, cs, _ => by simp [chop]
 | n + 1, cs, h => by
  rw [Nat.succ_mul] at h
  rw [chop, List.flatten_cons, chopA_flat n _ (by rw [List.length_drop]; omega), Nat.succ_mul, Nat.add_comm (n * sz) sz, List.take_add]
theorem frozen (ow : Own) (how : ow = .shared ∨ ow = .tight) {g : Nat} {el : TypeId} {cs : List D} {s0 : St} {v : Value} {sz off n cap : Nat} (hh : Holds (.box g el cs :: s0) w) (hv : Rep (OwnS (.box g el cs :: s0)) w v (.ar g off n cap)) (hsz : 0 < sz) (hn : off + n * sz ≤ cs.length) (hcap : ow = .tight → cap = n) : Rep (OwnS s0) w v (.sl ow (chop sz n (cs.drop off))) := by
 cases hv with
 | ar _ _ _ _ c1 c2 =>
  obtain ⟨⟨us, hb, hr⟩, hlc⟩ := hh.2 _ (List.mem_cons_self ..)
  have he : Ext (OwnS (.box g el cs :: s0)) w (OwnS s0) w := Ext.drop (fun _ h => List.mem_cons_of_mem _ h) w
  have hr := hr.ext he
  have hd : n * sz ≤ (cs.drop off).length := by rw [List.length_drop]; omega
  have hfl := chopA_flat (sz := sz) n (cs.drop off) hd
  have hlen := chopA_len (sz := sz) n (cs.drop off)
  have hsl : us.toList.length = cs.length := hr.1
  have hrl : RepL (OwnS s0) w ((us.toList.drop off).take (n * sz)) (chop sz n (cs.drop off)).flatten := by rw [hfl]; exact (hr.drop _).take _
  have hne : ∀ o, ¬ OwnS s0 g o := fun o ho => by
   obtain ⟨x, hx, hxb, _⟩ := ho
   exact (List.pairwise_cons.1 hh.1).1 x hx g rfl hxb
  have := Rep.sl (O := OwnS s0) (w := w) ow (chop sz n (cs.drop off)) (some ⟨g, off, none⟩) cap ((us.toList.drop off).take (n * sz)) sz q_o c2 (fun e => by cases e) hsz (chopA_each n _ hd) hrl.1 (fun d hd' => by
   rw [hfl] at hd'
   exact hlc d (List.mem_of_mem_drop (List.mem_of_mem_take hd'))) (fun i hi => ⟨g, off, rfl, (Array.getElem?_eq_some_iff.1 hb).1, hne _, by
    rw [cell_of_row _ g (off + i) us el (0, 0) hb]
    rw [List.getElem_take, List.getElem_drop]
    simp at hi
    rw [Array.getElem?_eq_getElem q_o]
    simp⟩) hrl.2 (by
    rcases how with rfl | rfl
    · trivial
    · show cap = _; rw [hlen]; exact hcap rfl)
  rwa [hlen] at this
theorem tr_freeze (ow : Own) (how : ow = .shared ∨ ow = .tight) (ts : List Tmp) (sz : Nat) {c : Code} {g : Nat} {el : TypeId} {cs : List D} {s0 : St} {off n cap : Nat} (hp : st.Perm (.box g el cs :: s0)) (hsz : 0 < sz) (hn : off + n * sz ≤ cs.length) (hcap : ow = .tight → cap = n) (ht : ∀ t ∈ ts, A.e t = .ar g off n cap) (h : Tr P N r c { A with e := fun t => if t ∈ ts then .sl ow (chop sz n (cs.drop off)) else A.e t } s0 Q) : Tr P N r c A st Q := by
 refine tr_perm hp ?_
 intro a w h1 h2
 have he : Ext (OwnS (.box g el cs :: s0)) w (OwnS s0) w := Ext.drop (fun _ h => List.mem_cons_of_mem _ h) w
 refine wpIn_mono (h a w ⟨h1.1, h1.2.1, fun t => ?_⟩ (h2.sub (List.sublist_cons_self _ _))) fun _ _ _ => PostA.ext he
 show Rep _ _ _ (if t ∈ ts then _ else _)
 split
 · rename_i htm
   have := h1.2.2 t
   rw [ht t htm] at this
   exact frozen ow how h2 this hsz hn hcap
 · exact (h1.2.2 t).ext he
theorem tr_reroom (ts : List Tmp) (sz : Nat) {c : Code} {g : Nat} {el : TypeId} {cs : List D} {s0 : St} {cap : Nat} (hp : st.Perm (.box g el cs :: s0)) (hsz : 0 < sz) (hn : cs.length = cap * sz) (ht : ∀ t ∈ ts, A.e t = .ar g 0 0 cap) (h : Tr P N r c { A with e := fun t => if t ∈ ts then .sl (.row g cap) [] else A.e t } (.room (.row g cap) el sz 0 :: s0) Q) : Tr P N r c A st Q := by
 refine tr_perm hp ?_
 intro a w h1 h2
 have hown : OwnS (.room (.row g cap) el sz 0 :: s0) = OwnS (.box g el cs :: s0) := by
  funext b off
  apply propext
  rw [OwnS.cons_iff, OwnS.cons_iff]
  constructor
  · rintro (⟨x1, x2⟩ | x)
    · exact .inl ⟨x1, Nat.zero_le _⟩
    · exact .inr x
  · rintro (⟨x1, x2⟩ | x)
    · exact .inl ⟨x1, by show 0 * sz ≤ off; omega⟩
    · exact .inr x
 have he : Ext (OwnS (.box g el cs :: s0)) w (OwnS (.room (.row g cap) el sz 0 :: s0)) w := by rw [hown]; exact Ext.refl _ _
 have hh : Holds (.room (.row g cap) el sz 0 :: s0) w := by
  obtain ⟨⟨us, hb, hr⟩, hlc⟩ := h2.2 _ (List.mem_cons_self ..)
  refine h2.put he (fun _ _ _ _ => rfl) ⟨us, hb, ?_, Nat.zero_le _⟩ fun x hx => (List.pairwise_cons.1 h2.1).1 x hx
  have := hr.1
  rw [Array.length_toList] at this
  omega
 refine wpIn_mono (h a w ⟨h1.1, h1.2.1, fun t => ?_⟩ hh) fun _ _ _ => PostA.ext he
 show Rep _ _ _ (if t ∈ ts then _ else _)
 split
 · rename_i htm
   have hv := h1.2.2 t
   rw [ht t htm] at hv
   generalize a.tmps.getD t undef = v at hv
   cases hv with
   | ar _ _ _ _ c1 c2 =>
    exact .sl (.row g cap) [] (some ⟨g, 0, none⟩) cap [] sz (Nat.zero_le _) c2 (fun e => by cases e) hsz (fun e h => by cases h) rfl (fun d h => by simp at h) (fun i h => absurd h (Nat.not_lt_zero _)) (fun i h => absurd h (Nat.not_lt_zero _)) ⟨rfl, rfl⟩
 · exact (h1.2.2 t).ext he
theorem tr_freezeA (ow : Own) (how : ow = .shared ∨ ow = .tight) (ts : List Tmp) (sz : Nat) {c : Code} {g : Nat} {el : TypeId} {cs : List D} {s0 : St} {off n cap : Nat} (hp : st.Perm (.box g el cs :: s0)) (hsz : 0 < sz) (hn : off + n * sz ≤ cs.length) (hcap : ow = .tight → cap = n) (ht : ∀ t ∈ ts, A.e t = .ar g off n cap) (h : ∀ A' : AA, A'.df = A.df → (∀ t ∈ ts, A'.e t = .sl ow (chop sz n (cs.drop off))) → (∀ t, ts.contains t = false → A'.e t = A.e t) → Tr P N r c A' s0 Q) : Tr P N r c A st Q :=
 tr_freeze ow how ts sz hp hsz hn hcap ht (h _ rfl (fun t ht => by show (if t ∈ ts then _ else _) = _; rw [if_pos ht]) fun t ht => by
  show (if t ∈ ts then _ else _) = _
  rw [if_neg (by simpa using ht)])
theorem tr_reroomA (ts : List Tmp) (sz : Nat) {c : Code} {g : Nat} {el : TypeId} {cs : List D} {s0 : St} {cap : Nat} (hp : st.Perm (.box g el cs :: s0)) (hsz : 0 < sz) (hn : cs.length = cap * sz) (ht : ∀ t ∈ ts, A.e t = .ar g 0 0 cap) (h : ∀ A' : AA, A'.df = A.df → (∀ t ∈ ts, A'.e t = .sl (.row g cap) []) → (∀ t, ts.contains t = false → A'.e t = A.e t) → Tr P N r c A' (.room (.row g cap) el sz 0 :: s0) Q) : Tr P N r c A st Q :=
 tr_reroom ts sz hp hsz hn ht (h _ rfl (fun t ht => by show (if t ∈ ts then _ else _) = _; rw [if_pos ht]) fun t ht => by
  show (if t ∈ ts then _ else _) = _
  rw [if_neg (by simpa using ht)])
theorem s_isNil {t t' : TypeId} {x : Operand} {ow : Own} {es : List (List D)} {q : TypeId × Nat × Nat} (ht : sliceT P t = some q) (hx : ev A.e x = some (.sl ow es)) (hk : ∀ b : Bool, (b = true → es = []) → k (.b b) st) : S P r none ⟨dst, .binOp .eql t x (.const (.slice none 0 0)) t', ty, pos, aft, gd⟩ A st k := by
 refine opC_val (by intro c hc; cases hc) fun ρ w hr hh => .inl ?_
 have hv1 := hr _ (by simp [Op.operands]) _ hx
 have hv2 := hr.cst (.slice none 0 0)
 obtain ⟨el, sz, bytes⟩ := q
 obtain ⟨ti, z, h10, h11⟩ := sliceT_spec ht
 obtain ⟨hu, -⟩ := (und_of_k h10).2.2.2.2.1 _ _ _ _ h11
 obtain ⟨a, cap0, us, sz1, e1, c1, c2, c3, c4, c5, c6, c7, c8, c9, c10⟩ := calm_src hv1
 refine ⟨.bool a.isNone, w, ?_, _, _, .s (.bool a.isNone) rfl, hh, Ext.refl _ _, hk a.isNone fun hb => ?_⟩
 · unfold execOp
   have hrun : (binOp .eql t (.slice a es.length cap0) (.slice none 0 0)).run P w = .ok (.bool a.isNone) w := by
    simp only [binOp]
    simp [run_equal_slice_nil w t el a es.length cap0 hu]
   simp only [e1, hv2, Sem.run_bind, guard_plain .eql t x (.const (.slice none 0 0)) (.slice a es.length cap0) (.slice none 0 0) (fun u => by simp) (fun u v => by simp), hrun, Result.andThen_ok, Sem.run_pure]
 · have : a = none := by simpa using hb
   have := c8 this
   exact List.eq_nil_of_length_eq_zero q_o
theorem tr_cutB (id : Nat) (K : AA → St → Prop) {ops : Array Oper} {b : Bool} {x c : Code} (h1 : Tr P N r x A st (thenA K fun _ _ _ => False)) (h2 : ∀ A' st', K A' st' → Tr P N r (.seq (.region id ops b) c) A' st' Q) : Tr P N r (.seq x (.seq (.region id ops b) c)) A st Q :=
 tr_seq (tr_mono h1 fun ex A' st' h => by
  cases ex with
  | normal => exact h2 A' st' h
  | exit id => exact h.elim
  | goto l => exact h.elim
  | ret => exact h.elim
  | panic c => exact h.elim
  | outgrown => exact h.elim)
def boxC (d : D) : Option (List D) :=
 match d.cells.all D.leaf with
 | true => some d.cells
 | false => none
theorem s_boxP {t : TypeId} {x : Operand} (h : Ev ((ev A.e x).bind boxC) fun cs => AlK none t cs st k) : S P r none ⟨dst, .box t x, ty, pos, aft, gd⟩ A st k := by
 obtain ⟨cs, h1, h2⟩ := h
 cases hx : ev A.e x with
 | none => rw [hx] at h1; cases h1
 | some d =>
  rw [hx, Option.bind_some] at h1
  unfold boxC at h1
  split at h1
  · rename_i hl; cases h1; exact opC_box rfl hx hl fun b => (h2 b).2
  · cases h1
theorem ret_new {ts : List Tmp} {ex : Exit} {b : Nat} {B : Nat → Res} {st0 : St} (hex : ex = .normal ∨ ex = .ret) (hdf : A.df = []) (hr : resD ts A.e = .ptr b 0) (hs : (B b :: st0).Sublist st) : retA ts (fun d st' => ∃ b, d = .ptr b 0 ∧ st' = B b :: st0) ex A st := retA_mk hex hdf hs (LE.of_eq hr) ⟨b, rfl, rfl⟩
section
variable {f : FuncId} {ds ds' : List D} {X : D}
end
theorem ret_own {ts : List Tmp} {ex : Exit} {o' : Own} {el : TypeId} {sz : Nat} {es es' : List (List D)} {st0 : St} (hex : ex = .normal ∨ ex = .ret) (hdf : A.df = []) (hr : resD ts A.e = .sl o' es') (ho : o' ≠ .shared) (hs : (.room o' el sz es'.length :: st0).Sublist st) (he : es' = es) : retA ts (fun d st' => ∃ o', o' ≠ .shared ∧ d = .sl o' es ∧ st' = .room o' el sz es.length :: st0) ex A st := by
 subst he
 exact retA_mk hex hdf hs (LE.of_eq hr) ⟨o', ho, rfl, rfl⟩
theorem run_append_zeros (t u ty e : TypeId) (i : TypeInfo) (z : Value) {ku : IntKind} (ht : P.underlying t = some (.slice e)) (hu : P.underlying u = some (.int ku)) (hi : P.info? e = some i) (hz : i.zero = some z) (hz1 : z.cells.size = 1) (hs1 : i.size = 1)
 (a : Option Addr) (kd : IntKind) (n : Nat) (h0 : 0 < n) (h48 : n * i.bytes ≤ 140737488355328) (h63 : n ≤ 140737488355328) :
 (Builtin.append_ #[t, u] ty #[.slice a 0 0, .int kd n]).run P w =
  .ok (.slice (some ⟨w.heap.size, 0, none⟩) n (grownCap w n 0 e)) (w.drew.alloc (.cells (Builtin.zeroCells z.cells n ++ Builtin.zeroCells z.cells (grownCap w n 0 e - n)) e)) := by
 have hn : n ≠ 0 := by omega
 have hw : IntKind.i64.wrap (n : Int) = n := i64_in q_o q_o
 have hb2 : ¬ (281474976710656 < (n : Int) * (i.bytes : Int)) := by
  have : ((n * i.bytes : Nat) : Int) ≤ 140737488355328 := by omega
  rw [Int.natCast_mul] at this; omega
 have h63' : ¬ (9223372036854775807 < (n : Int)) := by omega
 have h48' : ¬ (281474976710656 < Builtin.nextslicecap n 0 * i.bytes) := by rw [nextslicecap_zero h0]; omega
 cases a with
 | none => simp [Builtin.append_, run_underlying ht, run_underlying hu, sizeOf, typeInfo, zeroValue, hi, hz, asInt, asIntOf, hw, hb2, hn, h63', h48', hs1, Question.forced, run_firstCells_none, newRow, grownCap]; intro hlt; exact absurd hlt q_o
 | some ad =>
  have hfo := run_firstCells_some (P := P) w.drew 1 0 ad 0 0 [] rfl (fun j v h => by simp at h)
  simp [Builtin.append_, run_underlying ht, run_underlying hu, sizeOf, typeInfo, zeroValue, hi, hz, asInt, asIntOf, hw, hb2, hn, h63', h48', hs1, Question.forced, hfo, newRow, grownCap]; intro hlt; exact absurd hlt q_o
def intT (P : Program) (t : TypeId) : Option Bool := (tinfo P t).bind fun ti => match ti.k with
 | .int _ => some true
 | _ => none
theorem intT_spec {t : TypeId} {b : Bool} (h : intT P t = some b) : ∃ k, P.underlying t = some (.int k) := by
 unfold intT at h
 cases ht : tinfo P t with
 | none => rw [ht] at h; cases h
 | some ti =>
  rw [ht, Option.bind_some] at h
  split at h
  · rename_i k hk; exact ⟨k, (und_of_k ht).2.1 _ hk⟩
  · cases h
theorem zeroCells_one (z : Value) (n : Nat) : Builtin.zeroCells #[z] n = (List.replicate n z).toArray := by
 have : Builtin.zeroCells #[z] n = madeCells #[z] (n * 1) := rfl
 rw [this, Nat.mul_one]
 apply Array.ext'
 rw [toList_madeCells_one]
def ZerK (P : Program) (m : Option Ro) (t u : TypeId) (p : D × D) (st : St) (k : D → St → Prop) : Prop :=
 ∃ (kd : IntKind) (n : Nat) (el : TypeId) (bytes : Nat) (z : Value) (b : Bool), p = (.sl .tight [], .s (.int kd n)) ∧ 0 < n ∧ oneT P t = some (el, bytes, z) ∧ intT P u = some b ∧ n * bytes ≤ 140737488355328 ∧ n ≤ 140737488355328 ∧ ∀ g cap, n ≤ cap → Keep m (.box g el (List.replicate cap (leafD z)) :: st) ∧ k (.ar g 0 n cap) (.box g el (List.replicate cap (leafD z)) :: st)
theorem s_zeros {t u : TypeId} {x y : Operand} (h : Ev (pairX (ev A.e x) (ev A.e y)) fun p => ZerK P m t u p st k) : S P r m ⟨dst, .call ⟨.builtin .append, #[x, y], #[t, u]⟩, ty, pos, aft, gd⟩ A st k := by
 obtain ⟨p, h1, kd, n, el, bytes, z, b, rfl, h0, h2, h2', h3, h4, h5⟩ := h
 unfold pairX at h1
 split at h1
 · rename_i d d' hx hy
   cases h1
   refine s_chain (R := fun d st' => ∃ g cap, n ≤ cap ∧ d = .ar g 0 n cap ∧ st' = .box g el (List.replicate cap (leafD z)) :: st) rfl ?_ ⟨_, _, 0, n, Nat.le_refl _, rfl, rfl⟩ fun d st' ⟨g, cap, e0, e1, e2⟩ => by subst e1 e2; exact h5 g cap e0
   refine opC_val (by intro c hc; cases hc) fun ρ w hr hh => .inl ?_
   have hv1 := hr _ (by simp [Op.operands, Call.operands]) _ hx
   have hv2 := rep_s (hr _ (by simp [Op.operands, Call.operands]) _ hy)
   obtain ⟨q1, ⟨i, zv, q2, q3, q4, q5, q6⟩, q7, q8⟩ := oneT_spec h2
   obtain ⟨ku, hu⟩ := intT_spec h2'
   have hz : zv.cells = #[z] := by
    apply Array.ext'
    simpa using q4
   obtain ⟨a, cap0, us, sz1, e1, c1, c2, c3, c4, c5, c6, c7, c8, c9, c10⟩ := calm_src hv1
   have hcap : cap0 = 0 := c10
   subst hcap
   have hrun := run_append_zeros (P := P) (w := w) t u ty el i zv q1 hu q2 q3 (by rw [hz]; rfl) q5 a kd n h0 (by rw [q6]; exact h3) h4
   have hge := grownCap_ge w n 0 el
   have hmx := grownCap_le_maxLen w n 0 el (by unfold maxLen; omega)
   generalize grownCap w n 0 el = cap at *
   have hcl : Builtin.zeroCells zv.cells n ++ Builtin.zeroCells zv.cells (cap - n) = (List.replicate cap z).toArray := by
    rw [hz, zeroCells_one, zeroCells_one, List.append_toArray, List.replicate_append_replicate]
    congr 2
    omega
   rw [hcl] at hrun
   have hh' : Holds st w.drew := hh.drewN 1
   obtain ⟨k1, k2⟩ := new_box hh' el (zeros_rep (w := w.drew) q7 cap) (fun d hd => by rw [(List.mem_replicate.1 hd).2]; exact q8)
   refine ⟨_, _, ?_, _, _, .ar w.heap.size 0 n cap hge hmx, k1, (Ext.drew (OwnS st) w).trans k2, ⟨_, _, hge, rfl, rfl⟩⟩
   unfold execOp
   simp only [resolve, invoke, builtin, Sem.run_bind, Sem.run_pure, Result.andThen_ok, List.map_toArray, List.map_cons, List.map_nil, e1, hv2]
   show ((Builtin.append_ #[t, u] ty #[.slice a 0 0, .int kd n]).run P w).andThen _ = _
   rw [hrun]
   rfl
 · cases h1
def Zer2 (m : Option Ro) (q : TypeId × Nat × Value) (n : Nat) (st : St) (k : D → St → Prop) : Prop := (0 < n ∧ n * q.2.1 ≤ 140737488355328 ∧ n ≤ 140737488355328) ∧ ∀ g cap, n ≤ cap → Keep m (.box g q.1 (List.replicate cap (leafD q.2.2)) :: st) ∧ k (.ar g 0 n cap) (.box g q.1 (List.replicate cap (leafD q.2.2)) :: st)
theorem zr_go {t u : TypeId} {kd : IntKind} {n : Nat} (h : Ev (intT P u) fun _ => Ev (oneT P t) fun q => Zer2 m q n st k) : ZerK P m t u (.sl .tight [], .s (.int kd n)) st k := by
 obtain ⟨b, h0, ⟨el, bytes, z⟩, h1, ⟨h2, h3, h4⟩, h5⟩ := h
 exact ⟨kd, n, el, bytes, z, b, rfl, h2, h1, h0, h3, h4, h5⟩
theorem zr2_go {el : TypeId} {bytes n : Nat} {z : Value} {dz : D} (h0 : 0 < n) (h1 : n * bytes ≤ 140737488355328) (h2 : n ≤ 140737488355328) (hz : leafD z = dz) (h : ∀ g cap, n ≤ cap → Keep m (.box g el (List.replicate cap dz) :: st) ∧ k (.ar g 0 n cap) (.box g el (List.replicate cap dz) :: st)) : Zer2 m (el, bytes, z) n st k := by
 subst hz
 exact ⟨⟨h0, h1, h2⟩, h⟩
theorem s_sliceT {t : TypeId} {x y : Operand} (hx : ev A.e x = some (.sl .tight [])) (hy : ev A.e y = some (.i 0)) (ht : (sliceT P t).isSome = true) (hk : k (.sl .tight []) st) : S P r none ⟨dst, .slice t x none (some y) none, ty, pos, aft, gd⟩ A st k := by
 refine opC_val (by intro c hc; cases hc) fun ρ w hr hh => .inl ?_
 have hv1 := hr _ (by simp [Op.operands]) _ hx
 have hv2 := rep_s (hr _ (by simp [Op.operands]) _ hy)
 obtain ⟨⟨el, sz, bytes⟩, hq⟩ := Option.isSome_iff_exists.1 ht
 obtain ⟨ti, z, h10, h11⟩ := sliceT_spec hq
 obtain ⟨hu, ii, zv, q1, q2, q3, q4, q5, q6, q7⟩ := (und_of_k h10).2.2.2.2.1 _ _ _ _ h11
 obtain ⟨a, cap0, us, sz1, e1, c1, c2, c3, c4, c5, c6, c7, c8, c9, c10⟩ := calm_src hv1
 have hcap : cap0 = 0 := c10
 subst hcap
 have hb : aBounds 0 none (some 0) = some (0, 0) := by decide
 have hrun : (Instr.sliceAt t (.slice a 0 0) none (some (.int .i64 0)) none).run P w = .ok (.slice a 0 0) w := by
  simp only [Instr.sliceAt, Sem.run_bind, run_underlying hu, Result.andThen_ok, Instr.slice, run_bounds (isS := true) (lo := none) (hi := some 0) (mx := none) rfl ⟨.i64, rfl⟩ rfl hb (Nat.le_refl 0) (.inl rfl), sizeOf, typeInfo, run_program, q1, Sem.run_pure, q4]
  simp
 refine ⟨.slice a 0 0, w, ?_, _, _, .sl .tight [] a 0 [] 1 (Nat.le_refl _) (Nat.zero_le _) (fun _ => rfl) q_o (fun e h => by cases h) rfl (fun d h => by simp at h) (fun i h => absurd h (Nat.not_lt_zero _)) (fun i h => absurd h (Nat.not_lt_zero _)) rfl, hh, Ext.refl _ _, hk⟩
 unfold execOp
 simp only [e1, hv2, Option.map_some, Option.map_none, Sem.run_bind, Sem.run_pure]
 show ((Instr.sliceAt t (.slice a 0 0) none (some (.int .i64 0)) none).run P w).andThen _ = _
 rw [hrun]
 rfl
end
section
variable {P : Program} {t : TypeId} {a b : Int} {k' : IntKind}
theorem shr_u64 (h0 : 0 ≤ b) (h1 : b ≤ 64) : aBin P .shr t (.s (.int .u64 a)) (.s (.int k' b)) = some (.s (.int .u64 (a / 2 ^ b.toNat))) := bin_shr h0 h1
theorem shl_u64 (h0 : 0 ≤ b) (h1 : b ≤ 64) : aBin P .shl t (.s (.int .u64 a)) (.s (.int k' b)) = some (.s (.int .u64 (IntKind.u64.wrap (a * 2 ^ b.toNat)))) := bin_shl h0 h1
theorem shr_i64 (h0 : 0 ≤ b) (h1 : b ≤ 64) : aBin P .shr t (.s (.int .i64 a)) (.s (.int k' b)) = some (.s (.int .i64 (a / 2 ^ b.toNat))) := bin_shr h0 h1
theorem shl_i64 (h0 : 0 ≤ b) (h1 : b ≤ 64) : aBin P .shl t (.s (.int .i64 a)) (.s (.int k' b)) = some (.s (.int .i64 (IntKind.i64.wrap (a * 2 ^ b.toNat)))) := bin_shl h0 h1
end
theorem all_encB (l : List UInt8) : (l.map encB).all (fun e => e.length == 1) = true := by
 rw [List.all_map]; exact List.all_eq_true.2 fun _ _ => rfl
theorem all_encI (l : List Int) : (l.map encI).all (fun e => e.length == 1) = true := by
 rw [List.all_map]; exact List.all_eq_true.2 fun _ _ => rfl
attribute [push_cast] Option.isSome_some boxC Nat.add_sub_cancel Nat.add_sub_cancel_left Nat.sub_zero all_encB all_encI shr_u64 shl_u64 shr_i64 shl_i64 intT oneT
end
section
open Go.RowKit Go.ChangeShapes Go.WideShapes
def ReadsN {α : Type} (n : Nat) (P : Program) (t : TypeId) (e : α → List D) (ok : α → Prop) : Prop :=
 ∀ (H : Type) (enc : TypeId × Value → H) (W : World) (fuel : Nat) (cs : List Value) (x : DataW H × List MemPlace), fuel ≤ n →
  DataW.trod enc P W 0 (fun _ => true) true fuel t cs = some x → ∃ a, RepL (OwnS []) W cs (e a) ∧ ok a
def Reads {α : Type} (P : Program) (t : TypeId) (e : α → List D) (ok : α → Prop) : Prop := ∀ n, ReadsN n P t e ok
section
variable {P : Program} {t : TypeId} {n : Nat} {W : World}
theorem reads_int {k : IntKind} (ht : P.underlying t = some (.int k)) : Reads P t (fun a : Int => [.s (.int k a)]) fun a => (Lit.int k a).wf = true := by
 intro n H enc W fuel cs x _ h
 obtain ⟨a, rfl, -, hw⟩ := DataW.trod_int ht h
 exact ⟨a, .cons (.s _ rfl) .nil, hw⟩
theorem reads_u8 (ht : P.underlying t = some (.int .u8)) : Reads P t encB fun _ => True := by
 intro n H enc W fuel cs x _ h
 obtain ⟨a, rfl, -, hw⟩ := DataW.trod_int ht h
 have hw' : 0 ≤ a ∧ a ≤ 255 := by simpa [Lit.wf, IntKind.min, IntKind.max, IntKind.bits, IntKind.signed] using hw
 obtain ⟨b, rfl⟩ : ∃ b : UInt8, (b.toNat : Int) = a := ⟨UInt8.ofNat a.toNat, by simp; omega⟩
 exact ⟨b, .cons (.s _ rfl) .nil, trivial⟩
theorem reads_bool (ht : P.underlying t = some .bool) : Reads P t (fun a : Bool => [.b a]) fun _ => True := by
 intro n H enc W fuel cs x _ h
 obtain ⟨a, rfl, -⟩ := DataW.trod_bool ht h
 exact ⟨a, .cons (.s _ rfl) .nil, trivial⟩
theorem reads_string (ht : P.underlying t = some .string) : Reads P t (fun a : ByteArray => [.str a]) fun a => a.size ≤ maxLen := by
 intro n H enc W fuel cs x _ h
 obtain ⟨a, rfl, -, hs⟩ := DataW.trod_string ht h
 exact ⟨a, .cons (.s _ rfl) .nil, hs⟩
theorem chosen {α : Type} {k : Nat} {p : Nat → α → Prop} (h : ∀ i, i < k → ∃ a, p i a) : ∃ l : List α, l.length = k ∧ ∀ i (hi : i < l.length), p i l[i] := by
 induction k with
 | zero => exact ⟨[], rfl, fun i hi => absurd hi (Nat.not_lt_zero _)⟩
 | succ k ih =>
  obtain ⟨l, h1, h2⟩ := ih fun i hi => h i q_o
  obtain ⟨a, ha⟩ := h k q_o
  refine ⟨l ++ [a], by simp [h1], fun i hi => ?_⟩
  rw [List.getElem_append]
  split
  · exact h2 i _
  · have : i = k := by simp at hi; omega
    subst this; simpa using ha
theorem flat_get {β : Type} {ls : List (List β)} {sz : Nat} (h : ∀ l ∈ ls, l.length = sz) {i j : Nat} (hi : i < ls.length) (hj : j < sz) :
 ls.flatten[i * sz + j]? = (ls[i])[j]? := by
 induction ls generalizing i with
 | nil => simp at hi
 | cons l ls ih =>
  have hl : l.length = sz := h l (by simp)
  cases i with
  | zero => rw [List.flatten_cons, List.getElem?_append_left q_o]; simp
  | succ i =>
   rw [List.flatten_cons, List.getElem?_append_right (by rw [hl, Nat.succ_mul]; omega), hl, show (i + 1) * sz + j - sz = i * sz + j by rw [Nat.succ_mul]; omega, ih (fun l hl => h l (by simp [hl])) (by simpa using hi)]
   simp
theorem flat_lenV {β : Type} {ls : List (List β)} {sz : Nat} (h : ∀ l ∈ ls, l.length = sz) : ls.flatten.length = ls.length * sz := by
 induction ls with
 | nil => simp
 | cons l ls ih => rw [List.flatten_cons, List.length_append, ih (fun l hl => h l (by simp [hl])), h l (by simp), List.length_cons, Nat.succ_mul]; omega
theorem add_spot {bk off k : Nat} : (Addr.mk bk off none).add k = ⟨bk, off + k, none⟩ := by
 unfold Addr.add
 by_cases hk : k = 0
 · subst hk; simp
 · simp [hk]
theorem repL_flat {O : Nat → Nat → Prop} : ∀ {us : List (List Value)} {ds : List (List D)}, us.length = ds.length → (∀ i (h : i < us.length) (h' : i < ds.length), RepL O W us[i] ds[i]) → RepL O W us.flatten ds.flatten
 | [], [], _, _ => .nil
 | [], _ :: _, h, _ => by simp at h
 | _ :: _, [], h, _ => by simp at h
 | u :: us, d :: ds, hl, h => by
  rw [List.flatten_cons, List.flatten_cons]
  exact (h 0 (by simp) (by simp)).append (repL_flat (by simpa using hl) fun i h1 h2 => h (i + 1) (by simpa using h1) (by simpa using h2))
theorem reads_slice {α : Type} {e : TypeId} {sz : Nat} {f : α → List D} {ok : α → Prop} (ht : P.underlying t = some (.slice e)) (hsz : P.cellsOf e = sz) (hp : 0 < sz) (h : ReadsN n P e f ok) (hlen : ∀ a, (f a).length = sz) (hleaf : ∀ a, ∀ d ∈ f a, d.leaf = true) :
 ReadsN (n + 1) P t (fun l : List α => [.sl .shared (l.map f)]) fun l => (∀ a ∈ l, ok a) ∧ l.length ≤ maxLen := by
 intro H enc W fuel cs x hn hx
 rcases DataW.trod_slice ht hx with ⟨rfl, -⟩ | ⟨a, len, cap, elems, rest, m, rfl, rfl, -, -, hlc, hcm, hel, hget, -, -⟩
 · refine ⟨[], .cons ?_ .nil, ⟨by simp, by simp⟩⟩
   exact .sl .shared [] none 0 [] 1 (Nat.le_refl _) (by simp) (fun _ => rfl) (Nat.lt_succ_self _) (by simp) rfl (by simp) (fun i hi => absurd hi (by simp)) (fun i hi => absurd hi (by simp)) trivial
 · have hone : ∀ i, i < len → ∃ p : α × List Value, W.cells? 0 (a.add (i * sz)) sz = some p.2 ∧ RepL (OwnS []) W p.2 (f p.1) ∧ ok p.1 := by
    intro i hi
    have h1 := hget i hi
    rw [hsz, List.getElem?_eq_getElem q_o] at h1
    obtain ⟨cs', h2, h3⟩ := Option.bind_eq_some_iff.1 h1
    obtain ⟨b, h4, h5⟩ := h H enc W m cs' _ q_o h3
    exact ⟨(b, cs'), h2, h4, h5⟩
   obtain ⟨l, hl, hl2⟩ := chosen hone
   refine ⟨l.map (·.1), .cons ?_ .nil, fun b hb => ?_, by simp; omega⟩
   · have hus : ∀ u ∈ l.map (·.2), u.length = sz := by
      intro u hu
      obtain ⟨p, hp', rfl⟩ := List.mem_map.1 hu
      obtain ⟨i, hi, rfl⟩ := List.getElem_of_mem hp'
      exact (World.cells?_some (hl2 i hi).1).2.1
     have hrl : RepL (OwnS []) W (l.map (·.2)).flatten ((l.map (·.1)).map f).flatten := repL_flat (by simp) fun i h1 h2 => by
      simp only [List.getElem_map]
      exact (hl2 i (by simpa using h1)).2.1
     have key := Rep.sl (O := OwnS []) (w := W) .shared ((l.map (·.1)).map f) (some a) cap (l.map (·.2)).flatten sz (by simp; omega) hcm (fun h => by cases h) hp
      (fun e he => by obtain ⟨b, -, rfl⟩ := List.mem_map.1 he; exact hlen b) hrl.1
      (fun d hd => by obtain ⟨q, hq, hd⟩ := List.mem_flatten.1 hd; obtain ⟨b, -, rfl⟩ := List.mem_map.1 hq; exact hleaf b d hd)
      (fun i hi => by
       have hfl : (l.map (·.2)).flatten.length = l.length * sz := by rw [flat_lenV hus]; simp
       have hi' : i / sz < l.length := by rw [hfl] at hi; exact Nat.div_lt_of_lt_mul (by rw [Nat.mul_comm]; exact hi)
       obtain ⟨-, c2, c3⟩ := World.cells?_some (hl2 _ hi').1
       have hj : i % sz < sz := Nat.mod_lt _ hp
       have c4 := c3 _ hj
       have hidx : (l.map (·.2)).flatten[i / sz * sz + i % sz]? = (l[i / sz].2)[i % sz]? := by
        rw [flat_get hus (by simpa using hi') hj]; simp
       have hi2 : i / sz * sz + i % sz = i := Nat.div_add_mod' i sz
       rw [hi2] at hidx
       rw [List.getElem?_eq_getElem hi] at hidx
       rw [← hidx] at c4
       obtain ⟨bk, off, sp⟩ := a
       have hsp : sp = none := by
        cases sp with
        | none => rfl
        | some q =>
         have h0 : 0 < l.length := Nat.lt_of_le_of_lt (Nat.zero_le _) hi'
         have hz := (World.cells?_some (hl2 0 h0).1).2.2 0 hp
         rw [List.getElem?_eq_getElem (by rw [(World.cells?_some (hl2 0 h0).1).2.1]; exact hp)] at hz
         simp only [Addr.add, World.cell?, Nat.zero_mul, if_true, Option.isSome_some] at hz
         split at hz <;> cases hz
       subst hsp
       have c5 : W.cell? ⟨bk, off + i, none⟩ = some (l.map (·.2)).flatten[i] := by
        rw [← c4, add_spot, add_spot, show off + i / sz * sz + i % sz = off + i by omega]
       refine ⟨bk, off, rfl, ?_, OwnS.nil bk _, c5⟩
       unfold World.cell? at c5
       dsimp only at c5
       by_cases hb : bk < W.heap.size
       · exact hb
       · rw [Array.getElem?_eq_none q_o] at c5; cases c5)
      (fun i h1 h2 => hrl.2 i h1 h2) trivial
     rw [List.length_map, List.length_map, hl] at key
     exact key
   · obtain ⟨p, hp', rfl⟩ := List.mem_map.1 hb
     obtain ⟨i, hi, rfl⟩ := List.getElem_of_mem hp'
     exact (hl2 i hi).2.2
theorem reads_slice' {α : Type} {e : TypeId} {sz : Nat} {f : α → List D} {ok : α → Prop} (ht : P.underlying t = some (.slice e)) (hsz : P.cellsOf e = sz) (hp : 0 < sz) (h : Reads P e f ok) (hlen : ∀ a, (f a).length = sz) (hleaf : ∀ a, ∀ d ∈ f a, d.leaf = true) :
 Reads P t (fun l : List α => [.sl .shared (l.map f)]) fun l => (∀ a ∈ l, ok a) ∧ l.length ≤ maxLen :=
 fun m H enc W fuel cs x hn hx => reads_slice ht hsz hp (h m) hlen hleaf H enc W fuel cs x q_o hx
theorem RepL.glue {O : Nat → Nat → Prop} {cs : List Value} {o k : Nat} {L R : List D} (h1 : RepL O W ((cs.drop o).take k) L) (h2 : RepL O W (cs.drop (o + k)) R) : RepL O W (cs.drop o) (L ++ R) := by
 have := h1.append h2
 rwa [show cs.drop (o + k) = (cs.drop o).drop k by rw [List.drop_drop], List.take_append_drop] at this
theorem RepL.glue_end {O : Nat → Nat → Prop} {cs : List Value} {o : Nat} (h : cs.length = o) : RepL O W (cs.drop o) [] := by
 rw [List.drop_eq_nil_of_le q_o]; exact .nil
theorem struct_field {fs : Array Field} {H : Type} {enc : TypeId × Value → H} {m : Nat} {cs : List Value} {xs : List (DataW H × List MemPlace)} {α : Type} {f : α → List D} {ok : α → Prop} {i : Nat} {g : Field} {k : Nat}
 (hx : ∀ (i : Nat) (f : Field), fs[i]? = some f → DataW.trod enc P W 0 (fun _ => true) true m f.type ((cs.drop f.offset).take (P.cellsOf f.type)) = xs[i]?) (hl : xs.length = fs.size) (hg : fs[i]? = some g) (hk : P.cellsOf g.type = k) (h : ReadsN n P g.type f ok) (hm : m ≤ n) :
 ∃ a, RepL (OwnS []) W ((cs.drop g.offset).take k) (f a) ∧ ok a := by
 have h1 := hx i g hg
 have hi : i < xs.length := by rw [hl]; exact (Array.getElem?_eq_some_iff.1 hg).1
 rw [List.getElem?_eq_getElem hi] at h1
 obtain ⟨a, h2, h3⟩ := h _ _ _ _ _ _ hm h1
 rw [hk] at h2
 exact ⟨a, h2, h3⟩
section
variable {H : Type} {enc : TypeId × Value → H} {r : Reach} {b0 : Nat} {v : Value} {d : DataW H} {ps : List MemPlace} {α : Type} {f : α → List D} {ok : α → Prop}
theorem repL_one {O : Nat → Nat → Prop} {u : Value} {c : D} (h : RepL O W [u] [c]) : Rep O W u c := h.2 0 (by simp) (by simp)
theorem arg_slice {e : TypeId} {g : α → D} (ht : P.underlying t = some (.slice e)) (hv : Value.okWide P W r b0 t v) (h : DataW.Trod enc P W 0 (fun _ => true) true t v d ps) (hr : Reads P t (fun a => [g a]) ok) : ∃ a, Rep (OwnS []) W v (g a) ∧ ok a := by
 obtain ⟨a, len, cap, rfl⟩ := okWide_slice ht hv
 obtain ⟨fuel, hf⟩ := h
 obtain ⟨b, h1, h2⟩ := hr fuel _ _ _ _ _ _ (Nat.le_refl _) hf
 exact ⟨b, repL_one h1, h2⟩
theorem trodAll_stays (hl : laidOutB P = true) {W' : World} (hb : Below W.heap.size W W') : ∀ {ts : List TypeId} {vs : List Value} {ds : List (DataW H)} {p : List MemPlace}, (∀ t ∈ ts, P.readableRec t = true ∧ t < P.types.size) → DataW.TrodAll enc P W 0 (fun _ => true) true ts vs ds p →
 ∃ q, DataW.TrodAll enc P W' 0 (fun b => decide (b < W.heap.size)) true ts vs ds q
 | [], [], [], _, _, _ => ⟨[], rfl⟩
 | t :: ts, v :: vs, d :: ds, p, ht, h => by
  obtain ⟨p1, p2, h1, h2, rfl⟩ := h
  obtain ⟨q, hq⟩ := trodAll_stays hl hb (fun t h => ht t (by simp [h])) h2
  have hlt : ∀ x ∈ p1, x.block < W.heap.size := by obtain ⟨m, hm⟩ := h1; exact DataW.trod_lt m _ _ _ hm
  exact ⟨_, _, q, Below.trod hl (ht t (by simp)).1 (ht t (by simp)).2 h1 hb hlt, hq, rfl⟩
 | [], [], _ :: _, _, _, h => by cases h
 | [], _ :: _, _, _, _, h => by cases h
 | _ :: _, [], _, _, _, h => by cases h
 | _ :: _, _ :: _, [], _, _, h => by cases h
end
end
end
section
set_option maxRecDepth 100000
theorem ti2 : tinfo Tryz.prog 2 = some ⟨false, 1, [Go.Value.int Go.IntKind.i64 0], .int Go.IntKind.i64⟩ := by kernel_rfl
theorem ti3 : tinfo Tryz.prog 3 = some ⟨false, 1, [Go.Value.int Go.IntKind.i64 0], .int Go.IntKind.i64⟩ := by kernel_rfl
theorem ti4 : tinfo Tryz.prog 4 = some ⟨false, 1, [Go.Value.bool false], .bool⟩ := by kernel_rfl
theorem ti5 : tinfo Tryz.prog 5 = some ⟨false, 1, [Go.Value.int Go.IntKind.u8 0], .int Go.IntKind.u8⟩ := by kernel_rfl
theorem ti9 : tinfo Tryz.prog 9 = some ⟨false, 1, [Go.Value.string ⟨#[]⟩], .string⟩ := by kernel_rfl
theorem ti22 : tinfo Tryz.prog 22 = some ⟨false, 1, [Go.Value.slice none 0 0], .slice 36 3 64 [Go.Value.string ⟨#[]⟩, Go.Value.slice none 0 0, Go.Value.slice none 0 0]⟩ := by kernel_rfl
theorem ti26 : tinfo Tryz.prog 26 = some ⟨false, 1, [Go.Value.slice none 0 0], .slice 5 1 1 [Go.Value.int Go.IntKind.u8 0]⟩ := by kernel_rfl
theorem ti33 : tinfo Tryz.prog 33 = some ⟨false, 1, [Go.Value.slice none 0 0], .slice 75 7 88 [Go.Value.string ⟨#[]⟩, Go.Value.int Go.IntKind.i64 0, Go.Value.bool false, Go.Value.int Go.IntKind.i64 0, Go.Value.int Go.IntKind.i64 0, Go.Value.string ⟨#[]⟩, Go.Value.slice none 0 0]⟩ := by kernel_rfl
theorem ti34 : tinfo Tryz.prog 34 = some ⟨false, 1, [Go.Value.slice none 0 0], .slice 79 10 128 [Go.Value.int Go.IntKind.i64 0, Go.Value.int Go.IntKind.i64 0, Go.Value.string ⟨#[]⟩, Go.Value.int Go.IntKind.i64 0, Go.Value.bool false, Go.Value.int Go.IntKind.i64 0, Go.Value.int Go.IntKind.i64 0, Go.Value.string ⟨#[]⟩, Go.Value.slice none 0 0, Go.Value.slice none 0 0]⟩ := by kernel_rfl
theorem ti36 : tinfo Tryz.prog 36 = some ⟨true, 3, [Go.Value.string ⟨#[]⟩, Go.Value.slice none 0 0, Go.Value.slice none 0 0], .struct [(0, 1, false), (1, 1, false), (2, 1, false)]⟩ := by kernel_rfl
theorem ti38 : tinfo Tryz.prog 38 = some ⟨false, 1, [Go.Value.pointer none], .pointer⟩ := by kernel_rfl
theorem ti42 : tinfo Tryz.prog 42 = some ⟨true, 3, [Go.Value.slice none 0 0, Go.Value.int Go.IntKind.i64 0, Go.Value.bool false], .struct [(0, 1, false), (1, 1, false), (2, 1, false)]⟩ := by kernel_rfl
theorem ti47 : tinfo Tryz.prog 47 = some ⟨false, 1, [Go.Value.slice none 0 0], .slice 55 4 72 [Go.Value.string ⟨#[]⟩, Go.Value.int Go.IntKind.i64 0, Go.Value.slice none 0 0, Go.Value.slice none 0 0]⟩ := by kernel_rfl
theorem ti50 : tinfo Tryz.prog 50 = some ⟨false, 1, [Go.Value.slice none 0 0], .slice 3 1 8 [Go.Value.int Go.IntKind.i64 0]⟩ := by kernel_rfl
theorem ti52 : tinfo Tryz.prog 52 = some ⟨false, 1, [Go.Value.slice none 0 0], .slice 105 3 40 [Go.Value.int Go.IntKind.i64 0, Go.Value.bool false, Go.Value.slice none 0 0]⟩ := by kernel_rfl
theorem ti53 : tinfo Tryz.prog 53 = some ⟨false, 1, [Go.Value.slice none 0 0], .slice 110 5 56 [Go.Value.int Go.IntKind.i64 0, Go.Value.int Go.IntKind.i64 0, Go.Value.int Go.IntKind.i64 0, Go.Value.int Go.IntKind.i64 0, Go.Value.slice none 0 0]⟩ := by kernel_rfl
theorem ti55 : tinfo Tryz.prog 55 = some ⟨true, 4, [Go.Value.string ⟨#[]⟩, Go.Value.int Go.IntKind.i64 0, Go.Value.slice none 0 0, Go.Value.slice none 0 0], .struct [(0, 1, false), (1, 1, false), (2, 1, false), (3, 1, false)]⟩ := by kernel_rfl
theorem ti71 : tinfo Tryz.prog 71 = some ⟨false, 1, [Go.Value.slice none 0 0], .slice 73 4 56 [Go.Value.int Go.IntKind.i64 0, Go.Value.int Go.IntKind.i64 0, Go.Value.string ⟨#[]⟩, Go.Value.slice none 0 0]⟩ := by kernel_rfl
theorem ti73 : tinfo Tryz.prog 73 = some ⟨true, 4, [Go.Value.int Go.IntKind.i64 0, Go.Value.int Go.IntKind.i64 0, Go.Value.string ⟨#[]⟩, Go.Value.slice none 0 0], .struct [(0, 1, false), (1, 1, false), (2, 1, false), (3, 1, false)]⟩ := by kernel_rfl
theorem ti75 : tinfo Tryz.prog 75 = some ⟨true, 7, [Go.Value.string ⟨#[]⟩, Go.Value.int Go.IntKind.i64 0, Go.Value.bool false, Go.Value.int Go.IntKind.i64 0, Go.Value.int Go.IntKind.i64 0, Go.Value.string ⟨#[]⟩, Go.Value.slice none 0 0], .struct [(0, 1, false), (1, 1, false), (2, 1, false), (3, 4, true)]⟩ := by kernel_rfl
theorem ti79 : tinfo Tryz.prog 79 = some ⟨true, 10, [Go.Value.int Go.IntKind.i64 0, Go.Value.int Go.IntKind.i64 0, Go.Value.string ⟨#[]⟩, Go.Value.int Go.IntKind.i64 0, Go.Value.bool false, Go.Value.int Go.IntKind.i64 0, Go.Value.int Go.IntKind.i64 0, Go.Value.string ⟨#[]⟩, Go.Value.slice none 0 0, Go.Value.slice none 0 0], .struct [(0, 1, false), (1, 1, false), (2, 7, true), (9, 1, false)]⟩ := by kernel_rfl
theorem ti92 : tinfo Tryz.prog 92 = some ⟨true, 2, [Go.Value.slice none 0 0, Go.Value.bool false], .struct [(0, 1, false), (1, 1, false)]⟩ := by kernel_rfl
theorem ti102 : tinfo Tryz.prog 102 = some ⟨true, 7, [Go.Value.int Go.IntKind.i64 0, Go.Value.int Go.IntKind.i64 0, Go.Value.int Go.IntKind.i64 0, Go.Value.int Go.IntKind.i64 0, Go.Value.int Go.IntKind.i64 0, Go.Value.string ⟨#[]⟩, Go.Value.slice none 0 0], .struct [(0, 1, false), (1, 1, false), (2, 1, false), (3, 4, true)]⟩ := by kernel_rfl
theorem ti103 : tinfo Tryz.prog 103 = some ⟨false, 1, [Go.Value.slice none 0 0], .slice 102 7 80 [Go.Value.int Go.IntKind.i64 0, Go.Value.int Go.IntKind.i64 0, Go.Value.int Go.IntKind.i64 0, Go.Value.int Go.IntKind.i64 0, Go.Value.int Go.IntKind.i64 0, Go.Value.string ⟨#[]⟩, Go.Value.slice none 0 0]⟩ := by kernel_rfl
theorem ti105 : tinfo Tryz.prog 105 = some ⟨true, 3, [Go.Value.int Go.IntKind.i64 0, Go.Value.bool false, Go.Value.slice none 0 0], .struct [(0, 1, false), (1, 1, false), (2, 1, false)]⟩ := by kernel_rfl
theorem ti107 : tinfo Tryz.prog 107 = some ⟨true, 6, [Go.Value.bool false, Go.Value.int Go.IntKind.i64 0, Go.Value.int Go.IntKind.i64 0, Go.Value.int Go.IntKind.i64 0, Go.Value.string ⟨#[]⟩, Go.Value.slice none 0 0], .struct [(0, 1, false), (1, 1, false), (2, 4, true)]⟩ := by kernel_rfl
theorem ti108 : tinfo Tryz.prog 108 = some ⟨false, 1, [Go.Value.slice none 0 0], .slice 107 6 72 [Go.Value.bool false, Go.Value.int Go.IntKind.i64 0, Go.Value.int Go.IntKind.i64 0, Go.Value.int Go.IntKind.i64 0, Go.Value.string ⟨#[]⟩, Go.Value.slice none 0 0]⟩ := by kernel_rfl
theorem ti110 : tinfo Tryz.prog 110 = some ⟨true, 5, [Go.Value.int Go.IntKind.i64 0, Go.Value.int Go.IntKind.i64 0, Go.Value.int Go.IntKind.i64 0, Go.Value.int Go.IntKind.i64 0, Go.Value.slice none 0 0], .struct [(0, 1, false), (1, 1, false), (2, 1, false), (3, 1, false), (4, 1, false)]⟩ := by kernel_rfl
theorem ti117 : tinfo Tryz.prog 117 = some ⟨false, 1, [Go.Value.pointer none], .pointer⟩ := by kernel_rfl
theorem ti119 : tinfo Tryz.prog 119 = some ⟨true, 2, [Go.Value.slice none 0 0, Go.Value.bool false], .struct [(0, 1, false), (1, 1, false)]⟩ := by kernel_rfl
theorem ti136 : tinfo Tryz.prog 136 = some ⟨true, 2, [Go.Value.slice none 0 0, Go.Value.bool false], .struct [(0, 1, false), (1, 1, false)]⟩ := by kernel_rfl
theorem ti141 : tinfo Tryz.prog 141 = some ⟨true, 2, [Go.Value.slice none 0 0, Go.Value.slice none 0 0], .struct [(0, 1, false), (1, 1, false)]⟩ := by kernel_rfl
theorem ti145 : tinfo Tryz.prog 145 = some ⟨false, 1, [Go.Value.slice none 0 0], .slice 147 2 48 [Go.Value.slice none 0 0, Go.Value.slice none 0 0]⟩ := by kernel_rfl
theorem ti147 : tinfo Tryz.prog 147 = some ⟨true, 2, [Go.Value.slice none 0 0, Go.Value.slice none 0 0], .struct [(0, 1, false), (1, 1, false)]⟩ := by kernel_rfl
theorem ti163 : tinfo Tryz.prog 163 = some ⟨false, 1, [Go.Value.slice none 0 0], .slice 26 1 24 [Go.Value.slice none 0 0]⟩ := by kernel_rfl
theorem ti169 : tinfo Tryz.prog 169 = some ⟨false, 1, [Go.Value.int Go.IntKind.u64 0], .int Go.IntKind.u64⟩ := by kernel_rfl
theorem ti172 : tinfo Tryz.prog 172 = some ⟨false, 1, [Go.Value.pointer none], .pointer⟩ := by kernel_rfl
theorem ti175 : tinfo Tryz.prog 175 = some ⟨true, 6, [Go.Value.slice none 0 0, Go.Value.string ⟨#[]⟩, Go.Value.int Go.IntKind.i64 0, Go.Value.slice none 0 0, Go.Value.slice none 0 0, Go.Value.map none], .struct [(0, 1, false), (1, 4, true), (5, 1, false)]⟩ := by kernel_rfl
theorem ti216 : tinfo Tryz.prog 216 = some ⟨true, 6, [Go.Value.nilFunc, Go.Value.nilFunc, Go.Value.nilFunc, Go.Value.nilFunc, Go.Value.nilFunc, Go.Value.nilFunc], .array 6 1 false⟩ := by kernel_rfl
attribute [push_cast] ti2 ti3 ti4 ti5 ti9 ti22 ti26 ti33 ti34 ti36 ti38 ti42 ti47 ti50 ti52 ti53 ti55 ti71 ti73 ti75 ti79 ti92 ti102 ti103 ti105 ti107 ti108 ti110 ti117 ti119 ti136 ti141 ti145 ti147 ti163 ti169 ti172 ti175 ti216
abbrev CT := CE Tryz.prog
instance : CT 13 := ⟨Tryz.call13⟩
instance : CT 15 := ⟨Tryz.call15⟩
instance : CT 16 := ⟨Tryz.call16⟩
instance : CT 17 := ⟨Tryz.call17⟩
instance : CT 18 := ⟨Tryz.call18⟩
instance : CT 21 := ⟨Tryz.call21⟩
instance : CT 27 := ⟨Tryz.call27⟩
instance : CT 30 := ⟨Tryz.call30⟩
instance : CT 31 := ⟨Tryz.call31⟩
instance : CT 32 := ⟨Tryz.call32⟩
instance : CT 34 := ⟨Tryz.call34⟩
instance : CT 35 := ⟨Tryz.call35⟩
instance : CT 37 := ⟨Tryz.call37⟩
instance : CT 38 := ⟨Tryz.call38⟩
instance : CT 39 := ⟨Tryz.call39⟩
instance : CT 40 := ⟨Tryz.call40⟩
instance : CT 42 := ⟨Tryz.call42⟩
instance : CT 43 := ⟨Tryz.call43⟩
instance : CT 44 := ⟨Tryz.call44⟩
instance : CT 46 := ⟨Tryz.call46⟩
instance : CT 47 := ⟨Tryz.call47⟩
instance : CT 48 := ⟨Tryz.call48⟩
instance : CT 49 := ⟨Tryz.call49⟩
instance : CT 50 := ⟨Tryz.call50⟩
instance : CT 51 := ⟨Tryz.call51⟩
instance : CT 54 := ⟨Tryz.call54⟩
instance : CT 55 := ⟨Tryz.call55⟩
instance : CT 60 := ⟨Tryz.call60⟩
instance : CT 61 := ⟨Tryz.call61⟩
instance : CT 63 := ⟨Tryz.call63⟩
instance : CT 64 := ⟨Tryz.call64⟩
instance : CT 72 := ⟨Tryz.call72⟩
instance : CT 75 := ⟨Tryz.call75⟩
instance : CT 80 := ⟨Tryz.call80⟩
instance : CT 81 := ⟨Tryz.call81⟩
instance : CT 82 := ⟨Tryz.call82⟩
instance : CT 84 := ⟨Tryz.call84⟩
instance : CT 86 := ⟨Tryz.call86⟩
instance : CT 87 := ⟨Tryz.call87⟩
instance : CT 88 := ⟨Tryz.call88⟩
instance : CT 89 := ⟨Tryz.call89⟩
instance : CT 90 := ⟨Tryz.call90⟩
instance : CT 91 := ⟨Tryz.call91⟩
instance : CT 94 := ⟨Tryz.call94⟩
instance : CT 98 := ⟨Tryz.call98⟩
instance : CT 107 := ⟨Tryz.call107⟩
instance : CT 111 := ⟨Tryz.call111⟩
instance : CT 112 := ⟨Tryz.call112⟩
instance : CT 113 := ⟨Tryz.call113⟩
instance : CT 114 := ⟨Tryz.call114⟩
instance : CT 115 := ⟨Tryz.call115⟩
instance : CT 116 := ⟨Tryz.call116⟩
instance : CT 117 := ⟨Tryz.call117⟩
instance : CT 118 := ⟨Tryz.call118⟩
instance : CT 119 := ⟨Tryz.call119⟩
instance : CT 120 := ⟨Tryz.call120⟩
instance : CT 121 := ⟨Tryz.call121⟩
instance : CT 122 := ⟨Tryz.call122⟩
instance : CT 123 := ⟨Tryz.call123⟩
instance : CT 124 := ⟨Tryz.call124⟩
instance : CT 125 := ⟨Tryz.call125⟩
instance : CT 126 := ⟨Tryz.call126⟩
instance : CT 127 := ⟨Tryz.call127⟩
instance : CT 128 := ⟨Tryz.call128⟩
instance : CT 129 := ⟨Tryz.call129⟩
instance : CT 130 := ⟨Tryz.call130⟩
instance : CT 131 := ⟨Tryz.call131⟩
instance : CT 132 := ⟨Tryz.call132⟩
instance : CT 133 := ⟨Tryz.call133⟩
instance : CT 134 := ⟨Tryz.call134⟩
instance : CT 135 := ⟨Tryz.call135⟩
instance : CT 136 := ⟨Tryz.call136⟩
instance : CT 138 := ⟨Tryz.call138⟩
instance : CT 139 := ⟨Tryz.call139⟩
instance : CT 140 := ⟨Tryz.call140⟩
instance : CT 142 := ⟨Tryz.call142⟩
instance : CT 143 := ⟨Tryz.call143⟩
instance : CT 144 := ⟨Tryz.call144⟩
instance : CT 147 := ⟨Tryz.call147⟩
instance : CT 148 := ⟨Tryz.call148⟩
instance : CT 149 := ⟨Tryz.call149⟩
instance : CT 150 := ⟨Tryz.call150⟩
instance : CT 151 := ⟨Tryz.call151⟩
instance : CT 152 := ⟨Tryz.call152⟩
instance : CT 153 := ⟨Tryz.call153⟩
instance : CT 154 := ⟨Tryz.call154⟩
instance : CT 155 := ⟨Tryz.call155⟩
instance : CT 156 := ⟨Tryz.call156⟩
instance : CT 157 := ⟨Tryz.call157⟩
instance : CT 158 := ⟨Tryz.call158⟩
instance : CT 159 := ⟨Tryz.call159⟩
instance : CT 160 := ⟨Tryz.call160⟩
instance : CT 161 := ⟨Tryz.call161⟩
instance : CT 162 := ⟨Tryz.call162⟩
instance : CT 163 := ⟨Tryz.call163⟩
instance : CT 164 := ⟨Tryz.call164⟩
instance : CT 165 := ⟨Tryz.call165⟩
instance : CT 166 := ⟨Tryz.call166⟩
instance : CT 167 := ⟨Tryz.call167⟩
instance : CT 168 := ⟨Tryz.call168⟩
instance : CT 169 := ⟨Tryz.call169⟩
instance : CT 170 := ⟨Tryz.call170⟩
instance : CT 171 := ⟨Tryz.call171⟩
instance : CT 172 := ⟨Tryz.call172⟩
instance : CT 173 := ⟨Tryz.call173⟩
instance : CT 174 := ⟨Tryz.call174⟩
instance : CT 175 := ⟨Tryz.call175⟩
instance : CT 176 := ⟨Tryz.call176⟩
instance : CT 177 := ⟨Tryz.call177⟩
instance : CT 178 := ⟨Tryz.call178⟩
instance : CT 179 := ⟨Tryz.call179⟩
instance : CT 180 := ⟨Tryz.call180⟩
instance : CT 181 := ⟨Tryz.call181⟩
instance : CT 182 := ⟨Tryz.call182⟩
instance : CT 183 := ⟨Tryz.call183⟩
instance : CT 184 := ⟨Tryz.call184⟩
instance : CT 185 := ⟨Tryz.call185⟩
instance : CT 186 := ⟨Tryz.call186⟩
instance : CT 187 := ⟨Tryz.call187⟩
instance : CT 188 := ⟨Tryz.call188⟩
instance : CT 189 := ⟨Tryz.call189⟩
instance : CT 190 := ⟨Tryz.call190⟩
instance : CT 191 := ⟨Tryz.call191⟩
instance : CT 192 := ⟨Tryz.call192⟩
instance : CT 193 := ⟨Tryz.call193⟩
instance : CT 194 := ⟨Tryz.call194⟩
instance : CT 195 := ⟨Tryz.call195⟩
instance : CT 196 := ⟨Tryz.call196⟩
instance : CT 197 := ⟨Tryz.call197⟩
instance : CT 198 := ⟨Tryz.call198⟩
instance : CT 199 := ⟨Tryz.call199⟩
instance : CT 200 := ⟨Tryz.call200⟩
instance : CT 201 := ⟨Tryz.call201⟩
instance : CT 202 := ⟨Tryz.call202⟩
instance : CT 203 := ⟨Tryz.call203⟩
instance : CT 204 := ⟨Tryz.call204⟩
instance : CT 205 := ⟨Tryz.call205⟩
instance : CT 206 := ⟨Tryz.call206⟩
instance : CT 207 := ⟨Tryz.call207⟩
instance : CT 208 := ⟨Tryz.call208⟩
instance : CT 209 := ⟨Tryz.call209⟩
instance : CT 210 := ⟨Tryz.call210⟩
instance : CT 211 := ⟨Tryz.call211⟩
instance : CT 212 := ⟨Tryz.call212⟩
instance : CT 213 := ⟨Tryz.call213⟩
instance : CT 214 := ⟨Tryz.call214⟩
instance : CT 215 := ⟨Tryz.call215⟩
instance : CT 216 := ⟨Tryz.call216⟩
instance : CT 217 := ⟨Tryz.call217⟩
instance : CT 218 := ⟨Tryz.call218⟩
instance : CT 219 := ⟨Tryz.call219⟩
instance : CT 220 := ⟨Tryz.call220⟩
instance : CT 221 := ⟨Tryz.call221⟩
instance : CT 222 := ⟨Tryz.call222⟩
instance : CT 223 := ⟨Tryz.call223⟩
instance : CT 224 := ⟨Tryz.call224⟩
instance : CT 225 := ⟨Tryz.call225⟩
instance : CT 226 := ⟨Tryz.call226⟩
instance : CT 227 := ⟨Tryz.call227⟩
instance : CT 228 := ⟨Tryz.call228⟩
instance : CT 229 := ⟨Tryz.call229⟩
instance : CT 230 := ⟨Tryz.call230⟩
instance : CT 231 := ⟨Tryz.call231⟩
instance : CT 233 := ⟨Tryz.call233⟩
instance : CT 234 := ⟨Tryz.call234⟩
instance : CT 235 := ⟨Tryz.call235⟩
instance : CT 236 := ⟨Tryz.call236⟩
instance : CT 237 := ⟨Tryz.call237⟩
instance : CT 238 := ⟨Tryz.call238⟩
instance : CT 239 := ⟨Tryz.call239⟩
instance : CT 240 := ⟨Tryz.call240⟩
instance : CT 241 := ⟨Tryz.call241⟩
instance : CT 242 := ⟨Tryz.call242⟩
end
section
open Go.RowKit Go.ChangeShapes
inductive V where
 | mk (k n : Int) (s : ByteArray) (l : List V)
namespace V
mutual
def cells : V → List D
 | .mk k n s l => [.i k, .i n, .str s, .sl .shared (cellsL l)]
def cellsL : List V → List (List D)
 | [] => []
 | x :: l => x.cells :: cellsL l
end
theorem cellsL_map : ∀ l : List V, cellsL l = l.map cells
 | [] => rfl
 | x :: l => by rw [cellsL, cellsL_map l]; rfl
theorem cells_mk (k n : Int) (s : ByteArray) (l : List V) : (V.mk k n s l).cells = [.i k, .i n, .str s, .sl .shared (l.map cells)] := by rw [cells, cellsL_map]
theorem cells_len (v : V) : v.cells.length = 4 := by cases v; rw [cells_mk]; rfl
theorem cells_take (v : V) : v.cells.take 4 = v.cells := List.take_of_length_le (by rw [cells_len]; omega)
theorem cells_leaf (v : V) : ∀ d ∈ v.cells, d.leaf = true := by
 cases v
 rw [cells_mk]
 intro d hd
 simp only [List.mem_cons, List.not_mem_nil, or_false] at hd
 rcases hd with rfl | rfl | rfl | rfl <;> rfl
mutual
def nodes : V → Nat
 | .mk _ _ _ l => 1 + nodesL l
def nodesL : List V → Nat
 | [] => 0
 | x :: l => x.nodes + nodesL l
end
mutual
def deep : V → Nat
 | .mk k _ _ l => if k = 5 ∨ l ≠ [] then deepL l + 1 else 0
def deepL : List V → Nat
 | [] => 0
 | x :: l => max x.deep (deepL l)
end
theorem nodes_pos (v : V) : 0 < v.nodes := by cases v; rw [nodes]; omega
theorem nodesL_mem {x : V} : ∀ {l : List V}, x ∈ l → x.nodes ≤ nodesL l
 | y :: l, h => by
  rw [nodesL]
  rcases List.mem_cons.1 h with rfl | h
  · omega
  · have := nodesL_mem h; omega
theorem nodes_lt {k n : Int} {s : ByteArray} {l : List V} {x : V} (h : x ∈ l) : x.nodes < (V.mk k n s l).nodes := by
 have := nodesL_mem h
 rw [nodes]; omega
theorem nodesL_len : ∀ l : List V, l.length ≤ nodesL l
 | [] => Nat.le_refl _
 | x :: l => by have := nodesL_len l; have := x.nodes_pos; rw [nodesL, List.length_cons]; omega
mutual
theorem deep_le : ∀ v : V, v.deep ≤ v.nodes
 | .mk k n s l => by
  have := deepL_le l
  rw [deep, nodes]
  split <;> omega
theorem deepL_le : ∀ l : List V, deepL l ≤ nodesL l
 | [] => Nat.le_refl _
 | x :: l => by
  have := deep_le x
  have := deepL_le l
  rw [deepL, nodesL]; omega
end
theorem drop_cons {α : Type} {l : List α} {i : Nat} {x : α} (h : l[i]? = some x) : l.drop i = x :: l.drop (i + 1) := by
 obtain ⟨h1, rfl⟩ := List.getElem?_eq_some_iff.1 h
 exact List.drop_eq_getElem_cons h1
theorem mem_of {α : Type} {l : List α} {i : Nat} {x : α} (h : l[i]? = some x) : x ∈ l := List.mem_of_getElem? h
inductive Ok : V → Prop
 | mk {k n : Int} {s : ByteArray} {l : List V} (hk : -9223372036854775808 ≤ k ∧ k ≤ 9223372036854775807) (hn : -9223372036854775808 ≤ n ∧ n ≤ 9223372036854775807) (hs : s.size ≤ maxLen) (hl : l.length ≤ maxLen) (h : ∀ x ∈ l, Ok x) : Ok (.mk k n s l)
end V
theorem i64_bounds {n : Int} (h : (Lit.int .i64 n).wf = true) : -9223372036854775808 ≤ n ∧ n ≤ 9223372036854775807 := by
 simpa [Lit.wf, IntKind.min, IntKind.max, IntKind.bits, IntKind.signed] using h
section
open V
theorem readsV : ∀ n, ReadsN n Tryz.prog 73 V.cells V.Ok
 | 0 => fun H enc W fuel cs x hf h => by
  obtain rfl : fuel = 0 := by omega
  simp [DataW.trod] at h
 | 1 => fun H enc W fuel cs x hf h => by
  obtain ⟨xs, m, rfl, -, hl, hn, hx⟩ := DataW.trod_struct Tryz.underlying73 h
  obtain ⟨a, -⟩ := struct_field (i := 0) (n := 0) (f := fun a : Int => [D.i a]) hx hn rfl (k := 1) (by kernel_rfl) (reads_int (k := .i64) Tryz.underlying3 0) q_o
  have := hx 0 _ rfl
  obtain rfl : m = 0 := by omega
  rw [List.getElem?_eq_getElem (by rw [hn]; exact Nat.le_of_ble_eq_true rfl)] at this
  simp [DataW.trod] at this
 | n + 2 => fun H enc W fuel cs x hf h => by
  obtain ⟨xs, m, rfl, -, hl, hn, hx⟩ := DataW.trod_struct Tryz.underlying73 h
  have hl4 : cs.length = 4 := hl.trans (by kernel_rfl)
  obtain ⟨a, a1, a2⟩ := struct_field (i := 0) (n := n + 1) (f := fun a : Int => [D.i a]) hx hn rfl (k := 1) (by kernel_rfl) (reads_int (k := .i64) Tryz.underlying3 _) q_o
  obtain ⟨b, b1, b2⟩ := struct_field (i := 1) (n := n + 1) (f := fun a : Int => [D.i a]) hx hn rfl (k := 1) (by kernel_rfl) (reads_int (k := .i64) Tryz.underlying2 _) q_o
  obtain ⟨c, c1, c2⟩ := struct_field (i := 2) (n := n + 1) (f := fun a : ByteArray => [D.str a]) hx hn rfl (k := 1) (by kernel_rfl) (reads_string Tryz.underlying9 _) q_o
  obtain ⟨d, d1, d2, d3⟩ := struct_field (i := 3) (n := n + 1) (f := fun l : List V => [D.sl .shared (l.map V.cells)]) hx hn rfl (k := 1) (by kernel_rfl) (reads_slice (sz := 4) Tryz.underlying71 (by kernel_rfl) q_o (readsV n) V.cells_len V.cells_leaf) q_o
  refine ⟨.mk a b c d, ?_, .mk (i64_bounds a2) (i64_bounds b2) c2 d3 d2⟩
  rw [V.cells_mk]
  have := RepL.glue a1 (RepL.glue b1 (RepL.glue c1 (RepL.glue d1 (RepL.glue_end hl4))))
  exact this
end
end
section
attribute [local push_cast] encB encI V.cells_mk V.cells_take V.cells_len
namespace V
mutual
def cnt : V → Int → Int → Int
 | .mk _ _ _ l, n, d => if n - 1 < 0 ∨ d < 0 then -1 else cntL l (n - 1) (d - 1)
def cntL : List V → Int → Int → Int
 | [], n, _ => n
 | x :: l, n, d => if x.cnt n d < 0 then -1 else cntL l (x.cnt n d) d
end
mutual
theorem cnt_le : ∀ (v : V) (n d : Int), -1 ≤ n → -1 ≤ v.cnt n d ∧ v.cnt n d ≤ n
 | .mk k m s l, n, d, h => by
  rw [cnt]
  split
  · omega
  · have := cntL_le l (n - 1) (d - 1) q_o
    omega
theorem cntL_le : ∀ (l : List V) (n d : Int), -1 ≤ n → -1 ≤ cntL l n d ∧ cntL l n d ≤ n
 | [], n, d, h => by rw [cntL]; omega
 | x :: l, n, d, h => by
  rw [cntL]
  have h1 := cnt_le x n d h
  split
  · omega
  · have := cntL_le l (x.cnt n d) d q_o
    omega
end
end V
open V in
theorem refCountF : ∀ (N : Nat) (v : V), v.nodes ≤ N → v.Ok → ∀ (n d : Int), -1 ≤ n → n ≤ 4611686018427387904 → -1 ≤ d → d ≤ 4611686018427387904 → ∀ st, TrF Tryz.prog 174 [.agg v.cells, .i n, .i d] st fun x st' => x = .i (v.cnt n d) ∧ st' = st
 | 0, v, h, _ => by have := v.nodes_pos; omega
 | N + 1, .mk k n0 s l, hN, hok => by
  intro n d h1 h2 h3 h4 st
  obtain ⟨hk, hn, hs, hl, hall⟩ := hok
  unfold maxLen at hl
  have IH := fun x (hx : x ∈ l) => refCountF N x (by have := nodes_lt (k := k) (n := n0) (s := s) hx; omega) (hall x hx)
  clear hall hN
  rw [V.cells_mk]
  refine Qin [6] Tryz.func174 Tryz.results174 Tryz.ntmps174 ?_
  by_cases c1 : n - 1 < 0
  · rw [cnt, if_pos (.inl c1)]
    clear IH
    exact WR
  by_cases c2 : d < 0
  · rw [cnt, if_pos (.inr c2)]
    clear IH
    exact WR
  rw [cnt, if_neg q_o]
  repeat' (first | refine QX ?_ | (refine QB ?_; intro b) | (with_reducible refine QZ ?_ <;> (try constructor) <;> intro hb <;> try intro hb1) | fail)
  refine tr_loop (ι := Nat × Int) (fun i A st' => i.1 ≤ l.length ∧ 0 ≤ i.2 ∧ i.2 ≤ n ∧ Hid (cntL (l.drop i.1) i.2 (d - 1) = cntL l (n - 1) (d - 1)) ∧ A.df = [] ∧ A.e 1 = .i i.2 ∧ A.e 2 = .i d ∧ A.e 3 = .ip [.i k, .i n0, .str s, .sl .shared (l.map V.cells)] ∧ A.e 7 = .i i.1 ∧ st' = st) (fun i => l.length - i.1) (0, n - 1) ⟨Nat.zero_le _, by omega, by omega, rfl, rfl, Qf, Qf, Qf, Qf, rfl⟩ ?_
  rintro ⟨i, m⟩ A st' ⟨hi, hm0, hmn, HT, hdf, h1', h2', h3', h7, rfl⟩
  dsimp only at hi hm0 hmn HT h1' h7 ⊢
  by_cases hlt : i < l.length
  · obtain ⟨x, hx⟩ := gEx hlt
    have ih := IH x (mem_of hx) m (d - 1) q_o q_o q_o q_o
    have hb := cnt_le x m (d - 1) q_o
    have hlx := V.cells_len x
    have HD := HT.out
    rw [drop_cons hx, cntL] at HD
    generalize x.cnt m (d - 1) = m' at *
    clear IH
    by_cases hm' : m' < 0
    · rw [if_pos hm'] at HD
      rw [← HD]
      clear HD HT
      repeat' (first | refine QX ?_ | (refine QB ?_; intro b) | (with_reducible refine QZ ?_ <;> (try constructor) <;> intro hb <;> try intro hb1) | refine Qc Tryz.call174 (ih _) ?_ | fail)
      all_goals exact Qret
    · rw [if_neg hm'] at HD
      have HE := Lib.hid HD
      clear HD HT
      repeat' (first | refine QX ?_ | (refine QB ?_; intro b) | (with_reducible refine QZ ?_ <;> (try constructor) <;> intro hb <;> try intro hb1) | refine Qc Tryz.call174 (ih _) ?_ | fail)
      refine ⟨(i + 1, m'), ⟨hlt, by omega, by dsimp only; omega, HE, ?_, ?_, ?_, ?_, ?_, rfl⟩, ?_⟩
      all_goals exact Qf
  · have HD := HT.out
    rw [List.drop_eq_nil_of_le q_o, cntL] at HD
    rw [← HD]
    clear HD HT IH
    exact WR
end
section
attribute [local push_cast] encB encI V.cells_mk V.cells_take V.cells_len
namespace V
mutual
theorem cnt_eq : ∀ (v : V) (n d : Int), 0 ≤ v.cnt n d → v.cnt n d = n - v.nodes
 | .mk k m s l, n, d, h => by
  rw [cnt] at h ⊢
  split at h
  · omega
  · rename_i hc
    rw [if_neg hc, nodes]
    have := cntL_eq l (n - 1) (d - 1) h
    omega
theorem cntL_eq : ∀ (l : List V) (n d : Int), 0 ≤ cntL l n d → cntL l n d = n - nodesL l
 | [], n, d, h => by rw [cntL, nodesL]; omega
 | x :: l, n, d, h => by
  rw [cntL] at h ⊢
  split at h
  · omega
  · rename_i hc
    rw [if_neg hc, nodesL, cntL_eq l _ d h]
    have := cnt_eq x n d q_o
    omega
end
mutual
theorem cnt_all : ∀ (v : V) (n d : Int), (v.nodes : Int) ≤ n → (v.deep : Int) ≤ d → v.cnt n d = n - v.nodes
 | .mk k m s l, n, d, h, hd => by
  have hp := (V.mk k m s l).nodes_pos
  rw [cnt, if_neg q_o, nodes] at *
  rw [deep] at hd
  have := cntL_all l (n - 1) (d - 1) q_o (by
   cases l with
   | nil => exact .inl rfl
   | cons x l => rw [if_pos (.inr (by simp))] at hd; exact .inr q_o)
  omega
theorem cntL_all : ∀ (l : List V) (n d : Int), (nodesL l : Int) ≤ n → (l = [] ∨ (deepL l : Int) ≤ d) → cntL l n d = n - nodesL l
 | [], n, d, h, _ => by rw [cntL, nodesL]; omega
 | x :: l, n, d, h, hd => by
  rw [nodesL] at h
  rcases hd with hd | hd
  · cases hd
  rw [deepL] at hd
  have h1 := cnt_all x n d q_o q_o
  rw [cntL, if_neg q_o, h1, cntL_all l _ d q_o (.inr q_o), nodesL]
  omega
end
def accI : Int → List V → Int
 | n, [] => n
 | n, x :: l => accI (if (x.deep : Int) > n then x.deep else n) l
theorem max_if (a b : Nat) : ((max a b : Nat) : Int) = if (a : Int) ≤ b then (b : Int) else a := by
 rw [Nat.max_def]; split <;> split <;> omega
theorem accI_eq : ∀ (l : List V) (n : Int), accI n l = match l with | [] => n | x :: l => max n (deepL (x :: l))
 | [], n => rfl
 | [x], n => by
  show (if (x.deep : Int) > n then (x.deep : Int) else n) = max n ((max x.deep 0 : Nat) : Int)
  rw [max_if]; split <;> split <;> omega
 | x :: y :: l, n => by
  have h := accI_eq (y :: l) (if (x.deep : Int) > n then x.deep else n)
  show accI _ (y :: l) = max n ((max x.deep (deepL (y :: l)) : Nat) : Int)
  rw [h, max_if]
  dsimp only
  split <;> split <;> omega
theorem accI_deep (k n : Int) (s : ByteArray) (l : List V) : accI (if k = 5 then 0 else -1) l + 1 = (V.mk k n s l).deep := by
 rw [accI_eq, deep]
 cases l with
 | nil =>
  by_cases h : k = 5
  · simp [h, deepL]
  · simp [h]
 | cons x l =>
  rw [if_pos (show k = 5 ∨ x :: l ≠ [] from .inr (by simp))]
  dsimp only
  split <;> omega
theorem accI_deep' (k n : Int) (s : ByteArray) (l : List V) : (if k = 5 ∨ 0 < l.length then accI 0 l + 1 else accI 0 l) = (V.mk k n s l).deep := by
 rw [accI_eq, deep]
 cases l with
 | nil =>
  by_cases h : k = 5
  · simp [h, deepL]
  · simp [h]
 | cons x l =>
  rw [if_pos (show k = 5 ∨ x :: l ≠ [] from .inr (by simp)), if_pos (show k = 5 ∨ 0 < (x :: l).length from .inr (by simp))]
  dsimp only
  omega
end V
open V in
theorem refDeepF : ∀ (N : Nat) (v : V), v.nodes ≤ N → v.nodes ≤ 4611686018427387904 → ∀ st, TrF Tryz.prog 175 [.agg v.cells] st fun x st' => x = .i v.deep ∧ st' = st
 | 0, v, h, _ => by have := v.nodes_pos; omega
 | N + 1, .mk k n0 s l, hN, hB => by
  intro st
  have IH := fun x (hx : x ∈ l) => refDeepF N x (by have := nodes_lt (k := k) (n := n0) (s := s) hx; omega) (by have := nodes_lt (k := k) (n := n0) (s := s) hx; omega)
  have hll := nodesL_len l
  have hdl := deepL_le l
  rw [nodes] at hN hB
  have hD := accI_deep k n0 s l
  generalize (V.mk k n0 s l).deep = dd at *
  rw [V.cells_mk]
  clear hN
  refine Qin [2] Tryz.func175 Tryz.results175 Tryz.ntmps175 ?_
  obtain ⟨a0, ha0⟩ : ∃ a0 : Int, (if k = 5 then (0 : Int) else -1) = a0 := ⟨_, rfl⟩
  have hab : -1 ≤ a0 ∧ a0 ≤ 0 := by rw [← ha0]; split <;> omega
  have HD := Lib.hid hD
  rw [ha0] at HD
  clear hD
  by_cases hk : k = 5
  all_goals
   simp only [hk, if_true, if_false] at ha0
   first | have hkb : (k == 5) = true := by rw [hk]; rfl
         | have hkb : (k == 5) = false := by rw [beq_eq_false_iff_ne]; exact hk
   clear hk
   subst ha0
   have IH := Lib.hid IH
   repeat' (first | refine QX ?_ | (refine QB ?_; intro b) | (with_reducible refine QZ ?_ <;> (try constructor) <;> intro hb <;> try intro hb1) | fail)
   refine tr_loop (ι := Nat × Int) (fun i A st' => i.1 ≤ l.length ∧ -1 ≤ i.2 ∧ i.2 ≤ nodesL l ∧ Hid (accI i.2 (l.drop i.1) + 1 = dd) ∧ A.df = [] ∧ A.e 1 = .ip [.i k, .i n0, .str s, .sl .shared (l.map V.cells)] ∧ A.e 3 = .i i.2 ∧ A.e 4 = .i i.1 ∧ st' = st) (fun i => l.length - i.1) (0, _) ⟨Nat.zero_le _, hab.1, by dsimp only; omega, HD.out, Qf, Qf, Qf, Qf, rfl⟩ ?_
   rintro ⟨i, m⟩ A st' ⟨hi, hm0, hmn, HT, hdf, h1', h3', h4', rfl⟩
   dsimp only at hi hm0 hmn HT h3' h4' ⊢
   by_cases hlt : i < l.length
   · obtain ⟨x, hx⟩ := gEx hlt
     have ih := IH.out x (mem_of hx)
     have hdx := deep_le x
     have hnx := nodesL_mem (mem_of hx)
     have HE := HT.out
     rw [drop_cons hx, accI] at HE
     have HE := Lib.hid HE
     generalize x.deep = dx at *
     by_cases hm' : (dx : Int) > m
     · have he := HE.out
       rw [if_pos hm'] at he
       have HE := Lib.hid he
       clear he HT IH
       repeat' (first | refine QX ?_ | (refine QB ?_; intro b) | (with_reducible refine QZ ?_ <;> (try constructor) <;> intro hb <;> try intro hb1) | refine Qc Tryz.call175 (ih _) ?_ | fail)
       refine ⟨(i + 1, dx), ⟨hlt, by dsimp only; omega, by dsimp only; omega, HE, ?_, ?_, ?_, ?_, rfl⟩, ?_⟩
       all_goals exact Qf
     · have he := HE.out
       rw [if_neg hm'] at he
       have HE := Lib.hid he
       clear he HT IH
       repeat' (first | refine QX ?_ | (refine QB ?_; intro b) | (with_reducible refine QZ ?_ <;> (try constructor) <;> intro hb <;> try intro hb1) | refine Qc Tryz.call175 (ih _) ?_ | fail)
       refine ⟨(i + 1, m), ⟨hlt, by dsimp only; omega, by dsimp only; omega, HE, ?_, ?_, ?_, ?_, rfl⟩, ?_⟩
       all_goals exact Qf
   · have he := HT.out
     rw [List.drop_eq_nil_of_le q_o, accI] at he
     clear IH HT HD
     exact WR
end
section
attribute [local push_cast] encB encI V.cells_mk V.cells_take V.cells_len
open V in
theorem valDeepF : ∀ (N : Nat) (v : V), v.nodes ≤ N → v.nodes ≤ 4611686018427387904 → ∀ st, TrF Tryz.prog 198 [.agg v.cells] st fun x st' => x = .i v.deep ∧ st' = st
 | 0, v, h, _ => by have := v.nodes_pos; omega
 | N + 1, .mk k n0 s l, hN, hB => by
  intro st
  have IH := fun x (hx : x ∈ l) => valDeepF N x (by have := nodes_lt (k := k) (n := n0) (s := s) hx; omega) (by have := nodes_lt (k := k) (n := n0) (s := s) hx; omega)
  have hll := nodesL_len l
  have hdl := deepL_le l
  rw [nodes] at hN hB
  have HD := Lib.hid (accI_deep' k n0 s l)
  generalize (V.mk k n0 s l).deep = dd at *
  rw [V.cells_mk]
  clear hN
  refine Qin [2] Tryz.func198 Tryz.results198 Tryz.ntmps198 ?_
  have IH := Lib.hid IH
  repeat' (first | refine QX ?_ | (refine QB ?_; intro b) | (with_reducible refine QZ ?_ <;> (try constructor) <;> intro hb <;> try intro hb1) | fail)
  refine tr_loopd (ι := Nat × Int) (fun i A st' => i.1 ≤ l.length ∧ 0 ≤ i.2 ∧ i.2 ≤ nodesL l ∧ Hid (accI i.2 (l.drop i.1) = accI 0 l) ∧ A.df = [] ∧ A.e 1 = .ip [.i k, .i n0, .str s, .sl .shared (l.map V.cells)] ∧ A.e 3 = .i i.2 ∧ A.e 7 = .sl .shared (l.map V.cells) ∧ A.e 8 = .i l.length ∧ A.e 9 = .i i.1 ∧ st' = st) (fun i => l.length - i.1) (0, 0) ⟨Nat.zero_le _, Int.le_refl _, by dsimp only; omega, rfl, Qf, Qf, Qf, Qf, Qf, Qf, rfl⟩ ?_
  rintro ⟨i, m⟩ A st' ⟨hi, hm0, hmn, HT, hdf, h1', h3', h7', h8', h9', rfl⟩
  dsimp only at hi hm0 hmn HT h3' h9' ⊢
  by_cases hlt : i < l.length
  · obtain ⟨x, hx⟩ := gEx hlt
    have ih := fun st => IH.out x (mem_of hx) st
    have hdx := deep_le x
    have hnx := nodesL_mem (mem_of hx)
    have HE := HT.out
    rw [drop_cons hx, accI] at HE
    have HE := Lib.hid HE
    clear IH HT HD
    cases x with
    | mk k1 n1 s1 l1 =>
     simp only [V.cells_mk] at ih
     generalize (V.mk k1 n1 s1 l1).deep = dx at *
     repeat' (first | refine QX ?_ | (refine QB ?_; intro b) | (with_reducible refine QZ ?_ <;> (try constructor) <;> intro hb <;> try intro hb1) | refine Qc Tryz.call198 (ih _) ?_ | fail)
     refine ⟨(i + 1, if (dx : Int) > m then dx else m), _, List.sublist_cons_self _ _, ⟨hlt, ?_, ?_, HE, ?_, ?_, ?_, ?_, ?_, ?_, rfl⟩, ?_⟩
     · dsimp only; split <;> omega
     · dsimp only; split <;> omega
     all_goals exact Qf
  · have he := HT.out
    rw [List.drop_eq_nil_of_le q_o, accI] at he
    have hd := HD.out
    rw [← he] at hd
    clear IH HT HD he
    by_cases hk : k = 5 ∨ 0 < l.length
    · rw [if_pos hk] at hd
      rw [← hd]
      clear hd
      rcases hk with hk | hk
      · have hkb : (k == 5) = true := by rw [hk]; rfl
        clear hk
        exact WR
      · have hk : (0 : Int) < l.length := by omega
        by_cases hk5 : k = 5
        · have hkb : (k == 5) = true := by rw [hk5]; rfl
          clear hk5
          exact WR
        · have hkb : (k == 5) = false := by rw [beq_eq_false_iff_ne]; exact hk5
          clear hk5
          exact WR
    · rw [if_neg hk] at hd
      rw [← hd]
      have hkb : (k == 5) = false := by rw [beq_eq_false_iff_ne]; intro h; exact hk (.inl h)
      have hl0 : ¬ (0 : Int) < l.length := fun h => hk (.inr q_o)
      clear hk hd
      exact WR
open V in
theorem valNodesF : ∀ (N : Nat) (v : V), v.nodes ≤ N → v.nodes ≤ 4611686018427387904 → ∀ st, TrF Tryz.prog 199 [.agg v.cells] st fun x st' => x = .i v.nodes ∧ st' = st
 | 0, v, h, _ => by have := v.nodes_pos; omega
 | N + 1, .mk k n0 s l, hN, hB => by
  intro st
  have IH := Lib.hid fun x (hx : x ∈ l) => valNodesF N x (by have := nodes_lt (k := k) (n := n0) (s := s) hx; omega) (by have := nodes_lt (k := k) (n := n0) (s := s) hx; omega)
  have hll := nodesL_len l
  rw [nodes] at hN hB
  rw [V.cells_mk, show (V.mk k n0 s l).nodes = 1 + nodesL l from nodes.eq_1 ..]
  clear hN
  obtain ⟨T, hT⟩ : ∃ T, nodesL l = T := ⟨_, rfl⟩
  rw [hT] at hll hB ⊢
  have HT0 := Lib.hid hT
  clear hT
  refine Qin [2] Tryz.func199 Tryz.results199 Tryz.ntmps199 ?_
  repeat' (first | refine QX ?_ | (refine QB ?_; intro b) | (with_reducible refine QZ ?_ <;> (try constructor) <;> intro hb <;> try intro hb1) | fail)
  refine tr_loopd (ι := Nat × Nat) (fun i A st' => i.1 ≤ l.length ∧ Hid (i.2 + nodesL (l.drop i.1) = 1 + T) ∧ i.2 ≤ 1 + T ∧ A.df = [] ∧ A.e 1 = .ip [.i k, .i n0, .str s, .sl .shared (l.map V.cells)] ∧ A.e 3 = .i i.2 ∧ A.e 7 = .sl .shared (l.map V.cells) ∧ A.e 8 = .i l.length ∧ A.e 9 = .i i.1 ∧ st' = st) (fun i => l.length - i.1) (0, 1) ⟨Nat.zero_le _, by show 1 + nodesL l = 1 + T; rw [HT0.out], by dsimp only; omega, Qf, Qf, Qf, Qf, Qf, Qf, rfl⟩ ?_
  rintro ⟨i, m⟩ A st' ⟨hi, HT, hm0, hdf, h1', h3', h7', h8', h9', rfl⟩
  dsimp only at hi HT h3' h9' hm0 ⊢
  by_cases hlt : i < l.length
  · obtain ⟨x, hx⟩ := gEx hlt
    have ih := fun st => IH.out x (mem_of hx) st
    have HE := HT.out
    rw [drop_cons hx, nodesL, ← Nat.add_assoc] at HE
    have hle : m + x.nodes ≤ 1 + T := by omega
    have HE := Lib.hid HE
    clear IH HT
    cases x with
    | mk k1 n1 s1 l1 =>
     simp only [V.cells_mk] at ih
     generalize (V.mk k1 n1 s1 l1).nodes = dx at *
     repeat' (first | refine QX ?_ | (refine QB ?_; intro b) | (with_reducible refine QZ ?_ <;> (try constructor) <;> intro hb <;> try intro hb1) | refine Qc Tryz.call199 (ih _) ?_ | fail)
     refine ⟨(i + 1, m + dx), _, List.sublist_cons_self _ _, ⟨hlt, HE, hle, ?_, ?_, ?_, ?_, ?_, ?_, rfl⟩, ?_⟩
     all_goals exact Qf
  · have he := HT.out
    rw [List.drop_eq_nil_of_le q_o, nodesL, Nat.add_zero] at he
    rw [← he]
    clear IH HT HT0 he
    exact WR
end
section
attribute [local push_cast] encB encI V.cells_mk V.cells_take V.cells_len isE_eq
namespace V
def isLetter (c : UInt8) : Bool := (decide (97 ≤ (c.toNat : Int)) && decide ((c.toNat : Int) ≤ 122)) || (decide (65 ≤ (c.toNat : Int)) && decide ((c.toNat : Int) ≤ 90))
def isOther (c : UInt8) : Bool := (decide (48 ≤ (c.toNat : Int)) && decide ((c.toNat : Int) ≤ 57)) || ((c.toNat : Int) == 95) || ((c.toNat : Int) == 45)
def nameFrom : Nat → List UInt8 → Bool
 | _, [] => true
 | i, c :: t => (isLetter c || (decide (i ≠ 0) && isOther c)) && nameFrom (i + 1) t
def isName (l : List UInt8) : Bool := decide (1 ≤ l.length) && decide (l.length ≤ 40) && nameFrom 0 l
end V
theorem letter_bits : ∀ n : Fin 256, (decide (97 ≤ bits .or .u8 (n : Int) 32) && decide (bits .or .u8 (n : Int) 32 ≤ 122)) = ((decide (97 ≤ (n : Int)) && decide ((n : Int) ≤ 122)) || (decide (65 ≤ (n : Int)) && decide ((n : Int) ≤ 90))) := by decide +kernel
theorem letter_eq (c : UInt8) : (decide (97 ≤ bits .or .u8 (c.toNat : Int) 32) && decide (bits .or .u8 (c.toNat : Int) 32 ≤ 122)) = V.isLetter c := letter_bits ⟨c.toNat, c.toNat_lt⟩
theorem valLetterF (c : UInt8) (st : St) : TrF Tryz.prog 180 [.y c] st fun x st' => x = .b (V.isLetter c) ∧ st' = st := by
 have h := letter_eq c
 generalize hq : bits .or .u8 (c.toNat : Int) 32 = q at *
 rw [← h]
 clear h
 refine Qin [2] Tryz.func180 Tryz.results180 Tryz.ntmps180 ?_
 repeat' (first | refine QX ?_ | (refine QB ?_; intro b) | (with_reducible refine QZ ?_ <;> (try constructor) <;> intro hb <;> try intro hb1) | fail)
 all_goals (refine Qret (hd := ?_); (try simp (disch := omega) only [push_cast, simprocAttr, *]); try (first | exact q_e | refine LE.of_eq ?_))
 all_goals exact Qf
namespace V
def nameC (c : UInt8) : Bool := isLetter c || isOther c
theorem nameFrom_pos : ∀ (l : List UInt8) (i : Nat), 0 < i → nameFrom i l = l.all nameC
 | [], i, _ => rfl
 | c :: t, i, h => by
  rw [nameFrom, nameFrom_pos t (i + 1) q_o, List.all_cons, nameC, show decide (i ≠ 0) = true from decide_eq_true q_o, Bool.true_and]
theorem isName_all {c : UInt8} {t : List UInt8} (h1 : (c :: t).length ≤ 40) (h2 : isLetter c = true) : isName (c :: t) = (c :: t).all nameC := by
 rw [isName, decide_eq_true h1, decide_eq_true (by simp), nameFrom, nameFrom_pos t 1 q_o, List.all_cons, nameC, h2]; simp
theorem isName_not {c : UInt8} {t : List UInt8} (h2 : isLetter c = false) : isName (c :: t) = false := by
 rw [isName, nameFrom, h2]; simp
theorem nameC_yes {c : UInt8} (h : nameC c = true) (hl : isLetter c = false) : (48 ≤ (c.toNat : Int) ∧ (c.toNat : Int) ≤ 57) ∨ (c.toNat : Int) = 95 ∨ (c.toNat : Int) = 45 := by
 rw [nameC, hl, Bool.false_or, isOther] at h
 simp only [Bool.or_eq_true, Bool.and_eq_true, decide_eq_true_eq, beq_iff_eq] at h
 omega
theorem nameC_no {c : UInt8} (h : nameC c = false) : isLetter c = false ∧ ((c.toNat : Int) < 48 ∨ 57 < (c.toNat : Int)) ∧ (c.toNat : Int) ≠ 95 ∧ (c.toNat : Int) ≠ 45 := by
 rw [nameC, Bool.or_eq_false_iff, isOther] at h
 simp only [Bool.or_eq_false_iff, Bool.and_eq_false_iff, decide_eq_false_iff_not, beq_eq_false_iff_ne, ne_eq] at h
 exact ⟨h.1, by omega, by omega, by omega⟩
end V
open V in
theorem valIsNameF (s : ByteArray) (st : St) : TrF Tryz.prog 148 [.str s] st fun x st' => x = .b (V.isName s.data.toList) ∧ st' = st := by
 have hl : s.data.toList.length = s.size := by simp
 refine Qin [2] Tryz.func148 Tryz.results148 Tryz.ntmps148 ?_
 by_cases h0 : s.size = 0
 · have : s.data.toList = [] := List.eq_nil_of_length_eq_zero q_o
   rw [this]
   clear this
   exact WR
 by_cases h40 : 40 < s.size
 · have : isName s.data.toList = false := by rw [isName, decide_eq_false (show ¬ s.data.toList.length ≤ 40 by omega)]; simp
   rw [this]
   clear this
   exact WR
 obtain ⟨c, t, hct⟩ : ∃ c t, s.data.toList = c :: t := by
  cases h : s.data.toList with
  | nil => rw [h] at hl; simp at hl; omega
  | cons c t => exact ⟨c, t, rfl⟩
 have hc0 : s.data.toList[0]? = some c := by rw [hct]; rfl
 by_cases hc : isLetter c = true
 · have HN := Lib.hid (isName_all (c := c) (t := t) (by rw [← hct]; omega) hc)
   rw [← hct] at HN
   clear hct
   obtain ⟨B, hB⟩ : ∃ B, isName s.data.toList = B := ⟨_, rfl⟩
   rw [hB] at HN ⊢
   clear hB
   repeat' (first | refine QX ?_ | (refine QB ?_; intro b) | (with_reducible refine QZ ?_ <;> (try constructor) <;> intro hb <;> try intro hb1) | refine Qc Tryz.call180 (valLetterF _ _) ?_ | fail)
   refine tr_loop (ι := Nat) (fun i A st' => i ≤ s.size ∧ Hid (B = (s.data.toList.drop i).all nameC) ∧ A.df = [] ∧ A.e 0 = .str s ∧ A.e 19 = .i s.size ∧ A.e 20 = .i i ∧ st' = st) (fun i => s.size - i) 0 ⟨Nat.zero_le _, HN, Qf, Qf, Qf, Qf, rfl⟩ ?_
   rintro i A st' ⟨hi, HT, hdf, h1', h2', h3', rfl⟩
   clear HN hc0
   by_cases hlt : i < s.size
   · obtain ⟨x, hx⟩ := gEx (l := s.data.toList) (i := i) q_o
     have HE := HT.out
     rw [drop_cons hx, List.all_cons] at HE
     by_cases hnc : nameC x = true
     · rw [hnc, Bool.true_and] at HE
       have HE := Lib.hid HE
       clear HT
       by_cases hL : isLetter x = true
       · clear hnc hc
         repeat' (first | refine QX ?_ | (refine QB ?_; intro b) | (with_reducible refine QZ ?_ <;> (try constructor) <;> intro hb <;> try intro hb1) | refine Qc Tryz.call180 (valLetterF _ _) ?_ | fail)
         refine ⟨i + 1, ⟨hlt, HE, ?_, ?_, ?_, ?_, rfl⟩, ?_⟩
         all_goals exact Qf
       · have hL' : isLetter x = false := by simpa using hL
         have hq := nameC_yes hnc hL'
         clear hnc hL hc
         repeat' (first | refine QX ?_ | (refine QB ?_; intro b) | (with_reducible refine QZ ?_ <;> (try constructor) <;> intro hb <;> try intro hb1) | refine Qc Tryz.call180 (valLetterF _ _) ?_ | fail)
         all_goals
          refine ⟨i + 1, ⟨hlt, HE, ?_, ?_, ?_, ?_, rfl⟩, ?_⟩
          all_goals exact Qf
     · obtain ⟨hL, hq⟩ := nameC_no (show nameC x = false by simpa using hnc)
       rw [show nameC x = false by simpa using hnc, Bool.false_and] at HE
       rw [HE]
       clear HE HT hnc hc
       repeat' (first | refine QX ?_ | (refine QB ?_; intro b) | (with_reducible refine QZ ?_ <;> (try constructor) <;> intro hb <;> try intro hb1) | refine Qc Tryz.call180 (valLetterF _ _) ?_ | fail)
       all_goals exact Qret
   · have HE := HT.out
     rw [List.drop_eq_nil_of_le q_o] at HE
     rw [HE, List.all_nil]
     clear HE HT hc
     repeat' (first | refine QX ?_ | (refine QB ?_; intro b) | (with_reducible refine QZ ?_ <;> (try constructor) <;> intro hb <;> try intro hb1) | refine Qc Tryz.call180 (valLetterF _ _) ?_ | fail)
     all_goals exact Qret
 · have : isName s.data.toList = false := by rw [hct]; exact isName_not (by simpa using hc)
   have hc' : isLetter c = false := by simpa using hc
   rw [this]
   clear this hct hc
   repeat' (first | refine QX ?_ | (refine QB ?_; intro b) | (with_reducible refine QZ ?_ <;> (try constructor) <;> intro hb <;> try intro hb1) | refine Qc Tryz.call180 (valLetterF _ _) ?_ | fail)
   all_goals exact Qret
end
section
attribute [local push_cast] encB encI V.cells_mk V.cells_take V.cells_len isE_eq
open V in
theorem refIsNameF (s : ByteArray) (st : St) : TrF Tryz.prog 89 [.str s] st fun x st' => x = .b (V.isName s.data.toList) ∧ st' = st := by
 have hl : s.data.toList.length = s.size := by simp
 refine Qin [2] Tryz.func89 Tryz.results89 Tryz.ntmps89 ?_
 obtain ⟨B, hB⟩ : ∃ B, isName s.data.toList = B := ⟨_, rfl⟩
 have HB := Lib.hid hB
 rw [hB]
 clear hB
 by_cases h0 : s.size < 1
 · have := HB.out
   rw [isName, decide_eq_false (show ¬ 1 ≤ s.data.toList.length by omega)] at this
   rw [← this]
   clear this hl HB
   exact WR
 by_cases h40 : 40 < s.size
 · have := HB.out
   rw [isName, decide_eq_false (show ¬ s.data.toList.length ≤ 40 by omega)] at this
   rw [← this, Bool.and_false, Bool.false_and]
   clear this hl HB
   exact WR
 have HN : Hid (B = nameFrom 0 (s.data.toList.drop 0)) := by
  show _ = _
  rw [← HB.out, isName, decide_eq_true (show s.data.toList.length ≤ 40 by omega), decide_eq_true (show 1 ≤ s.data.toList.length by omega)]; rfl
 clear HB
 repeat' (first | refine QX ?_ | (refine QB ?_; intro b) | (with_reducible refine QZ ?_ <;> (try constructor) <;> intro hb <;> try intro hb1) | fail)
 refine tr_loop (ι := Nat) (fun i A st' => i ≤ s.size ∧ Hid (B = nameFrom i (s.data.toList.drop i)) ∧ A.df = [] ∧ A.e 0 = .str s ∧ A.e 3 = .i i ∧ st' = st) (fun i => s.size - i) 0 ⟨Nat.zero_le _, HN, Qf, Qf, Qf, rfl⟩ ?_
 rintro i A st' ⟨hi, HT, hdf, h1', h3', rfl⟩
 clear HN
 by_cases hlt : i < s.size
 · obtain ⟨x, hx⟩ := gEx (l := s.data.toList) (i := i) q_o
   have HE := HT.out
   rw [drop_cons hx, nameFrom] at HE
   have hx2 := x.toNat_lt
   obtain ⟨R, hR⟩ : ∃ R, nameFrom (i + 1) (List.drop (i + 1) s.data.toList) = R := ⟨_, rfl⟩
   rw [hR] at HE
   have hR := Lib.hid hR
   clear HT
   by_cases hL : (97 ≤ (x.toNat : Int) ∧ (x.toNat : Int) ≤ 122) ∨ (65 ≤ (x.toNat : Int) ∧ (x.toNat : Int) ≤ 90)
   · have hl2 : isLetter x = true := by unfold isLetter; simp only [Bool.or_eq_true, Bool.and_eq_true, decide_eq_true_eq]; exact hL
     rw [hl2, Bool.true_or, Bool.true_and, ← hR.out] at HE
     have HE := Lib.hid HE
     clear hl2
     repeat' (first | refine QX ?_ | (refine QB ?_; intro b) | (with_reducible refine QZ ?_ <;> (try constructor) <;> intro hb <;> try intro hb1) | fail)
     all_goals
      refine ⟨i + 1, ⟨hlt, HE, ?_, ?_, ?_, rfl⟩, ?_⟩
      all_goals exact Qf
   · have hl2 : isLetter x = false := by unfold isLetter; simp only [Bool.or_eq_false_iff, Bool.and_eq_false_iff, decide_eq_false_iff_not]; omega
     rw [hl2, Bool.false_or] at HE
     clear hl2
     by_cases hO : i ≠ 0 ∧ ((48 ≤ (x.toNat : Int) ∧ (x.toNat : Int) ≤ 57) ∨ (x.toNat : Int) = 95 ∨ (x.toNat : Int) = 45)
     · have hO2 : isOther x = true := by unfold isOther; simp only [Bool.or_eq_true, Bool.and_eq_true, decide_eq_true_eq, beq_iff_eq]; omega
       rw [hO2, decide_eq_true hO.1, Bool.true_and, Bool.true_and, ← hR.out] at HE
       have HE := Lib.hid HE
       clear hO2
       obtain ⟨hi0, hO⟩ := hO
       have hi0' : (0 : Int) < i := by omega
       repeat' (first | refine QX ?_ | (refine QB ?_; intro b) | (with_reducible refine QZ ?_ <;> (try constructor) <;> intro hb <;> try intro hb1) | fail)
       all_goals
        refine ⟨i + 1, ⟨hlt, HE, ?_, ?_, ?_, rfl⟩, ?_⟩
        all_goals exact Qf
     · have hO2 : (decide (i ≠ 0) && isOther x) = false := by
        unfold isOther
        rw [Bool.and_eq_false_iff]
        by_cases hi0 : i = 0
        · exact .inl (decide_eq_false q_o)
        · refine .inr ?_
          simp only [Bool.or_eq_false_iff, Bool.and_eq_false_iff, decide_eq_false_iff_not, beq_eq_false_iff_ne, ne_eq]; omega
       rw [hO2, Bool.false_and] at HE
       rw [HE]
       clear HE hO2 hR
       have hO' : (i : Int) = 0 ∨ ((x.toNat : Int) < 48 ∨ 57 < (x.toNat : Int)) ∧ (x.toNat : Int) ≠ 95 ∧ (x.toNat : Int) ≠ 45 := by omega
       clear hO
       exact WR
 · have HE := HT.out
   rw [List.drop_eq_nil_of_le q_o, nameFrom] at HE
   rw [HE]
   clear HE HT
   exact WR
end
namespace UtfL
def u (n : Nat) : UInt8 := UInt8.ofNat n
def isCodeN (c : Nat) : Bool := decide (c ≤ 1114111 ∧ (c < 55296 ∨ 57343 < c))
def isCode (c : Int) : Bool := decide (0 ≤ c) && isCodeN c.toNat
def longN (c : Nat) : Nat := if c < 128 then 1 else if c < 2048 then 2 else if c < 65536 then 3 else 4
def putN (c : Nat) : List UInt8 :=
 if c < 128 then [u c] else if c < 2048 then [u (192 + c / 64), u (128 + c % 64)]
 else if c < 65536 then [u (224 + c / 4096), u (128 + c / 64 % 64), u (128 + c % 64)]
 else [u (240 + c / 262144), u (128 + c / 4096 % 64), u (128 + c / 64 % 64), u (128 + c % 64)]
def put (c : Int) : List UInt8 := if isCode c then putN c.toNat else []
def first (x : Nat) : Nat × Nat :=
 if x < 128 then (1, x) else if 192 ≤ x ∧ x < 224 then (2, x % 32) else if 224 ≤ x ∧ x < 240 then (3, x % 16) else if 240 ≤ x ∧ x < 248 then (4, x % 8) else (0, 0)
def cont : Nat → List UInt8 → Option Nat
 | c, [] => some c
 | c, x :: r => if x.toNat / 64 = 2 then cont (c * 64 + x.toNat % 64) r else none
def getL : List UInt8 → Option (Nat × Nat)
 | [] => none
 | x :: r =>
  if (first x.toNat).1 = 0 ∨ r.length + 1 < (first x.toNat).1 then none
  else match cont (first x.toNat).2 (r.take ((first x.toNat).1 - 1)) with
   | none => none
   | some c => if isCodeN c && longN c == (first x.toNat).1 then some (c, (first x.toNat).1) else none
def getAt (b : List UInt8) (at_ : Int) : Option (Nat × Nat) := if 0 ≤ at_ ∧ at_ < b.length then getL (b.drop at_.toNat) else none
theorem u_toNat {n : Nat} (h : n < 256) : (u n).toNat = n := by rw [u, UInt8.toNat_ofNat']; omega
theorem u_eq {n : Nat} {x : UInt8} (h : n = x.toNat) : u n = x := by
 apply UInt8.toNat_inj.1
 rw [h, u_toNat x.toNat_lt]
theorem putN_len (c : Nat) : (putN c).length = longN c := by unfold putN longN; (repeat' split) <;> rfl
theorem longN_pos (c : Nat) : 1 ≤ longN c ∧ longN c ≤ 4 := by unfold longN; (repeat' split) <;> omega
theorem get_of_put {c : Nat} (h : isCodeN c = true) (r : List UInt8) : getL (putN c ++ r) = some (c, longN c) := by
 have hc : c ≤ 1114111 := by simp only [isCodeN, decide_eq_true_eq] at h; exact h.1
 by_cases c1 : c < 128
 · have e : putN c = [u c] := by simp [putN, c1]
   have hf : first (u c).toNat = (1, c) := by rw [u_toNat q_o]; simp [first, c1]
   have hl : longN c = 1 := by simp [longN, c1]
   rw [e, List.singleton_append, getL, hf]
   simp [cont, h, hl]
 · by_cases c2 : c < 2048
   · have e : putN c = [u (192 + c / 64), u (128 + c % 64)] := by simp [putN, c1, c2]
     have h0 := u_toNat (n := 192 + c / 64) q_o
     have h1 := u_toNat (n := 128 + c % 64) q_o
     have hf : first (u (192 + c / 64)).toNat = (2, c / 64) := by
      rw [h0, first, if_neg q_o, if_pos q_o]; congr 1; omega
     have hl : longN c = 2 := by simp [longN, c1, c2]
     have hco : cont (c / 64) [u (128 + c % 64)] = some c := by
      rw [cont, h1, if_pos q_o, cont]; congr 1; omega
     rw [e]
     show getL (u (192 + c / 64) :: (u (128 + c % 64) :: r)) = _
     rw [getL, hf]
     simp [hco, h, hl]
   · by_cases c3 : c < 65536
     · have e : putN c = [u (224 + c / 4096), u (128 + c / 64 % 64), u (128 + c % 64)] := by simp [putN, c1, c2, c3]
       have h0 := u_toNat (n := 224 + c / 4096) q_o
       have h1 := u_toNat (n := 128 + c / 64 % 64) q_o
       have h2 := u_toNat (n := 128 + c % 64) q_o
       have hf : first (u (224 + c / 4096)).toNat = (3, c / 4096) := by
        rw [h0, first, if_neg q_o, if_neg q_o, if_pos q_o]; congr 1; omega
       have hl : longN c = 3 := by simp [longN, c1, c2, c3]
       have hco : cont (c / 4096) [u (128 + c / 64 % 64), u (128 + c % 64)] = some c := by
        rw [cont, h1, if_pos q_o, cont, h2, if_pos q_o, cont]; congr 1; omega
       rw [e]
       show getL (u (224 + c / 4096) :: (u (128 + c / 64 % 64) :: (u (128 + c % 64) :: r))) = _
       rw [getL, hf]
       simp [hco, h, hl]
     · have e : putN c = [u (240 + c / 262144), u (128 + c / 4096 % 64), u (128 + c / 64 % 64), u (128 + c % 64)] := by simp [putN, c1, c2, c3]
       have h0 := u_toNat (n := 240 + c / 262144) q_o
       have h1 := u_toNat (n := 128 + c / 4096 % 64) q_o
       have h2 := u_toNat (n := 128 + c / 64 % 64) q_o
       have h3 := u_toNat (n := 128 + c % 64) q_o
       have hf : first (u (240 + c / 262144)).toNat = (4, c / 262144) := by
        rw [h0, first, if_neg q_o, if_neg q_o, if_neg q_o, if_pos q_o]; congr 1; omega
       have hl : longN c = 4 := by simp [longN, c1, c2, c3]
       have hco : cont (c / 262144) [u (128 + c / 4096 % 64), u (128 + c / 64 % 64), u (128 + c % 64)] = some c := by
        rw [cont, h1, if_pos q_o, cont, h2, if_pos q_o, cont, h3, if_pos q_o, cont]; congr 1; omega
       rw [e]
       show getL (u (240 + c / 262144) :: (u (128 + c / 4096 % 64) :: (u (128 + c / 64 % 64) :: (u (128 + c % 64) :: r)))) = _
       rw [getL, hf]
       simp [hco, h, hl]
theorem put_of_get {l : List UInt8} {c n : Nat} (h : getL l = some (c, n)) : isCodeN c = true ∧ n = longN c ∧ ∃ r, l = putN c ++ r := by
 cases l with
 | nil => cases h
 | cons x r =>
  rw [getL] at h
  split at h
  · cases h
  · rename_i hn
    cases hco : cont (first x.toNat).2 (r.take ((first x.toNat).1 - 1)) with
    | none => rw [hco] at h; cases h
    | some c' =>
     rw [hco] at h
     dsimp only at h
     split at h
     · rename_i hok
       simp only [Option.some.injEq, Prod.mk.injEq] at h
       obtain ⟨rfl, rfl⟩ := h
       simp only [Bool.and_eq_true, beq_iff_eq] at hok
       obtain ⟨hcode, hlong⟩ := hok
       refine ⟨hcode, hlong.symm, ?_⟩
       have hx := x.toNat_lt
       have hF : (x.toNat < 128 ∧ first x.toNat = (1, x.toNat)) ∨ ((192 ≤ x.toNat ∧ x.toNat < 224) ∧ first x.toNat = (2, x.toNat % 32)) ∨ ((224 ≤ x.toNat ∧ x.toNat < 240) ∧ first x.toNat = (3, x.toNat % 16)) ∨
        ((240 ≤ x.toNat ∧ x.toNat < 248) ∧ first x.toNat = (4, x.toNat % 8)) ∨ first x.toNat = (0, 0) := by
        unfold first
        by_cases q1 : x.toNat < 128
        · exact .inl ⟨q1, by rw [if_pos q1]⟩
        · rw [if_neg q1]
          by_cases q2 : 192 ≤ x.toNat ∧ x.toNat < 224
          · exact .inr (.inl ⟨q2, by rw [if_pos q2]⟩)
          · rw [if_neg q2]
            by_cases q3 : 224 ≤ x.toNat ∧ x.toNat < 240
            · exact .inr (.inr (.inl ⟨q3, by rw [if_pos q3]⟩))
            · rw [if_neg q3]
              by_cases q4 : 240 ≤ x.toNat ∧ x.toNat < 248
              · exact .inr (.inr (.inr (.inl ⟨q4, by rw [if_pos q4]⟩)))
              · exact .inr (.inr (.inr (.inr (by rw [if_neg q4]))))
       rcases hF with ⟨hr, hf⟩ | ⟨hr, hf⟩ | ⟨hr, hf⟩ | ⟨hr, hf⟩ | hf
       all_goals rw [hf] at hn hco hlong; dsimp only at hn hco hlong
       · simp [cont] at hco
         subst hco
         refine ⟨r, ?_⟩
         rw [putN, if_pos hr, u_eq rfl]; rfl
       · match r, hn with
         | y :: r', _ =>
          have hy := y.toNat_lt
          simp only [Nat.reduceSub, List.take_succ_cons, List.take_zero, cont] at hco
          split at hco
          · rename_i g1
            injection hco with hco
            have c1 : ¬ c' < 128 := fun q => by simp [longN, q] at hlong
            have c2 : c' < 2048 := by omega
            refine ⟨r', ?_⟩
            rw [putN, if_neg c1, if_pos c2, u_eq (x := x) q_o, u_eq (x := y) q_o]; rfl
          · cases hco
         | [], hn => exact absurd (by simp) hn
       · match r, hn with
         | y :: z :: r', _ =>
          have hy := y.toNat_lt
          have hz := z.toNat_lt
          simp only [Nat.reduceSub, List.take_succ_cons, List.take_zero, cont] at hco
          split at hco
          · rename_i g1
            split at hco
            · rename_i g2
              injection hco with hco
              have c1 : ¬ c' < 128 := fun q => by simp [longN, q] at hlong
              have c2 : ¬ c' < 2048 := fun q => by simp [longN, c1, q] at hlong
              have c3 : c' < 65536 := by omega
              refine ⟨r', ?_⟩
              rw [putN, if_neg c1, if_neg c2, if_pos c3, u_eq (x := x) q_o, u_eq (x := y) q_o, u_eq (x := z) q_o]; rfl
            · cases hco
          · cases hco
         | [_], hn => exact absurd (by simp) hn
         | [], hn => exact absurd (by simp) hn
       · match r, hn with
         | y :: z :: t :: r', _ =>
          have hy := y.toNat_lt
          have hz := z.toNat_lt
          have ht := t.toNat_lt
          simp only [Nat.reduceSub, List.take_succ_cons, List.take_zero, cont] at hco
          split at hco
          · rename_i g1
            split at hco
            · rename_i g2
              split at hco
              · rename_i g3
                injection hco with hco
                have c1 : ¬ c' < 128 := fun q => by simp [longN, q] at hlong
                have c2 : ¬ c' < 2048 := fun q => by simp [longN, c1, q] at hlong
                have c3 : ¬ c' < 65536 := fun q => by simp [longN, c1, c2, q] at hlong
                refine ⟨r', ?_⟩
                rw [putN, if_neg c1, if_neg c2, if_neg c3, u_eq (x := x) q_o, u_eq (x := y) q_o, u_eq (x := z) q_o, u_eq (x := t) q_o]; rfl
              · cases hco
            · cases hco
          · cases hco
         | [_, _], hn => exact absurd (by simp) hn
         | [_], hn => exact absurd (by simp) hn
         | [], hn => exact absurd (by simp) hn
       · exact absurd (.inl rfl) hn
     · cases h
theorem get_len {l : List UInt8} {c n : Nat} (h : getL l = some (c, n)) : 1 ≤ n ∧ n ≤ 4 ∧ n ≤ l.length := by
 obtain ⟨_, rfl, r, rfl⟩ := put_of_get h
 have := longN_pos c
 rw [List.length_append, putN_len]
 omega
theorem get_take {l : List UInt8} {c n : Nat} (h : getL l = some (c, n)) : l.take n = putN c := by
 obtain ⟨_, rfl, r, rfl⟩ := put_of_get h
 rw [← putN_len, List.take_left]
end UtfL
section
attribute [local push_cast] encB encI
open Go.RowKit UtfL
def getD' (r : Option (Nat × Nat)) : D := match r with
 | some (c, n) => .tup [.i c, .i n, .b true]
 | none => .tup [.i 0, .i 0, .b false]
theorem utfCodeF (c : Int) (st : St) : TrF Tryz.prog 242 [.i c] st fun d st' => d = .b (isCode c) ∧ st' = st := by
 have hc : isCode c = decide ((0 ≤ c ∧ c < 55296) ∨ (57343 < c ∧ c ≤ 1114111)) := by
  unfold isCode isCodeN
  rw [← Bool.decide_and]
  congr 1
  apply propext
  omega
 have H : c < 0 ∨ (0 ≤ c ∧ c < 55296) ∨ (55296 ≤ c ∧ c ≤ 57343) ∨ (57343 < c ∧ c ≤ 1114111) ∨ 1114111 < c := by omega
 obtain ⟨q, hq⟩ : ∃ q, isCode c = q := ⟨_, rfl⟩
 rw [hq] at hc ⊢
 clear hq
 rcases H with h | ⟨h1, h2⟩ | ⟨h1, h2⟩ | ⟨h1, h2⟩ | h
 all_goals (
  first | replace hc := hc.trans (decide_eq_false q_o) | replace hc := hc.trans (decide_eq_true q_o)
  subst hc
  first | have d1 := decide_eq_false (show ¬ 57343 < c by omega) | have d1 := decide_eq_true (show 57343 < c by omega)
  first | have d2 := decide_eq_false (show ¬ c < 55296 by omega) | have d2 := decide_eq_true (show c < 55296 by omega)
  first | have d3 := decide_eq_false (show ¬ c ≤ 1114111 by omega) | have d3 := decide_eq_true (show c ≤ 1114111 by omega)
  refine Qin [2] Tryz.func242 Tryz.results242 Tryz.ntmps242 ?_
  exact WR)
def longHd (c : Int) : Int := if c < 128 then 0 else if c < 2048 then 192 else if c < 65536 then 224 else 240
theorem utfLongF (c : Int) (st : St) : TrF Tryz.prog 241 [.i c] st fun d st' => d = .tup [.i (longN c.toNat : Nat), .i (longHd c)] ∧ st' = st := by
 have H : ∃ (n : Nat) (h : Int), (longN c.toNat = n ∧ longHd c = h) ∧ ((c < 128 ∧ n = 1 ∧ h = 0) ∨ (128 ≤ c ∧ c < 2048 ∧ n = 2 ∧ h = 192) ∨ (2048 ≤ c ∧ c < 65536 ∧ n = 3 ∧ h = 224) ∨ (65536 ≤ c ∧ n = 4 ∧ h = 240)) := by
  unfold longN longHd
  (repeat' split) <;> first | exact ⟨_, _, ⟨rfl, rfl⟩, by omega⟩ | (exfalso; omega)
 obtain ⟨n, h, ⟨hn, hh⟩, H⟩ := H
 rw [hn, hh]
 clear hn hh
 rcases H with ⟨h, rfl, rfl⟩ | ⟨h1, h2, rfl, rfl⟩ | ⟨h1, h2, rfl, rfl⟩ | ⟨h, rfl, rfl⟩
 all_goals (
  refine Qin [2,3] Tryz.func241 Tryz.results241 Tryz.ntmps241 ?_
  exact WR)
theorem utfFirstF (x : UInt8) (st : St) : TrF Tryz.prog 240 [.y x] st fun d st' => d = .tup [.i (first x.toNat).1, .i (first x.toNat).2] ∧ st' = st := by
 have hx : x.toNat < 256 := x.toNat_lt
 have h1 : bits .and .u8 (x.toNat : Int) 31 = ((x.toNat % 32 : Nat) : Int) := by rw [← Nat.and_two_pow_sub_one_eq_mod _ 5]; exact u8_and_nat x.toNat 31 hx (by decide)
 have h2 : bits .and .u8 (x.toNat : Int) 15 = ((x.toNat % 16 : Nat) : Int) := by rw [← Nat.and_two_pow_sub_one_eq_mod _ 4]; exact u8_and_nat x.toNat 15 hx (by decide)
 have h3 : bits .and .u8 (x.toNat : Int) 7 = ((x.toNat % 8 : Nat) : Int) := by rw [← Nat.and_two_pow_sub_one_eq_mod _ 3]; exact u8_and_nat x.toNat 7 hx (by decide)
 have H : ∃ n c : Nat, first x.toNat = (n, c) ∧ ((x.toNat < 128 ∧ n = 1 ∧ c = x.toNat) ∨ (192 ≤ x.toNat ∧ x.toNat < 224 ∧ n = 2 ∧ c = x.toNat % 32) ∨ (224 ≤ x.toNat ∧ x.toNat < 240 ∧ n = 3 ∧ c = x.toNat % 16) ∨ (240 ≤ x.toNat ∧ x.toNat < 248 ∧ n = 4 ∧ c = x.toNat % 8) ∨ (128 ≤ x.toNat ∧ x.toNat < 192 ∧ n = 0 ∧ c = 0) ∨ (248 ≤ x.toNat ∧ n = 0 ∧ c = 0)) := by
  unfold first
  (repeat' split) <;> exact ⟨_, _, rfl, by omega⟩
 obtain ⟨n, c, hf, H⟩ := H
 rw [hf]
 clear hf
 unfold D.y
 generalize x.toNat = X at *
 rcases H with ⟨h, rfl, rfl⟩ | ⟨h, h', rfl, rfl⟩ | ⟨h, h', rfl, rfl⟩ | ⟨h, h', rfl, rfl⟩ | ⟨h, h', rfl, rfl⟩ | ⟨h, rfl, rfl⟩
 all_goals (
  refine Qin [2,3] Tryz.func240 Tryz.results240 Tryz.ntmps240 ?_
  exact WR)
end
section
attribute [local push_cast] getD' encB encI
open Go.RowKit UtfL
namespace UtfL
theorem cont_snoc (x : UInt8) : ∀ (c : Nat) (r : List UInt8), cont c (r ++ [x]) = (cont c r).bind fun d => if x.toNat / 64 = 2 then some (d * 64 + x.toNat % 64) else none
 | c, [] => by simp [cont]
 | c, y :: r => by
  rw [List.cons_append, cont, cont]
  split
  · exact cont_snoc x _ r
  · rfl
theorem cont_bad (x : UInt8) (h : ¬ x.toNat / 64 = 2) : ∀ (c : Nat) (r s : List UInt8), cont c (r ++ x :: s) = none
 | c, [], s => by simp [cont, h]
 | c, y :: r, s => by
  rw [List.cons_append, cont]
  split
  · exact cont_bad x h _ r s
  · rfl
theorem first_lt {x n c : Nat} (h : first x = (n, c)) (hx : x < 256) : n ≤ 4 ∧ (n = 1 → c < 128) ∧ (2 ≤ n → c < 32) := by
 unfold first at h
 (repeat' split at h) <;> cases h <;> omega
theorem not63 {x : Nat} (hx : x < 256) : bits BinOp.andNot IntKind.u8 (x : Int) 63 = (((x / 64) * 64 : Nat) : Int) := by
 have h : ∀ x : Fin 256, (x.1 &&& 192 = x.1 / 64 * 64) := by decide +kernel
 rw [← h ⟨x, hx⟩]
 exact u8_andNot_nat x 63 hx (by decide)
end UtfL
theorem utfGetF (o : Own) (b : List UInt8) (hb : b.length ≤ 4611686018427387904) (at_ : Int) (st : St) : TrF Tryz.prog 239 [.sl o (b.map encB), .i at_] st fun d st' => d = getD' (getAt b at_) ∧ st' = st := by
 have hm : (b.map encB).length = b.length := List.length_map ..
 have hc : Hid (∀ (i : Nat) (x : UInt8), b[i]? = some x → (b.map encB)[i]? = some [.y x]) := fun i x h => by rw [List.getElem?_map, h]; rfl
 by_cases hin : 0 ≤ at_ ∧ at_ < b.length
 case neg =>
  have hR : getAt b at_ = none := if_neg hin
  rw [hR]
  clear hc hR
  generalize b.map encB = LB at *
  by_cases q : at_ < 0
  · refine Qin [4,5,6] Tryz.func239 Tryz.results239 Tryz.ntmps239 ?_
    exact WRa
  · have q2 : (b.length : Int) ≤ at_ := by omega
    refine Qin [4,5,6] Tryz.func239 Tryz.results239 Tryz.ntmps239 ?_
    exact WRa
 case pos =>
 obtain ⟨g1, g2⟩ := hin
 obtain ⟨k, rfl⟩ := Int.eq_ofNat_of_zero_le g1
 have hk : k < b.length := by omega
 obtain ⟨x, hx⟩ := gEx hk
 have hx1 := hc.out k x hx
 have hd : b.drop k = x :: b.drop (k + 1) := by
  obtain ⟨h2, rfl⟩ := List.getElem?_eq_some_iff.1 hx
  exact List.drop_eq_getElem_cons h2
 obtain ⟨n, c0, hf⟩ : ∃ n c, first x.toNat = (n, c) := ⟨_, _, rfl⟩
 have hF := utfFirstF x
 rw [hf] at hF
 have hbd := first_lt hf x.toNat_lt
 obtain ⟨R, hR⟩ : ∃ R, getAt b (k : Int) = R := ⟨_, rfl⟩
 rw [hR]
 rw [getAt, if_pos ⟨g1, g2⟩, Int.toNat_natCast, hd, getL, hf] at hR
 dsimp only at hR
 have hdl : (b.drop (k + 1)).length = b.length - (k + 1) := List.length_drop
 rw [hdl] at hR
 clear hd hf hx
 dsimp only at hF
 replace hF := Lib.hid hF
 by_cases hn : n = 0 ∨ b.length - (k + 1) + 1 < n
 · rw [if_pos hn] at hR
   subst hR
   clear hc hdl
   generalize b.map encB = LB at *
   rcases hn with rfl | hn
   · refine Qin [4,5,6] Tryz.func239 Tryz.results239 Tryz.ntmps239 ?_
     exact WRa
   · have h2 : ¬ n = 0 := by omega
     have h3 : ((n : Int) == 0) = false := beq_eq_false_iff_ne.2 q_o
     have h4 : (b.length : Int) - k < n := by omega
     refine Qin [4,5,6] Tryz.func239 Tryz.results239 Tryz.ntmps239 ?_
     exact WRa
 rw [if_neg hn] at hR
 obtain ⟨m, rfl⟩ : ∃ m, n = m + 1 := ⟨n - 1, by omega⟩
 rw [Nat.add_sub_cancel] at hR
 have hfit : k + 1 + m ≤ b.length := by omega
 have h3 : (((m + 1 : Nat) : Int) == 0) = false := beq_eq_false_iff_ne.2 q_o
 have h4 : ¬ (b.length : Int) - k < (m + 1 : Nat) := by omega
 obtain ⟨rest, hrest⟩ : ∃ rest, (b.drop (k + 1)).take m = rest := ⟨_, rfl⟩
 rw [hrest] at hR
 have hrl : rest.length = m := by rw [← hrest, List.length_take, List.length_drop]; omega
 have hsl : ((b.map encB).drop (k + 1)).take m = rest.map encB := by rw [← hrest, List.map_take, List.map_drop]
 have hrc : Hid (∀ (i : Nat) (x : UInt8), rest[i]? = some x → (rest.map encB)[i]? = some [.y x]) := fun i x h => by rw [List.getElem?_map, h]; rfl
 have hrm : (rest.map encB).length = rest.length := List.length_map ..
 have hall : ((b.map encB).all fun e => e.length == 1) = true := by
  rw [List.all_eq_true]
  intro e he
  obtain ⟨x, -, rfl⟩ := List.mem_map.1 he
  rfl
 have t1 : ((k : Int) + 1).toNat = k + 1 := by omega
 have t2 : ((k : Int) + ((m : Int) + 1)).toNat = k + (m + 1) := by omega
 rw [show m = k + (m + 1) - (k + 1) by omega] at hsl
 have t3 : 0 ≤ (k : Int) + 1 := by omega
 have t4 : (k : Int) + 1 ≤ (k : Int) + ((m : Int) + 1) := by omega
 have t5 : (k : Int) + ((m : Int) + 1) ≤ b.length := by omega
 clear hc hdl hn
 generalize b.map encB = LB at *
 refine Qin [4,5,6] Tryz.func239 Tryz.results239 Tryz.ntmps239 ?_
 repeat' (first | refine QX ?_ | (refine QB ?_; intro b) | (refine QP ?_; intro o' ho') | (with_reducible refine QZ ?_ <;> (try constructor) <;> intro hb <;> try intro hb1) | fail)
 refine tr_loopd (ι := Nat) (fun j A st' => j ≤ m ∧ A.df = [] ∧ A.e 7 = .i (m + 1 : Nat) ∧ A.e 45 = .sl .shared (rest.map encB) ∧ A.e 46 = .i m ∧ A.e 47 = .i j ∧ (∃ d : Nat, A.e 8 = .i d ∧ Hid (cont c0 (rest.take j) = some d) ∧ Hid (d < 128 * 64 ^ j)) ∧ st = st') (fun j => m - j) 0 ⟨Nat.zero_le _, Qf, Qf, Qf, Qf, Qf, ⟨c0, Qf, Lib.hid (by rw [List.take_zero]; rfl), Lib.hid (by rw [Nat.pow_zero]; omega)⟩, rfl⟩ ?_
 rintro j A st' ⟨hj, hdf, e7, e45, e46, e47, ⟨d, e8, hco, hdb⟩, rfl⟩
 clear hF hx1 hall hsl t1 t2 t3 t4 t5 h3 h4
 have hd2 : d < 33554432 := by
  have h1 := hdb.out
  have h2 : 64 ^ j ≤ 64 ^ 3 := Nat.pow_le_pow_right (by decide) q_o
  have h3 : 128 * 64 ^ j ≤ 128 * 64 ^ 3 := Nat.mul_le_mul_left _ h2
  omega
 by_cases hlt : j < m
 · obtain ⟨y, hy⟩ := gEx (l := rest) (i := j) q_o
   have g1 := hrc.out j y hy
   have hy2 : y.toNat < 256 := y.toNat_lt
   have hnot := not63 hy2
   have hand : bits .and .u8 (y.toNat : Int) 63 = ((y.toNat % 64 : Nat) : Int) := by rw [← Nat.and_two_pow_sub_one_eq_mod _ 6]; exact u8_and_nat y.toNat 63 hy2 (by decide)
   have hor : bits .or .i64 ((d : Int) * 64) ((y.toNat : Int) % 64) = ((d * 64 + y.toNat % 64 : Nat) : Int) := by
    have := i64_or_nat (d * 64) (y.toNat % 64) q_o q_o
    rw [nat_join 6 (d * 64) (y.toNat % 64) q_o q_o] at this
    exact this
   have hts : rest.take (j + 1) = rest.take j ++ [y] := by rw [List.take_add_one, hy, Option.toList_some]
   by_cases hg : y.toNat / 64 = 2
   · have hY : ((((y.toNat / 64 * 64 : Nat) : Int)) != 128) = false := by rw [bne_eq_false_iff_eq]; omega
     have hN : Hid (cont c0 (rest.take (j + 1)) = some (d * 64 + y.toNat % 64)) := Lib.hid (by rw [hts, cont_snoc, hco.out]; simp [hg])
     have hB : Hid (d * 64 + y.toNat % 64 < 128 * 64 ^ (j + 1)) := Lib.hid (by
      have := hdb.out
      rw [Nat.pow_succ]
      omega)
     clear hy hrc hts hco hdb hg hR hbd
     unfold D.y at g1
     generalize y.toNat / 64 * 64 = Y at *
     generalize y.toNat = X at *
     repeat' (first | refine QX ?_ | (refine QB ?_; intro b) | (refine QP ?_; intro o' ho') | (with_reducible refine QZ ?_ <;> (try constructor) <;> intro hb <;> try intro hb1) | fail)
     refine ⟨j + 1, st, q_u, ⟨hlt, ?_, ?_, ?_, ?_, ?_, ⟨_, ?_, hN, hB⟩, rfl⟩, by omega⟩
     all_goals exact Qf
   · have hY : ((((y.toNat / 64 * 64 : Nat) : Int)) != 128) = true := by rw [bne_iff_ne]; omega
     have hr0 : R = none := by
      have e : rest = rest.take j ++ y :: rest.drop (j + 1) := by
       obtain ⟨h2, rfl⟩ := List.getElem?_eq_some_iff.1 hy
       rw [List.getElem_cons_drop, List.take_append_drop]
      rw [← hR, e, cont_bad y hg]
     subst hr0
     clear hy hrc hts hco hdb hg hR hbd hor
     unfold D.y at g1
     generalize y.toNat / 64 * 64 = Y at *
     generalize y.toNat = X at *
     exact WRa
 · obtain rfl : j = m := by omega
   have hc := hco.out
   rw [List.take_of_length_le q_o] at hc
   rw [hc] at hR
   dsimp only at hR
   have hCo := utfCodeF d
   have hLo := utfLongF d
   have hcd : isCode (d : Int) = isCodeN d := by simp [isCode]
   rw [hcd] at hCo
   rw [Int.toNat_natCast] at hLo
   clear hc hco hdb hrc hcd hbd
   generalize longHd d = hd at *
   generalize isCodeN d = ic at *
   generalize longN d = ln at *
   replace hCo := Lib.hid hCo
   replace hLo := Lib.hid hLo
   cases ic with
   | false =>
    obtain rfl : R = none := by rw [← hR]; rfl
    clear hR
    exact WRa
   | true =>
    by_cases hl : ln = j + 1
    · have hl2 : ((ln : Int) != (j + 1 : Nat)) = false := by rw [bne_eq_false_iff_eq]; omega
      obtain rfl : R = some (d, j + 1) := by rw [← hR, hl]; simp
      clear hR
      subst hl
      exact WRa
    · have hl2 : ((ln : Int) != (j + 1 : Nat)) = true := by rw [bne_iff_ne]; omega
      obtain rfl : R = none := by rw [← hR]; simp [hl]
      clear hR
      exact WRa
end
namespace UtfL
def scan (p : Nat) (l : List UInt8) : List (Nat × Nat) :=
 match _h : getL l with
 | none => []
 | some (c, n) => (p + n, c) :: scan (p + n) (l.drop n)
termination_by l.length
decreasing_by
 have := get_len _h
 rw [List.length_drop]; omega
theorem scan_none {p : Nat} {l : List UInt8} (h : getL l = none) : scan p l = [] := by
 rw [scan]; split
 · rfl
 · rename_i e; rw [h] at e; cases e
theorem scan_some {p : Nat} {l : List UInt8} {c n : Nat} (h : getL l = some (c, n)) : scan p l = (p + n, c) :: scan (p + n) (l.drop n) := by
 rw [scan]; split
 · rename_i e; rw [h] at e; cases e
 · rename_i e; rw [h] at e; cases e; rfl
def lastEnd (p : Nat) (l : List (Nat × Nat)) : Nat := l.foldl (fun _ x => x.1) p
theorem lastEnd_snoc (p : Nat) (l : List (Nat × Nat)) (x : Nat × Nat) : lastEnd p (l ++ [x]) = x.1 := by simp [lastEnd]
def codesOf (b : List UInt8) : List Nat := (scan 0 b).map (·.2)
def endOf (b : List UInt8) : Nat := lastEnd 0 (scan 0 b)
def At (b : List UInt8) (pre : List (Nat × Nat)) (p : Nat) : Prop := p ≤ b.length ∧ scan 0 b = pre ++ scan p (b.drop p) ∧ p = lastEnd 0 pre
theorem At.start (b : List UInt8) : At b [] 0 := ⟨Nat.zero_le _, by simp, rfl⟩
theorem getAt_eq {b : List UInt8} {p : Nat} (hp : p ≤ b.length) : getAt b (p : Int) = getL (b.drop p) := by
 rw [getAt]
 by_cases h : p < b.length
 · rw [if_pos ⟨by omega, by omega⟩]; rfl
 · rw [if_neg q_o]
   have : p = b.length := by omega
   rw [this, List.drop_length]; rfl
theorem At.next {b : List UInt8} {pre : List (Nat × Nat)} {p c n : Nat} (h : At b pre p) (hg : getAt b (p : Int) = some (c, n)) : At b (pre ++ [(p + n, c)]) (p + n) ∧ 1 ≤ n ∧ n ≤ 4 := by
 obtain ⟨h1, h2, h3⟩ := h
 rw [getAt_eq h1] at hg
 have hl := get_len hg
 rw [List.length_drop] at hl
 refine ⟨⟨by omega, ?_, (by rw [lastEnd_snoc])⟩, hl.1, hl.2.1⟩
 rw [h2, scan_some hg, List.drop_drop, List.append_assoc]; rfl
theorem At.done {b : List UInt8} {pre : List (Nat × Nat)} {p : Nat} (h : At b pre p) (hg : getAt b (p : Int) = none) : scan 0 b = pre := by
 obtain ⟨h1, h2, h3⟩ := h
 rw [getAt_eq h1] at hg
 rw [h2, scan_none hg, List.append_nil]
theorem At.full {b : List UInt8} {pre : List (Nat × Nat)} (h : At b pre b.length) : scan 0 b = pre := by
 refine h.done ?_
 rw [getAt, if_neg q_o]
theorem scan_len : ∀ (k p : Nat) (l : List UInt8), l.length ≤ k → (scan p l).length ≤ l.length ∧ p ≤ lastEnd p (scan p l) ∧ lastEnd p (scan p l) ≤ p + l.length
 | 0, p, l, h => by
  have : l = [] := List.eq_nil_of_length_eq_zero q_o
  subst this
  rw [scan_none rfl]; simp [lastEnd]
 | k + 1, p, l, h => by
  cases hg : getL l with
  | none => rw [scan_none hg]; simp [lastEnd]
  | some q =>
   obtain ⟨c, n⟩ := q
   have hl := get_len hg
   have := scan_len k (p + n) (l.drop n) (by rw [List.length_drop]; omega)
   rw [scan_some hg]
   rw [List.length_drop] at this
   simp only [List.length_cons]
   have e : lastEnd p ((p + n, c) :: scan (p + n) (l.drop n)) = lastEnd (p + n) (scan (p + n) (l.drop n)) := rfl
   rw [e]
   omega
end UtfL
end Go.Proofs.YtgcienlfpnpbgaaGreat
