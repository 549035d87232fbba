/- Texts put together: AmArr, AmRange, AmDraw2, AmMark, SumLaw, SumWalk, SumWalk2, SumWalk3, SumWalk4, SumMake, Types, Bin06i, Feed0, SumLaw2, FeedLaw, Feed1, Feed2. No statement is proved here. -/
import Derived.Laws.OwnMore
import Derived.Laws.Cover3
import Derived.RangeFuncIn
import Derived.RangeFuncLeaves
import Derived.RangeFuncSeq
import Derived.Test.YtlmklpbekgnceaaProg
import Derived.Deep.QuietTactic
import Derived.BigQuiet
import Derived.RangeFuncCalls
import Derived.Shelf.Abstract
import Derived.TacticsInMore
import Derived.LoopNIn
import Derived.LoopIn
import Derived.Test.YtlmklpbekgnceaaZ2
set_option linter.all false
/- Rows that are made, and written place by place: steps over data. No statement is proved here. -/
section
namespace Go.Proofs.Ytlmklpbekgnceaa
set_option linter.unusedSimpArgs false
open Go.RowKit
section
variable {P : Program} {N : Nat} {r : Option Nat} {A : AA} {st : St} {Q : Exit → AA → St → Prop} {m : Option Ro} {k : D → St → Prop} {dst : Option Tmp} {ty : TypeId} {pos : String} {aft : Array Edge} {gd : Option (Nat × Bool)} {o : Oper} {w : World}
/-- What a row's type says: its elements' type, how many bytes one has, its zero (of one cell). -/
def oneT (P : Program) (t : TypeId) : Option (TypeId × Nat × Value) := (tinfo P t).bind fun ti => match ti.k with
  | .slice el 1 bytes [z] => if noAgg z && (leafD z).leaf then some (el, bytes, z) else none
  | _ => none
theorem oneT_spec {t : TypeId} {el : TypeId} {bytes : Nat} {z : Value} (h : oneT P t = some (el, bytes, z)) : P.underlying t = some (.slice el) ∧ (∃ i zv, P.info? el = some i ∧ i.zero = some zv ∧ zv.cells.toList = [z] ∧ i.size = 1 ∧ i.bytes = bytes) ∧ noAgg z = true ∧ (leafD z).leaf = true := by
  unfold oneT at h
  cases ht : tinfo P t with
  | none => rw [ht] at h; cases h
  | some ti =>
    rw [ht, Option.bind_some] at h
    split at h
    · rename_i el' bytes' z' hk
      split at h
      · rename_i hz
        cases h
        obtain ⟨hu, ii, zv, q1, q2, q3, q4, q5, q6, q7⟩ := (und_of_k ht).2.2.2.2.1 _ _ _ _ hk
        rw [Bool.and_eq_true] at hz
        exact ⟨hu, ⟨ii, zv, q1, by assumption, by assumption, by assumption, by assumption⟩, hz.1, hz.2⟩
      · cases h
    · cases h
theorem zeros_rep {O : Nat → Nat → Prop} {z : Value} (h : noAgg z = true) (n : Nat) : RepL O w (List.replicate n z) (List.replicate n (leafD z)) := by
  have := RepL.map (O := O) (w := w) (l := List.replicate n z) (f := id) (g := leafD) (fun x hx => by rw [(List.mem_replicate.1 hx).2]; exact leafD_rep h)
  rwa [List.map_id, List.map_replicate] at this
def MakK (P : Program) (m : Option Ro) (t : TypeId) (p : D × D) (st : St) (k : D → St → Prop) : Prop :=
  ∃ (kd : IntKind) (n : Nat) (el : TypeId) (bytes : Nat) (z : Value), p = (.s (.int kd n), .s (.int kd n)) ∧ oneT P t = some (el, bytes, z) ∧ n * bytes ≤ 140737488355328 ∧ n ≤ 140737488355328 ∧ ∀ g, Keep m (.box g el (List.replicate n (leafD z)) :: st) ∧ k (.ar g 0 n n) (.box g el (List.replicate n (leafD z)) :: st)
theorem s_make {t : TypeId} {x y : Operand} (h : Ev (pairX (ev A.e x) (ev A.e y)) fun p => MakK P m t p st k) : S P r m ⟨dst, .makeSlice t x y, ty, pos, aft, gd⟩ A st k := by
  obtain ⟨p, h1, kd, n, el, bytes, z, rfl, h2, h3, h4, h5⟩ := h
  unfold pairX at h1
  split at h1
  · rename_i d d' hx hy
    cases h1
    refine s_chain (R := fun d st' => ∃ g, d = .ar g 0 n n ∧ st' = .box g el (List.replicate n (leafD z)) :: st) rfl ?_ ⟨_, _, 0, rfl, rfl⟩ fun d st' ⟨g, e1, e2⟩ => by subst e1 e2; exact h5 g
    refine opC_val (by intro c hc; cases hc) fun ρ w hr hh => .inl ?_
    have hv1 := rep_s (hr _ (by simp [Op.operands]) _ hx)
    have hv2 := rep_s (hr _ (by simp [Op.operands]) _ hy)
    obtain ⟨q1, ⟨i, zv, q2, q3, q4, q5, q6⟩, q7, q8⟩ := oneT_spec h2
    have hby : (i.bytes : Int) * (n : Int) ≤ 281474976710656 := by
      rw [q6, ← Int.natCast_mul, Nat.mul_comm]; omega
    have hrun := run_make (P := P) w t el i zv q1 q2 q3 kd kd n n (by omega) (Int.le_refl _) hby (by omega)
    have hz : zv.cells = #[z] := by
      apply Array.ext'
      simpa using q4
    rw [q5, Nat.mul_one, Int.toNat_natCast, hz] at hrun
    have hcells : madeCells #[z] n = (List.replicate n z).toArray := by
      apply Array.ext'
      rw [toList_madeCells_one]
    rw [hcells] at hrun
    obtain ⟨k1, k2⟩ := new_box hh el (zeros_rep (w := w) q7 n) (fun d hd => by rw [(List.mem_replicate.1 hd).2]; exact q8)
    refine ⟨_, _, ?_, _, _, .ar w.heap.size 0 n n (Nat.le_refl _) (by unfold maxLen; omega), k1, k2, ⟨_, rfl, rfl⟩⟩
    unfold execOp
    simp only [hv1, hv2, Sem.run_bind, hrun, Result.andThen_ok, Sem.run_pure]
  · cases h1
def Mak2 (m : Option Ro) (q : TypeId × Nat × Value) (n : Nat) (st : St) (k : D → St → Prop) : Prop := (n * q.2.1 ≤ 140737488355328 ∧ n ≤ 140737488355328) ∧ ∀ g, Keep m (.box g q.1 (List.replicate n (leafD q.2.2)) :: st) ∧ k (.ar g 0 n n) (.box g q.1 (List.replicate n (leafD q.2.2)) :: st)
theorem mk_go {t : TypeId} {kd : IntKind} {n : Nat} (h : Ev (oneT P t) fun q => Mak2 m q n st k) : MakK P m t (.s (.int kd n), .s (.int kd n)) st k := by
  obtain ⟨⟨el, bytes, z⟩, h1, ⟨h2, h3⟩, h4⟩ := h
  exact ⟨kd, n, el, bytes, z, rfl, h1, h2, h3, h4⟩
theorem mk2_go {el : TypeId} {bytes n : Nat} {z : Value} {dz : D} (h1 : n * bytes ≤ 140737488355328) (h2 : n ≤ 140737488355328) (hz : leafD z = dz) (h : ∀ g, Keep m (.box g el (List.replicate n dz) :: st) ∧ k (.ar g 0 n n) (.box g el (List.replicate n dz) :: st)) : Mak2 m (el, bytes, z) n st k := by
  subst hz
  exact ⟨⟨h1, h2⟩, h⟩
/-! what is written is given up: nobody writes it any more -/
theorem chopA_len {sz : Nat} : ∀ (n : Nat) (cs : List D), (chop sz n cs).length = n
  | 0, _ => rfl
  | n + 1, cs => by rw [chop, List.length_cons, chopA_len n]
theorem chopA_each {sz : Nat} : ∀ (n : Nat) (cs : List D), n * sz ≤ cs.length → ∀ e ∈ chop sz n cs, e.length = sz
  | 0, _, _, e, he => by cases he
  | n + 1, cs, h, e, he => by
    rw [Nat.succ_mul] at h
    rw [chop] at he
    rcases List.mem_cons.1 he with rfl | he
    · rw [List.length_take]; omega
    · exact chopA_each n _ (by rw [List.length_drop]; omega) e he
theorem chopA_flat {sz : Nat} : ∀ (n : Nat) (cs : List D), n * sz ≤ cs.length → (chop sz n cs).flatten = cs.take (n * sz)
  | 0, cs, _ => by simp [chop]
  | n + 1, cs, h => by
    rw [Nat.succ_mul] at h
    rw [chop, List.flatten_cons, chopA_flat n _ (by rw [List.length_drop]; omega), Nat.succ_mul, Nat.add_comm (n * sz) sz, List.take_add]
theorem frozen (ow : Own) (how : ow = .shared ∨ ow = .tight) {g : Nat} {el : TypeId} {cs : List D} {s0 : St} {v : Value} {sz off n cap : Nat} (hh : Holds (.box g el cs :: s0) w) (hv : Rep (OwnS (.box g el cs :: s0)) w v (.ar g off n cap)) (hsz : 0 < sz) (hn : off + n * sz ≤ cs.length) (hcap : ow = .tight → cap = n) : Rep (OwnS s0) w v (.sl ow (chop sz n (cs.drop off))) := by
  cases hv with
  | ar _ _ _ _ c1 c2 =>
    obtain ⟨⟨us, hb, hr⟩, hlc⟩ := hh.2 _ (List.mem_cons_self ..)
    have he : Ext (OwnS (.box g el cs :: s0)) w (OwnS s0) w := Ext.drop (fun _ h => List.mem_cons_of_mem _ h) w
    have hr := hr.ext he
    have hd : n * sz ≤ (cs.drop off).length := by rw [List.length_drop]; omega
    have hfl := chopA_flat (sz := sz) n (cs.drop off) hd
    have hlen := chopA_len (sz := sz) n (cs.drop off)
    have hsl : us.toList.length = cs.length := hr.1
    have hrl : RepL (OwnS s0) w ((us.toList.drop off).take (n * sz)) (chop sz n (cs.drop off)).flatten := by rw [hfl]; exact (hr.drop _).take _
    have hne : ∀ o, ¬ OwnS s0 g o := fun o ho => by
      obtain ⟨x, hx, hxb, _⟩ := ho
      exact (List.pairwise_cons.1 hh.1).1 x hx g rfl hxb
    have := Rep.sl (O := OwnS s0) (w := w) ow (chop sz n (cs.drop off)) (some ⟨g, off, none⟩) cap ((us.toList.drop off).take (n * sz)) sz (by omega) c2 (fun e => by cases e) hsz (chopA_each n _ hd) hrl.1 (fun d hd' => by
      rw [hfl] at hd'
      exact hlc d (List.mem_of_mem_drop (List.mem_of_mem_take hd'))) (fun i hi => ⟨g, off, rfl, (Array.getElem?_eq_some_iff.1 hb).1, hne _, by
        rw [cell_of_row _ g (off + i) us el (0, 0) hb]
        rw [List.getElem_take, List.getElem_drop]
        simp at hi
        rw [Array.getElem?_eq_getElem (by omega)]
        simp⟩) hrl.2 (by
        rcases how with rfl | rfl
        · trivial
        · show cap = _; rw [hlen]; exact hcap rfl)
    rwa [hlen] at this
/-- The slots that are told read as a list from now on; the row is nobody's. -/
theorem tr_freeze (ow : Own) (how : ow = .shared ∨ ow = .tight) (ts : List Tmp) (sz : Nat) {c : Code} {g : Nat} {el : TypeId} {cs : List D} {s0 : St} {off n cap : Nat} (hp : st.Perm (.box g el cs :: s0)) (hsz : 0 < sz) (hn : off + n * sz ≤ cs.length) (hcap : ow = .tight → cap = n) (ht : ∀ t ∈ ts, A.e t = .ar g off n cap) (h : Tr P N r c { A with e := fun t => if t ∈ ts then .sl ow (chop sz n (cs.drop off)) else A.e t } s0 Q) : Tr P N r c A st Q := by
  refine tr_perm hp ?_
  intro a w h1 h2
  have he : Ext (OwnS (.box g el cs :: s0)) w (OwnS s0) w := Ext.drop (fun _ h => List.mem_cons_of_mem _ h) w
  refine wpIn_mono (h a w ⟨h1.1, h1.2.1, fun t => ?_⟩ (h2.sub (List.sublist_cons_self _ _))) fun _ _ _ => PostA.ext he
  show Rep _ _ _ (if t ∈ ts then _ else _)
  split
  · rename_i htm
    have := h1.2.2 t
    rw [ht t htm] at this
    exact frozen ow how h2 this hsz hn hcap
  · exact (h1.2.2 t).ext he
/-- A row of which nothing is read is a room. -/
theorem tr_reroom (ts : List Tmp) (sz : Nat) {c : Code} {g : Nat} {el : TypeId} {cs : List D} {s0 : St} {cap : Nat} (hp : st.Perm (.box g el cs :: s0)) (hsz : 0 < sz) (hn : cs.length = cap * sz) (ht : ∀ t ∈ ts, A.e t = .ar g 0 0 cap) (h : Tr P N r c { A with e := fun t => if t ∈ ts then .sl (.row g cap) [] else A.e t } (.room (.row g cap) el sz 0 :: s0) Q) : Tr P N r c A st Q := by
  refine tr_perm hp ?_
  intro a w h1 h2
  have hown : OwnS (.room (.row g cap) el sz 0 :: s0) = OwnS (.box g el cs :: s0) := by
    funext b off
    apply propext
    rw [OwnS.cons_iff, OwnS.cons_iff]
    constructor
    · rintro (⟨x1, x2⟩ | x)
      · exact .inl ⟨x1, Nat.zero_le _⟩
      · exact .inr x
    · rintro (⟨x1, x2⟩ | x)
      · exact .inl ⟨x1, by show 0 * sz ≤ off; omega⟩
      · exact .inr x
  have he : Ext (OwnS (.box g el cs :: s0)) w (OwnS (.room (.row g cap) el sz 0 :: s0)) w := by rw [hown]; exact Ext.refl _ _
  have hh : Holds (.room (.row g cap) el sz 0 :: s0) w := by
    obtain ⟨⟨us, hb, hr⟩, hlc⟩ := h2.2 _ (List.mem_cons_self ..)
    refine h2.put he (fun _ _ _ _ => rfl) ⟨us, hb, ?_, Nat.zero_le _⟩ fun x hx => (List.pairwise_cons.1 h2.1).1 x hx
    have := hr.1
    rw [Array.length_toList] at this
    omega
  refine wpIn_mono (h a w ⟨h1.1, h1.2.1, fun t => ?_⟩ hh) fun _ _ _ => PostA.ext he
  show Rep _ _ _ (if t ∈ ts then _ else _)
  split
  · rename_i htm
    have hv := h1.2.2 t
    rw [ht t htm] at hv
    generalize a.tmps.getD t undef = v at hv
    cases hv with
    | ar _ _ _ _ c1 c2 =>
      exact .sl (.row g cap) [] (some ⟨g, 0, none⟩) cap [] sz (Nat.zero_le _) c2 (fun e => by cases e) hsz (fun e h => by cases h) rfl (fun d h => by simp at h) (fun i h => absurd h (Nat.not_lt_zero _)) (fun i h => absurd h (Nat.not_lt_zero _)) ⟨rfl, rfl⟩
  · exact (h1.2.2 t).ext he
theorem tr_freezeA (ow : Own) (how : ow = .shared ∨ ow = .tight) (ts : List Tmp) (sz : Nat) {c : Code} {g : Nat} {el : TypeId} {cs : List D} {s0 : St} {off n cap : Nat} (hp : st.Perm (.box g el cs :: s0)) (hsz : 0 < sz) (hn : off + n * sz ≤ cs.length) (hcap : ow = .tight → cap = n) (ht : ∀ t ∈ ts, A.e t = .ar g off n cap) (h : ∀ A' : AA, A'.df = A.df → (∀ t ∈ ts, A'.e t = .sl ow (chop sz n (cs.drop off))) → (∀ t, ts.contains t = false → A'.e t = A.e t) → Tr P N r c A' s0 Q) : Tr P N r c A st Q :=
  tr_freeze ow how ts sz hp hsz hn hcap ht (h _ rfl (fun t ht => by show (if t ∈ ts then _ else _) = _; rw [if_pos ht]) fun t ht => by
    show (if t ∈ ts then _ else _) = _
    rw [if_neg (by simpa using ht)])
theorem tr_reroomA (ts : List Tmp) (sz : Nat) {c : Code} {g : Nat} {el : TypeId} {cs : List D} {s0 : St} {cap : Nat} (hp : st.Perm (.box g el cs :: s0)) (hsz : 0 < sz) (hn : cs.length = cap * sz) (ht : ∀ t ∈ ts, A.e t = .ar g 0 0 cap) (h : ∀ A' : AA, A'.df = A.df → (∀ t ∈ ts, A'.e t = .sl (.row g cap) []) → (∀ t, ts.contains t = false → A'.e t = A.e t) → Tr P N r c A' (.room (.row g cap) el sz 0 :: s0) Q) : Tr P N r c A st Q :=
  tr_reroom ts sz hp hsz hn ht (h _ rfl (fun t ht => by show (if t ∈ ts then _ else _) = _; rw [if_pos ht]) fun t ht => by
    show (if t ∈ ts then _ else _) = _
    rw [if_neg (by simpa using ht)])
/-- Is a list nil? Nobody knows of an empty one. -/
theorem s_isNil {t t' : TypeId} {x : Operand} {ow : Own} {es : List (List D)} {q : TypeId × Nat × Nat} (ht : sliceT P t = some q) (hx : ev A.e x = some (.sl ow es)) (hk : ∀ b : Bool, (b = true → es = []) → k (.b b) st) : S P r none ⟨dst, .binOp .eql t x (.const (.slice none 0 0)) t', ty, pos, aft, gd⟩ A st k := by
  refine opC_val (by intro c hc; cases hc) fun ρ w hr hh => .inl ?_
  have hv1 := hr _ (by simp [Op.operands]) _ hx
  have hv2 := hr.cst (.slice none 0 0)
  obtain ⟨el, sz, bytes⟩ := q
  obtain ⟨ti, z, h10, h11⟩ := sliceT_spec ht
  obtain ⟨hu, -⟩ := (und_of_k h10).2.2.2.2.1 _ _ _ _ h11
  obtain ⟨a, cap0, us, sz1, e1, c1, c2, c3, c4, c5, c6, c7, c8, c9, c10⟩ := calm_src hv1
  refine ⟨.bool a.isNone, w, ?_, _, _, .s (.bool a.isNone) rfl, hh, Ext.refl _ _, hk a.isNone fun hb => ?_⟩
  · unfold execOp
    have hrun : (binOp .eql t (.slice a es.length cap0) (.slice none 0 0)).run P w = .ok (.bool a.isNone) w := by
      simp only [binOp]
      simp [run_equal_slice_nil w t el a es.length cap0 hu]
    simp only [e1, hv2, Sem.run_bind, guard_plain .eql t x (.const (.slice none 0 0)) (.slice a es.length cap0) (.slice none 0 0) (fun u => by simp) (fun u v => by simp), hrun, Result.andThen_ok, Sem.run_pure]
  · have : a = none := by simpa using hb
    have := c8 this
    exact List.eq_nil_of_length_eq_zero (by omega)
/-- A cut ahead of one region. -/
theorem tr_cutB (id : Nat) (K : AA → St → Prop) {ops : Array Oper} {b : Bool} {x c : Code} (h1 : Tr P N r x A st (thenA K fun _ _ _ => False)) (h2 : ∀ A' st', K A' st' → Tr P N r (.seq (.region id ops b) c) A' st' Q) : Tr P N r (.seq x (.seq (.region id ops b) c)) A st Q :=
  tr_seq (tr_mono h1 fun ex A' st' h => by
    cases ex with
    | normal => exact h2 A' st' h
    | exit id => exact h.elim
    | goto l => exact h.elim
    | ret => exact h.elim
    | panic c => exact h.elim
    | outgrown => exact h.elim)
def boxC (d : D) : Option (List D) :=
  match d.cells.all D.leaf with
  | true => some d.cells
  | false => none
/-- A box that is written later: its pointer is kept. -/
theorem s_boxP {t : TypeId} {x : Operand} (h : Ev ((ev A.e x).bind boxC) fun cs => AlK none t cs st k) : S P r none ⟨dst, .box t x, ty, pos, aft, gd⟩ A st k := by
  obtain ⟨cs, h1, h2⟩ := h
  cases hx : ev A.e x with
  | none => rw [hx] at h1; cases h1
  | some d =>
    rw [hx, Option.bind_some] at h1
    unfold boxC at h1
    split at h1
    · rename_i hl; cases h1; exact opC_box rfl hx hl fun b => (h2 b).2
    · cases h1
theorem ret_new {ts : List Tmp} {ex : Exit} {b : Nat} {B : Nat → Res} {st0 : St} (hex : ex = .normal ∨ ex = .ret) (hdf : A.df = []) (hr : resD ts A.e = .ptr b 0) (hs : (B b :: st0).Sublist st) : retA ts (fun d st' => ∃ b, d = .ptr b 0 ∧ st' = B b :: st0) ex A st := retA_mk hex hdf hs (LE.of_eq hr) ⟨b, rfl, rfl⟩
/-- A contract that turns one box, wherever it stands. -/
theorem TrF.at {f : FuncId} {args : List D} {B B' : Res} {X : D} {st1 : St} (h : ∀ s, TrF P f args (B :: s) fun d st' => d = X ∧ st' = B' :: s) (hat : ResAt B B' st st1) : TrF P f args st fun d st' => d = X ∧ st' = st1 := by
  obtain ⟨s0, p1, p2⟩ := hat.perm
  exact TrF.permPost p1 ((h s0).mono fun d st' ⟨e1, e2⟩ => ⟨_, ⟨e1, rfl⟩, by subst e2; exact p2.symm⟩)
section
variable {f : FuncId} {ds ds' : List D} {X : D}
theorem ck_el {X : D} {s1 : St} (henter : ∀ args w, (callFunc f args).run P w = .ok (.enter f args) w) (h : TrF P f ds' st fun d st' => d = X ∧ st' = s1) (hle : LEL ds ds') (hk : Keep m s1 ∧ k X s1) : CallK P m (f, ds) st k := ck_le henter hle h hk
theorem ck_exl {ι : Type} {p : ι → Prop} {F : ι → D} {Sx : ι → St} (henter : ∀ args w, (callFunc f args).run P w = .ok (.enter f args) w) (h : TrF P f ds' st fun d st' => ∃ i, p i ∧ d = F i ∧ st' = Sx i) (hle : LEL ds ds') (hex : ∃ i, p i) (hk : ∀ i, p i → Keep m (Sx i) ∧ k (F i) (Sx i)) : CallK P m (f, ds) st k := ck_ex henter hle h hex hk
theorem ck_newl {F : Nat → D} {Sx : Nat → St} (henter : ∀ args w, (callFunc f args).run P w = .ok (.enter f args) w) (h : TrF P f ds' st fun d st' => ∃ b, d = F b ∧ st' = Sx b) (hle : LEL ds ds') (hk : ∀ b, Keep m (Sx b) ∧ k (F b) (Sx b)) : CallK P m (f, ds) st k :=
  ⟨_, henter, h.le hle, ⟨_, _, 0, rfl, rfl⟩, fun d st' ⟨i, e1, e2⟩ => by subst e1 e2; exact hk i⟩
theorem ck_at {B B' : Res} {st1 : St} (henter : ∀ args w, (callFunc f args).run P w = .ok (.enter f args) w) (hle : LEL ds ds') (h : ∀ s, TrF P f ds' (B :: s) fun d st' => d = X ∧ st' = B' :: s) (hat : ResAt B B' st st1) (hk : Keep m st1 ∧ k X st1) : CallK P m (f, ds) st k := ck_le henter hle (TrF.at h hat) hk
/-- A call that makes something new. -/
theorem ck_new {F : Nat → D} {Sx : Nat → St} (henter : ∀ args w, (callFunc f args).run P w = .ok (.enter f args) w) (hle : LEL ds ds') (h : TrF P f ds' st fun d st' => ∃ b, d = F b ∧ st' = Sx b) (hk : ∀ b, Keep m (Sx b) ∧ k (F b) (Sx b)) : CallK P m (f, ds) st k :=
  ⟨_, henter, h.le hle, ⟨_, _, 0, rfl, rfl⟩, fun d st' ⟨i, e1, e2⟩ => by subst e1 e2; exact hk i⟩
end
/-- What is returned is a list with a room of its own. -/
theorem ret_own {ts : List Tmp} {ex : Exit} {o' : Own} {el : TypeId} {sz : Nat} {es es' : List (List D)} {st0 : St} (hex : ex = .normal ∨ ex = .ret) (hdf : A.df = []) (hr : resD ts A.e = .sl o' es') (ho : o' ≠ .shared) (hs : (.room o' el sz es'.length :: st0).Sublist st) (he : es' = es) : retA ts (fun d st' => ∃ o', o' ≠ .shared ∧ d = .sl o' es ∧ st' = .room o' el sz es.length :: st0) ex A st := by
  subst he
  exact retA_mk hex hdf hs (LE.of_eq hr) ⟨o', ho, rfl, rfl⟩
theorem frz_in {t : Tmp} {ts : List Tmp} {d : D} {e : Nat → D} {df : List Deferred} (h : ts.contains t = true) : (AA.mk (fun t => if t ∈ ts then d else e t) df).e t = d := by
  show (if t ∈ ts then d else e t) = d
  rw [if_pos (by simpa using h)]
theorem frz_out {t : Tmp} {ts : List Tmp} {d : D} {e : Nat → D} {df : List Deferred} (h : ts.contains t = false) : (AA.mk (fun t => if t ∈ ts then d else e t) df).e t = e t := by
  show (if t ∈ ts then d else e t) = e t
  rw [if_neg (by simpa using h)]
/-- 'append(s, make([]T, n)...)' onto nothing. -/
theorem run_append_zeros (t u ty e : TypeId) (i : TypeInfo) (z : Value) {ku : IntKind} (ht : P.underlying t = some (.slice e)) (hu : P.underlying u = some (.int ku)) (hi : P.info? e = some i) (hz : i.zero = some z) (hz1 : z.cells.size = 1) (hs1 : i.size = 1)
    (a : Option Addr) (kd : IntKind) (n : Nat) (h0 : 0 < n) (h48 : n * i.bytes ≤ 140737488355328) (h63 : n ≤ 140737488355328) :
    (Builtin.append_ #[t, u] ty #[.slice a 0 0, .int kd n]).run P w =
      .ok (.slice (some ⟨w.heap.size, 0, none⟩) n (grownCap w n 0 e)) (w.drew.alloc (.cells (Builtin.zeroCells z.cells n ++ Builtin.zeroCells z.cells (grownCap w n 0 e - n)) e)) := by
  have hn : n ≠ 0 := by omega
  have hw : IntKind.i64.wrap (n : Int) = n := i64_in (by omega) (by omega)
  have hb2 : ¬ (281474976710656 < (n : Int) * (i.bytes : Int)) := by
    have : ((n * i.bytes : Nat) : Int) ≤ 140737488355328 := by omega
    rw [Int.natCast_mul] at this; omega
  have h63' : ¬ (9223372036854775807 < (n : Int)) := by omega
  have h48' : ¬ (281474976710656 < Builtin.nextslicecap n 0 * i.bytes) := by rw [nextslicecap_zero h0]; omega
  cases a with
  | none => simp [Builtin.append_, run_underlying ht, run_underlying hu, sizeOf, typeInfo, zeroValue, hi, hz, asInt, asIntOf, hw, hb2, hn, h63', h48', hs1, Question.forced, run_firstCells_none, newRow, grownCap]; intro hlt; exact absurd hlt (by omega)
  | some ad =>
    have hfo := run_firstCells_some (P := P) w.drew 1 0 ad 0 0 [] rfl (fun j v h => by simp at h)
    simp [Builtin.append_, run_underlying ht, run_underlying hu, sizeOf, typeInfo, zeroValue, hi, hz, asInt, asIntOf, hw, hb2, hn, h63', h48', hs1, Question.forced, hfo, newRow, grownCap]; intro hlt; exact absurd hlt (by omega)
def intT (P : Program) (t : TypeId) : Option Bool := (tinfo P t).bind fun ti => match ti.k with
  | .int _ => some true
  | _ => none
theorem intT_spec {t : TypeId} {b : Bool} (h : intT P t = some b) : ∃ k, P.underlying t = some (.int k) := by
  unfold intT at h
  cases ht : tinfo P t with
  | none => rw [ht] at h; cases h
  | some ti =>
    rw [ht, Option.bind_some] at h
    split at h
    · rename_i k hk; exact ⟨k, (und_of_k ht).2.1 _ hk⟩
    · cases h
theorem zeroCells_one (z : Value) (n : Nat) : Builtin.zeroCells #[z] n = (List.replicate n z).toArray := by
  have : Builtin.zeroCells #[z] n = madeCells #[z] (n * 1) := rfl
  rw [this, Nat.mul_one]
  apply Array.ext'
  rw [toList_madeCells_one]
def ZerK (P : Program) (m : Option Ro) (t u : TypeId) (p : D × D) (st : St) (k : D → St → Prop) : Prop :=
  ∃ (kd : IntKind) (n : Nat) (el : TypeId) (bytes : Nat) (z : Value) (b : Bool), p = (.sl .tight [], .s (.int kd n)) ∧ 0 < n ∧ oneT P t = some (el, bytes, z) ∧ intT P u = some b ∧ n * bytes ≤ 140737488355328 ∧ n ≤ 140737488355328 ∧ ∀ g cap, n ≤ cap → Keep m (.box g el (List.replicate cap (leafD z)) :: st) ∧ k (.ar g 0 n cap) (.box g el (List.replicate cap (leafD z)) :: st)
theorem s_zeros {t u : TypeId} {x y : Operand} (h : Ev (pairX (ev A.e x) (ev A.e y)) fun p => ZerK P m t u p st k) : S P r m ⟨dst, .call ⟨.builtin .append, #[x, y], #[t, u]⟩, ty, pos, aft, gd⟩ A st k := by
  obtain ⟨p, h1, kd, n, el, bytes, z, b, rfl, h0, h2, h2', h3, h4, h5⟩ := h
  unfold pairX at h1
  split at h1
  · rename_i d d' hx hy
    cases h1
    refine s_chain (R := fun d st' => ∃ g cap, n ≤ cap ∧ d = .ar g 0 n cap ∧ st' = .box g el (List.replicate cap (leafD z)) :: st) rfl ?_ ⟨_, _, 0, n, Nat.le_refl _, rfl, rfl⟩ fun d st' ⟨g, cap, e0, e1, e2⟩ => by subst e1 e2; exact h5 g cap e0
    refine opC_val (by intro c hc; cases hc) fun ρ w hr hh => .inl ?_
    have hv1 := hr _ (by simp [Op.operands, Call.operands]) _ hx
    have hv2 := rep_s (hr _ (by simp [Op.operands, Call.operands]) _ hy)
    obtain ⟨q1, ⟨i, zv, q2, q3, q4, q5, q6⟩, q7, q8⟩ := oneT_spec h2
    obtain ⟨ku, hu⟩ := intT_spec h2'
    have hz : zv.cells = #[z] := by
      apply Array.ext'
      simpa using q4
    obtain ⟨a, cap0, us, sz1, e1, c1, c2, c3, c4, c5, c6, c7, c8, c9, c10⟩ := calm_src hv1
    have hcap : cap0 = 0 := c10
    subst hcap
    have hrun := run_append_zeros (P := P) (w := w) t u ty el i zv q1 hu q2 q3 (by rw [hz]; rfl) q5 a kd n h0 (by rw [q6]; exact h3) h4
    have hge := grownCap_ge w n 0 el
    have hmx := grownCap_le_maxLen w n 0 el (by unfold maxLen; omega)
    generalize grownCap w n 0 el = cap at *
    have hcl : Builtin.zeroCells zv.cells n ++ Builtin.zeroCells zv.cells (cap - n) = (List.replicate cap z).toArray := by
      rw [hz, zeroCells_one, zeroCells_one, List.append_toArray, List.replicate_append_replicate]
      congr 2
      omega
    rw [hcl] at hrun
    have hh' : Holds st w.drew := hh.drewN 1
    obtain ⟨k1, k2⟩ := new_box hh' el (zeros_rep (w := w.drew) q7 cap) (fun d hd => by rw [(List.mem_replicate.1 hd).2]; exact q8)
    refine ⟨_, _, ?_, _, _, .ar w.heap.size 0 n cap hge hmx, k1, (Ext.drew (OwnS st) w).trans k2, ⟨_, _, hge, rfl, rfl⟩⟩
    unfold execOp
    simp only [resolve, invoke, builtin, Sem.run_bind, Sem.run_pure, Result.andThen_ok, List.map_toArray, List.map_cons, List.map_nil, e1, hv2]
    show ((Builtin.append_ #[t, u] ty #[.slice a 0 0, .int kd n]).run P w).andThen _ = _
    rw [hrun]
    rfl
  · cases h1
def Zer2 (m : Option Ro) (q : TypeId × Nat × Value) (n : Nat) (st : St) (k : D → St → Prop) : Prop := (0 < n ∧ n * q.2.1 ≤ 140737488355328 ∧ n ≤ 140737488355328) ∧ ∀ g cap, n ≤ cap → Keep m (.box g q.1 (List.replicate cap (leafD q.2.2)) :: st) ∧ k (.ar g 0 n cap) (.box g q.1 (List.replicate cap (leafD q.2.2)) :: st)
theorem zr_go {t u : TypeId} {kd : IntKind} {n : Nat} (h : Ev (intT P u) fun _ => Ev (oneT P t) fun q => Zer2 m q n st k) : ZerK P m t u (.sl .tight [], .s (.int kd n)) st k := by
  obtain ⟨b, h0, ⟨el, bytes, z⟩, h1, ⟨h2, h3, h4⟩, h5⟩ := h
  exact ⟨kd, n, el, bytes, z, b, rfl, h2, h1, h0, h3, h4, h5⟩
theorem zr2_go {el : TypeId} {bytes n : Nat} {z : Value} {dz : D} (h0 : 0 < n) (h1 : n * bytes ≤ 140737488355328) (h2 : n ≤ 140737488355328) (hz : leafD z = dz) (h : ∀ g cap, n ≤ cap → Keep m (.box g el (List.replicate cap dz) :: st) ∧ k (.ar g 0 n cap) (.box g el (List.replicate cap dz) :: st)) : Zer2 m (el, bytes, z) n st k := by
  subst hz
  exact ⟨⟨h0, h1, h2⟩, h⟩
/-- All of what has no room is a part of it. -/
theorem s_sliceT {t : TypeId} {x y : Operand} (hx : ev A.e x = some (.sl .tight [])) (hy : ev A.e y = some (.i 0)) (ht : (sliceT P t).isSome = true) (hk : k (.sl .tight []) st) : S P r none ⟨dst, .slice t x none (some y) none, ty, pos, aft, gd⟩ A st k := by
  refine opC_val (by intro c hc; cases hc) fun ρ w hr hh => .inl ?_
  have hv1 := hr _ (by simp [Op.operands]) _ hx
  have hv2 := rep_s (hr _ (by simp [Op.operands]) _ hy)
  obtain ⟨⟨el, sz, bytes⟩, hq⟩ := Option.isSome_iff_exists.1 ht
  obtain ⟨ti, z, h10, h11⟩ := sliceT_spec hq
  obtain ⟨hu, ii, zv, q1, q2, q3, q4, q5, q6, q7⟩ := (und_of_k h10).2.2.2.2.1 _ _ _ _ h11
  obtain ⟨a, cap0, us, sz1, e1, c1, c2, c3, c4, c5, c6, c7, c8, c9, c10⟩ := calm_src hv1
  have hcap : cap0 = 0 := c10
  subst hcap
  have hb : aBounds 0 none (some 0) = some (0, 0) := by decide
  have hrun : (Instr.sliceAt t (.slice a 0 0) none (some (.int .i64 0)) none).run P w = .ok (.slice a 0 0) w := by
    simp only [Instr.sliceAt, Sem.run_bind, run_underlying hu, Result.andThen_ok, Instr.slice, run_bounds (isS := true) (lo := none) (hi := some 0) (mx := none) rfl ⟨.i64, rfl⟩ rfl hb (Nat.le_refl 0) (.inl rfl), sizeOf, typeInfo, run_program, q1, Sem.run_pure, q4]
    simp
  refine ⟨.slice a 0 0, w, ?_, _, _, .sl .tight [] a 0 [] 1 (Nat.le_refl _) (Nat.zero_le _) (fun _ => rfl) (by omega) (fun e h => by cases h) rfl (fun d h => by simp at h) (fun i h => absurd h (Nat.not_lt_zero _)) (fun i h => absurd h (Nat.not_lt_zero _)) rfl, hh, Ext.refl _ _, hk⟩
  unfold execOp
  simp only [e1, hv2, Option.map_some, Option.map_none, Sem.run_bind, Sem.run_pure]
  show ((Instr.sliceAt t (.slice a 0 0) none (some (.int .i64 0)) none).run P w).andThen _ = _
  rw [hrun]
  rfl
end
section
variable {P : Program} {t : TypeId} {a b : Int} {k' : IntKind}
theorem shr_u64 (h0 : 0 ≤ b) (h1 : b ≤ 64) : aBin P .shr t (.s (.int .u64 a)) (.s (.int k' b)) = some (.s (.int .u64 (a / 2 ^ b.toNat))) := bin_shr h0 h1
theorem shl_u64 (h0 : 0 ≤ b) (h1 : b ≤ 64) : aBin P .shl t (.s (.int .u64 a)) (.s (.int k' b)) = some (.s (.int .u64 (IntKind.u64.wrap (a * 2 ^ b.toNat)))) := bin_shl h0 h1
theorem shr_i64 (h0 : 0 ≤ b) (h1 : b ≤ 64) : aBin P .shr t (.s (.int .i64 a)) (.s (.int k' b)) = some (.s (.int .i64 (a / 2 ^ b.toNat))) := bin_shr h0 h1
theorem shl_i64 (h0 : 0 ≤ b) (h1 : b ≤ 64) : aBin P .shl t (.s (.int .i64 a)) (.s (.int k' b)) = some (.s (.int .i64 (IntKind.i64.wrap (a * 2 ^ b.toNat)))) := bin_shl h0 h1
end
theorem all_encB (l : List UInt8) : (l.map encB).all (fun e => e.length == 1) = true := by
  rw [List.all_map]; exact List.all_eq_true.2 fun _ _ => rfl
theorem all_encI (l : List Int) : (l.map encI).all (fun e => e.length == 1) = true := by
  rw [List.all_map]; exact List.all_eq_true.2 fun _ _ => rfl
attribute [push_cast] Option.isSome_some boxC Nat.add_sub_cancel Nat.add_sub_cancel_left Nat.sub_zero all_encB all_encI shr_u64 shl_u64 shr_i64 shl_i64 intT oneT
end Go.Proofs.Ytlmklpbekgnceaa
end

/- A range over a function, seen as what it does to data: what an iterator promises, what a round promises, and the law that ties them. No statement is proved here. -/
section
namespace Go.Proofs.Ytlmklpbekgnceaa
set_option linter.unusedSimpArgs false
open Go.RowKit

/-- A call of yield, seen as what it does to data. -/
def RoundC (P : Program) (l : Nat) (args : List D) (st : St) (R : D → St → Prop) : Prop :=
  ∀ (vs : Array Value) w, RepL (OwnS st) w vs.toList args → Holds st w → YieldAt (FR none) 0 P l vs w fun e w' => ∃ v, e = .returned v ∧ PostV st w R v w'
theorem yield_mono {F : Fence} {m : Nat} {P : Program} {l : Nat} {args : Array Value} {W : World} {R R' : Ending → World → Prop} (h : YieldAt F m P l args W R) (hr : ∀ e w, R e w → R' e w) : YieldAt F m P l args W R' := by
  obtain ⟨fn, t, a, b, h1, h2⟩ := h
  exact ⟨fn, t, a, b, h1, h2.mono hr⟩
theorem RoundC.perm {P : Program} {l : Nat} {args : List D} {st st1 : St} {R R' : D → St → Prop} (hp : st.Perm st1) (h : RoundC P l args st1 R) (hR : ∀ d s, R d s → ∃ s', s'.Perm s ∧ R' d s') : RoundC P l args st R' := by
  intro vs w h1 h2
  have e := OwnS.perm hp
  refine yield_mono (h vs w (by rw [← e]; exact h1) (h2.perm hp)) fun _ _ ⟨v, ev, d, s, k1, k2, k3, k4⟩ => ?_
  obtain ⟨s', q1, q2⟩ := hR d s k4
  have e' := OwnS.perm q1
  exact ⟨v, ev, d, s', by rw [e']; exact k1, k2.perm q1.symm, by rw [e, e']; exact k3, q2⟩
theorem RoundC.le {P : Program} {l : Nat} {args args' : List D} {st : St} {R : D → St → Prop} (h : RoundC P l args' st R) (hl : LEL args args') : RoundC P l args st R := fun vs w h1 h2 => h vs w (hl.repL h1) h2
/-- What the caller promises of each round: J i: i things have come; Jx i: the i-th was the last one that is wanted. -/
def Yields (P : Program) (l : Nat) {X : Type} (args : X → List D) (L : List X) (J Jx : Nat → St → Prop) : Prop :=
  (∀ i, i ≤ L.length → ∃ C, J i C) ∧ ∀ (i : Nat) (x : X) (C K : St), L[i]? = some x → J i C → RoundC P l (args x) (C ++ K) fun d st' => ∃ C', st' = C' ++ K ∧ ((d = .s (.bool true) ∧ J (i + 1) C') ∨ (d = .s (.bool false) ∧ Jx (i + 1) C'))
/-- What an iterator promises: it hands on L, thing by thing; K0 is what it owns. -/
def IterC (P : Program) (g : FuncId) (caps : List D) {X : Type} (args : X → List D) (L : List X) (K0 : St) (Kend : St → Prop) (Kstop : Nat → St → Prop) : Prop :=
  ∀ (l : Nat) (C : St) (J Jx : Nat → St → Prop), Yields P l args L J Jx → J 0 C → TrF P g (.fn (.yield l) [] [] :: caps) (K0 ++ C) fun _ st' => ∃ K1 C', st' = K1 ++ C' ∧ ((Kend K1 ∧ J L.length C') ∨ ∃ i, Kstop i K1 ∧ Jx i C')
theorem tl_nil : ∀ C : St, C = [] ++ C := fun _ => rfl
theorem tl_cons {f : St → St} {K : St} {x : Res} (h : ∀ C, f C = K ++ C) : ∀ C, x :: f C = (x :: K) ++ C := fun C => by rw [h]; rfl
section
variable {P : Program} {N : Nat} {r : Option Nat} {A : AA} {st : St} {w : World} {Q : Exit → AA → St → Prop} {m : Option Ro} {k : D → St → Prop} {dst : Option Tmp} {ty : TypeId} {pos : String} {aft : Array Edge} {gd : Option (Nat × Bool)} {o : Oper}
theorem opC_yield {c : Call} {e : Nat → D} {g : Operand} {l : Nat} {ds : List D} {K : D → St → Prop} (ho : o.op = .call c) (hc : c.callee = .value g) (hg : ev e g = some (.fn (.yield l) [] []))
    (hargs : evL e c.args.toList = some ds) (h : RoundC P l ds st K) : OpC P r o e st K := by
  intro ρ w h1 h2
  rw [ho] at h1
  have hfn := h1 g (by simp [Op.operands, Call.operands, hc]) _ hg
  have hds := evL_rep h1 (fun x hx => by simp only [Op.operands, Call.operands, Array.mem_append]; exact .inr (by simpa using hx)) hargs
  rw [Oper.semAt_eq r ρ o (by rw [ho]; intro c hc; cases hc)]
  unfold execOp
  rw [ho]
  simp only [resolve, hc]
  generalize ρ g = gv at hfn
  cases hfn with
  | fn _ us1 us2 _ _ l1 l2 r1 r2 =>
    obtain rfl : us1 = [] := List.eq_nil_of_length_eq_zero l1
    obtain ⟨fn, tmps, assign, body, hy, hr⟩ := h (c.args.map ρ) w (by simpa using hds) h2
    have hy' : (Instr.yield l (#[] ++ c.args.map ρ)).run P w = .ok (.round l fn tmps assign body) w := by simpa using hy
    simp only [Deferred.ofValue, Sem.run_bind, Sem.run_pure, Result.andThen_ok, invoke, hy']
    exact hr.mono fun ev w' ⟨v, e, hp⟩ => ⟨v, e, hp⟩
/-- A step of the engine: yield is called. -/
theorem s_yield {l : Nat} {X : Type} {args : X → List D} {L : List X} {J Jx : Nat → St → Prop} {f : St → St} {K C : St} {i : Nat} {x : X} {g : Operand} {oas : Array Operand} {tys : Array TypeId} {ds : List D}
    (hY : Yields P l args L J Jx) (hJ : J i C) (hx : L[i]? = some x) (hg : ev A.e g = some (.fn (.yield l) [] [])) (ha : evL A.e oas.toList = some ds) (hle : LEL ds (args x)) (hf : ∀ C, f C = K ++ C)
    (hk1 : ∀ C', J (i + 1) C' → Keep m (f C') ∧ k (.s (.bool true)) (f C')) (hk0 : ∀ C', Jx (i + 1) C' → Keep m (f C') ∧ k (.s (.bool false)) (f C')) : S P r m ⟨dst, .call ⟨.value g, oas, tys⟩, ty, pos, aft, gd⟩ A (f C) k := by
  have hi : i < L.length := (List.getElem?_eq_some_iff.1 hx).1
  refine s_chain (R := fun d st' => ∃ C', st' = f C' ∧ ((d = .s (.bool true) ∧ J (i + 1) C') ∨ (d = .s (.bool false) ∧ Jx (i + 1) C'))) rfl (opC_yield rfl rfl hg ha ?_) ?_ ?_
  · refine (RoundC.perm (by rw [hf]; exact List.perm_append_comm) (hY.2 i x C K hx hJ) ?_).le hle
    rintro d s ⟨C', rfl, hc⟩
    exact ⟨f C', by rw [hf]; exact List.perm_append_comm, C', rfl, hc⟩
  · obtain ⟨C', hC⟩ := hY.1 (i + 1) hi
    exact ⟨_, _, C', rfl, .inl ⟨rfl, hC⟩⟩
  · rintro d st' ⟨C', rfl, ⟨rfl, h⟩ | ⟨rfl, h⟩⟩
    · exact hk1 C' h
    · exact hk0 C' h
/-- What is known of values stays known. -/
theorem Holds.know (h : Holds st w) {f : Nat → Value} {e : Nat → D} (hk : ∀ t, Rep (OwnS st) w (f t) (e t)) : Holds (.know f e :: st) w ∧ Ext (OwnS st) w (OwnS (.know f e :: st)) w := by
  have he : Ext (OwnS st) w (OwnS (.know f e :: st)) w := (Ext.refl _ w).less fun b off ho => (OwnS.cons_iff.1 ho).elim (fun x => by cases x.1) id
  exact ⟨h.push he (fun _ _ _ _ => rfl) (fun t => (hk t).ext he) (fun x _ b e => by cases e), he⟩
/-- A block that is one's own whole, and no row, is set. -/
theorem raw_set {b : Nat} {o o' : Obj} (h : Holds (.raw b o :: st) w) (hn : ∀ c E fr, o ≠ .cells c E fr) : Holds (.raw b o' :: st) (w.putObj b o') ∧ Ext (OwnS (.raw b o :: st)) w (OwnS (.raw b o' :: st)) (w.putObj b o') := by
  have hb : w.heap[b]? = some o := h.2 _ (List.mem_cons_self ..)
  have hlt := (Array.getElem?_eq_some_iff.1 hb).1
  have hown : ∀ c off, OwnS (.raw b o' :: st) c off → OwnS (.raw b o :: st) c off := fun c off ho => OwnS.cons_iff.2 ((OwnS.cons_iff.1 ho).imp id id)
  have he : Ext (OwnS (.raw b o :: st)) w (OwnS (.raw b o' :: st)) (w.putObj b o') := by
    refine ⟨rfl, rfl, rfl, by simp, fun c off _ ho => hown c off ho, fun c hc hno => World.putObj_heap_other fun e => hno 0 (OwnS.cons_iff.2 (.inl ⟨by rw [e]; rfl, Nat.zero_le _⟩)), fun c cs E fr hc => ⟨cs, fr, ?_, rfl, fun _ _ => rfl⟩⟩
    refine (World.putObj_heap_other fun e => ?_).trans hc
    subst e
    rw [hb] at hc
    cases hc
    exact hn _ _ _ rfl
  refine ⟨h.put he (fun x hx c hc => World.putObj_heap_other fun e => (List.pairwise_cons.1 h.1).1 x hx b rfl (e ▸ hc)) (World.putObj_heap_same hlt) fun x hx c hc hc' => (List.pairwise_cons.1 h.1).1 x hx c hc hc', he⟩
theorem raw_at {C T : St} {b : Nat} {o o' : Obj} (h : Holds (C ++ .raw b o :: T) w) (hn : ∀ c E fr, o ≠ .cells c E fr) : Holds (C ++ .raw b o' :: T) (w.putObj b o') ∧ Ext (OwnS (C ++ .raw b o :: T)) w (OwnS (C ++ .raw b o' :: T)) (w.putObj b o') := by
  have h1 := raw_set (o' := o') (h.perm List.perm_middle) hn
  exact ⟨h1.1.perm List.perm_middle.symm, h1.2.perm List.perm_middle List.perm_middle⟩
def setA : AA → List Tmp → List D → AA
  | A, p :: ps, d :: ds => setA (A.put (some p) d) ps ds
  | A, _, _ => A
theorem setA_rel {O : Nat → Nat → Prop} : ∀ (ps : List Tmp) (vs : List Value) (ds : List D) (tm : Array Value) (A : AA), (∀ p ∈ ps, p < N) → RelA N O w ⟨tm, []⟩ A → RepL O w vs ds → RelA N O w ⟨(ps.zip vs).foldl (fun t (p, v) => t.setIfInBounds p v) tm, []⟩ (setA A ps ds)
  | [], vs, ds, tm, A, _, h, _ => by cases vs <;> exact h
  | p :: ps, [], ds, tm, A, _, h, hv => by
    obtain rfl : ds = [] := List.eq_nil_of_length_eq_zero hv.1.symm
    exact h
  | p :: ps, v :: vs, [], tm, A, _, h, hv => by have := hv.1; simp at this
  | p :: ps, v :: vs, d :: ds, tm, A, hp, h, hv => by
    obtain ⟨u, t, e, h1, h2⟩ := hv.inv_cons
    cases e
    exact setA_rel ps vs ds _ _ (fun q hq => hp q (List.mem_cons_of_mem _ hq)) (h.put (dst := some p) (by simp [dstOk, hp p (List.mem_cons_self ..)]) h1) h2
/-- How a round's body is left. -/
def roundQ (K : St) (i : Nat) (J : Nat → St → Prop) (Jx : Code → Nat → St → Prop) : Exit → AA → St → Prop
  | .normal, _, st' => ∃ C', (C' ++ K).Sublist st' ∧ J i C'
  | .ret, _, st' => ∃ C', (C' ++ K).Sublist st' ∧ Jx .ret i C'
  | .exit id, _, st' => ∃ C', (C' ++ K).Sublist st' ∧ Jx (.exit id) i C'
  | .goto t, _, st' => ∃ C', (C' ++ K).Sublist st' ∧ Jx (.goto t) i C'
  | _, _, _ => False
abbrev lrec (fn : FuncId) (tmps : Array Value) (ps : Array Tmp) (assign body : Code) (d : Nat) (s : LoopState) (pe : Option Code) : Loop := { state := s, pending := pe, fn, tmps, params := ps, assign, body, defers := d }
theorem perm_know {K C : St} {x y z : Res} : (z :: x :: y :: (K ++ C)).Perm (K ++ (C ++ [x, y, z])) := by
  rw [← List.append_assoc]
  refine List.Perm.trans ?_ List.perm_append_comm
  exact (List.Perm.swap _ _ _).trans (.cons _ (.swap _ _ _))
/-- The law: a range over a function. -/
theorem tr_range {X : Type} {g : Operand} {ps : Array Tmp} {assign body : Code} {gf : FuncId} {caps : List D} {args : X → List D} {L : List X} {K0 C : St} {Kend : St → Prop} {Kstop : Nat → St → Prop}
    (hit : IterC P gf caps args L K0 Kend Kstop) (hent : ∀ args w, (callFunc gf args).run P w = .ok (.enter gf args) w) (hg : ev A.e g = some (.fn (.func gf) [] caps)) (hps : ∀ x, (args x).length = ps.size) (hpN : ps.toList.all (fun t => decide (t < N)) = true)
    (J : Nat → St → Prop) (Jx : Code → Nat → St → Prop) (h0 : J 0 C) (hne : ∀ i, i ≤ L.length → ∃ C, J i C)
    (hround : ∀ l i x C K, L[i]? = some x → J i C → Tr P N (some l) assign (setA ⟨A.e, []⟩ ps.toList (args x)) (C ++ K) (thenA (fun A' st' => ∃ C1, (C1 ++ K).Sublist st' ∧ ∀ K', Tr P N (some l) body A' (C1 ++ K') (roundQ K' (i + 1) J Jx)) (fun _ _ _ => False)))
    (hdone : ∀ d K1 C', Kend K1 → J L.length C' → Q .normal ⟨A.e, mark d :: A.df⟩ (markR d :: (K1 ++ C')))
    (hstop : ∀ c d i K1 C', Kstop i K1 → Jx c i C' → Tr P N none c ⟨A.e, mark d :: A.df⟩ (markR d :: (K1 ++ C')) Q) :
    Tr P N none (.rangeFunc g ps assign body) A (K0 ++ C) Q := by
  intro a w h1 h2
  have hr := ev_rep h1 hg
  generalize hgv : a.eval g = gv at hr
  cases hr with
  | fn _ us1 us2 _ _ l1 l2 r1 r2 =>
  obtain rfl : us1 = [] := List.eq_nil_of_length_eq_zero l1
  refine wpIn_rangeFunc fun fn hfn => ?_
  obtain ⟨d, hd⟩ : ∃ d, d = w.heap.size := ⟨_, rfl⟩
  obtain ⟨rec, hrec⟩ : ∃ rec, rec = lrec fn a.tmps ps assign body d := ⟨_, rfl⟩
  have n1 := new_own h2 (Res.raw d (.deferred (some []))) (fun b e => by cases e; exact hd) (.deferred (some [])) (fun _ => by rw [hd]; exact heap_alloc_new w _)
  obtain ⟨w1, hw1⟩ : ∃ w1, w1 = w.alloc (.deferred (some [])) := ⟨_, rfl⟩
  rw [← hw1] at n1
  have hs1 : w1.heap.size = d + 1 := by rw [hw1, hd]; simp
  have n2 := new_own n1.1 (Res.raw (d + 1) (.loop (rec .ready none))) (fun b e => by cases e; exact hs1.symm) (.loop (rec .ready none)) (fun _ => by rw [← hs1]; exact heap_alloc_new w1 _)
  obtain ⟨W1, hW1⟩ : ∃ W1, W1 = w1.alloc (.loop (rec .ready none)) := ⟨_, rfl⟩
  rw [← hW1] at n2
  obtain ⟨tm, htm⟩ : ∃ tm : Nat → Value, tm = fun t => a.tmps.getD t undef := ⟨_, rfl⟩
  have n3 := n2.1.know (f := tm) (e := A.e) (fun t => by rw [htm]; exact ((h1.ext n1.2).ext n2.2).2.2 t)
  obtain ⟨B, hB⟩ : ∃ B : LoopState → Option Code → St, B = fun s pe => [Res.raw (d + 1) (.loop (rec s pe)), Res.raw d (.deferred (some [])), Res.know tm A.e] := ⟨_, rfl⟩
  have hp : (Res.know tm A.e :: Res.raw (d + 1) (.loop (rec .ready none)) :: Res.raw d (.deferred (some [])) :: (K0 ++ C)).Perm (K0 ++ (C ++ B .ready none)) := by rw [hB]; exact perm_know
  have E3 : Ext (OwnS (K0 ++ C)) w (OwnS (K0 ++ (C ++ B .ready none))) W1 := by rw [← OwnS.perm hp]; exact n1.2.trans (n2.2.trans n3.2)
  have H3 := n3.1.perm hp
  have hnl : ∀ (x : Loop) c E fr, Obj.loop x ≠ .cells c E fr := fun _ _ _ _ e => by cases e
  have hY : Yields P (d + 1) args L (fun i C' => ∃ C, C' = C ++ B .ready none ∧ J i C) (fun i C' => ∃ c C, C' = C ++ B .done (some c) ∧ Jx c i C) := by
    refine ⟨fun i hi => (hne i hi).elim fun C hC => ⟨_, C, rfl, hC⟩, ?_⟩
    rintro i x C' K hx ⟨Cn, rfl, hJ⟩ vs w2 hv hh
    rw [List.append_assoc] at hv hh
    have hl : w2.heap[d + 1]? = some (.loop (rec .ready none)) := hh.2 (Res.raw (d + 1) (.loop (rec .ready none))) (by rw [hB]; simp)
    have hkn : ∀ t, Rep (OwnS (Cn ++ (B .ready none ++ K))) w2 (tm t) (A.e t) := hh.2 (Res.know tm A.e) (by rw [hB]; simp)
    have hy := run_yield (P := P) (args := vs) hl (by rw [hrec, ← Array.length_toList, hv.1]; exact hps x)
    rw [hrec] at hy
    refine ⟨fn, _, assign, body, hy, roundIn_of_wpIn hfn ?_⟩
    clear hy
    have hz : (ps.zip vs).foldl (fun tmps (t, a) => tmps.setIfInBounds t a) a.tmps = (ps.toList.zip vs.toList).foldl (fun t (p, v) => t.setIfInBounds p v) a.tmps := by
      rw [← Array.foldl_toList, Array.toList_zip]
    have hrel : RelA N (OwnS (Cn ++ (B .ready none ++ K))) w2 ⟨(ps.zip vs).foldl (fun tmps (t, a) => tmps.setIfInBounds t a) a.tmps, []⟩ (setA ⟨A.e, []⟩ ps.toList (args x)) := by
      rw [hz]
      refine setA_rel _ _ _ _ _ (fun p hp => by simpa using List.all_eq_true.1 hpN p hp) ⟨h1.1, rfl, fun t => ?_⟩ hv
      have := hkn t
      rw [htm] at this
      exact this
    refine wpIn_mono (hround (d + 1) i x Cn (B .ready none ++ K) hx hJ _ w2 hrel hh) ?_
    rintro e a3 w3 ⟨A3, st3, k1, k2, k3, k4⟩
    cases e with
    | normal =>
      obtain ⟨C1, hsub, hbody⟩ := k4
      have e3 := Ext.drop (fun _ h => hsub.subset h) w3
      have H4 := k2.sub hsub
      have hl3 : w3.heap[d + 1]? = some (.loop (rec .ready none)) := H4.2 (Res.raw (d + 1) (.loop (rec .ready none))) (by rw [hB]; simp)
      refine ⟨_, run_beginRound hl3 (by rw [hrec]), ?_⟩
      have q := raw_at (C := C1) (T := [Res.raw d (.deferred (some [])), Res.know tm A.e] ++ K) (o' := .loop { rec .ready none with state := .busy }) (by rw [hB] at H4; exact H4) (hnl _)
      have hbz : C1 ++ (Res.raw (d + 1) (.loop { rec .ready none with state := .busy }) :: ([Res.raw d (.deferred (some [])), Res.know tm A.e] ++ K)) = C1 ++ (B .busy none ++ K) := by rw [hB, hrec]; rfl
      have hbr : C1 ++ (Res.raw (d + 1) (.loop (rec .ready none)) :: ([Res.raw d (.deferred (some [])), Res.know tm A.e] ++ K)) = C1 ++ (B .ready none ++ K) := by rw [hB]; rfl
      rw [hbz] at q
      rw [hbr] at q
      have E4 := (k3.trans e3).trans q.2
      refine wpIn_mono (hbody (B .busy none ++ K) _ _ ((k1.ext e3).ext q.2) q.1) ?_
      have fin : ∀ (jump : Option Code) (C5 st5 : St) (w5 : World), (C5 ++ (B .busy none ++ K)).Sublist st5 → Holds st5 w5 → Ext (OwnS (C1 ++ (B .busy none ++ K))) (w3.putObj (d + 1) (.loop { rec .ready none with state := .busy })) (OwnS st5) w5 →
          (Instr.endRound (d + 1) jump).run P w5 = .ok (.bool jump.isNone) (w5.putObj (d + 1) (.loop (rec (if jump.isNone then .ready else .done) jump))) ∧
          Holds (C5 ++ B (if jump.isNone then .ready else .done) jump ++ K) (w5.putObj (d + 1) (.loop (rec (if jump.isNone then .ready else .done) jump))) ∧
          Ext (OwnS (Cn ++ B .ready none ++ K)) w2 (OwnS (C5 ++ B (if jump.isNone then .ready else .done) jump ++ K)) (w5.putObj (d + 1) (.loop (rec (if jump.isNone then .ready else .done) jump))) := fun jump C5 st5 w5 hs5 hh5 he5 => by
        have e5 := Ext.drop (fun _ h => hs5.subset h) w5
        have H6 := hh5.sub hs5
        have hl5 : w5.heap[d + 1]? = some (.loop (rec .busy none)) := H6.2 (Res.raw (d + 1) (.loop (rec .busy none))) (by rw [hB]; simp)
        have hr5 := run_endRound (P := P) jump hl5
        rw [hrec] at hr5 ⊢
        have q5 := raw_at (C := C5) (T := [Res.raw d (.deferred (some [])), Res.know tm A.e] ++ K) (o' := .loop (lrec fn a.tmps ps assign body d (if jump.isNone then .ready else .done) jump)) (by rw [hB] at H6; exact H6) (hnl _)
        have hbz5 : C5 ++ (Res.raw (d + 1) (.loop (lrec fn a.tmps ps assign body d (if jump.isNone then .ready else .done) jump)) :: ([Res.raw d (.deferred (some [])), Res.know tm A.e] ++ K)) = C5 ++ B (if jump.isNone then .ready else .done) jump ++ K := by rw [hB, hrec, List.append_assoc]; rfl
        have hbr5 : C5 ++ (Res.raw (d + 1) (.loop (rec .busy none)) :: ([Res.raw d (.deferred (some [])), Res.know tm A.e] ++ K)) = C5 ++ (B .busy none ++ K) := by rw [hB]; rfl
        rw [hbz5] at q5
        rw [hbr5] at q5
        refine ⟨hr5, q5.1, ?_⟩
        rw [show Cn ++ B .ready none ++ K = Cn ++ (B .ready none ++ K) by rw [List.append_assoc]]
        exact (E4.trans (he5.trans e5)).trans q5.2
      rintro e a5 w5 ⟨A5, st5, m1, m2, m3, m4⟩
      cases e with
      | normal =>
        obtain ⟨C5, hs5, hJ5⟩ := m4
        obtain ⟨f1, f2, f3⟩ := fin none C5 st5 w5 hs5 m2 m3
        exact ⟨_, _, f1, _, rfl, .s (.bool true), _, .s _ rfl, f2, f3, _, rfl, .inl ⟨rfl, C5, rfl, hJ5⟩⟩
      | ret =>
        obtain ⟨C5, hs5, hJ5⟩ := m4
        obtain ⟨f1, f2, f3⟩ := fin (some .ret) C5 st5 w5 hs5 m2 m3
        exact ⟨_, _, f1, _, rfl, .s (.bool false), _, .s _ rfl, f2, f3, _, rfl, .inr ⟨rfl, .ret, C5, rfl, hJ5⟩⟩
      | exit id =>
        obtain ⟨C5, hs5, hJ5⟩ := m4
        obtain ⟨f1, f2, f3⟩ := fin (some (.exit id)) C5 st5 w5 hs5 m2 m3
        exact ⟨_, _, f1, _, rfl, .s (.bool false), _, .s _ rfl, f2, f3, _, rfl, .inr ⟨rfl, .exit id, C5, rfl, hJ5⟩⟩
      | goto t =>
        obtain ⟨C5, hs5, hJ5⟩ := m4
        obtain ⟨f1, f2, f3⟩ := fin (some (.goto t)) C5 st5 w5 hs5 m2 m3
        exact ⟨_, _, f1, _, rfl, .s (.bool false), _, .s _ rfl, f2, f3, _, rfl, .inr ⟨rfl, .goto t, C5, rfl, hJ5⟩⟩
      | panic c => exact m4.elim
      | outgrown => exact m4.elim
    | exit id => exact k4.elim
    | goto t => exact k4.elim
    | ret => exact k4.elim
    | panic c => exact k4.elim
    | outgrown => exact k4.elim
  refine ⟨d + 1, [mark d], W1, { target := .fn (.func gf) us2.toArray, args := #[.func (.yield (d + 1)) #[] #[]] }, W1, gf, #[.func (.yield (d + 1)) #[] #[]] ++ us2.toArray, W1, ?_, ?_, fun _ _ => trivial, ?_, (fun h => by cases h), ?_⟩
  · rw [hW1, hrec, hw1, hd]
    exact run_enterLoop_outer _ _ _ _ _
  · simp only [resolve, hgv]
    simp [go_sem]
  · simp [invoke, go_sem, hent]
  · have hcall := hit (d + 1) (C ++ B .ready none) _ _ hY ⟨C, rfl, h0⟩ (#[.func (.yield (d + 1)) #[] #[]] ++ us2.toArray) W1 (by
      have hvs : (#[Value.func (.yield (d + 1)) #[] #[]] ++ us2.toArray).toList = Value.func (.yield (d + 1)) #[] #[] :: us2 := by simp
      rw [hvs]
      refine RepL.cons ?_ ?_
      · exact .fn (.yield (d + 1)) [] [] [] [] rfl rfl (fun i h => absurd h (Nat.not_lt_zero _)) (fun i h => absurd h (Nat.not_lt_zero _))
      · exact ⟨l2, fun i h h' => (r2 i h h').ext E3⟩) H3
    refine (callsIn_wide.2 hcall).mono ?_
    rintro e w2 ⟨v, rfl, dd, st2, -, q2, q3, K1, C2, rfl, ⟨hk, Cn, rfl, hJ⟩ | ⟨i, hk, c, Cn, rfl, hJ⟩⟩
    · have hl : w2.heap[d + 1]? = some (.loop (rec .ready none)) := q2.2 (Res.raw (d + 1) (.loop (rec .ready none))) (by rw [hB]; simp)
      have hend : (Instr.endLoop (d + 1)).run P w2 = .ok none (w2.putObj (d + 1) (.loop { rec .ready none with state := .exhausted })) := by
        subst hrec; exact run_endLoop (P := P) hl (by simp)
      have q2' : Holds ((K1 ++ Cn) ++ Res.raw (d + 1) (.loop (rec .ready none)) :: [Res.raw d (.deferred (some [])), Res.know tm A.e]) w2 := by rw [hB, ← List.append_assoc] at q2; exact q2
      have q := raw_at (o' := .loop { rec .ready none with state := .exhausted }) q2' (hnl _)
      have hsub : (markR d :: (K1 ++ Cn)).Sublist (markR d :: (K1 ++ Cn ++ [Res.raw (d + 1) (.loop { rec .ready none with state := .exhausted }), Res.know tm A.e])) := (List.sublist_append_left _ _).cons_cons _
      have hpm : (K1 ++ Cn ++ Res.raw (d + 1) (.loop { rec .ready none with state := .exhausted }) :: [Res.raw d (.deferred (some [])), Res.know tm A.e]).Perm (markR d :: (K1 ++ Cn ++ [Res.raw (d + 1) (.loop { rec .ready none with state := .exhausted }), Res.know tm A.e])) := by
        refine (List.Perm.append_left _ (.swap _ _ _)).trans ?_
        exact List.perm_middle
      have hq3 : Ext (OwnS (K0 ++ C)) w (OwnS ((K1 ++ Cn) ++ Res.raw (d + 1) (.loop (rec .ready none)) :: [Res.raw d (.deferred (some [])), Res.know tm A.e])) w2 := by
        have := E3.trans q3
        rw [hB, ← List.append_assoc] at this
        exact this
      have Ef : Ext (OwnS (K0 ++ C)) w (OwnS (markR d :: (K1 ++ Cn))) (w2.putObj (d + 1) (.loop { rec .ready none with state := .exhausted })) := by
        refine ((hq3.trans q.2).trans ?_)
        rw [OwnS.perm hpm]
        exact Ext.drop (fun _ h => hsub.subset h) _
      exact ⟨none, _, hend, ⟨A.e, mark d :: A.df⟩, _, ⟨h1.1, by show mark d :: a.defers = mark d :: A.df; rw [h1.2.1], fun t => (h1.2.2 t).ext Ef⟩, (q.1.perm hpm).sub hsub, Ef, hdone d K1 Cn hk hJ⟩
    · have hl : w2.heap[d + 1]? = some (.loop (rec .done (some c))) := q2.2 (Res.raw (d + 1) (.loop (rec .done (some c)))) (by rw [hB]; simp)
      have hend : (Instr.endLoop (d + 1)).run P w2 = .ok (some c) (w2.putObj (d + 1) (.loop { rec .done (some c) with state := .exhausted })) := by
        subst hrec; exact run_endLoop (P := P) hl (by simp)
      have q2' : Holds ((K1 ++ Cn) ++ Res.raw (d + 1) (.loop (rec .done (some c))) :: [Res.raw d (.deferred (some [])), Res.know tm A.e]) w2 := by rw [hB, ← List.append_assoc] at q2; exact q2
      have q := raw_at (o' := .loop { rec .done (some c) with state := .exhausted }) q2' (hnl _)
      have hsub : (markR d :: (K1 ++ Cn)).Sublist (markR d :: (K1 ++ Cn ++ [Res.raw (d + 1) (.loop { rec .done (some c) with state := .exhausted }), Res.know tm A.e])) := (List.sublist_append_left _ _).cons_cons _
      have hpm : (K1 ++ Cn ++ Res.raw (d + 1) (.loop { rec .done (some c) with state := .exhausted }) :: [Res.raw d (.deferred (some [])), Res.know tm A.e]).Perm (markR d :: (K1 ++ Cn ++ [Res.raw (d + 1) (.loop { rec .done (some c) with state := .exhausted }), Res.know tm A.e])) := by
        refine (List.Perm.append_left _ (.swap _ _ _)).trans ?_
        exact List.perm_middle
      have hq3 : Ext (OwnS (K0 ++ C)) w (OwnS ((K1 ++ Cn) ++ Res.raw (d + 1) (.loop (rec .done (some c))) :: [Res.raw d (.deferred (some [])), Res.know tm A.e])) w2 := by
        have := E3.trans q3
        rw [hB, ← List.append_assoc] at this
        exact this
      have Ef : Ext (OwnS (K0 ++ C)) w (OwnS (markR d :: (K1 ++ Cn))) (w2.putObj (d + 1) (.loop { rec .done (some c) with state := .exhausted })) := by
        refine ((hq3.trans q.2).trans ?_)
        rw [OwnS.perm hpm]
        exact Ext.drop (fun _ h => hsub.subset h) _
      exact ⟨some c, _, hend, wpIn_mono (hstop c d i K1 Cn hk hJ _ _ ⟨h1.1, by show mark d :: a.defers = mark d :: A.df; rw [h1.2.1], fun t => (h1.2.2 t).ext Ef⟩ ((q.1.perm hpm).sub hsub)) fun _ _ _ => PostA.ext Ef⟩
end
/-! how a function with a range over a function is left -/
theorem out_here {r : Res} {s : St} : (r :: s).Perm (r :: s) := .refl _
theorem out_there {r x : Res} {s s2 : St} (h : s.Perm (r :: s2)) : (x :: s).Perm (r :: x :: s2) := (h.cons _).trans (.swap _ _ _)
theorem retA_mark {ts : List Tmp} {R : D → St → Prop} {ex : Exit} {A : AA} {X : D} {st st0 s2 : St} {d : Nat} (hex : ex = .normal ∨ ex = .ret) (hdf : A.df = [mark d]) (hp : st.Perm (markR d :: s2)) (hs : st0.Sublist s2) (hd : LE (resD ts A.e) X) (hR : R X st0) : retA ts R ex A st := by
  rcases hex with rfl | rfl <;> exact ⟨[d], X, s2, st0, hdf, hp, hs, hd, hR⟩
/-! more than one box that is read in a region that draws; two things of the state that a call turns -/
theorem keep_more {b : Nat} {ty : TypeId} {cs : List D} {ro : Ro} {st : St} (h : Res.box b ty cs ∈ st) (k : Keep (some ro) st) : Keep (some ((b, cs) :: ro)) st := fun b' cs' hl => by
  rw [List.lookup_cons] at hl
  split at hl
  · rename_i he
    cases hl
    have : b' = b := eq_of_beq he
    subst this
    exact ⟨ty, h⟩
  · exact k b' cs' hl
inductive At2 (a b a' b' : Res) : St → St → Prop
  | here {s : St} : At2 a b a' b' (a :: b :: s) (a' :: b' :: s)
  | there {x : Res} {s s' : St} (h : At2 a b a' b' s s') : At2 a b a' b' (x :: s) (x :: s')
theorem At2.perm {a b a' b' : Res} {s s' : St} (h : At2 a b a' b' s s') : ∃ s0, s.Perm (a :: b :: s0) ∧ s'.Perm (a' :: b' :: s0) := by
  induction h with
  | here => exact ⟨_, .refl _, .refl _⟩
  | there h ih =>
    obtain ⟨s0, h1, h2⟩ := ih
    exact ⟨_, (h1.cons _).trans ((List.Perm.swap _ _ _).trans (.cons _ (.swap _ _ _))), (h2.cons _).trans ((List.Perm.swap _ _ _).trans (.cons _ (.swap _ _ _)))⟩
theorem ck_ex2 {P : Program} {m : Option Ro} {st : St} {k : D → St → Prop} {f : FuncId} {ds ds' : List D} {ι : Type} {p : ι → Prop} {F : ι → D} {a b : Res} {a' b' : ι → Res} {s1 : ι → St} (henter : ∀ args w, (callFunc f args).run P w = .ok (.enter f args) w)
    (h : ∀ s, TrF P f ds' (a :: b :: s) fun d st' => ∃ i, p i ∧ d = F i ∧ st' = a' i :: b' i :: s) (hle : LEL ds ds') (hat : ∀ i, At2 a b (a' i) (b' i) st (s1 i)) (hex : ∃ i, p i) (hk : ∀ i, p i → Keep m (s1 i) ∧ k (F i) (s1 i)) : CallK P m (f, ds) st k := by
  obtain ⟨i0, hi0⟩ := hex
  obtain ⟨s0, p1, -⟩ := (hat i0).perm
  have hf : TrF P f ds' st fun d st' => ∃ i, p i ∧ d = F i ∧ st' = s1 i := TrF.permPost p1 ((h s0).mono fun d st' ⟨i, h1, h2, h3⟩ => by
    obtain ⟨s2, q1, q2⟩ := (hat i).perm
    have hs : s0.Perm s2 := (List.perm_cons _).1 ((List.perm_cons _).1 (p1.symm.trans q1))
    exact ⟨s1 i, ⟨i, h1, h2, rfl⟩, by rw [h3]; exact ((hs.cons _).cons _).trans q2.symm⟩)
  exact ⟨_, henter, hf.le hle, ⟨_, _, i0, hi0, rfl, rfl⟩, fun d st' ⟨i, hi, e1, e2⟩ => by subst e1 e2; exact hk i hi⟩
theorem perm_cons_out {r : Res} {st s s' : St} (h : st.Perm (r :: s)) (k : s.Perm s') : st.Perm (r :: s') := h.trans (k.cons _)
end Go.Proofs.Ytlmklpbekgnceaa
end

/- Regions that draw their order, where a variable's block is laid beside a call that does not wait for it: two walks, one with the block first, one in the order of the text, serve every order. No statement is proved here. -/
section
namespace Go.Proofs.Ytlmklpbekgnceaa
set_option linter.unusedSimpArgs false
open Go.RowKit
section
variable {P : Program} {r : Option Nat} {ro : Ro} {st : St}
/-- The same operation, but for what it waits for. -/
structure SameOp (o1 o2 : Oper) : Prop where
  dst : o1.dst = o2.dst
  op : o1.op = o2.op
  type : o1.type = o2.type
  pos : o1.pos = o2.pos
  guard : o1.guard = o2.guard
theorem SameOp.refl (o : Oper) : SameOp o o := ⟨rfl, rfl, rfl, rfl, rfl⟩
theorem SameOp.symm {o1 o2 : Oper} (h : SameOp o1 o2) : SameOp o2 o1 := ⟨h.dst.symm, h.op.symm, h.type.symm, h.pos.symm, h.guard.symm⟩
theorem SameOp.free {o1 o2 : Oper} (h : SameOp o1 o2) : freeA o1 = freeA o2 := by unfold freeA; rw [h.op]
theorem SameOp.wanted {ops1 ops2 : Array Oper} {o1 o2 : Oper} (h : SameOp o1 o2) (hd : ∀ j : Nat, (ops1[j]?).bind (fun o : Oper => o.dst) = (ops2[j]?).bind (fun o : Oper => o.dst)) (e : Nat → D) : wantedA ops1 o1 e = wantedA ops2 o2 e := by
  unfold wantedA
  rw [h.guard]
  cases o2.guard with
  | none => rfl
  | some q => obtain ⟨j, b⟩ := q; dsimp only; rw [hd j]
theorem SameOp.frC {o1 o2 : Oper} (h : SameOp o1 o2) (e : Nat → D) : frC P ro o1 e = frC P ro o2 e := by
  obtain ⟨d1, p1, t1, s1, a1, g1⟩ := o1
  obtain ⟨d2, p2, t2, s2, a2, g2⟩ := o2
  obtain ⟨e1, e2, e3, e4, e5⟩ := h
  dsimp only at e1 e2 e3 e4 e5
  subst e1 e2 e3 e4 e5
  rfl
theorem SameOp.opC {o1 o2 : Oper} (h : SameOp o1 o2) {e : Nat → D} {K : D → St → Prop} (hh : OpC P r o1 e st K) : OpC P r o2 e st K := by
  obtain ⟨d1, p1, t1, s1, a1, g1⟩ := o1
  obtain ⟨d2, p2, t2, s2, a2, g2⟩ := o2
  obtain ⟨e1, e2, e3, e4, e5⟩ := h
  dsimp only at e1 e2 e3 e4 e5
  subst e1 e2 e3 e4 e5
  exact hh
theorem mOpA_same {ops1 ops2 : Array Oper} {f f' : Bool} {o1 o2 : Oper} (hs : SameOp o1 o2) (hd : ∀ j : Nat, (ops1[j]?).bind (fun o : Oper => o.dst) = (ops2[j]?).bind (fun o : Oper => o.dst)) (hf : f = true → f' = true) {K K' : AA → St → Prop} (hK : ∀ A st, K A st → K' A st) {A : AA}
    (h : mOpA P r ro f ops1 o1 K A st) : mOpA P r ro f' ops2 o2 K' A st := by
  unfold mOpA at h ⊢
  rw [hs.wanted hd, hs.free, hs.frC, hs.dst] at h
  split
  · rename_i hw
    rw [if_pos hw] at h
    split
    · rename_i hfr
      rw [if_pos hfr] at h
      obtain ⟨d, h1, h2⟩ := h
      exact ⟨d, h1, hK _ _ h2⟩
    · rename_i hfr
      rw [if_neg hfr] at h
      obtain ⟨h1, d, st', h2, h3⟩ := h
      exact ⟨hs.opC (h1.mono fun d st' hk => ⟨hk.1.imp hf id, hK _ _ hk.2⟩), d, st', h2.imp hf id, hK _ _ h3⟩
  · rename_i hw
    rw [if_neg hw] at h
    exact hK _ _ h
/-- A free operation does one thing. -/
theorem mOpA_and {ops : Array Oper} {f f' : Bool} {o : Oper} (hfr : freeA o = true) {K1 K2 : AA → St → Prop} {A : AA} (h1 : mOpA P r ro f ops o K1 A st) (h2 : mOpA P r ro f' ops o K2 A st) : mOpA P r ro f ops o (fun A st => K1 A st ∧ K2 A st) A st := by
  unfold mOpA at h1 h2 ⊢
  split
  · rename_i hw
    rw [if_pos hw, if_pos hfr] at h1 h2
    obtain ⟨d, a1, b1⟩ := h1
    obtain ⟨d', a2, b2⟩ := h2
    rw [a1] at a2
    cases a2
    exact ⟨d, a1, b1, b2⟩
  · rename_i hw
    rw [if_neg hw] at h1 h2
    exact ⟨h1, h2⟩
/-- One operation waits for one more. -/
def addE : List Oper → Nat → Nat → List Oper
  | [], _, _ => []
  | o :: l, 0, j => { o with after := o.after.push ⟨j, .data⟩ } :: l
  | o :: l, i + 1, j => o :: addE l i j
theorem addE_get : ∀ (l : List Oper) (i j k : Nat), (addE l i j)[k]? = if k = i then (l[k]?).map (fun o => { o with after := o.after.push ⟨j, .data⟩ }) else l[k]?
  | [], i, j, k => by simp [addE]
  | o :: l, 0, j, k => by cases k <;> simp [addE]
  | o :: l, i + 1, j, k => by
    cases k with
    | zero => simp [addE]
    | succ k => simp [addE, addE_get l i j k]
theorem addE_len : ∀ (l : List Oper) (i j : Nat), (addE l i j).length = l.length
  | [], _, _ => rfl
  | _ :: _, 0, _ => rfl
  | _ :: l, i + 1, j => by simp [addE, addE_len l i j]
theorem addE_same {l : List Oper} {x y i : Nat} {o : Oper} (h : l[i]? = some o) : ∃ o1, (addE l x y)[i]? = some o1 ∧ SameOp o1 o := by
  rw [addE_get, h]
  split
  · exact ⟨_, rfl, ⟨rfl, rfl, rfl, rfl, rfl⟩⟩
  · exact ⟨_, rfl, .refl _⟩
theorem addE_dst (l : List Oper) (x y j : Nat) : ((addE l x y).toArray[j]?).bind (fun o : Oper => o.dst) = (l.toArray[j]?).bind (fun o : Oper => o.dst) := by
  simp only [List.getElem?_toArray, addE_get]
  split
  · cases l[j]? <;> rfl
  · rfl
theorem ready_addE {l : List Oper} {x y i : Nat} {listed : Array Bool} : i ∈ Region.ready .any (addE l x y).toArray listed ↔ i ∈ Region.ready .any l.toArray listed ∧ (i = x → listed.getD y false = true) := by
  rw [mem_ready, mem_ready]
  simp only [List.getElem?_toArray, addE_get]
  constructor
  · rintro ⟨h1, o, ho, h2⟩
    split at ho
    · rename_i hix
      cases hl : l[i]? with
      | none => rw [hl] at ho; cases ho
      | some o' =>
        rw [hl] at ho
        cases ho
        exact ⟨⟨h1, o', rfl, fun e he hb => h2 e (by simp [he]) hb⟩, fun _ => h2 ⟨y, .data⟩ (by simp) rfl⟩
    · rename_i hix
      exact ⟨⟨h1, o, ho, h2⟩, fun e => absurd e hix⟩
  · rintro ⟨⟨h1, o, ho, h2⟩, h3⟩
    refine ⟨h1, ?_⟩
    split
    · rename_i hix
      rw [ho]
      refine ⟨_, rfl, fun e he hb => ?_⟩
      rcases Array.mem_push.1 he with h | h
      · exact h2 e h hb
      · subst h; exact h3 hix
    · exact ⟨o, ho, h2⟩
theorem flag_addE {l : List Oper} {x y i : Nat} (hl : lastAll (addE l x y).toArray = true → lastAll l.toArray = true) (h : (decide (i + 1 = (addE l x y).toArray.size) && lastAll (addE l x y).toArray) = true) : (decide (i + 1 = l.toArray.size) && lastAll l.toArray) = true := by
  simp only [Bool.and_eq_true, decide_eq_true_eq, List.size_toArray, addE_len] at h ⊢
  exact ⟨h.1, hl h.2⟩
/-- Once what is waited for has come, nothing more is asked. -/
theorem any_listed {l : List Oper} {x y : Nat} {Q : AA → St → Prop} (hl : lastAll (addE l x y).toArray = true → lastAll l.toArray = true) : ∀ (fuel : Nat) (listed : Array Bool) (A : AA) (st : St), listed.getD y false = true →
    wpAnyA P r ro .any (addE l x y).toArray Q fuel listed A st → wpAnyA P r ro .any l.toArray Q fuel listed A st
  | 0, listed, A, st, hy, h => by
    refine ⟨List.eq_nil_iff_forall_not_mem.2 fun i hi => ?_, h.2⟩
    have := (ready_addE (l := l) (x := x) (y := y)).2 ⟨hi, fun _ => hy⟩
    rw [h.1] at this; cases this
  | fuel + 1, listed, A, st, hy, h => by
    refine ⟨fun h0 => h.1 (List.eq_nil_iff_forall_not_mem.2 fun i hi => ?_), fun i hi o ho => ?_⟩
    · have := (ready_addE.1 hi).1
      rw [h0] at this; cases this
    · obtain ⟨o1, ho1, hs⟩ := addE_same (x := x) (y := y) (by simpa using ho)
      exact mOpA_same hs (addE_dst l x y) (flag_addE hl) (fun A st => any_listed hl fuel _ A st (getD_set_true hy)) (h.2 i (ready_addE.2 ⟨hi, fun _ => hy⟩) o1 (by simpa using ho1))
theorem listed_set {md : Region.Mode} {ops : Array Oper} {listed : Array Bool} {i : Nat} (h : i ∈ Region.ready md ops listed) : (listed.setIfInBounds i true).getD i false = true := by
  have h1 := (mem_ready.1 h).1
  rw [Array.getD_eq_getD_getElem?] at h1 ⊢
  rcases Nat.lt_or_ge i listed.size with h2 | h2
  · rw [Array.getElem?_setIfInBounds_self_of_lt h2]; rfl
  · rw [Array.getElem?_eq_none h2] at h1; cases h1
def freeB (l : List Oper) (a c : Nat) : Bool := (List.range l.length).all fun i => i == a || i == c || match l[i]? with
  | some o => freeA o || o.after.any (fun e => Region.binds .any e && (e.on == a || e.on == c))
  | none => true
/-- Every order has the one ahead of the other, or the other ahead of the one. -/
theorem any_two {l : List Oper} {a c : Nat} {Q : AA → St → Prop} (hac : a ≠ c) (hfree : freeB l a c = true) (hl1 : lastAll (addE l a c).toArray = true → lastAll l.toArray = true) (hl2 : lastAll (addE l c a).toArray = true → lastAll l.toArray = true) : ∀ (fuel : Nat) (listed : Array Bool) (A : AA) (st : St), listed.getD a false = false → listed.getD c false = false →
    wpAnyA P r ro .any (addE l a c).toArray Q fuel listed A st → wpAnyA P r ro .any (addE l c a).toArray Q fuel listed A st → wpAnyA P r ro .any l.toArray Q fuel listed A st
  | 0, listed, A, st, ha, hc, h1, h2 => by
    refine ⟨List.eq_nil_iff_forall_not_mem.2 fun i hi => ?_, h1.2⟩
    by_cases hia : i = a
    · have := (ready_addE (l := l) (x := c) (y := a)).2 ⟨hi, fun e => absurd (hia.symm.trans e) hac⟩
      rw [h2.1] at this; cases this
    · have := (ready_addE (l := l) (x := a) (y := c)).2 ⟨hi, fun e => absurd e hia⟩
      rw [h1.1] at this; cases this
  | fuel + 1, listed, A, st, ha, hc, h1, h2 => by
    refine ⟨fun h0 => h1.1 (List.eq_nil_iff_forall_not_mem.2 fun i hi => ?_), fun i hi o ho => ?_⟩
    · have := (ready_addE.1 hi).1
      rw [h0] at this; cases this
    · have ho' : l[i]? = some o := by simpa using ho
      obtain ⟨o1, ho1, hs1⟩ := addE_same (x := a) (y := c) ho'
      obtain ⟨o2, ho2, hs2⟩ := addE_same (x := c) (y := a) ho'
      by_cases hia : i = a
      · subst hia
        exact mOpA_same hs2 (addE_dst l c i) (flag_addE hl2) (fun A st => any_listed hl2 fuel _ A st (listed_set hi)) (h2.2 i (ready_addE.2 ⟨hi, fun e => absurd e hac⟩) o2 (by simpa using ho2))
      · by_cases hic : i = c
        · subst hic
          exact mOpA_same hs1 (addE_dst l a i) (flag_addE hl1) (fun A st => any_listed hl1 fuel _ A st (listed_set hi)) (h1.2 i (ready_addE.2 ⟨hi, fun e => absurd e hia⟩) o1 (by simpa using ho1))
        · have hfo : freeA o = true := by
            have hlt := (List.getElem?_eq_some_iff.1 ho').1
            have := List.all_eq_true.1 hfree i (List.mem_range.2 hlt)
            rw [ho'] at this
            simp only [Bool.or_eq_true, beq_iff_eq, hia, hic, false_or, Array.any_eq_true, Bool.and_eq_true] at this
            rcases this with h | ⟨q, hq, hb, he⟩
            · exact h
            · exfalso
              obtain ⟨-, o', hoo, hall⟩ := mem_ready.1 hi
              rw [ho] at hoo
              cases hoo
              have := hall _ (Array.getElem_mem hq) hb
              rcases he with he | he
              · rw [he, ha] at this; cases this
              · rw [he, hc] at this; cases this
          have k1 := mOpA_same (f' := (decide (i + 1 = l.toArray.size) && lastAll l.toArray)) hs1 (addE_dst l a c) (flag_addE hl1) (fun _ _ h => h) (h1.2 i (ready_addE.2 ⟨hi, fun e => absurd e hia⟩) o1 (by simpa using ho1))
          have k2 := mOpA_same (f' := (decide (i + 1 = l.toArray.size) && lastAll l.toArray)) hs2 (addE_dst l c a) (flag_addE hl2) (fun _ _ h => h) (h2.2 i (ready_addE.2 ⟨hi, fun e => absurd e hic⟩) o2 (by simpa using ho2))
          refine mOpA_same (.refl o) (fun _ => rfl) id (fun A st h => ?_) (mOpA_and hfo k1 k2)
          exact any_two hac hfree hl1 hl2 fuel _ A st (by rw [getD_set_ne false hia]; exact ha) (by rw [getD_set_ne false hic]; exact hc) h.1 h.2
/-! a walk in an order that is told -/
def wpOrdA (P : Program) (r : Option Nat) (ro : Ro) (ops : Array Oper) (Q : AA → St → Prop) : List Nat → AA → St → Prop
  | [], A, st => Q A st
  | k :: ks, A, st => ∀ o, ops[k]? = some o → mOpA P r ro (ks.isEmpty && lastAll ops) ops o (wpOrdA P r ro ops Q ks) A st
def mixOrdA (ms : List Nat) (ops : Array Oper) : List Nat → Array Bool → Bool
  | [], listed => (Region.ready .any ops listed).isEmpty
  | k :: ks, listed => (Region.ready .any ops listed).contains k && mixFreeA ms ops listed k && (!ks.isEmpty || k + 1 == ops.size) && mixOrdA ms ops ks (listed.setIfInBounds k true)
theorem wpAnyA_ord {ops : Array Oper} {ms : List Nat} (hms : MOk .any ops.toList ms) (hL : LastW ms ops) {Q : AA → St → Prop} : ∀ (ks : List Nat) (listed : Array Bool) (A : AA) (st : St), Keeps ro st → DC .any ops listed →
    mixOrdA ms ops ks listed = true → wpOrdA P r ro ops Q ks A st → wpAnyA P r ro .any ops Q ks.length listed A st
  | [], _, _, _, _, _, hB, h => ⟨by simpa [mixOrdA] using hB, h⟩
  | k :: ks, listed, A, st, hw, hdc, hB, h => by
    simp only [mixOrdA, Bool.and_eq_true] at hB
    obtain ⟨⟨⟨hr, hf⟩, hlst⟩, hB'⟩ := hB
    have hr' : k ∈ Region.ready .any ops listed := by simpa using hr
    obtain ⟨-, o, h0, -⟩ := mem_ready.1 hr'
    refine wpAnyA_first hms hL h0 ks.length listed A st hw hdc (mixFreeA_spec h0 hf) hr' ?_
    have h := h o h0
    cases ks with
    | nil =>
      have hk : k + 1 = ops.size := by simpa using hlst
      refine mOpA_same (.refl o) (fun _ => rfl) (f := true && lastAll ops) (fun q => by rw [decide_eq_true hk]; exact q) (fun A st hk => ?_) h
      exact ⟨by simpa [mixOrdA] using hB', hk⟩
    | cons k' ks =>
      refine mOpA_same (.refl o) (fun _ => rfl) (f := false) (fun q => by cases q) (fun _ _ h => h) (mOpA_put hw (fun v w' hc hk => ?_) h)
      exact wpAnyA_ord hms hL (k' :: ks) _ _ _ (hc.resolve_left (by simp)) (hdc.step hr') hB' hk
theorem ord_of_mix {l : List Oper} {ops : Array Oper} (hs : ∀ (i : Nat) (o : Oper), ops[i]? = some o → ∃ o', l[i]? = some o' ∧ SameOp o' o) (hd : ∀ j : Nat, (l.toArray[j]?).bind (fun o : Oper => o.dst) = (ops[j]?).bind (fun o : Oper => o.dst)) (hl : lastAll l.toArray = true → lastAll ops = true) {Q : AA → St → Prop} : ∀ (ks : List Nat) (A : AA) (st : St), (∀ k ∈ ks, k < l.length) →
    wpMixA P r ro l.toArray Q (ks.filterMap fun k => l[k]?) A st → wpOrdA P r ro ops Q ks A st
  | [], A, st, _, h => h
  | k :: ks, A, st, hk, h => fun o ho => by
    obtain ⟨o', ho', hso⟩ := hs k o ho
    rw [List.filterMap_cons, ho'] at h
    have he : (ks.filterMap fun k => l[k]?).isEmpty = true → ks.isEmpty = true := fun h0 => by
      cases ks with
      | nil => rfl
      | cons k' ks =>
        have hlt := hk k' (by simp)
        rw [List.filterMap_cons, List.getElem?_eq_getElem hlt] at h0
        simp at h0
    refine mOpA_same hso hd (fun q => ?_) (fun A st => ord_of_mix hs hd hl ks A st fun k' hk' => hk k' (List.mem_cons_of_mem _ hk')) h
    rw [Bool.and_eq_true] at q ⊢
    exact ⟨he q.1, hl q.2⟩
/-- The places of a list, from k on, less one. -/
def ixs : Nat → Nat → Option Nat → List Nat
  | 0, _, _ => []
  | n + 1, k, some 0 => ixs n (k + 1) none
  | n + 1, k, some (a + 1) => k :: ixs n (k + 1) (some a)
  | n + 1, k, none => k :: ixs n (k + 1) none
theorem ixs_none {α : Type} : ∀ (l pre : List α), (ixs l.length pre.length none).filterMap (fun k => (pre ++ l)[k]?) = l
  | [], pre => rfl
  | x :: l, pre => by
    have h := ixs_none l (pre ++ [x])
    simp only [List.length_append, List.length_cons, List.length_nil, List.append_assoc, List.cons_append, List.nil_append] at h
    simp only [List.length_cons, ixs, List.filterMap_cons]
    rw [List.getElem?_append_right (Nat.le_refl _), Nat.sub_self, List.getElem?_cons_zero]
    dsimp only
    rw [h]
theorem ixs_some {α : Type} : ∀ (l pre : List α) (a : Nat), (ixs l.length pre.length (some a)).filterMap (fun k => (pre ++ l)[k]?) = l.eraseIdx a
  | [], pre, a => by cases a <;> rfl
  | x :: l, pre, 0 => by
    have h := ixs_none l (pre ++ [x])
    simp only [List.length_append, List.length_cons, List.length_nil, List.append_assoc, List.cons_append, List.nil_append] at h
    simp only [List.length_cons, ixs, List.eraseIdx_cons_zero]
    exact h
  | x :: l, pre, a + 1 => by
    have h := ixs_some l (pre ++ [x]) a
    simp only [List.length_append, List.length_cons, List.length_nil, List.append_assoc, List.cons_append, List.nil_append] at h
    simp only [List.length_cons, ixs, List.filterMap_cons, List.eraseIdx_cons_succ]
    rw [List.getElem?_append_right (Nat.le_refl _), Nat.sub_self, List.getElem?_cons_zero]
    dsimp only
    rw [h]
theorem ixs_lt : ∀ (n k : Nat) (a : Option Nat), ∀ i ∈ ixs n k a, i < k + n
  | 0, _, _, _, h => by cases h
  | n + 1, k, some 0, i, h => by have := ixs_lt n (k + 1) none i h; omega
  | n + 1, k, some (a + 1), i, h => by
    rcases List.mem_cons.1 h with rfl | h
    · omega
    · have := ixs_lt n (k + 1) (some a) i h; omega
  | n + 1, k, none, i, h => by
    rcases List.mem_cons.1 h with rfl | h
    · omega
    · have := ixs_lt n (k + 1) none i h; omega
def twoB (l : List Oper) (a c : Nat) : Bool :=
  a != c && freeB l a c && decide (a < l.length) && (lastAll (addE l a c).toArray == lastAll l.toArray) && (lastAll (addE l c a).toArray == lastAll l.toArray) &&
  mixOrdA (masks .any (addE l a c) []) (addE l a c).toArray (ixs l.length 0 none) (Array.replicate l.length false) &&
  mixOrdA (masks .any (addE l c a) []) (addE l c a).toArray (a :: ixs l.length 0 (some a)) (Array.replicate l.length false)
theorem ixs_len : ∀ (n k : Nat), (ixs n k none).length = n
  | 0, _ => rfl
  | n + 1, k => by simp [ixs, ixs_len n]
theorem ixs_len' : ∀ (n k a : Nat), a < n → (ixs n k (some a)).length + 1 = n
  | 0, _, _, h => by omega
  | n + 1, k, 0, _ => by simp [ixs, ixs_len]
  | n + 1, k, a + 1, h => by simp [ixs, ixs_len' n (k + 1) a (by omega)]
/-- Two walks serve every order. -/
theorem tr_draw2 {N : Nat} {id : Nat} {l t : List Oper} {o : Oper} {A : AA} {Q : Exit → AA → St → Prop} (ro : Ro) (a c : Nat) (hm : P.follows .mixedOrders = true) (hB : twoB l a c = true) (hok : opsOk N l = true) (hC : Keeps ro st)
    (ha : l[a]? = some o) (ht : l.eraseIdx a = t) (h1 : wpMixA P r ro l.toArray (Q .normal) l A st) (h2 : wpMixA P r ro l.toArray (Q .normal) (o :: t) A st) : Tr P N r (.region id l.toArray true) A st Q := by
  intro ac w hr hh
  subst ht
  simp only [twoB, Bool.and_eq_true, bne_iff_ne, ne_eq, beq_iff_eq, decide_eq_true_eq] at hB
  obtain ⟨⟨⟨⟨⟨⟨hac, hfree⟩, halt⟩, hl1⟩, hl2⟩, hB1⟩, hB2⟩ := hB
  have hok' : ∀ (i : Nat) (o : Oper), l.toArray[i]? = some o → dstOk N o.dst = true ∧ guardOk N l.toArray o = true := fun i o ho => by
    have := List.all_eq_true.1 hok o (by simp at ho; exact List.mem_of_getElem? ho)
    simpa using this
  have he := Ext.drew (OwnS st) w
  have lw : ∀ (l : List Oper), LastW (masks .any l []) l.toArray := fun l h j i hj hi hne => by
    unfold lastAll at h
    have := List.all_eq_true.1 h i (List.mem_range.2 (by omega))
    rw [show l.toArray.size - 1 = j by omega] at this
    exact this
  have mk : ∀ (l : List Oper), MOk .any l.toArray.toList (masks .any l []) := fun l => masks_ok (md := .any) l l [] (by simp) (fun k i h => by simp at h)
  have dc : ∀ (l' : List Oper) (n : Nat), DC .any l'.toArray (Array.replicate n false) := fun l' n k o _ hl => absurd hl (by rw [getD_rep]; exact Bool.false_ne_true)
  have hs : ∀ x y, ∀ (i : Nat) (o : Oper), (addE l x y).toArray[i]? = some o → ∃ o', l[i]? = some o' ∧ SameOp o' o := fun x y i o ho => by
    have hi : i < l.length := by
      have := (Array.getElem?_eq_some_iff.1 ho).1
      simpa [addE_len] using this
    obtain ⟨o1, ho1, hso⟩ := addE_same (x := x) (y := y) (List.getElem?_eq_getElem hi)
    rw [List.getElem?_toArray, ho1] at ho
    cases ho
    exact ⟨_, List.getElem?_eq_getElem hi, hso.symm⟩
  have n1 := wpAnyA_ord (P := P) (r := r) (ro := ro) (mk (addE l a c)) (lw (addE l a c)) (Q := Q .normal) (ixs l.length 0 none) (Array.replicate l.length false) A st hC (dc _ _) hB1
    (ord_of_mix (hs a c) (fun j => (addE_dst l a c j).symm) (fun h => by rw [hl1]; exact h) _ A st (fun k hk => by have := ixs_lt _ _ _ k hk; omega) (by have := ixs_none l []; simp only [List.length_nil, List.nil_append] at this; rw [this]; exact h1))
  have n2 := wpAnyA_ord (P := P) (r := r) (ro := ro) (mk (addE l c a)) (lw (addE l c a)) (Q := Q .normal) (a :: ixs l.length 0 (some a)) (Array.replicate l.length false) A st hC (dc _ _) hB2
    (ord_of_mix (hs c a) (fun j => (addE_dst l c a j).symm) (fun h => by rw [hl2]; exact h) _ A st (fun k hk => by
      rcases List.mem_cons.1 hk with rfl | hk
      · exact halt
      · have := ixs_lt _ _ _ k hk; omega) (by have := ixs_some l [] a; simp only [List.length_nil, List.nil_append] at this; rw [List.filterMap_cons, ha]; dsimp only; rw [this]; exact h2))
  rw [ixs_len] at n1
  rw [List.length_cons, ixs_len' _ _ _ halt] at n2
  have hany := any_two (P := P) (r := r) (ro := ro) hac hfree (fun h => by rw [← hl1]; exact h) (fun h => by rw [← hl2]; exact h) l.length (Array.replicate l.length false) A st (getD_rep _ _) (getD_rep _ _) n1 n2
  refine wpIn_region_any hm ?_
  have hsz : l.toArray.size = l.length := by simp
  rw [hsz]
  exact wpAnyIn_of_A (mk l) (lw l) hok' _ _ A st ac w.drew _ (.inl hC) (dc _ _) (hr.ext he) (hh.drewN 1) hany fun A' st' a' w' q1 q2 q3 q5 => ⟨A', st', q1, q2, he.trans q3, q5⟩
theorem w_draw2 {N : Nat} {id : Nat} {l t : List Oper} {o : Oper} {A : AA} {Q : Exit → AA → St → Prop} (ro : Ro) (a c : Nat) (hm : P.follows .mixedOrders = true) (hB : twoB l a c = true) (hok : opsOk N l = true) (hC : Keeps ro st)
    (ha : l[a]? = some o) (ht : l.eraseIdx a = t) (h1 : W P r (some ro) l.toArray (Q .normal) l A st) (h2 : W P r (some ro) l.toArray (Q .normal) (o :: t) A st) : Tr P N r (.region id l.toArray true) A st Q := tr_draw2 ro a c hm hB hok hC ha ht h1 h2
end
end Go.Proofs.Ytlmklpbekgnceaa
end

/- A constant's bytes, as a list: a row is laid, and marked; it is one's own between. No statement is proved here. -/
section
namespace Go.Proofs.Ytlmklpbekgnceaa
set_option linter.unusedSimpArgs false
open Go.RowKit
section
variable {P : Program} {st : St} {w : World}
theorem build_run {t : TypeId} {n : Nat} {ps : List (Nat × D)} {vs : List (Nat × Value)} {d : D} (hh : Holds st w) (h1 : vs.map (·.1) = ps.map (·.1)) (h2 : RepL (OwnS st) w (vs.map (·.2)) (ps.map (·.2))) (h : aBuildSlice P t n ps = some d) : ∃ (e : TypeId) (sz by_ : Nat) (z : List Value) (ti : TI) (cells' : Array Value) (cs : List D), tinfo P t = some ti ∧ ti.k = .slice e sz by_ z ∧ d = .sl .tight (chop sz n cs) ∧ n ≤ 1000 ∧ 0 < sz ∧ cs.length = n * sz ∧
    (Instr.buildSlice t n vs.toArray).run P w = .ok (.slice (some ⟨w.heap.size, 0, none⟩) n n) (w.alloc (.cells cells' e)) ∧ RepL (OwnS st) w cells'.toList cs ∧ ∀ d ∈ cs, d.leaf = true := by
  unfold aBuildSlice at h
  split at h
  · rename_i ti hti
    split at h
    · rename_i e sz by_ z hk
      obtain ⟨hu, ii, zv, q1, q2, q3, q4, q5, q6, q7⟩ := (und_of_k hti).2.2.2.2.1 _ _ _ _ hk
      split at h
      · rename_i hz
        obtain ⟨hz, hn, hszb⟩ := hz
        split at h
        · rename_i cs hf
          split at h
          · rename_i hleaf
            cases h
            subst q3
            have hzn : zv.cells.toList.length = sz := by simpa using q7
            have hz0 : 0 < zv.cells.size := by omega
            have hcz : RepL (OwnS st) w ((Array.range (n * zv.cells.size)).map (zv.cells[· % zv.cells.size]!)).toList ((List.replicate n (zv.cells.toList.map leafD)).flatten.map D.sh) := by
              rw [range_rep _ hz0]; exact (rep_zero hz n).sh
            obtain ⟨cells', k1, k2⟩ := fill_rep h1 h2 hcz hf
            have hlen : ∀ {ps : List (Nat × D)} {cs cs' : List D}, aFill (fun i => some (i * sz, sz)) cs ps = some cs' → cs'.length = cs.length := by
              intro ps
              induction ps with
              | nil => intro cs cs' h; cases h; rfl
              | cons p ps ih =>
                obtain ⟨i, dd⟩ := p
                intro cs cs' h
                unfold aFill at h
                simp only at h
                split at h
                · rename_i hq
                  rw [ih h]
                  unfold splice
                  simp only [List.length_append, List.length_take, List.length_drop, List.length_map]
                  omega
                · cases h
            have hcl : cs.length = n * sz := by rw [hlen hf, rep_len, hzn]
            obtain ⟨c1, c2, c3⟩ := chop_flat n cs hcl
            have hbig : ¬ (n * sz > 2 ^ 24) := by
              have : n * sz ≤ 1000 * 100 := Nat.mul_le_mul hn hszb
              omega
            have hrun : (Instr.buildSlice t n vs.toArray).run P w = .ok (.slice (some ⟨w.heap.size, 0, none⟩) n n) (w.alloc (.cells cells' e)) := by
              have hsize : (sizeOf e).run P w = .ok sz w := by simp [sizeOf, typeInfo, q1, q4]
              have hzero : (zeroValue e).run P w = .ok zv w := by simp [zeroValue, typeInfo, q1, q2]
              simp only [Instr.buildSlice, Sem.run_bind, run_underlying hu, Result.andThen_ok, hsize]
              rw [if_neg hbig]
              by_cases hn0 : n * sz = 0
              · rw [if_pos hn0]
                simp only [Sem.run_bind, Sem.run_pure, Result.andThen_ok]
                have : ((Array.range (n * sz)).map ((#[] : Array Value)[· % (#[] : Array Value).size]!)) = ((Array.range (n * zv.cells.size)).map (zv.cells[· % zv.cells.size]!)) := by
                  rw [q7, hn0]; simp
                rw [this, k1]
                rfl
              · rw [if_neg hn0]
                simp only [Sem.run_bind, hzero, Result.andThen_ok, Sem.run_pure]
                rw [show n * sz = n * zv.cells.size by rw [q7], k1]
                rfl
            exact ⟨e, sz, by_, _, ti, cells', cs, hti, hk, rfl, hn, q6, hcl, hrun, k2, List.all_eq_true.1 hleaf⟩
          · cases h
        · cases h
      · cases h
    · cases h
  · cases h

end
theorem flat_chop1 : ∀ (n : Nat) (cs : List D), cs.length = n → (chop 1 n cs).flatten = cs ∧ chop 1 n cs = cs.map fun d => [d]
  | 0, cs, h => by rw [List.eq_nil_of_length_eq_zero h]; exact ⟨rfl, rfl⟩
  | n + 1, [], h => by simp at h
  | n + 1, d :: cs, h => by
    obtain ⟨h1, h2⟩ := flat_chop1 n cs (by simpa using h)
    rw [chop]
    simp only [List.take_succ_cons, List.take_zero, List.drop_succ_cons, List.drop_zero, List.flatten_cons, List.map_cons]
    rw [h1, h2]
    exact ⟨rfl, rfl⟩
section
variable {P : Program} {r : Option Nat} {A : AA} {st : St} {w : World} {m : Option Ro} {k : D → St → Prop} {dst : Option Tmp} {ty : TypeId} {pos : String} {aft : Array Edge} {gd : Option (Nat × Bool)}
/-- A literal's row, one's own. -/
theorem s_buildAr {t : TypeId} {n : Nat} {ps : Array (Nat × Operand)} (h : Ev ((evP A.e ps.toList).bind (aBuildSlice P t n)) fun d => ∃ es el by_, d = .sl .tight es ∧ sliceT P t = some (el, 1, by_) ∧ ∀ g, k (.ar g 0 n n) (.box g el es.flatten :: st)) : S P r none ⟨dst, .buildSlice t n ps, ty, pos, aft, gd⟩ A st k := by
  obtain ⟨d, h1, es, el, by_, rfl, hs, hk⟩ := h
  refine opC_val (by intro c hc; cases hc) fun ρ w hr hh => .inl ?_
  cases hp : evP A.e ps.toList with
  | none => rw [hp] at h1; cases h1
  | some ds =>
    rw [hp] at h1
    obtain ⟨k1, k2⟩ := evP_rep hr (fun x hx => by simp only [Op.operands, List.mem_toArray, List.mem_map]; exact ⟨x, hx, rfl⟩) hp
    obtain ⟨e, sz, by1, z, ti, cells', cs, q1, q2, q3, q4, q5, q6, q7, q8, q9⟩ := build_run hh k1 k2 h1
    have hs2 : sliceT P t = some (e, sz, by1) := by unfold sliceT; rw [q1, Option.bind_some, q2]
    rw [hs] at hs2
    cases hs2
    obtain ⟨c1, c2⟩ := flat_chop1 n cs (by omega)
    have hes : es.flatten = cs := by
      have : es = chop 1 n cs := by cases q3; rfl
      rw [this, c1]
    have he : ps.map (fun p => (p.1, ρ p.2)) = (ps.toList.map fun p => (p.1, ρ p.2)).toArray := by apply Array.ext'; simp
    obtain ⟨n1, n2⟩ := new_box hh el q8 q9
    refine ⟨_, _, ?_, .ar w.heap.size 0 n n, .box w.heap.size el cs :: st, .ar _ _ _ _ (Nat.le_refl _) (by unfold maxLen; omega), n1, n2, ?_⟩
    · unfold execOp
      simp only [he, Sem.run_bind, q7, Result.andThen_ok, Sem.run_pure]
    · have := hk w.heap.size
      rw [hes] at this
      exact this
theorem s_buildMark {t : TypeId} {n : Nat} {ps : Array (Nat × Operand)} {es : List (List D)} {el : TypeId} {by_ : Nat} {cs : List D} (he : (evP A.e ps.toList).bind (aBuildSlice P t n) = some (.sl .tight es)) (hs : sliceT P t = some (el, 1, by_)) (hf : es.flatten = cs) (hk : ∀ g, k (.ar g 0 n n) (.box g el cs :: st)) :
    S P r none ⟨dst, .buildSlice t n ps, ty, pos, aft, gd⟩ A st k := s_buildAr ⟨_, he, es, el, by_, rfl, hs, fun g => by rw [hf]; exact hk g⟩
/-- The row is marked: nobody writes it any more. -/
theorem s_convMark {t : TypeId} {x : Operand} {g n : Nat} {el : TypeId} {by_ : Nat} {cs : List D} (hx : ev A.e x = some (.ar g 0 n n)) (hs : sliceT P t = some (el, 1, by_)) (hu : kT P el = .int .u8) (hn : cs.length = n) (hk : k (.sl .shared (cs.map fun d => [d])) st) :
    S P r none ⟨dst, .convert t t x, ty, pos, aft, gd⟩ A (.box g el cs :: st) k := by
  refine opC_val (by intro c hc; cases hc) fun ρ w hr hh => .inl ?_
  have hv := hr _ (by simp [Op.operands]) _ hx
  generalize hρ : ρ x = v at hv
  cases hv with
  | ar _ _ _ _ c1 c2 =>
  obtain ⟨ti, z, q1, q2⟩ := sliceT_spec hs
  have hut : P.underlying t = some (.slice el) := ((und_of_k q1).2.2.2.2.1 _ _ _ _ q2).1
  obtain ⟨te, q3, q4⟩ := kT_spec hu (by simp)
  have hue := (und_of_k q3).2.1 _ q4
  obtain ⟨⟨us, hb, hrl⟩, hlf⟩ := hh.2 (.box g el cs) (List.mem_cons_self ..)
  have hlt := (Array.getElem?_eq_some_iff.1 hb).1
  obtain ⟨w', hw'⟩ : ∃ w', w' = w.freeze ⟨g, us.size, none⟩ 1 := ⟨_, rfl⟩
  have hsh : w.shape? g = some (el, us.size) := by unfold World.shape?; rw [hb]
  have hfr : ∀ b, w'.heap[b]? = if g = b then some (.cells us el (us.size, us.size + 1)) else w.heap[b]? := fun b => by
    rw [hw']; unfold World.freeze; rw [if_neg (by decide)]
    simp only [Array.getElem?_modify]
    split
    · rename_i h; subst h; rw [hb]; simp
    · rfl
  have hg : w'.heap[g]? = some (.cells us el (us.size, us.size + 1)) := by rw [hfr, if_pos rfl]
  have hold : ∀ b, b ≠ g → w'.heap[b]? = w.heap[b]? := fun b hne => by rw [hfr, if_neg (Ne.symm hne)]
  have hos : w'.os = w.os ∧ w'.tape = w.tape ∧ w'.output = w.output ∧ w'.heap.size = w.heap.size := by
    rw [hw']; unfold World.freeze; rw [if_neg (by decide)]; simp
  have hown : ∀ b off, OwnS st b off → OwnS (.box g el cs :: st) b off := fun b off ho => OwnS.cons_iff.2 (.inr ho)
  have he : Ext (OwnS (.box g el cs :: st)) w (OwnS st) w' := by
    refine ⟨hos.1, hos.2.1, hos.2.2.1, by rw [hos.2.2.2]; exact Nat.le_refl _, fun b off _ ho => hown b off ho, fun b hbl hno => hold b fun e => hno 0 (OwnS.cons_iff.2 (.inl ⟨by rw [e]; rfl, Nat.zero_le _⟩)), fun b c E fr hc => ?_⟩
    by_cases hbg : b = g
    · subst hbg
      rw [hb] at hc
      cases hc
      exact ⟨us, _, hg, rfl, fun _ _ => rfl⟩
    · exact ⟨c, fr, (hold b hbg).trans hc, rfl, fun _ _ => rfl⟩
  have hne : ∀ o, ¬ OwnS st g o := fun o ho => by
    obtain ⟨y, hy, hyb, _⟩ := ho
    exact (List.pairwise_cons.1 hh.1).1 y hy g rfl hyb
  refine ⟨.slice (some ⟨g, 0, none⟩) n n, w', ?_, .sl .shared (cs.map fun d => [d]), st, ?_, ?_, he, hk⟩
  · unfold execOp
    simp only [hρ]
    have hc : (convert t t (.slice (some ⟨g, 0, none⟩) n n)).run P w = .ok (.slice (some ⟨g, 0, none⟩) n n) w' := by
      rw [hw']
      simp [convert, run_underlying hut, run_underlying hue, markStringish, hsh]
    simp only [Sem.run_bind, hc, Result.andThen_ok, Sem.run_pure]
  · have hr2 := hrl.ext he
    have hl : us.toList.length = cs.length := hrl.1
    have := Rep.sl (O := OwnS st) (w := w') .shared (cs.map fun d => [d]) (some ⟨g, 0, none⟩) n us.toList 1 (by simp [hn]) c2 (fun e => by cases e) (Nat.lt_succ_self _) (fun e he => by obtain ⟨y, -, rfl⟩ := List.mem_map.1 he; rfl)
      (by rw [flat_one, List.map_id']; exact hl) (fun d hd => by rw [flat_one, List.map_id'] at hd; exact hlf d hd) (fun i hi => ⟨g, 0, rfl, (Array.getElem?_eq_some_iff.1 hg).1, hne _, by
        rw [Nat.zero_add, cell_of_row _ g i us el _ hg]
        simp⟩)
      (fun i hi hi' => by
        have := hr2.2 i hi (by rw [← hl]; exact hi)
        simpa only [flat_one, List.map_id'] using this) trivial
    rwa [List.length_map, hn] at this
  · exact ⟨(List.pairwise_cons.1 hh.1).2, fun y hy => (hh.2 y (List.mem_cons_of_mem _ hy)).ext he fun b hb => hold b fun e => (List.pairwise_cons.1 hh.1).1 y hy g rfl (e ▸ hb)⟩
end
end Go.Proofs.Ytlmklpbekgnceaa
end

/- The plain law of layer 4 (check sums): no program in sight. -/
section
namespace Go.Proofs.Ytlmklpbekgnceaa
open Go.RowKit
namespace SumL
def isU32 (n : Int) : Bool := decide (0 ≤ n ∧ n ≤ 4294967295)
def step1 (p i : Nat) : Nat := if i % 2 = 1 then (i / 2) ^^^ p else i / 2
def row (p : Nat) : Nat → Nat → Nat
  | 0, i => i
  | k + 1, i => step1 p (row p k i)
def tabN (p : Nat) : List Nat := (List.range 256).map (row p 8)
def tab (p : Int) : List Int := if isU32 p then (tabN p.toNat).map Int.ofNat else []
def isTab (t : List Int) : Bool := t.length == 256 && t.all isU32
def crcStep (t : List Int) (r : Nat) (c : UInt8) : Nat := (t[(r % 256) ^^^ c.toNat]?.getD 0).toNat ^^^ (r / 256)
def crc (t : List Int) (r : Nat) (b : List UInt8) : Nat := b.foldl (crcStep t) r
def more (t : List Int) (s : Int) (b : List UInt8) : Int := if isTab t && isU32 s then 4294967295 - (crc t (4294967295 - s.toNat) b : Int) else -1
def put (n : Int) : List UInt8 := [UInt8.ofNat ((n / 16777216) % 256).toNat, UInt8.ofNat ((n / 65536) % 256).toNat, UInt8.ofNat ((n / 256) % 256).toNat, UInt8.ofNat (n % 256).toNat]
def get : List UInt8 → Int
  | [a, b, c, d] => (((a.toNat * 256 + b.toNat) * 256 + c.toNat) * 256 + d.toNat : Nat)
  | _ => -1
def bitStep (r : Nat) (c : UInt8) : Nat := row 3988292384 8 ((r ^^^ c.toNat) % 256) ^^^ (r / 256)
def bitSum (b : List UInt8) : Int := 4294967295 - (b.foldl bitStep 4294967295 : Nat)
theorem step1_lt {p i : Nat} (hp : p < 4294967296) (hi : i < 4294967296) : step1 p i < 4294967296 := by
  unfold step1; split
  · exact Nat.xor_lt_two_pow (n := 32) (by omega) (by omega)
  · omega
theorem row_lt {p : Nat} (hp : p < 4294967296) {i : Nat} (hi : i < 4294967296) : ∀ k, row p k i < 4294967296
  | 0 => hi
  | k + 1 => step1_lt hp (row_lt hp hi k)
theorem crcStep_lt {t : List Int} (ht : isTab t = true) {r : Nat} (hr : r < 4294967296) (c : UInt8) : crcStep t r c < 4294967296 := by
  unfold crcStep
  have hx : (t[(r % 256) ^^^ c.toNat]?.getD 0).toNat < 4294967296 := by
    simp only [isTab, Bool.and_eq_true, List.all_eq_true, beq_iff_eq, isU32, decide_eq_true_eq] at ht
    by_cases h : (r % 256) ^^^ c.toNat < t.length
    · rw [List.getElem?_eq_getElem h, Option.getD_some]
      have := ht.2 _ (List.getElem_mem h)
      omega
    · rw [List.getElem?_eq_none (by omega)]; decide
  exact Nat.xor_lt_two_pow (n := 32) (by omega) (by omega)
theorem crc_lt {t : List Int} (ht : isTab t = true) : ∀ (b : List UInt8) {r : Nat}, r < 4294967296 → crc t r b < 4294967296
  | [], _, h => h
  | c :: b, _, h => crc_lt ht b (crcStep_lt ht h c)
theorem crc_snoc (t : List Int) (r : Nat) (b : List UInt8) (c : UInt8) : crc t r (b ++ [c]) = crcStep t (crc t r b) c := by simp [crc]
theorem crc_append (t : List Int) (r : Nat) (a b : List UInt8) : crc t r (a ++ b) = crc t (crc t r a) b := by simp [crc]
theorem bitStep_lt {r : Nat} (hr : r < 4294967296) (c : UInt8) : bitStep r c < 4294967296 := by
  unfold bitStep
  have := row_lt (p := 3988292384) (by decide) (i := (r ^^^ c.toNat) % 256) (by omega) 8
  exact Nat.xor_lt_two_pow (n := 32) (by omega) (by omega)
theorem bitFold_lt : ∀ (b : List UInt8) {r : Nat}, r < 4294967296 → b.foldl bitStep r < 4294967296
  | [], _, h => h
  | c :: b, _, h => bitFold_lt b (bitStep_lt h c)
theorem idx_lt (r : Nat) (c : UInt8) : (r % 256) ^^^ c.toNat < 256 := Nat.xor_lt_two_pow (n := 8) (by omega) c.toNat_lt
end SumL
end Go.Proofs.Ytlmklpbekgnceaa
end

/- The walks of layer 4 (check sums): what each function of the package sum, and of its reference, computes. -/
section
namespace Go.Proofs.Ytlmklpbekgnceaa
open Go.RowKit SumL

theorem number_any (n : Int) (w : World) :
    Calls Try.prog 29 #[.int .i64 n] w fun e w' => e = .returned (.bool (isU32 n)) ∧ w = w' := by
  by_cases h0 : 0 ≤ n
  · by_cases h1 : n ≤ 4294967295
    · have e : isU32 n = true := by simp [isU32, h0, h1]
      rw [e]
      go_enter Try.func29, Try.ntmps29
      go_wp2
      go_ret; exact ⟨rfl, rfl⟩
    · have e : isU32 n = false := by simp [isU32, h1]
      rw [e]
      go_enter Try.func29, Try.ntmps29
      go_wp2
      go_ret; exact ⟨rfl, rfl⟩
  · have e : isU32 n = false := by simp [isU32, h0]
    rw [e]
    go_enter Try.func29, Try.ntmps29
    go_wp2
    go_ret; exact ⟨rfl, rfl⟩

theorem row_any (p i : Nat) (w : World) (hp : p < 4294967296) (hi : i < 4294967296) :
    Calls Try.prog 31 #[.int .i64 (p : Int), .int .i64 (i : Int)] w fun e w' => e = .returned (.int .i64 (row p 8 i : Nat)) ∧ w = w' := by
  go_enter Try.func31, Try.ntmps31
  go_wp2
  go_loop [1, 5, 6] (fun x k o => ∃ j : Nat, j ≤ 8 ∧ k = .int .i64 j ∧ x = .int .i64 (row p j i : Nat)) (fun _ k _ => 8 - (intOf k).toNat)
  case atStart => exact ⟨0, by omega, rfl, rfl⟩
  case round =>
    obtain ⟨j, hj, rfl, rfl⟩ := hrel
    have hy := row_lt hp hi j
    have HS : Hid (row p (j + 1) i = step1 p (row p j i)) := rfl
    by_cases hlt : j < 8
    · generalize row p j i = y at *
      by_cases hodd : y % 2 = 1
      · have hx : Hid (bits .xor .i64 ((y : Int) / 2) (p : Int) = (((y / 2) ^^^ p : Nat) : Int)) := i64_xor_nat (y / 2) p (by omega) (by omega)
        have ho : (((y : Int) % 2) == 1) = true := by rw [beq_iff_eq]; omega
        have hs : Hid (step1 p y = (y / 2) ^^^ p) := by show step1 p y = _; simp [step1, hodd]
        clear hodd
        go_wp2
        go_round
        case rel => exact ⟨j + 1, by omega, by go_num, by rw [HS.out, hs.out, hx.out]⟩
        case measure => simp [intOf]; omega
      · have ho : (((y : Int) % 2) == 1) = false := by rw [beq_eq_false_iff_ne]; omega
        have hs : Hid (step1 p y = (y / 2)) := by show step1 p y = _; simp [step1, hodd]
        clear hodd
        go_wp2
        go_round
        case rel => exact ⟨j + 1, by omega, by go_num, by rw [HS.out, hs.out]; go_num⟩
        case measure => simp [intOf]; omega
    · have e : j = 8 := by omega
      subst e
      go_wp2
      go_ret
      exact ⟨rfl, rfl⟩

theorem sumPut_any (n : Int) (w : World) :
    Calls Try.prog 20 #[.int .i64 n] w fun e w' => ∃ v, e = .returned v ∧ w'.ownsRow w.heap.size 5 1 v 4 ((put n).map bv) ∧ Below w.heap.size w w' := by
  go_enter Try.func20, Try.ntmps20
  go_wp2
  go_ret
  refine ⟨_, rfl, ?_, (Below.refl _ _).alloc (Nat.le_refl _) _⟩
  have hp : ((put n).map bv) = [Value.int .u8 (n / 16777216 % 256), Value.int .u8 (n / 65536 % 256), Value.int .u8 (n / 256 % 256), Value.int .u8 (n % 256)] := by
    simp only [put, List.map_cons, List.map_nil, bv, UInt8.toNat_ofNat']
    congr 1
    · congr 1; omega
    · congr 1
      · congr 1; omega
      · congr 1
        · congr 1; omega
        · congr 2; omega
  rw [hp]
  exact World.ownsRow_lit (base := w.heap.size) (e := 5) (size := 1) w _ 4 (Nat.le_refl _) (by decide) rfl
theorem sumTable1_any (n : Int) (w : World) :
    Calls Try.prog 39 #[.int .i64 n] w fun e w' => e = .returned (.bool (!isU32 n)) ∧ w = w' := by
  go_enter Try.func39, Try.ntmps39
  go_wp2_with (go_at_call 29; refine (number_any _ _).mono ?_; rintro e w' ⟨rfl, rfl⟩)
  go_ret
  exact ⟨rfl, rfl⟩
theorem indexFunc_any (v : Value) (t : List Int) (w : World) (h : Sees iv w v t) :
    Calls Try.prog 40 #[v, .func (.func 39) #[] #[]] w fun e w' => (∃ n : Int, e = .returned (.int .i64 n) ∧ (t.all isU32 = true ↔ n < 0)) ∧ w = w' := by
  obtain ⟨a, cap, rfl, h1, h2, h3, h4⟩ := h
  unfold maxLen at h2
  go_enter Try.func40, Try.ntmps40
  go_wp2
  go_loop [5, 8] (fun _ i => ∃ k : Nat, k ≤ t.length ∧ i = .int .i64 k ∧ (t.take k).all isU32 = true) (fun _ i => t.length - (intOf i).toNat)
  case atStart => exact ⟨0, Nat.zero_le _, rfl, rfl⟩
  case round =>
    obtain ⟨k, hk, rfl, ha⟩ := hrel
    have HA := Lib.hid ha; clear ha
    by_cases hlt : k < t.length
    · obtain ⟨⟨b, off, s⟩, rfl⟩ : ∃ b, a = some b := by
        cases a with
        | none => have := h3 rfl; omega
        | some b => exact ⟨b, rfl⟩
      obtain ⟨e1, e2, e3⟩ := h4 _ rfl (by omega)
      dsimp only at e1 e2 e3
      subst e1
      have hc := e3 k hlt
      have HS := Lib.hid (take_snoc t k hlt)
      clear h4 e3 h3
      obtain ⟨x, hx⟩ : ∃ x, t[k] = x := ⟨_, rfl⟩
      rw [hx] at hc HS; clear hx
      unfold iv at hc
      by_cases hu : isU32 x = true
      · have hu' : (!isU32 x) = false := by simp [hu]
        go_wp2_with (go_at_call 39; refine (sumTable1_any _ _).mono ?_; rintro e w' ⟨rfl, rfl⟩)
        go_round
        case rel => exact ⟨k + 1, by omega, by go_num, by rw [HS.out, List.all_append, HA.out]; simp [hu]⟩
        case measure => simp [intOf]; omega
      · have hu' : (!isU32 x) = true := by simpa using hu
        go_wp2_with (go_at_call 39; refine (sumTable1_any _ _).mono ?_; rintro e w' ⟨rfl, rfl⟩)
        go_ret
        refine ⟨⟨_, rfl, ?_⟩, rfl⟩
        constructor
        · intro hall
          exfalso; apply hu
          have : x ∈ t := by
            have := congrArg (x ∈ ·) HS.out
            exact List.mem_of_mem_take (i := k + 1) (by rw [HS.out]; simp)
          exact List.all_eq_true.1 hall x this
        · intro; omega
    · clear h4 h3
      go_wp2
      go_ret
      refine ⟨⟨_, rfl, ?_⟩, rfl⟩
      have := HA.out
      rw [List.take_of_length_le (by omega)] at this
      exact ⟨fun _ => by decide, fun _ => List.all_eq_true.1 this⟩

theorem containsFunc_any (v : Value) (t : List Int) (w : World) (h : Sees iv w v t) :
    Calls Try.prog 38 #[v, .func (.func 39) #[] #[]] w fun e w' => e = .returned (.bool (!t.all isU32)) ∧ w = w' := by
  obtain ⟨b, hb⟩ : ∃ b, t.all isU32 = b := ⟨_, rfl⟩
  rw [hb]
  go_enter Try.func38, Try.ntmps38
  have HB := Lib.hid hb; clear hb
  go_wp2_with fail
  refine (indexFunc_any _ _ _ h).mono ?_
  rintro e w' ⟨⟨n, rfl, hn⟩, rfl⟩
  rw [HB.out] at hn
  have HN := Lib.hid hn; clear hn
  cases b with
  | true =>
    have : n < 0 := HN.out.1 rfl
    go_wp2
    go_ret; exact ⟨ret_bool (by simp; try omega), rfl⟩
  | false =>
    have : ¬ n < 0 := fun h => by have := HN.out.2 h; cases this
    go_wp2
    go_ret; exact ⟨ret_bool (by simp; try omega), rfl⟩
theorem table_any (v : Value) (t : List Int) (w : World) (h : Sees iv w v t) :
    Calls Try.prog 36 #[v] w fun e w' => e = .returned (.bool (isTab t)) ∧ w = w' := by
  have h0 := h
  obtain ⟨a, cap, rfl, h1, -⟩ := h0
  by_cases hl : t.length = 256
  · have e : isTab t = (t.all isU32) := by simp [isTab, hl]
    rw [e]
    obtain ⟨b, hb⟩ : ∃ b, t.all isU32 = b := ⟨_, rfl⟩
    rw [hb]
    have HB := Lib.hid hb; clear hb e
    have hl' : ((t.length : Int) == 256) = true := by rw [beq_iff_eq]; omega
    have HL := Lib.hid hl; clear hl
    go_enter Try.func36, Try.ntmps36
    go_wp2_with fail
    refine (containsFunc_any _ _ _ h).mono ?_
    rintro e w' ⟨rfl, rfl⟩
    rw [HB.out]
    go_wp2
    go_ret
    exact ⟨by simp, rfl⟩
  · have e : isTab t = false := by simp [isTab, hl]
    rw [e]
    have hl' : ((t.length : Int) == 256) = false := by rw [beq_eq_false_iff_ne]; omega
    clear e
    go_enter Try.func36, Try.ntmps36
    go_wp2
    go_ret; exact ⟨rfl, rfl⟩
end Go.Proofs.Ytlmklpbekgnceaa
end

/- The walks of layer 4, continued: sums of bytes. -/
section
namespace Go.Proofs.Ytlmklpbekgnceaa
open Go.RowKit SumL

theorem isTab_len {t : List Int} (h : isTab t = true) : t.length = 256 := by
  simp only [isTab, Bool.and_eq_true, beq_iff_eq] at h; exact h.1
theorem isTab_get {t : List Int} (h : isTab t = true) (j : Nat) (hj : j < 256) : 0 ≤ t[j]'(by rw [isTab_len h]; exact hj) ∧ t[j]'(by rw [isTab_len h]; exact hj) ≤ 4294967295 := by
  have := h
  simp only [isTab, Bool.and_eq_true, List.all_eq_true, isU32, decide_eq_true_eq] at this
  exact this.2 _ (List.getElem_mem _)
theorem more_bad {t : List Int} {s : Int} (b : List UInt8) (h : (isTab t && isU32 s) = false) : more t s b = -1 := by simp [more, h]
theorem more_good {t : List Int} {s : Int} (b : List UInt8) (h : isTab t = true) (h' : isU32 s = true) : more t s b = 4294967295 - (crc t (4294967295 - s.toNat) b : Int) := by simp [more, h, h']

set_option maxHeartbeats 400000 in
theorem more_any (tv bv' : Value) (t : List Int) (s : Int) (b : List UInt8) (w : World) (ht : Sees iv w tv t) (hb : Sees bv w bv' b) :
    Calls Try.prog 28 #[tv, .int .i64 s, bv'] w fun e w' => e = .returned (.int .i64 (more t s b)) ∧ w = w' := by
  by_cases hT : isTab t = true
  · by_cases hS : isU32 s = true
    · have hm := Lib.hid (more_good b hT hS)
      have hs : 0 ≤ s ∧ s ≤ 4294967295 := by simpa [isU32] using hS
      obtain ⟨hs0, hs1⟩ := hs
      obtain ⟨S, rfl⟩ := Int.eq_ofNat_of_zero_le hs0
      obtain ⟨a, cap, rfl, h1, h2, h3, h4⟩ := id ht
      obtain ⟨a', cap', rfl, h1', h2', h3', h4'⟩ := hb
      unfold maxLen at h2 h2'
      have hlen := isTab_len hT
      obtain ⟨⟨tb, toff, ts⟩, rfl⟩ : ∃ b, a = some b := by
        cases a with
        | none => have := h3 rfl; omega
        | some b => exact ⟨b, rfl⟩
      obtain ⟨e1, e2, e3⟩ := h4 _ rfl (by omega)
      dsimp only at e1 e2 e3
      subst e1
      clear h4 h3
      have HT := Lib.hid hT
      have HSS := Lib.hid hS
      have HL := Lib.hid hlen
      have HR : Hid (∀ b, crc t (4294967295 - S) b < 4294967296) := fun b => crc_lt hT b (by omega)
      have hx := Lib.hid (u32_not S (by omega))
      have HC : Hid (∀ j (h : j < 256), ∃ X : Nat, X < 4294967296 ∧ w.cell? ⟨tb, toff + j, none⟩ = some (.int .i64 (X : Int)) ∧ (t[j]?.getD 0).toNat = X) := fun j hj => by
        obtain ⟨g0, g1⟩ := isTab_get hT j hj
        obtain ⟨X, hX⟩ := Int.eq_ofNat_of_zero_le g0
        have hX' : t[j]'(by omega) = (X : Int) := hX
        refine ⟨X, by omega, ?_, by rw [List.getElem?_eq_getElem (by omega), Option.getD_some, hX']; rfl⟩
        have := e3 j (by omega)
        rw [hX'] at this; exact this
      clear e3
      have hlen' : 256 ≤ t.length := by omega
      clear hT hS hlen
      go_enter Try.func28, Try.ntmps28
      go_wp2_with fail
      refine (table_any _ _ _ ht).mono ?_
      rintro e w' ⟨rfl, rfl⟩
      rw [HT.out]
      go_wp2_with fail
      refine (number_any _ _).mono ?_
      rintro e w' ⟨rfl, rfl⟩
      rw [HSS.out]
      go_wp2
      go_loopw [7, 9, 23] (fun r _ i wr => wr = w ∧ ∃ k : Nat, k ≤ b.length ∧ i = .int .i64 k ∧ r = .int .u32 (crc t (4294967295 - S) (b.take k) : Nat)) (fun _ _ i _ => b.length - (intOf i).toNat)
      case atStart => exact ⟨rfl, 0, Nat.zero_le _, rfl, by rw [hx.out]; rfl⟩
      case round =>
        obtain ⟨rfl, k, hk, rfl, rfl⟩ := hrel
        have hr := HR.out (b.take k)
        by_cases hlt : k < b.length
        · obtain ⟨⟨b', off', s'⟩, rfl⟩ : ∃ b, a' = some b := by
            cases a' with
            | none => have := h3' rfl; omega
            | some b => exact ⟨b, rfl⟩
          obtain ⟨e1, e2', e3'⟩ := h4' _ rfl (by omega)
          dsimp only at e1 e2' e3'
          subst e1
          have hc := e3' k hlt
          have HS := Lib.hid (crc_snoc t (4294967295 - S) (b.take k) b[k])
          rw [← take_snoc b k hlt] at HS
          clear h4' e3' h3'
          generalize b[k] = c at *
          generalize crc t (4294967295 - S) (b.take k) = R at *
          have hcl := c.toNat_lt
          have hj := idx_lt R c
          have hx1 : bits BinOp.xor IntKind.u8 ((R : Int) % 256) (c.toNat : Int) = (((R % 256) ^^^ c.toNat : Nat) : Int) := u8_xor_nat (R % 256) c.toNat (by omega) hcl
          obtain ⟨X, hX, hcell, hXe⟩ := HC.out _ hj
          have HS2 := Lib.hid (show crcStep t R c = X ^^^ (R / 256) by rw [crcStep, hXe])
          clear hXe
          generalize (R % 256) ^^^ c.toNat = j at *
          have hx2 := Lib.hid (u32_xor_nat X (R / 256) hX (by omega))
          unfold bv at hc
          go_wp2
          go_roundw
          case rel => exact ⟨by trivial, k + 1, by omega, by go_num, by rw [HS.out, HS2.out, ← hx2.out]; rfl⟩
          case measure => simp [intOf]; omega
        · clear h4' h3'
          have hfin := hm.out
          rw [← List.take_of_length_le (l := b) (i := k) (by omega), show ((S : Int)).toNat = S from rfl] at hfin
          have HF := Lib.hid hfin
          clear hfin hm
          rw [List.take_of_length_le (l := b) (i := k) (by omega)] at HF hr ⊢
          generalize crc t (4294967295 - S) b = R at *
          have hx3 := u32_not R hr
          go_wp2
          go_ret
          exact ⟨ret_int (by rw [HF.out]; omega), rfl⟩
    · have hm := Lib.hid (more_bad b (t := t) (s := s) (by simp [hS]))
      have HS := Lib.hid (show isU32 s = false by simpa using hS)
      have HT := Lib.hid hT
      clear hS hT
      go_enter Try.func28, Try.ntmps28
      go_wp2_with fail
      refine (table_any _ _ _ ht).mono ?_
      rintro e w' ⟨rfl, rfl⟩
      rw [HT.out]
      go_wp2_with fail
      refine (number_any _ _).mono ?_
      rintro e w' ⟨rfl, rfl⟩
      rw [HS.out]
      go_wp2
      go_ret
      exact ⟨ret_int hm.out.symm, rfl⟩
  · have hm := Lib.hid (more_bad b (t := t) (s := s) (by simp [hT]))
    have HT := Lib.hid (show isTab t = false by simpa using hT)
    clear hT
    go_enter Try.func28, Try.ntmps28
    go_wp2_with fail
    refine (table_any _ _ _ ht).mono ?_
    rintro e w' ⟨rfl, rfl⟩
    rw [HT.out]
    go_wp2
    go_ret
    exact ⟨ret_int hm.out.symm, rfl⟩
end Go.Proofs.Ytlmklpbekgnceaa
end

/- The walks of layer 4, continued: Of, Get, and the references. -/
section
namespace Go.Proofs.Ytlmklpbekgnceaa
open Go.RowKit SumL

theorem of_any (tv bv' : Value) (t : List Int) (b : List UInt8) (w : World) (ht : Sees iv w tv t) (hb : Sees bv w bv' b) :
    Calls Try.prog 21 #[tv, bv'] w fun e w' => e = .returned (.int .i64 (more t 0 b)) ∧ w = w' := by
  go_enter Try.func21, Try.ntmps21
  go_wp2_with fail
  refine (more_any _ _ _ _ _ _ ht hb).mono ?_
  rintro e w' ⟨rfl, rfl⟩
  go_wp2
  go_ret
  exact ⟨rfl, rfl⟩

def getL (b : List UInt8) : Nat := b.foldl (fun n c => n * 256 + c.toNat) 0
theorem getL_snoc (b : List UInt8) (c : UInt8) : getL (b ++ [c]) = getL b * 256 + c.toNat := by simp [getL]
theorem getL_lt : ∀ (b : List UInt8), getL b < 256 ^ b.length := by
  suffices h : ∀ (n : Nat) (b : List UInt8), b.length = n → getL b < 256 ^ n from fun b => h _ b rfl
  intro n
  induction n with
  | zero => intro b hb; have : b = [] := List.eq_nil_of_length_eq_zero hb; subst this; decide
  | succ n ih =>
    intro b hb
    obtain ⟨b', c, rfl⟩ : ∃ b' c, b = b' ++ [c] := ⟨b.dropLast, b.getLast (by intro h; simp [h] at hb), (List.dropLast_concat_getLast _).symm⟩
    have hb' : b'.length = n := by simpa using hb
    have := ih b' hb'
    have hc := c.toNat_lt
    rw [getL_snoc, Nat.pow_succ]
    omega
theorem get_getL {b : List UInt8} (h : b.length = 4) : get b = (getL b : Int) := by
  match b, h with
  | [a, b, c, d], _ => simp [SumL.get, getL]
theorem get_none {b : List UInt8} (h : ¬ b.length = 4) : get b = -1 := by
  match b, h with
  | [], _ => rfl
  | [_], _ => rfl
  | [_, _], _ => rfl
  | [_, _, _], _ => rfl
  | [_, _, _, _], h => exact absurd rfl h
  | _ :: _ :: _ :: _ :: _ :: _, _ => rfl

theorem sumGet_any (v : Value) (b : List UInt8) (w : World) (h : Sees bv w v b) :
    Calls Try.prog 34 #[v] w fun e w' => e = .returned (.int .i64 (get b)) ∧ w = w' := by
  obtain ⟨a, cap, rfl, h1, h2, h3, h4⟩ := h
  unfold maxLen at h2
  by_cases hl : b.length = 4
  · have HG := Lib.hid (get_getL hl)
    have hl' : ((b.length : Int) != 4) = false := by rw [bne_eq_false_iff_eq]; omega
    have HL := Lib.hid hl
    obtain ⟨⟨b', off', s'⟩, rfl⟩ : ∃ b, a = some b := by
      cases a with
      | none => have := h3 rfl; omega
      | some b => exact ⟨b, rfl⟩
    obtain ⟨e1, e2, e3⟩ := h4 _ rfl (by omega)
    dsimp only at e1 e2 e3
    subst e1
    clear h4 h3
    have hln : b.length ≤ 4 := by omega
    clear hl
    go_enter Try.func34, Try.ntmps34
    go_wp2
    go_loop [3, 5, 11] (fun n _ i => ∃ k : Nat, k ≤ b.length ∧ i = .int .i64 k ∧ n = .int .i64 (getL (b.take k) : Nat)) (fun _ _ i => b.length - (intOf i).toNat)
    case atStart => exact ⟨0, Nat.zero_le _, rfl, rfl⟩
    case round =>
      obtain ⟨k, hk, rfl, rfl⟩ := hrel
      by_cases hlt : k < b.length
      · have hc := e3 k hlt
        have HS := Lib.hid (getL_snoc (b.take k) b[k])
        rw [← take_snoc b k hlt] at HS
        have hR := getL_lt (b.take k)
        rw [List.length_take_of_le (by omega)] at hR
        have hR' : getL (b.take k) < 16777216 := Nat.lt_of_lt_of_le hR (Nat.pow_le_pow_right (n := 256) (by decide) (show k ≤ 3 by omega))
        clear e3 hR
        generalize b[k] = c at *
        generalize getL (b.take k) = R at *
        have hcl := c.toNat_lt
        have hx : Hid (bits BinOp.or IntKind.i64 ((R : Int) * 256) (c.toNat : Int) = ((R * 256 + c.toNat : Nat) : Int)) := by
          have := i64_or_nat (R * 256) c.toNat (by omega) (by omega)
          rw [nat_join 8 (R * 256) c.toNat (by omega) (by omega)] at this
          exact this
        unfold bv at hc
        go_wp2
        go_round
        case rel => exact ⟨k + 1, by omega, by go_num, by rw [HS.out, ← hx.out]; try rfl⟩
        case measure => simp [intOf]; omega
      · rw [List.take_of_length_le (l := b) (i := k) (by omega)]
        go_wp2
        go_ret
        exact ⟨ret_int HG.out.symm, rfl⟩
  · have HG := Lib.hid (get_none hl)
    have hl' : ((b.length : Int) != 4) = true := by rw [bne_iff_ne]; omega
    go_enter Try.func34, Try.ntmps34
    go_wp2
    go_ret
    exact ⟨ret_int HG.out.symm, rfl⟩

theorem refGet_any (v : Value) (b : List UInt8) (w : World) (h : Sees bv w v b) :
    Calls Try.prog 26 #[v] w fun e w' => e = .returned (.int .i64 (get b)) ∧ ∃ n, w' = w.drewN n := by
  obtain ⟨a, cap, rfl, h1, h2, h3, h4⟩ := h
  unfold maxLen at h2
  by_cases hl : b.length = 4
  · match b, hl with
    | [x0, x1, x2, x3], _ =>
    obtain ⟨⟨b', off', s'⟩, rfl⟩ : ∃ b, a = some b := by
      cases a with
      | none => have := h3 rfl; simp at h1; omega
      | some b => exact ⟨b, rfl⟩
    obtain ⟨e1, e2, e3⟩ := h4 _ rfl (by omega)
    dsimp only at e1 e2 e3
    subst e1
    clear h4 h3
    have c0 := e3 0 (by simp)
    have c1 := e3 1 (by simp)
    have c2 := e3 2 (by simp)
    have c3 := e3 3 (by simp)
    simp only [List.getElem_cons_zero, List.getElem_cons_succ, bv, Nat.add_zero] at c0 c1 c2 c3
    have b0 := x0.toNat_lt
    have b1 := x1.toNat_lt
    have b2 := x2.toNat_lt
    have b3 := x3.toNat_lt
    clear e3
    go_enter Try.func26, Try.ntmps26
    go_wp2
    go_quiet (fail)
    go_wp2
    go_ret
    exact ⟨ret_int (by simp [SumL.get]), _, rfl⟩
  · have HG := Lib.hid (get_none hl)
    have hl' : ((b.length : Int) != 4) = true := by rw [bne_iff_ne]; omega
    go_enter Try.func26, Try.ntmps26
    go_wp2
    go_ret
    exact ⟨ret_int HG.out.symm, 0, rfl⟩
end Go.Proofs.Ytlmklpbekgnceaa
end

/- The walks of layer 4, continued: the references' sums, and the tables. -/
section
namespace Go.Proofs.Ytlmklpbekgnceaa
open Go.RowKit SumL

theorem Try.infoInt : (Try.prog.info? 3).map (fun i => (i.zero, i.size, i.bytes)) = some (some (.int .i64 0), 1, 8) := by kernel_rfl

theorem refPut_any (n : Int) (w : World) :
    Calls Try.prog 23 #[.int .i64 n] w fun e w' => ∃ v, e = .returned v ∧ w'.ownsRow w.heap.size 5 1 v 4 ((put n).map bv) ∧ Below w.heap.size w w' := by
  obtain ⟨U, hu⟩ := Int.eq_ofNat_of_zero_le (show 0 ≤ n % 18446744073709551616 by omega)
  have hw : IntKind.u64.wrap n = (U : Int) := by rw [IntKind.wrap_u64]; exact hu
  have hp : ((put n).map bv) = [Value.int .u8 ((U : Int) % 4294967296 / 16777216), Value.int .u8 ((U : Int) % 4294967296 / 65536 % 256), Value.int .u8 ((U : Int) % 4294967296 / 256 % 256), Value.int .u8 ((U : Int) % 256)] := by
    simp only [put, List.map_cons, List.map_nil, bv, UInt8.toNat_ofNat']
    congr 1
    · congr 1; omega
    · congr 1
      · congr 1; omega
      · congr 1
        · congr 1; omega
        · congr 2; omega
  have HP := Lib.hid hp
  have hU : (U : Int) ≤ 18446744073709551615 := by omega
  clear hp hu
  go_enter Try.func23, Try.ntmps23
  go_wp2
  go_ret
  refine ⟨_, rfl, ?_, (Below.refl _ _).alloc (Nat.le_refl _) _⟩
  rw [HP.out]
  exact World.ownsRow_lit (base := w.heap.size) (e := 5) (size := 1) w _ 4 (Nat.le_refl _) (by decide) rfl

theorem bits_any (v : Value) (b : List UInt8) (w : World) (h : Sees bv w v b) :
    Calls Try.prog 24 #[v] w fun e w' => e = .returned (.int .i64 (bitSum b)) ∧ w = w' := by
  obtain ⟨a, cap, rfl, h1, h2, h3, h4⟩ := h
  unfold maxLen at h2
  go_enter Try.func24, Try.ntmps24
  go_wp2
  go_loopw [3, 4] (fun r i wr => w = wr ∧ ∃ k : Nat, k ≤ b.length ∧ i = .int .i64 k ∧ r = .int .i64 ((b.take k).foldl bitStep 4294967295 : Nat)) (fun _ i _ => b.length - (intOf i).toNat)
  case atStart => exact ⟨rfl, 0, Nat.zero_le _, rfl, rfl⟩
  case round =>
    obtain ⟨rfl, k, hk, rfl, rfl⟩ := hrel
    have hr : (b.take k).foldl bitStep 4294967295 < 4294967296 := bitFold_lt _ (by decide)
    by_cases hlt : k < b.length
    · obtain ⟨⟨b', off', s'⟩, rfl⟩ : ∃ b, a = some b := by
        cases a with
        | none => have := h3 rfl; omega
        | some b => exact ⟨b, rfl⟩
      obtain ⟨e1, e2, e3⟩ := h4 _ rfl (by omega)
      dsimp only at e1 e2 e3
      subst e1
      have hc := e3 k hlt
      have HS : Hid ((b.take (k + 1)).foldl bitStep 4294967295 = bitStep ((b.take k).foldl bitStep 4294967295) b[k]) := by
        rw [take_snoc b k hlt, List.foldl_append]; rfl
      clear h4 e3 h3
      generalize b[k] = c at *
      generalize (b.take k).foldl bitStep 4294967295 = R at *
      have hcl := c.toNat_lt
      unfold bv at hc
      have hx1 : bits BinOp.xor IntKind.i64 (R : Int) (c.toNat : Int) = ((R ^^^ c.toNat : Nat) : Int) := i64_xor_nat R c.toNat (by omega) (by omega)
      have HS2 : Hid (bitStep R c = row 3988292384 8 ((R ^^^ c.toNat) % 256) ^^^ (R / 256)) := rfl
      generalize R ^^^ c.toNat = j at *
      have hj : row 3988292384 8 (j % 256) < 4294967296 := row_lt (by decide) (by omega) 8
      have hx2 := Lib.hid (i64_xor_nat (row 3988292384 8 (j % 256)) (R / 256) (by omega) (by omega))
      have HR := Lib.hid (row_any 3988292384 (j % 256) w (by decide) (by omega))
      generalize row 3988292384 8 (j % 256) = Y at *
      go_wp2_with fail
      refine (HR.out).mono ?_
      rintro e w' ⟨rfl, rfl⟩
      go_wp2
      go_roundw
      case rel => exact ⟨by trivial, k + 1, by omega, by go_num, by rw [HS.out, HS2.out, ← hx2.out]; rfl⟩
      case measure => simp [intOf]; omega
    · clear h3 h4
      rw [List.take_of_length_le (l := b) (i := k) (by omega)] at hr ⊢
      have HB : Hid (bitSum b = 4294967295 - ((b.foldl bitStep 4294967295 : Nat) : Int)) := rfl
      generalize b.foldl bitStep 4294967295 = R at *
      go_wp2
      go_ret
      exact ⟨ret_int HB.out.symm, rfl⟩

end Go.Proofs.Ytlmklpbekgnceaa
end

/- The walk of sum.Make: an iterator and its caller. -/
section
namespace Go.Proofs.Ytlmklpbekgnceaa
open Go.RowKit SumL Go.Shelf
attribute [local go_sem] Oper.semAt_some

theorem entries_any (p : Int) (w : World) :
    Calls Try.prog 30 #[.int .u32 p] w fun e w' => e = .returned (.func (.func 37) #[] #[.pointer (some ⟨w.heap.size, 0, none⟩)]) ∧ w.alloc (.cells #[.int .u32 p] 67) = w' := by
  go_enter Try.func30, Try.ntmps30
  go_wp2
  go_ret
  exact ⟨rfl, rfl⟩

theorem u32_step_odd {y p : Nat} (hy : y < 4294967296) (hp : p < 4294967296) (h : y % 2 = 1) : bits .xor .u32 ((y : Int) / 2) (p : Int) = ((step1 p y : Nat) : Int) := by
  have := u32_xor_nat (y / 2) p (by omega) hp
  rw [step1, if_pos h]; exact this

set_option maxHeartbeats 1000000 in
set_option maxRecDepth 100000 in
theorem entries1_seq (n : Nat) (hn : 1 ≤ n) (p : Nat) (hp : p < 4294967296) (B : Nat) (w : World) (hB : B < w.heap.size) (hc : w.cell? ⟨B, 0, none⟩ = some (.int .u32 (p : Int))) :
    SeqC Fence.wide n Try.prog 37 #[.pointer (some ⟨B, 0, none⟩)] (fun x : Nat => #[Value.int .i64 (x : Int)]) (fun _ => False) (fun k => B = k) (fun pre => ∃ k, k ≤ 256 ∧ pre = (tabN p).take k) (fun xs _ => xs = tabN p) (fun _ _ => True) w := by
  intro l J Jx W hW hJ hJx hY h0
  have hcW : W.cell? ⟨B, 0, none⟩ = some (.int .u32 (p : Int)) := (hW.cell hB (fun h => h)).trans hc
  have hsz := hW.size
  refine callsIn_of_wp Try.func37 rfl trivial ?_ rfl
  simp only [Try.ntmps37, List.size_toArray, List.length_cons, List.length_nil, Nat.reduceAdd, Nat.reduceSub, Array.replicate_succ, Array.replicate_zero, List.push_toArray, List.append_toArray, List.nil_append, List.cons_append]
  gi_wp2
  gi_loopw [6] (fun c wr => ∃ k : Nat, k ≤ 256 ∧ c = .int .u32 k ∧ J ((tabN p).take k) (fun k => B = k) wr ∧ wr.cell? ⟨B, 0, none⟩ = some (.int .u32 (p : Int))) (fun c _ => 256 - (intOf c).toNat)
  case atStart => exact ⟨0, by omega, rfl, by simpa using h0, hcW⟩
  case round =>
    obtain ⟨k, hk, rfl, hj, hcr⟩ := hrel
    have HJ := Lib.hid hj; clear hj
    by_cases hlt : k < 256
    · gi_wp2
      gi_loop [4, 5, 10] (fun r _ c => ∃ j : Nat, j ≤ 8 ∧ c = .int .i64 j ∧ r = .int .u32 (row p j k : Nat)) (fun _ _ c => 8 - (intOf c).toNat)
      case atStart => exact ⟨0, by omega, rfl, rfl⟩
      case round =>
        obtain ⟨j, hj, rfl, rfl⟩ := hrel
        have hy := row_lt hp (show k < 4294967296 by omega) j
        have HS : Hid (row p (j + 1) k = step1 p (row p j k)) := rfl
        by_cases hlt2 : j < 8
        · generalize row p j k = y at *
          have hb := Lib.hid (u32_and_nat y 1 (by omega) (by omega))
          by_cases hodd : y % 2 = 1
          · have hx := Lib.hid (u32_step_odd hy hp hodd)
            have ho : (bits BinOp.and IntKind.u32 (y : Int) 1 == 1) = true := by
              have := hb.out
              rw [nat_mask1, hodd] at this
              rw [beq_iff_eq]; exact this
            clear hodd
            gi_wp2
            go_round
            case rel => exact ⟨j + 1, by omega, by go_num, by rw [HS.out, hx.out]⟩
            case measure => simp [intOf]; omega
          · have hx : Hid (step1 p y = y / 2) := by show step1 p y = y / 2; simp [step1, hodd]
            have ho : (bits BinOp.and IntKind.u32 (y : Int) 1 == 1) = false := by
              have := hb.out
              rw [nat_mask1, show y % 2 = 0 by omega] at this
              rw [beq_eq_false_iff_ne]
              intro e; have this2 := this.symm.trans e; omega
            clear hodd
            gi_wp2
            go_round
            case rel => exact ⟨j + 1, by omega, by go_num, by rw [HS.out, hx.out]; go_num⟩
            case measure => simp [intOf]; omega
        · have e : j = 8 := by omega
          subst e
          have hS : (tabN p).take (k + 1) = (tabN p).take k ++ [row p 8 k] := by
            rw [take_snoc _ k (by simp [tabN]; omega)]
            simp [tabN]
          obtain ⟨fn, tmps, assign, body, hyy, hR⟩ := hY _ (row p 8 k) _ _ HJ.out (fun _ h => h) ⟨k + 1, by omega, hS.symm⟩
          have HSS := Lib.hid hS; clear hS
          clear HS
          generalize row p 8 k = y at *
          gi_wp2
          refine hR.mono ?_
          rintro e W3 (⟨rfl, hJ3, hk3⟩ | ⟨rfl, hJx3, hk3⟩)
          · have hc3 : W3.cell? ⟨B, 0, none⟩ = some (.int .u32 (p : Int)) := (hk3.cell (p := ⟨B, 0, none⟩) (World.block_lt_of_cell? _ _ hcr) (fun h => h rfl)).trans hcr
            gi_wp2
            go_roundw
            case rel => exact ⟨k + 1, by omega, by go_num, by rw [HSS.out]; exact hJ3, hc3⟩
            case measure => simp [intOf]; omega
          · gi_wp2
            refine bodyPost_ret (results_none rfl _ _ _) rfl ?_
            exact ⟨⟨_, rfl⟩, .inr ⟨_, trivial, hJx3⟩⟩
    · gi_wp2
      go_end0
      refine ⟨⟨_, rfl⟩, .inl ⟨_, rfl, ?_⟩⟩
      have := HJ.out
      rwa [List.take_of_length_le (by simp [tabN]; omega)] at this

theorem tab_good {p : Nat} (hp : p < 4294967296) : tab (p : Int) = (tabN p).map Int.ofNat := by
  have : isU32 (p : Int) = true := by simp [isU32]; omega
  simp [tab, this]
theorem tabN_len (p : Nat) : (tabN p).length = 256 := by simp [tabN]

set_option maxRecDepth 100000 in
set_option maxHeartbeats 1000000 in
theorem make_any (p : Int) (w : World) :
    Calls Try.prog 22 #[.int .i64 p] w fun e w' => ∃ v, e = .returned v ∧ w'.ownsRow w.heap.size 3 1 v (tab p).length ((tab p).map iv) ∧ Below w.heap.size w w' := by
  by_cases hp : isU32 p = true
  · have hp2 : 0 ≤ p ∧ p ≤ 4294967295 := by simpa [isU32] using hp
    obtain ⟨hp0, hp1⟩ := hp2
    obtain ⟨p, rfl⟩ := Int.eq_ofNat_of_zero_le hp0
    have HP := Lib.hid hp; clear hp
    refine (callsIn_wide (n := 5)).1 ?_
    refine callsIn_of_wp_marks Try.func22 rfl trivial ?_ rfl
    simp only [Try.ntmps22, List.size_toArray, List.length_cons, List.length_nil, Nat.reduceAdd, Nat.reduceSub, Array.replicate_succ, Array.replicate_zero, List.push_toArray, List.append_toArray, List.nil_append, List.cons_append]
    gi_wp2_with fail
    refine wcall (number_any _ _) ?_
    rintro e w' ⟨rfl, rfl⟩
    rw [HP.out]
    gi_wp2_with fail
    refine wcall (entries_any _ _) ?_
    rintro e w' ⟨rfl, rfl⟩
    gi_wp2_with fail
    have hs : ((w.alloc (.cells #[.slice none 0 0] 51)).alloc (.cells #[.int .u32 (p : Int)] 67)).heap.size = w.heap.size + 2 := by simp
    have hc0 : ((w.alloc (.cells #[.slice none 0 0] 51)).alloc (.cells #[.int .u32 (p : Int)] 67)).cell? ⟨w.heap.size + 1, 0, none⟩ = some (.int .u32 (p : Int)) := by
      have := (Boxed.new (w.alloc (.cells #[.slice none 0 0] 51)) 67 (.int .u32 (p : Int))).cell
      rwa [World.size_alloc] at this
    have hb0 : Boxed ((w.alloc (.cells #[.slice none 0 0] 51)).alloc (.cells #[.int .u32 (p : Int)] 67)) w.heap.size 51 (.slice none 0 0) := (Boxed.new w _ _).alloc _
    have hB0 : Below w.heap.size w ((w.alloc (.cells #[.slice none 0 0] 51)).alloc (.cells #[.int .u32 (p : Int)] 67)) := ((Below.refl _ w).alloc (Nat.le_refl _) _).alloc (by simp) _
    have HT := Lib.hid (tab_good (p := p) (by omega))
    generalize (w.alloc (.cells #[.slice none 0 0] 51)).alloc (.cells #[.int .u32 (p : Int)] 67) = W0 at *
    have hs1 : W0.heap.size ≤ w.heap.size + 2 := by omega
    have hs2 : w.heap.size + 2 ≤ W0.heap.size := by omega
    clear hs
    refine wpIn_range1 rfl (by omega) (gf := 37) (lb := #[.pointer (some ⟨w.heap.size + 1, 0, none⟩)]) rfl trivial (enters_of Try.func37 (by kernel_rfl) rfl)
      (entries1_seq 4 (by omega) p (by omega) (w.heap.size + 1) W0 (by omega) hc0) (Chg.refl _ _) (fun _ h => h.elim) (fun k h => by omega) (fun _ => rfl)
      (fun pre Pr W => Coll w.heap.size w.heap.size 51 3 1 pre.length (pre.map fun x : Nat => iv (x : Int)) (fun k => W0.heap.size = k ∨ W0.heap.size + 1 = k) Pr W ∧ Below w.heap.size w W) (fun _ _ _ _ => False)
      (Bears.and (Coll.bears (fun k h => h.elim (fun h => h.elim) id)) (Bears.below (Nat.le_refl _) (fun k hk h => by rcases h with h | h | h; exact h; all_goals omega))) (fun _ => Bears.false _)
      ⟨⟨_, hb0, by omega, by omega, World.ownsRow_nil _ _ _ _, fun k e => (by cases e), by simp⟩, hB0⟩
      (fun x => { tmps := #[.int .i64 (p : Int), undef, .slice none 0 0, .pointer (some ⟨w.heap.size, 0, none⟩), .int .i64 (x : Int), .int .i64 (p : Int), .bool true, .bool false, .int .i64 (p : Int), .int .u32 (p : Int), .func (.func 37) #[] #[.pointer (some ⟨w.heap.size + 1, 0, none⟩)], .int .i64 (x : Int), undef, undef, undef, undef, undef], defers := [] }) ?assign ?body ?done ?stop
    case assign =>
      intro l x W K hK
      gi_wp2
      exact hK
    case body =>
      rintro l pre x Pr W hsW hPb hP0 hPl - ⟨⟨v, hv, hPB, hMB, hrow, hvb, hnil⟩, hB⟩ ⟨k, hk, hG⟩
      have hlen : pre.length + 1 ≤ 256 := by
        have := congrArg List.length hG
        rw [List.length_take, tabN_len] at this
        simp at this; omega
      clear hG hk
      have hBs := hB.size
      have hc := hv.cell
      have hf := hv.frozen
      gi_wp2_with (gi_at_builtin; refine wpListIn_app _ rfl _ _ 51 rfl w.heap.size 3 (.int .i64 0) 1 8 Try.underlying51 Try.infoInt rfl (by decide) _ _ _ rfl (hrow.alloc _) _ 1 _ rfl (Src.new W _ 3 1 1 1 rfl) (by simp [Value.oneCell']) (by unfold maxLen; omega) (by omega) (by simp; omega) ?_; intro v' w1 hown' hc' hb' hn'; obtain ⟨h1, h2, h3⟩ := Coll.appended hv hPB hMB hrow hvb (by decide) (fun k hk => by omega) hPb hown' hc' hb' (by rw [hn']; omega); obtain ⟨g', cap', rfl⟩ := ownsRow_succ hown'; have hc1 := h1.cell; have hf1 := h1.frozen)
      have hB1 : Below w.heap.size w (w1.setCell ⟨w.heap.size, 0, none⟩ (.slice (some ⟨g', 0, none⟩) (pre.length + 1) cap')) := by
        refine hB.trans (Chg.below (n := w.heap.size) (M := fun k => ¬ k < w.heap.size) ?_ hBs (fun k hk h => h hk))
        refine Chg.setCell ?_ (fun _ => by simp) _
        exact ((Chg.refl _ W).alloc _).trans (hc'.mono fun k _ e => by have := (hrow.lt k e).1; omega)
      refine ⟨h3, ?_, hB1⟩
      rw [List.length_append, List.map_append]; exact h2
    case done =>
      rintro xs Wa W rfl - ⟨⟨v, hv, -, -, hrow, -, -⟩, hB⟩ hK
      have hc := hv.cell
      rw [tabN_len] at hrow
      have HR := Lib.hid hrow; clear hrow hv hB0 hb0
      gi_wp2
      refine ⟨by simp, .inl ⟨_, _, rfl, run_takeDeferred hK, ?_⟩⟩
      refine ⟨_, results_tmp rfl _ _ _, v, rfl, ?_, ?_⟩
      · rw [HT.out, List.length_map, tabN_len, List.map_map]
        exact ownsRow_putObj HR.out _ hK rfl
      · exact hB.trans ((Chg.refl (fun k => ¬ k < w.heap.size) W).putObj (fun _ => by omega) _ |>.below hB.size (fun k hk h => h hk))
    case stop =>
      rintro c pre Wa W - - h
      exact h.elim
  · have hp' : isU32 p = false := by simpa using hp
    have HP := Lib.hid hp'
    have HT : Hid (tab p = []) := by show tab p = []; simp [tab, hp']
    clear hp hp'
    go_enter Try.func22, Try.ntmps22
    go_wp2_with fail
    refine (number_any _ _).mono ?_
    rintro e w' ⟨rfl, rfl⟩
    rw [HP.out]
    go_wp2
    go_ret
    exact ⟨_, rfl, by rw [HT.out]; exact World.ownsRow_nil _ _ _ _, Below.refl _ _⟩
end Go.Proofs.Ytlmklpbekgnceaa
end

/- What is known of each type of the program (printed by a program of ours off the loaded program's own rows). No statement is proved here. -/
section
namespace Go.Proofs.Ytlmklpbekgnceaa
open Go.RowKit
set_option maxRecDepth 100000
theorem ti1 : tinfo Try.prog 1 = some ⟨false, 1, [Go.Value.nilFunc], .other⟩ := by kernel_rfl
theorem ti2 : tinfo Try.prog 2 = some ⟨false, 1, [Go.Value.int Go.IntKind.i64 0], .int Go.IntKind.i64⟩ := by kernel_rfl
theorem ti3 : tinfo Try.prog 3 = some ⟨false, 1, [Go.Value.int Go.IntKind.i64 0], .int Go.IntKind.i64⟩ := by kernel_rfl
theorem ti4 : tinfo Try.prog 4 = some ⟨false, 1, [Go.Value.bool false], .bool⟩ := by kernel_rfl
theorem ti5 : tinfo Try.prog 5 = some ⟨false, 1, [Go.Value.int Go.IntKind.u8 0], .int Go.IntKind.u8⟩ := by kernel_rfl
theorem ti9 : tinfo Try.prog 9 = some ⟨false, 1, [Go.Value.string ⟨#[]⟩], .string⟩ := by kernel_rfl
theorem ti12 : tinfo Try.prog 12 = some ⟨false, 1, [Go.Value.int Go.IntKind.u64 0], .int Go.IntKind.u64⟩ := by kernel_rfl
theorem ti13 : tinfo Try.prog 13 = some ⟨true, 2, [Go.Value.string ⟨#[]⟩, Go.Value.int Go.IntKind.u64 0], .struct [(0, 1, false), (1, 1, false)]⟩ := by kernel_rfl
theorem ti21 : tinfo Try.prog 21 = some ⟨false, 1, [Go.Value.int Go.IntKind.i32 0], .int Go.IntKind.i32⟩ := by kernel_rfl
theorem ti22 : tinfo Try.prog 22 = some ⟨false, 1, [Go.Value.slice none 0 0], .slice 5 1 1 [Go.Value.int Go.IntKind.u8 0]⟩ := by kernel_rfl
theorem ti23 : tinfo Try.prog 23 = some ⟨false, 1, [Go.Value.nilFunc], .other⟩ := by kernel_rfl
theorem ti24 : tinfo Try.prog 24 = some ⟨false, 1, [Go.Value.int Go.IntKind.i64 0], .int Go.IntKind.i64⟩ := by kernel_rfl
theorem ti26 : tinfo Try.prog 26 = some ⟨false, 1, [Go.Value.nilFunc], .other⟩ := by kernel_rfl
theorem ti28 : tinfo Try.prog 28 = some ⟨false, 1, [Go.Value.nilFunc], .other⟩ := by kernel_rfl
theorem ti29 : tinfo Try.prog 29 = some ⟨false, 1, [Go.Value.nilFunc], .other⟩ := by kernel_rfl
theorem ti30 : tinfo Try.prog 30 = some ⟨false, 1, [Go.Value.nilFunc], .other⟩ := by kernel_rfl
theorem ti31 : tinfo Try.prog 31 = some ⟨false, 1, [Go.Value.slice none 0 0], .slice 22 1 24 [Go.Value.slice none 0 0]⟩ := by kernel_rfl
theorem ti32 : tinfo Try.prog 32 = some ⟨false, 1, [Go.Value.pointer none], .pointer⟩ := by kernel_rfl
theorem ti33 : tinfo Try.prog 33 = some ⟨false, 1, [Go.Value.slice none 0 0], .slice 44 2 32 [Go.Value.int Go.IntKind.i64 0, Go.Value.slice none 0 0]⟩ := by kernel_rfl
theorem ti34 : tinfo Try.prog 34 = some ⟨false, 1, [Go.Value.nilFunc], .other⟩ := by kernel_rfl
theorem ti35 : tinfo Try.prog 35 = some ⟨false, 1, [Go.Value.nilFunc], .other⟩ := by kernel_rfl
theorem ti36 : tinfo Try.prog 36 = some ⟨false, 1, [Go.Value.nilFunc], .other⟩ := by kernel_rfl
theorem ti37 : tinfo Try.prog 37 = some ⟨false, 1, [Go.Value.nilFunc], .other⟩ := by kernel_rfl
theorem ti38 : tinfo Try.prog 38 = some ⟨false, 1, [Go.Value.slice none 0 0], .slice 59 2 32 [Go.Value.int Go.IntKind.i64 0, Go.Value.slice none 0 0]⟩ := by kernel_rfl
theorem ti40 : tinfo Try.prog 40 = some ⟨false, 1, [Go.Value.nilFunc], .other⟩ := by kernel_rfl
theorem ti41 : tinfo Try.prog 41 = some ⟨false, 1, [Go.Value.nilFunc], .other⟩ := by kernel_rfl
theorem ti42 : tinfo Try.prog 42 = some ⟨false, 1, [Go.Value.nilFunc], .other⟩ := by kernel_rfl
theorem ti43 : tinfo Try.prog 43 = some ⟨true, 2, [Go.Value.int Go.IntKind.i64 0, Go.Value.slice none 0 0], .struct [(0, 1, false), (1, 1, false)]⟩ := by kernel_rfl
theorem ti44 : tinfo Try.prog 44 = some ⟨true, 2, [Go.Value.int Go.IntKind.i64 0, Go.Value.slice none 0 0], .struct [(0, 1, false), (1, 1, false)]⟩ := by kernel_rfl
theorem ti45 : tinfo Try.prog 45 = some ⟨false, 1, [Go.Value.nilFunc], .other⟩ := by kernel_rfl
theorem ti46 : tinfo Try.prog 46 = some ⟨false, 1, [Go.Value.nilFunc], .other⟩ := by kernel_rfl
theorem ti47 : tinfo Try.prog 47 = some ⟨false, 1, [Go.Value.nilFunc], .other⟩ := by kernel_rfl
theorem ti48 : tinfo Try.prog 48 = some ⟨false, 1, [Go.Value.nilFunc], .other⟩ := by kernel_rfl
theorem ti49 : tinfo Try.prog 49 = some ⟨false, 1, [Go.Value.nilFunc], .other⟩ := by kernel_rfl
theorem ti50 : tinfo Try.prog 50 = some ⟨false, 1, [Go.Value.nilFunc], .other⟩ := by kernel_rfl
theorem ti51 : tinfo Try.prog 51 = some ⟨false, 1, [Go.Value.slice none 0 0], .slice 3 1 8 [Go.Value.int Go.IntKind.i64 0]⟩ := by kernel_rfl
theorem ti52 : tinfo Try.prog 52 = some ⟨false, 1, [Go.Value.nilFunc], .other⟩ := by kernel_rfl
theorem ti53 : tinfo Try.prog 53 = some ⟨false, 1, [Go.Value.nilFunc], .other⟩ := by kernel_rfl
theorem ti54 : tinfo Try.prog 54 = some ⟨true, 4, [Go.Value.int Go.IntKind.i64 0, Go.Value.slice none 0 0, Go.Value.slice none 0 0, Go.Value.int Go.IntKind.i64 0], .struct [(0, 1, false), (1, 1, false), (2, 1, false), (3, 1, false)]⟩ := by kernel_rfl
theorem ti55 : tinfo Try.prog 55 = some ⟨true, 4, [Go.Value.int Go.IntKind.i64 0, Go.Value.slice none 0 0, Go.Value.slice none 0 0, Go.Value.int Go.IntKind.i64 0], .struct [(0, 1, false), (1, 1, false), (2, 1, false), (3, 1, false)]⟩ := by kernel_rfl
theorem ti56 : tinfo Try.prog 56 = some ⟨false, 1, [Go.Value.nilFunc], .other⟩ := by kernel_rfl
theorem ti57 : tinfo Try.prog 57 = some ⟨false, 1, [Go.Value.nilFunc], .other⟩ := by kernel_rfl
theorem ti58 : tinfo Try.prog 58 = some ⟨false, 1, [Go.Value.nilFunc], .other⟩ := by kernel_rfl
theorem ti59 : tinfo Try.prog 59 = some ⟨true, 2, [Go.Value.int Go.IntKind.i64 0, Go.Value.slice none 0 0], .struct [(0, 1, false), (1, 1, false)]⟩ := by kernel_rfl
theorem ti60 : tinfo Try.prog 60 = some ⟨false, 1, [Go.Value.nilFunc], .other⟩ := by kernel_rfl
theorem ti61 : tinfo Try.prog 61 = some ⟨false, 1, [Go.Value.int Go.IntKind.u64 0], .int Go.IntKind.u64⟩ := by kernel_rfl
theorem ti62 : tinfo Try.prog 62 = some ⟨false, 1, [Go.Value.nilFunc], .other⟩ := by kernel_rfl
theorem ti63 : tinfo Try.prog 63 = some ⟨false, 1, [Go.Value.nilFunc], .other⟩ := by kernel_rfl
theorem ti64 : tinfo Try.prog 64 = some ⟨false, 1, [Go.Value.nilFunc], .other⟩ := by kernel_rfl
theorem ti65 : tinfo Try.prog 65 = some ⟨false, 1, [Go.Value.nilFunc], .other⟩ := by kernel_rfl
theorem ti66 : tinfo Try.prog 66 = some ⟨false, 1, [Go.Value.nilFunc], .other⟩ := by kernel_rfl
theorem ti67 : tinfo Try.prog 67 = some ⟨false, 1, [Go.Value.int Go.IntKind.u32 0], .int Go.IntKind.u32⟩ := by kernel_rfl
theorem ti68 : tinfo Try.prog 68 = some ⟨false, 1, [Go.Value.int Go.IntKind.u64 0], .int Go.IntKind.u64⟩ := by kernel_rfl
theorem ti69 : tinfo Try.prog 69 = some ⟨false, 1, [Go.Value.nilFunc], .other⟩ := by kernel_rfl
theorem ti70 : tinfo Try.prog 70 = some ⟨false, 1, [Go.Value.nilFunc], .other⟩ := by kernel_rfl
theorem ti71 : tinfo Try.prog 71 = some ⟨false, 1, [Go.Value.nilFunc], .other⟩ := by kernel_rfl
theorem ti72 : tinfo Try.prog 72 = some ⟨false, 1, [Go.Value.nilFunc], .other⟩ := by kernel_rfl
theorem ti73 : tinfo Try.prog 73 = some ⟨false, 1, [Go.Value.nilFunc], .other⟩ := by kernel_rfl
theorem ti74 : tinfo Try.prog 74 = some ⟨false, 1, [Go.Value.nilFunc], .other⟩ := by kernel_rfl
theorem ti75 : tinfo Try.prog 75 = some ⟨false, 1, [Go.Value.nilFunc], .other⟩ := by kernel_rfl
theorem ti83 : tinfo Try.prog 83 = some ⟨false, 1, [Go.Value.nilFunc], .other⟩ := by kernel_rfl
theorem ti84 : tinfo Try.prog 84 = some ⟨false, 1, [Go.Value.pointer none], .pointer⟩ := by kernel_rfl
attribute [push_cast] ti2 ti3 ti4 ti5 ti9 ti12 ti13 ti21 ti22 ti24 ti31 ti32 ti33 ti38 ti43 ti44 ti51 ti54 ti55 ti59 ti61 ti67 ti68 ti84
end Go.Proofs.Ytlmklpbekgnceaa
end

/- Layer 6 over data: lists of bytes are cloned, and put together. No statement is proved here. -/
section
namespace Go.Proofs.Ytlmklpbekgnceaa
set_option linter.unusedSimpArgs false
open Go.RowKit
set_option maxRecDepth 10000
set_option maxHeartbeats 4000000
/-- Lists of bytes, as data. -/
def encBs (b : List UInt8) : List D := [.sl .shared (b.map encB)]
theorem cloneBF (o : Own) (l : List UInt8) (hl : l.length ≤ 1000000) (st : St) : TrF Try.prog 35 [.sl o (l.map encB)] st fun d st' => d = .sl .shared (l.map encB) ∧ st' = st := by
  refine trF_enter (ts := [2]) Try.func35 rfl (by rw [Try.ntmps35]; exact Nat.le_of_ble_eq_true rfl) (fun tmps w => by simp [results, Try.results35, go_sem, resVal]) ?_
  simp only [Try.ntmps35]
  refine tr_room 5 1 0 ?_
  repeat' (first | ((with_reducible apply s_isNil); (focus ((try simp (disch := omega) only [push_cast, Nat.reduceEqDiff, reduceCtorEq, ↓reduceIte, Nat.reduceAdd, Nat.reduceMul, Nat.reduceSub, Nat.reduceLT, Nat.reduceLeDiff, Int.reduceToNat, Int.reduceLT, Int.reduceLE, Int.reduceAdd, Int.reduceSub, Int.reduceMul, Int.reduceBEq, Int.reduceBNe, encB, encI, encBs, Nat.mul_one, Int.sub_zero, *]); (try exact rfl); done)); (focus ((try simp (disch := omega) only [push_cast, Nat.reduceEqDiff, reduceCtorEq, ↓reduceIte, Nat.reduceAdd, Nat.reduceMul, Nat.reduceSub, Nat.reduceLT, Nat.reduceLeDiff, Int.reduceToNat, Int.reduceLT, Int.reduceLE, Int.reduceAdd, Int.reduceSub, Int.reduceMul, Int.reduceBEq, Int.reduceBNe, encB, encI, encBs, Nat.mul_one, Int.sub_zero, *]); (try exact rfl); done)); intro bn hbn) | ((with_reducible apply ev_go); (focus (try simp (disch := omega) only [push_cast, Nat.reduceEqDiff, reduceCtorEq, ↓reduceIte, Nat.reduceAdd, Nat.reduceMul, Nat.reduceSub, Nat.reduceLT, Nat.reduceLeDiff, Int.reduceToNat, Int.reduceLT, Int.reduceLE, Int.reduceAdd, Int.reduceSub, Int.reduceMul, Int.reduceBEq, Int.reduceBNe, encB, encI, encBs, Nat.mul_one, Int.sub_zero, *]); (try exact rfl); done)) | ((with_reducible refine w_last ?_ ?_ ?_); (focus kernel_rfl); (focus rfl)) | ((with_reducible apply w_stepG); (focus rfl)) | ((with_reducible apply lk_mem); (focus ((repeat (first | exact List.Mem.head _ | apply List.Mem.tail)); done))) | with_reducible (first | refine w_step0 ?_ | refine w_nil ?_ | refine gd_tt ?_ | refine gd_ff ?_ | refine gd_tf ?_ | refine gd_ft ?_ | refine gd_un ?_ | refine s_move ?_ | refine s_assign ?_ | refine s_bin ?_ | refine s_un ?_ | refine s_conv ?_ | refine s_field ?_ | refine s_fieldAddr ?_ | refine s_ext ?_ | refine s_pick ?_ | refine s_nil ?_ | refine s_load ?_ | refine lk_ip ?_ | refine lk_ptr ?_ | refine s_index ?_ | refine s_indexAddr ?_ | refine s_slice ?_ | refine s_build ?_ | refine s_buildSlice ?_ | refine s_mk ?_ | refine s_store ?_ | refine s_alloc ?_ | refine s_call ?_ | refine s_ip ?_ | refine s_app ?_ | refine ak_go ?_ | refine s_aps ?_ | refine ap_go ?_ | refine p2_true ?_ | refine tr_seq ?_ | refine tr_block ?_ | refine tr_skip ?_ | refine tr_ret ?_ | refine tr_exit ?_ | refine tr_label ?_ | refine strip_norm ?_ | refine strip_ret ?_ | refine strip_exit ?_ | refine blk_norm ?_ | refine blk_ret ?_ | refine blk_same ?_ | refine tr_condT ?_ | refine tr_condCt ?_ | refine tr_condCf ?_) | ((with_reducible apply sto_go); (focus (intro cs'; repeat (first | exact ResAt.here | apply ResAt.there)))) | ((with_reducible refine al_go ?_); intro b) | ((with_reducible refine And.intro ?_ ?_); (focus ((repeat (first | exact keep_none | exact keep_nil | exact keep_ro | refine keep_cons ?_)); done))) | ((with_reducible refine s_bi ?_ ?_); (focus rfl)) | ((with_reducible apply a2_go); (focus (first | assumption | (intro h; cases h))); (focus (intro o'; repeat (first | exact ResAt.here | apply ResAt.there))); (focus (first | assumption | exact len_nil | exact len_one rfl | (intro a ha; obtain ⟨x, -, rfl⟩ := List.mem_map.1 ha; first | rfl | simp) | (intro a ha; simp at ha; simp [ha]))); (focus (first | assumption | exact len_nil | exact len_one rfl | (intro a ha; obtain ⟨x, -, rfl⟩ := List.mem_map.1 ha; first | rfl | simp) | (intro a ha; simp at ha; simp [ha]))); (focus (first | omega | (simp only [List.length_map, List.length_cons, List.length_nil, List.length_append]; omega))); (focus (first | omega | (simp only [List.length_map, List.length_cons, List.length_nil, List.length_append]; omega))); intro o' ho') | ((with_reducible apply p2_go); (focus (first | assumption | (intro h; cases h))); (focus (intro o'; repeat (first | exact ResAt.here | apply ResAt.there))); (focus (first | assumption | exact len_nil | exact len_one rfl | (intro a ha; obtain ⟨x, -, rfl⟩ := List.mem_map.1 ha; first | rfl | simp) | (intro a ha; simp at ha; simp [ha]))); (focus (first | omega | (simp only [List.length_map, List.length_cons, List.length_nil, List.length_append]; omega))); (focus (first | omega | (simp only [List.length_map, List.length_cons, List.length_nil, List.length_append]; omega))); intro o' ho') | with_reducible refine blk_ne rfl ?_ | ((with_reducible refine w_region ?_ ?_); (focus kernel_rfl)) | ((with_reducible refine w_draw [] ?_ ?_ ?_ ?_ ?_); (iterate 3 (focus kernel_rfl)); (focus exact keeps_nil)) | ((with_reducible first | refine gd_d1 ?_ ?_ | refine gd_d0 ?_ ?_); all_goals (intro hb; (first | with_reducible replace hb := nt_t hb | with_reducible replace hb := nt_f hb | skip); (first | replace hb := of_decide_eq_true hb | replace hb := of_decide_eq_false hb | have hb1 := eq_of_beq hb | have hb1 := ne_of_beq_false hb | have hb1 := bne_t hb | have hb1 := bne_f hb | skip); (try (exfalso; first | contradiction | omega)))))
  · have h := hbn hb
    rw [h]
    clear hbn hb h
    (refine ret_eq (by first | exact .inl rfl | exact .inr rfl) (by first | rfl | assumption) (by (repeat (first | exact List.Sublist.refl _ | apply List.Sublist.cons))) ?_; (try simp (disch := omega) only [push_cast, Nat.reduceEqDiff, reduceCtorEq, ↓reduceIte, Nat.reduceAdd, Nat.reduceMul, Nat.reduceSub, Nat.reduceLT, Nat.reduceLeDiff, Int.reduceToNat, Int.reduceLT, Int.reduceLE, Int.reduceAdd, Int.reduceSub, Int.reduceMul, Int.reduceBEq, Int.reduceBNe, encB, encI, encBs, Nat.mul_one, Int.sub_zero, *]); try (first | exact LE.refl _ | exact LE.sl _ _ | (refine LE.tup ?_; (repeat' (first | exact LEL.nil | refine LEL.cons ?_ ?_ | exact LE.refl _ | exact LE.sl _ _ | refine LE.agg ?_)); done) | (refine LE.agg ?_; (repeat' (first | exact LEL.nil | refine LEL.cons ?_ ?_ | exact LE.refl _ | exact LE.sl _ _)); done) | refine LE.of_eq ?_))
  · (refine ret_eq (by first | exact .inl rfl | exact .inr rfl) (by first | rfl | assumption) (by (repeat (first | exact List.Sublist.refl _ | apply List.Sublist.cons))) ?_; (try simp (disch := omega) only [push_cast, Nat.reduceEqDiff, reduceCtorEq, ↓reduceIte, Nat.reduceAdd, Nat.reduceMul, Nat.reduceSub, Nat.reduceLT, Nat.reduceLeDiff, Int.reduceToNat, Int.reduceLT, Int.reduceLE, Int.reduceAdd, Int.reduceSub, Int.reduceMul, Int.reduceBEq, Int.reduceBNe, encB, encI, encBs, Nat.mul_one, Int.sub_zero, *]); try (first | exact LE.refl _ | exact LE.sl _ _ | (refine LE.tup ?_; (repeat' (first | exact LEL.nil | refine LEL.cons ?_ ?_ | exact LE.refl _ | exact LE.sl _ _ | refine LE.agg ?_)); done) | (refine LE.agg ?_; (repeat' (first | exact LEL.nil | refine LEL.cons ?_ ?_ | exact LE.refl _ | exact LE.sl _ _)); done) | refine LE.of_eq ?_))
theorem growBF (n : Nat) (hn : n ≤ 1000000) (st : St) : TrF Try.prog 27 [.sl .tight [], .i n] st fun d st' => ∃ o', o' ≠ .shared ∧ d = .sl o' [] ∧ st' = .room o' 5 1 ([] : List (List D)).length :: st := by
  refine trF_enter (ts := [4]) Try.func27 rfl (by rw [Try.ntmps27]; exact Nat.le_of_ble_eq_true rfl) (fun tmps w => by simp [results, Try.results27, go_sem, resVal]) ?_
  simp only [Try.ntmps27]
  by_cases h0 : n = 0
  · subst h0
    refine tr_room 5 1 0 ?_
    repeat' (first | ((with_reducible apply ev_go); (focus (try simp (disch := omega) only [push_cast, Nat.reduceEqDiff, reduceCtorEq, ↓reduceIte, Nat.reduceAdd, Nat.reduceMul, Nat.reduceSub, Nat.reduceLT, Nat.reduceLeDiff, Int.reduceToNat, Int.reduceLT, Int.reduceLE, Int.reduceAdd, Int.reduceSub, Int.reduceMul, Int.reduceBEq, Int.reduceBNe, encB, encI, encBs, Nat.mul_one, Int.sub_zero, *]); (try exact rfl); done)) | ((with_reducible refine w_last ?_ ?_ ?_); (focus kernel_rfl); (focus rfl)) | ((with_reducible apply w_stepG); (focus rfl)) | ((with_reducible apply lk_mem); (focus ((repeat (first | exact List.Mem.head _ | apply List.Mem.tail)); done))) | with_reducible (first | refine w_step0 ?_ | refine w_nil ?_ | refine gd_tt ?_ | refine gd_ff ?_ | refine gd_tf ?_ | refine gd_ft ?_ | refine gd_un ?_ | refine s_move ?_ | refine s_assign ?_ | refine s_bin ?_ | refine s_un ?_ | refine s_conv ?_ | refine s_field ?_ | refine s_fieldAddr ?_ | refine s_ext ?_ | refine s_pick ?_ | refine s_nil ?_ | refine s_load ?_ | refine lk_ip ?_ | refine lk_ptr ?_ | refine s_index ?_ | refine s_indexAddr ?_ | refine s_slice ?_ | refine s_build ?_ | refine s_buildSlice ?_ | refine s_mk ?_ | refine s_store ?_ | refine s_alloc ?_ | refine s_call ?_ | refine s_ip ?_ | refine s_app ?_ | refine ak_go ?_ | refine s_aps ?_ | refine ap_go ?_ | refine p2_true ?_ | refine tr_seq ?_ | refine tr_block ?_ | refine tr_skip ?_ | refine tr_ret ?_ | refine tr_exit ?_ | refine tr_label ?_ | refine strip_norm ?_ | refine strip_ret ?_ | refine strip_exit ?_ | refine blk_norm ?_ | refine blk_ret ?_ | refine blk_same ?_ | refine tr_condT ?_ | refine tr_condCt ?_ | refine tr_condCf ?_) | ((with_reducible apply sto_go); (focus (intro cs'; repeat (first | exact ResAt.here | apply ResAt.there)))) | ((with_reducible refine al_go ?_); intro b) | ((with_reducible refine And.intro ?_ ?_); (focus ((repeat (first | exact keep_none | exact keep_nil | exact keep_ro | refine keep_cons ?_)); done))) | ((with_reducible refine s_bi ?_ ?_); (focus rfl)) | ((with_reducible apply a2_go); (focus (first | assumption | (intro h; cases h))); (focus (intro o'; repeat (first | exact ResAt.here | apply ResAt.there))); (focus (first | assumption | exact len_nil | exact len_one rfl | (intro a ha; obtain ⟨x, -, rfl⟩ := List.mem_map.1 ha; first | rfl | simp) | (intro a ha; simp at ha; simp [ha]))); (focus (first | assumption | exact len_nil | exact len_one rfl | (intro a ha; obtain ⟨x, -, rfl⟩ := List.mem_map.1 ha; first | rfl | simp) | (intro a ha; simp at ha; simp [ha]))); (focus (first | omega | (simp only [List.length_map, List.length_cons, List.length_nil, List.length_append]; omega))); (focus (first | omega | (simp only [List.length_map, List.length_cons, List.length_nil, List.length_append]; omega))); intro o' ho') | ((with_reducible apply p2_go); (focus (first | assumption | (intro h; cases h))); (focus (intro o'; repeat (first | exact ResAt.here | apply ResAt.there))); (focus (first | assumption | exact len_nil | exact len_one rfl | (intro a ha; obtain ⟨x, -, rfl⟩ := List.mem_map.1 ha; first | rfl | simp) | (intro a ha; simp at ha; simp [ha]))); (focus (first | omega | (simp only [List.length_map, List.length_cons, List.length_nil, List.length_append]; omega))); (focus (first | omega | (simp only [List.length_map, List.length_cons, List.length_nil, List.length_append]; omega))); intro o' ho') | with_reducible refine blk_ne rfl ?_ | ((with_reducible refine w_region ?_ ?_); (focus kernel_rfl)) | ((with_reducible refine w_draw [] ?_ ?_ ?_ ?_ ?_); (iterate 3 (focus kernel_rfl)); (focus exact keeps_nil)) | ((with_reducible first | refine gd_d1 ?_ ?_ | refine gd_d0 ?_ ?_); all_goals (intro hb; (first | with_reducible replace hb := nt_t hb | with_reducible replace hb := nt_f hb | skip); (first | replace hb := of_decide_eq_true hb | replace hb := of_decide_eq_false hb | have hb1 := eq_of_beq hb | have hb1 := ne_of_beq_false hb | have hb1 := bne_t hb | have hb1 := bne_f hb | skip); (try (exfalso; first | contradiction | omega)))))
    all_goals ((apply ret_own (by first | exact .inl rfl | exact .inr rfl) (by first | rfl | assumption)); (focus ((try simp (disch := omega) only [push_cast, Nat.reduceEqDiff, reduceCtorEq, ↓reduceIte, Nat.reduceAdd, Nat.reduceMul, Nat.reduceSub, Nat.reduceLT, Nat.reduceLeDiff, Int.reduceToNat, Int.reduceLT, Int.reduceLE, Int.reduceAdd, Int.reduceSub, Int.reduceMul, Int.reduceBEq, Int.reduceBNe, encB, encI, encBs, Nat.mul_one, Int.sub_zero, *]); (try exact rfl); done)); (focus (first | assumption | (intro h; cases h))); (focus ((repeat (first | exact List.Sublist.refl _ | apply List.Sublist.cons)); done)))
    all_goals rfl
  · have h1 : (0 : Int) < n := by omega
    have h2 : 0 < n := by omega
    repeat' (first | (refine tr_cutB 6 (fun A' st' => ∃ (g cap : Nat) (cs : List D), A'.df = [] ∧ A'.e 0 = .ar g 0 0 cap ∧ cs.length = cap * 1 ∧ st' = .box g 5 cs :: st) ?_ ?_) | ((with_reducible apply s_sliceT); (focus ((try simp (disch := omega) only [push_cast, Nat.reduceEqDiff, reduceCtorEq, ↓reduceIte, Nat.reduceAdd, Nat.reduceMul, Nat.reduceSub, Nat.reduceLT, Nat.reduceLeDiff, Int.reduceToNat, Int.reduceLT, Int.reduceLE, Int.reduceAdd, Int.reduceSub, Int.reduceMul, Int.reduceBEq, Int.reduceBNe, encB, encI, encBs, Nat.mul_one, Int.sub_zero, *]); (try exact rfl); done)); (focus ((try simp (disch := omega) only [push_cast, Nat.reduceEqDiff, reduceCtorEq, ↓reduceIte, Nat.reduceAdd, Nat.reduceMul, Nat.reduceSub, Nat.reduceLT, Nat.reduceLeDiff, Int.reduceToNat, Int.reduceLT, Int.reduceLE, Int.reduceAdd, Int.reduceSub, Int.reduceMul, Int.reduceBEq, Int.reduceBNe, encB, encI, encBs, Nat.mul_one, Int.sub_zero, *]); (try exact rfl); done)); (focus ((try simp (disch := omega) only [push_cast, Nat.reduceEqDiff, reduceCtorEq, ↓reduceIte, Nat.reduceAdd, Nat.reduceMul, Nat.reduceSub, Nat.reduceLT, Nat.reduceLeDiff, Int.reduceToNat, Int.reduceLT, Int.reduceLE, Int.reduceAdd, Int.reduceSub, Int.reduceMul, Int.reduceBEq, Int.reduceBNe, encB, encI, encBs, Nat.mul_one, Int.sub_zero, *]); (try exact rfl); done))) | with_reducible refine s_zeros ?_ | with_reducible refine zr_go ?_ | ((with_reducible apply zr2_go); (focus omega); (focus omega); (focus omega); (focus exact rfl); intro g cap hgc) | ((with_reducible apply ev_go); (focus (try simp (disch := omega) only [push_cast, Nat.reduceEqDiff, reduceCtorEq, ↓reduceIte, Nat.reduceAdd, Nat.reduceMul, Nat.reduceSub, Nat.reduceLT, Nat.reduceLeDiff, Int.reduceToNat, Int.reduceLT, Int.reduceLE, Int.reduceAdd, Int.reduceSub, Int.reduceMul, Int.reduceBEq, Int.reduceBNe, encB, encI, encBs, Nat.mul_one, Int.sub_zero, *]); (try exact rfl); done)) | ((with_reducible refine w_last ?_ ?_ ?_); (focus kernel_rfl); (focus rfl)) | ((with_reducible apply w_stepG); (focus rfl)) | ((with_reducible apply lk_mem); (focus ((repeat (first | exact List.Mem.head _ | apply List.Mem.tail)); done))) | with_reducible (first | refine w_step0 ?_ | refine w_nil ?_ | refine gd_tt ?_ | refine gd_ff ?_ | refine gd_tf ?_ | refine gd_ft ?_ | refine gd_un ?_ | refine s_move ?_ | refine s_assign ?_ | refine s_bin ?_ | refine s_un ?_ | refine s_conv ?_ | refine s_field ?_ | refine s_fieldAddr ?_ | refine s_ext ?_ | refine s_pick ?_ | refine s_nil ?_ | refine s_load ?_ | refine lk_ip ?_ | refine lk_ptr ?_ | refine s_index ?_ | refine s_indexAddr ?_ | refine s_slice ?_ | refine s_build ?_ | refine s_buildSlice ?_ | refine s_mk ?_ | refine s_store ?_ | refine s_alloc ?_ | refine s_call ?_ | refine s_ip ?_ | refine s_app ?_ | refine ak_go ?_ | refine s_aps ?_ | refine ap_go ?_ | refine p2_true ?_ | refine tr_seq ?_ | refine tr_block ?_ | refine tr_skip ?_ | refine tr_ret ?_ | refine tr_exit ?_ | refine tr_label ?_ | refine strip_norm ?_ | refine strip_ret ?_ | refine strip_exit ?_ | refine blk_norm ?_ | refine blk_ret ?_ | refine blk_same ?_ | refine tr_condT ?_ | refine tr_condCt ?_ | refine tr_condCf ?_) | ((with_reducible apply sto_go); (focus (intro cs'; repeat (first | exact ResAt.here | apply ResAt.there)))) | ((with_reducible refine al_go ?_); intro b) | ((with_reducible refine And.intro ?_ ?_); (focus ((repeat (first | exact keep_none | exact keep_nil | exact keep_ro | refine keep_cons ?_)); done))) | ((with_reducible refine s_bi ?_ ?_); (focus rfl)) | ((with_reducible apply a2_go); (focus (first | assumption | (intro h; cases h))); (focus (intro o'; repeat (first | exact ResAt.here | apply ResAt.there))); (focus (first | assumption | exact len_nil | exact len_one rfl | (intro a ha; obtain ⟨x, -, rfl⟩ := List.mem_map.1 ha; first | rfl | simp) | (intro a ha; simp at ha; simp [ha]))); (focus (first | assumption | exact len_nil | exact len_one rfl | (intro a ha; obtain ⟨x, -, rfl⟩ := List.mem_map.1 ha; first | rfl | simp) | (intro a ha; simp at ha; simp [ha]))); (focus (first | omega | (simp only [List.length_map, List.length_cons, List.length_nil, List.length_append]; omega))); (focus (first | omega | (simp only [List.length_map, List.length_cons, List.length_nil, List.length_append]; omega))); intro o' ho') | ((with_reducible apply p2_go); (focus (first | assumption | (intro h; cases h))); (focus (intro o'; repeat (first | exact ResAt.here | apply ResAt.there))); (focus (first | assumption | exact len_nil | exact len_one rfl | (intro a ha; obtain ⟨x, -, rfl⟩ := List.mem_map.1 ha; first | rfl | simp) | (intro a ha; simp at ha; simp [ha]))); (focus (first | omega | (simp only [List.length_map, List.length_cons, List.length_nil, List.length_append]; omega))); (focus (first | omega | (simp only [List.length_map, List.length_cons, List.length_nil, List.length_append]; omega))); intro o' ho') | with_reducible refine blk_ne rfl ?_ | ((with_reducible refine w_region ?_ ?_); (focus kernel_rfl)) | ((with_reducible refine w_draw [] ?_ ?_ ?_ ?_ ?_); (iterate 3 (focus kernel_rfl)); (focus exact keeps_nil)) | ((with_reducible first | refine gd_d1 ?_ ?_ | refine gd_d0 ?_ ?_); all_goals (intro hb; (first | with_reducible replace hb := nt_t hb | with_reducible replace hb := nt_f hb | skip); (first | replace hb := of_decide_eq_true hb | replace hb := of_decide_eq_false hb | have hb1 := eq_of_beq hb | have hb1 := ne_of_beq_false hb | have hb1 := bne_t hb | have hb1 := bne_f hb | skip); (try (exfalso; first | contradiction | omega)))))
    · refine ⟨g, cap, _, by (first | rfl | assumption | omega | (simp (disch := omega) only [push_cast, Nat.reduceEqDiff, reduceCtorEq, ↓reduceIte, Nat.reduceAdd, Nat.reduceMul, Nat.reduceSub, Nat.reduceLT, Nat.reduceLeDiff, Int.reduceToNat, Int.reduceLT, Int.reduceLE, Int.reduceAdd, Int.reduceSub, Int.reduceMul, Int.reduceBEq, Int.reduceBNe, encB, encI, encBs, Nat.mul_one, Int.sub_zero, *]; try omega; done)), by (first | rfl | assumption | omega | (simp (disch := omega) only [push_cast, Nat.reduceEqDiff, reduceCtorEq, ↓reduceIte, Nat.reduceAdd, Nat.reduceMul, Nat.reduceSub, Nat.reduceLT, Nat.reduceLeDiff, Int.reduceToNat, Int.reduceLT, Int.reduceLE, Int.reduceAdd, Int.reduceSub, Int.reduceMul, Int.reduceBEq, Int.reduceBNe, encB, encI, encBs, Nat.mul_one, Int.sub_zero, *]; try omega; done)), ?_, rfl⟩
      rw [List.length_replicate, Nat.mul_one]
    · rintro A' st' ⟨g, cap, cs, hdf, e0, hcl, rfl⟩
      refine tr_reroomA [0] 1 (.refl _) (by omega) hcl (fun t ht => by rw [List.mem_singleton.1 ht]; exact e0) fun A2 hdf2 q1 q2 => ?_
      have e0' := q1 0 (List.mem_singleton.2 rfl)
      rw [hdf] at hdf2
      clear q1 q2 e0 hdf
      repeat' (first | ((with_reducible apply ev_go); (focus (try simp (disch := omega) only [push_cast, Nat.reduceEqDiff, reduceCtorEq, ↓reduceIte, Nat.reduceAdd, Nat.reduceMul, Nat.reduceSub, Nat.reduceLT, Nat.reduceLeDiff, Int.reduceToNat, Int.reduceLT, Int.reduceLE, Int.reduceAdd, Int.reduceSub, Int.reduceMul, Int.reduceBEq, Int.reduceBNe, encB, encI, encBs, Nat.mul_one, Int.sub_zero, *]); (try exact rfl); done)) | ((with_reducible refine w_last ?_ ?_ ?_); (focus kernel_rfl); (focus rfl)) | ((with_reducible apply w_stepG); (focus rfl)) | ((with_reducible apply lk_mem); (focus ((repeat (first | exact List.Mem.head _ | apply List.Mem.tail)); done))) | with_reducible (first | refine w_step0 ?_ | refine w_nil ?_ | refine gd_tt ?_ | refine gd_ff ?_ | refine gd_tf ?_ | refine gd_ft ?_ | refine gd_un ?_ | refine s_move ?_ | refine s_assign ?_ | refine s_bin ?_ | refine s_un ?_ | refine s_conv ?_ | refine s_field ?_ | refine s_fieldAddr ?_ | refine s_ext ?_ | refine s_pick ?_ | refine s_nil ?_ | refine s_load ?_ | refine lk_ip ?_ | refine lk_ptr ?_ | refine s_index ?_ | refine s_indexAddr ?_ | refine s_slice ?_ | refine s_build ?_ | refine s_buildSlice ?_ | refine s_mk ?_ | refine s_store ?_ | refine s_alloc ?_ | refine s_call ?_ | refine s_ip ?_ | refine s_app ?_ | refine ak_go ?_ | refine s_aps ?_ | refine ap_go ?_ | refine p2_true ?_ | refine tr_seq ?_ | refine tr_block ?_ | refine tr_skip ?_ | refine tr_ret ?_ | refine tr_exit ?_ | refine tr_label ?_ | refine strip_norm ?_ | refine strip_ret ?_ | refine strip_exit ?_ | refine blk_norm ?_ | refine blk_ret ?_ | refine blk_same ?_ | refine tr_condT ?_ | refine tr_condCt ?_ | refine tr_condCf ?_) | ((with_reducible apply sto_go); (focus (intro cs'; repeat (first | exact ResAt.here | apply ResAt.there)))) | ((with_reducible refine al_go ?_); intro b) | ((with_reducible refine And.intro ?_ ?_); (focus ((repeat (first | exact keep_none | exact keep_nil | exact keep_ro | refine keep_cons ?_)); done))) | ((with_reducible refine s_bi ?_ ?_); (focus rfl)) | ((with_reducible apply a2_go); (focus (first | assumption | (intro h; cases h))); (focus (intro o'; repeat (first | exact ResAt.here | apply ResAt.there))); (focus (first | assumption | exact len_nil | exact len_one rfl | (intro a ha; obtain ⟨x, -, rfl⟩ := List.mem_map.1 ha; first | rfl | simp) | (intro a ha; simp at ha; simp [ha]))); (focus (first | assumption | exact len_nil | exact len_one rfl | (intro a ha; obtain ⟨x, -, rfl⟩ := List.mem_map.1 ha; first | rfl | simp) | (intro a ha; simp at ha; simp [ha]))); (focus (first | omega | (simp only [List.length_map, List.length_cons, List.length_nil, List.length_append]; omega))); (focus (first | omega | (simp only [List.length_map, List.length_cons, List.length_nil, List.length_append]; omega))); intro o' ho') | ((with_reducible apply p2_go); (focus (first | assumption | (intro h; cases h))); (focus (intro o'; repeat (first | exact ResAt.here | apply ResAt.there))); (focus (first | assumption | exact len_nil | exact len_one rfl | (intro a ha; obtain ⟨x, -, rfl⟩ := List.mem_map.1 ha; first | rfl | simp) | (intro a ha; simp at ha; simp [ha]))); (focus (first | omega | (simp only [List.length_map, List.length_cons, List.length_nil, List.length_append]; omega))); (focus (first | omega | (simp only [List.length_map, List.length_cons, List.length_nil, List.length_append]; omega))); intro o' ho') | with_reducible refine blk_ne rfl ?_ | ((with_reducible refine w_region ?_ ?_); (focus kernel_rfl)) | ((with_reducible refine w_draw [] ?_ ?_ ?_ ?_ ?_); (iterate 3 (focus kernel_rfl)); (focus exact keeps_nil)) | ((with_reducible first | refine gd_d1 ?_ ?_ | refine gd_d0 ?_ ?_); all_goals (intro hb; (first | with_reducible replace hb := nt_t hb | with_reducible replace hb := nt_f hb | skip); (first | replace hb := of_decide_eq_true hb | replace hb := of_decide_eq_false hb | have hb1 := eq_of_beq hb | have hb1 := ne_of_beq_false hb | have hb1 := bne_t hb | have hb1 := bne_f hb | skip); (try (exfalso; first | contradiction | omega)))))
      all_goals ((apply ret_own (by first | exact .inl rfl | exact .inr rfl) (by first | rfl | assumption)); (focus ((try simp (disch := omega) only [push_cast, Nat.reduceEqDiff, reduceCtorEq, ↓reduceIte, Nat.reduceAdd, Nat.reduceMul, Nat.reduceSub, Nat.reduceLT, Nat.reduceLeDiff, Int.reduceToNat, Int.reduceLT, Int.reduceLE, Int.reduceAdd, Int.reduceSub, Int.reduceMul, Int.reduceBEq, Int.reduceBNe, encB, encI, encBs, Nat.mul_one, Int.sub_zero, *]); (try exact rfl); done)); (focus (first | assumption | (intro h; cases h))); (focus ((repeat (first | exact List.Sublist.refl _ | apply List.Sublist.cons)); done)))
      all_goals rfl
theorem concatBF (o : Own) (bs : List (List UInt8)) (hl : bs.flatten.length ≤ 1000000) (hb : bs.length ≤ 1000000) (st : St) : TrF Try.prog 19 [.sl o (bs.map encBs)] st fun d st' => ∃ o', o' ≠ .shared ∧ d = .sl o' (bs.flatten.map encB) ∧ st' = .room o' 5 1 (bs.flatten.map encB).length :: st := by
  have hF : ∀ i x, bs[i]? = some x → (bs.take (i + 1)).flatten = (bs.take i).flatten ++ x ∧ (bs.take (i + 1)).flatten.length ≤ 1000000 := fun i x hx => by
    have h1 : (bs.take (i + 1)).flatten = (bs.take i).flatten ++ x := by rw [List.take_succ, hx]; simp
    refine ⟨h1, ?_⟩
    have h2 := congrArg List.length (congrArg List.flatten (List.take_append_drop (i + 1) bs))
    rw [List.flatten_append, List.length_append] at h2
    omega
  refine trF_enter (ts := [2]) Try.func19 rfl (by rw [Try.ntmps19]; exact Nat.le_of_ble_eq_true rfl) (fun tmps w => by simp [results, Try.results19, go_sem, resVal]) ?_
  simp only [Try.ntmps19]
  repeat' (first | ((with_reducible apply ev_go); (focus (try simp (disch := omega) only [push_cast, Nat.reduceEqDiff, reduceCtorEq, ↓reduceIte, Nat.reduceAdd, Nat.reduceMul, Nat.reduceSub, Nat.reduceLT, Nat.reduceLeDiff, Int.reduceToNat, Int.reduceLT, Int.reduceLE, Int.reduceAdd, Int.reduceSub, Int.reduceMul, Int.reduceBEq, Int.reduceBNe, encB, encI, encBs, Nat.mul_one, Int.sub_zero, *]); (try exact rfl); done)) | ((with_reducible refine w_last ?_ ?_ ?_); (focus kernel_rfl); (focus rfl)) | ((with_reducible apply w_stepG); (focus rfl)) | ((with_reducible apply lk_mem); (focus ((repeat (first | exact List.Mem.head _ | apply List.Mem.tail)); done))) | with_reducible (first | refine w_step0 ?_ | refine w_nil ?_ | refine gd_tt ?_ | refine gd_ff ?_ | refine gd_tf ?_ | refine gd_ft ?_ | refine gd_un ?_ | refine s_move ?_ | refine s_assign ?_ | refine s_bin ?_ | refine s_un ?_ | refine s_conv ?_ | refine s_field ?_ | refine s_fieldAddr ?_ | refine s_ext ?_ | refine s_pick ?_ | refine s_nil ?_ | refine s_load ?_ | refine lk_ip ?_ | refine lk_ptr ?_ | refine s_index ?_ | refine s_indexAddr ?_ | refine s_slice ?_ | refine s_build ?_ | refine s_buildSlice ?_ | refine s_mk ?_ | refine s_store ?_ | refine s_alloc ?_ | refine s_call ?_ | refine s_ip ?_ | refine s_app ?_ | refine ak_go ?_ | refine s_aps ?_ | refine ap_go ?_ | refine p2_true ?_ | refine tr_seq ?_ | refine tr_block ?_ | refine tr_skip ?_ | refine tr_ret ?_ | refine tr_exit ?_ | refine tr_label ?_ | refine strip_norm ?_ | refine strip_ret ?_ | refine strip_exit ?_ | refine blk_norm ?_ | refine blk_ret ?_ | refine blk_same ?_ | refine tr_condT ?_ | refine tr_condCt ?_ | refine tr_condCf ?_) | ((with_reducible apply sto_go); (focus (intro cs'; repeat (first | exact ResAt.here | apply ResAt.there)))) | ((with_reducible refine al_go ?_); intro b) | ((with_reducible refine And.intro ?_ ?_); (focus ((repeat (first | exact keep_none | exact keep_nil | exact keep_ro | refine keep_cons ?_)); done))) | ((with_reducible refine s_bi ?_ ?_); (focus rfl)) | ((with_reducible apply a2_go); (focus (first | assumption | (intro h; cases h))); (focus (intro o'; repeat (first | exact ResAt.here | apply ResAt.there))); (focus (first | assumption | exact len_nil | exact len_one rfl | (intro a ha; obtain ⟨x, -, rfl⟩ := List.mem_map.1 ha; first | rfl | simp) | (intro a ha; simp at ha; simp [ha]))); (focus (first | assumption | exact len_nil | exact len_one rfl | (intro a ha; obtain ⟨x, -, rfl⟩ := List.mem_map.1 ha; first | rfl | simp) | (intro a ha; simp at ha; simp [ha]))); (focus (first | omega | (simp only [List.length_map, List.length_cons, List.length_nil, List.length_append]; omega))); (focus (first | omega | (simp only [List.length_map, List.length_cons, List.length_nil, List.length_append]; omega))); intro o' ho') | ((with_reducible apply p2_go); (focus (first | assumption | (intro h; cases h))); (focus (intro o'; repeat (first | exact ResAt.here | apply ResAt.there))); (focus (first | assumption | exact len_nil | exact len_one rfl | (intro a ha; obtain ⟨x, -, rfl⟩ := List.mem_map.1 ha; first | rfl | simp) | (intro a ha; simp at ha; simp [ha]))); (focus (first | omega | (simp only [List.length_map, List.length_cons, List.length_nil, List.length_append]; omega))); (focus (first | omega | (simp only [List.length_map, List.length_cons, List.length_nil, List.length_append]; omega))); intro o' ho') | with_reducible refine blk_ne rfl ?_ | ((with_reducible refine w_region ?_ ?_); (focus kernel_rfl)) | ((with_reducible refine w_draw [] ?_ ?_ ?_ ?_ ?_); (iterate 3 (focus kernel_rfl)); (focus exact keeps_nil)) | ((with_reducible first | refine gd_d1 ?_ ?_ | refine gd_d0 ?_ ?_); all_goals (intro hb; (first | with_reducible replace hb := nt_t hb | with_reducible replace hb := nt_f hb | skip); (first | replace hb := of_decide_eq_true hb | replace hb := of_decide_eq_false hb | have hb1 := eq_of_beq hb | have hb1 := ne_of_beq_false hb | have hb1 := bne_t hb | have hb1 := bne_f hb | skip); (try (exfalso; first | contradiction | omega)))))
  refine tr_loop (ι := Nat) (fun i A st' => i ≤ bs.length ∧ A.df = [] ∧ A.e 0 = .sl o (bs.map encBs) ∧ A.e 9 = .sl o (bs.map encBs) ∧ A.e 10 = .i bs.length ∧ A.e 11 = .i i ∧ A.e 3 = .i (bs.take i).flatten.length ∧ st = st') (fun i => bs.length - i) 0 ⟨Nat.zero_le _, ?_, ?_, ?_, ?_, ?_, ?_, rfl⟩ ?_
  iterate 6 (focus (first | rfl | assumption | omega | (simp (disch := omega) only [push_cast, Nat.reduceEqDiff, reduceCtorEq, ↓reduceIte, Nat.reduceAdd, Nat.reduceMul, Nat.reduceSub, Nat.reduceLT, Nat.reduceLeDiff, Int.reduceToNat, Int.reduceLT, Int.reduceLE, Int.reduceAdd, Int.reduceSub, Int.reduceMul, Int.reduceBEq, Int.reduceBNe, encB, encI, encBs, Nat.mul_one, Int.sub_zero, *]; try omega; done)))
  rintro i A st' ⟨hi, hdf, e0, e9, e10, e11, e3, rfl⟩
  by_cases hlt : i < bs.length
  · obtain ⟨x, hx⟩ : ∃ x, bs[i]? = some x := ⟨_, List.getElem?_eq_getElem hlt⟩
    obtain ⟨hf, hfl⟩ := hF i x hx
    have hfl2 : ((bs.take (i + 1)).flatten.length : Int) = (bs.take i).flatten.length + x.length := by rw [hf, List.length_append]; omega
    clear hF hf
    obtain ⟨q1, hq1⟩ : ∃ q, (bs.take (i + 1)).flatten.length = q := ⟨_, rfl⟩
    rw [hq1] at hfl hfl2
    generalize (bs.take i).flatten.length = q0 at *
    repeat' (first | ((with_reducible apply ev_go); (focus (try simp (disch := omega) only [push_cast, Nat.reduceEqDiff, reduceCtorEq, ↓reduceIte, Nat.reduceAdd, Nat.reduceMul, Nat.reduceSub, Nat.reduceLT, Nat.reduceLeDiff, Int.reduceToNat, Int.reduceLT, Int.reduceLE, Int.reduceAdd, Int.reduceSub, Int.reduceMul, Int.reduceBEq, Int.reduceBNe, encB, encI, encBs, Nat.mul_one, Int.sub_zero, *]); (try exact rfl); done)) | ((with_reducible refine w_last ?_ ?_ ?_); (focus kernel_rfl); (focus rfl)) | ((with_reducible apply w_stepG); (focus rfl)) | ((with_reducible apply lk_mem); (focus ((repeat (first | exact List.Mem.head _ | apply List.Mem.tail)); done))) | with_reducible (first | refine w_step0 ?_ | refine w_nil ?_ | refine gd_tt ?_ | refine gd_ff ?_ | refine gd_tf ?_ | refine gd_ft ?_ | refine gd_un ?_ | refine s_move ?_ | refine s_assign ?_ | refine s_bin ?_ | refine s_un ?_ | refine s_conv ?_ | refine s_field ?_ | refine s_fieldAddr ?_ | refine s_ext ?_ | refine s_pick ?_ | refine s_nil ?_ | refine s_load ?_ | refine lk_ip ?_ | refine lk_ptr ?_ | refine s_index ?_ | refine s_indexAddr ?_ | refine s_slice ?_ | refine s_build ?_ | refine s_buildSlice ?_ | refine s_mk ?_ | refine s_store ?_ | refine s_alloc ?_ | refine s_call ?_ | refine s_ip ?_ | refine s_app ?_ | refine ak_go ?_ | refine s_aps ?_ | refine ap_go ?_ | refine p2_true ?_ | refine tr_seq ?_ | refine tr_block ?_ | refine tr_skip ?_ | refine tr_ret ?_ | refine tr_exit ?_ | refine tr_label ?_ | refine strip_norm ?_ | refine strip_ret ?_ | refine strip_exit ?_ | refine blk_norm ?_ | refine blk_ret ?_ | refine blk_same ?_ | refine tr_condT ?_ | refine tr_condCt ?_ | refine tr_condCf ?_) | ((with_reducible apply sto_go); (focus (intro cs'; repeat (first | exact ResAt.here | apply ResAt.there)))) | ((with_reducible refine al_go ?_); intro b) | ((with_reducible refine And.intro ?_ ?_); (focus ((repeat (first | exact keep_none | exact keep_nil | exact keep_ro | refine keep_cons ?_)); done))) | ((with_reducible refine s_bi ?_ ?_); (focus rfl)) | ((with_reducible apply a2_go); (focus (first | assumption | (intro h; cases h))); (focus (intro o'; repeat (first | exact ResAt.here | apply ResAt.there))); (focus (first | assumption | exact len_nil | exact len_one rfl | (intro a ha; obtain ⟨x, -, rfl⟩ := List.mem_map.1 ha; first | rfl | simp) | (intro a ha; simp at ha; simp [ha]))); (focus (first | assumption | exact len_nil | exact len_one rfl | (intro a ha; obtain ⟨x, -, rfl⟩ := List.mem_map.1 ha; first | rfl | simp) | (intro a ha; simp at ha; simp [ha]))); (focus (first | omega | (simp only [List.length_map, List.length_cons, List.length_nil, List.length_append]; omega))); (focus (first | omega | (simp only [List.length_map, List.length_cons, List.length_nil, List.length_append]; omega))); intro o' ho') | ((with_reducible apply p2_go); (focus (first | assumption | (intro h; cases h))); (focus (intro o'; repeat (first | exact ResAt.here | apply ResAt.there))); (focus (first | assumption | exact len_nil | exact len_one rfl | (intro a ha; obtain ⟨x, -, rfl⟩ := List.mem_map.1 ha; first | rfl | simp) | (intro a ha; simp at ha; simp [ha]))); (focus (first | omega | (simp only [List.length_map, List.length_cons, List.length_nil, List.length_append]; omega))); (focus (first | omega | (simp only [List.length_map, List.length_cons, List.length_nil, List.length_append]; omega))); intro o' ho') | with_reducible refine blk_ne rfl ?_ | ((with_reducible refine w_region ?_ ?_); (focus kernel_rfl)) | ((with_reducible refine w_draw [] ?_ ?_ ?_ ?_ ?_); (iterate 3 (focus kernel_rfl)); (focus exact keeps_nil)) | ((with_reducible first | refine gd_d1 ?_ ?_ | refine gd_d0 ?_ ?_); all_goals (intro hb; (first | with_reducible replace hb := nt_t hb | with_reducible replace hb := nt_f hb | skip); (first | replace hb := of_decide_eq_true hb | replace hb := of_decide_eq_false hb | have hb1 := eq_of_beq hb | have hb1 := ne_of_beq_false hb | have hb1 := bne_t hb | have hb1 := bne_f hb | skip); (try (exfalso; first | contradiction | omega)))))
    refine ⟨i + 1, ⟨hlt, ?_, ?_, ?_, ?_, ?_, ?_, rfl⟩, ?_⟩
    all_goals (first | rfl | assumption | omega | (simp (disch := omega) only [push_cast, Nat.reduceEqDiff, reduceCtorEq, ↓reduceIte, Nat.reduceAdd, Nat.reduceMul, Nat.reduceSub, Nat.reduceLT, Nat.reduceLeDiff, Int.reduceToNat, Int.reduceLT, Int.reduceLE, Int.reduceAdd, Int.reduceSub, Int.reduceMul, Int.reduceBEq, Int.reduceBNe, encB, encI, encBs, Nat.mul_one, Int.sub_zero, *]; try omega; done))
  · rw [List.take_of_length_le (by omega)] at e3
    have hG := fun st => growBF bs.flatten.length hl st
    replace hF := Lib.hid hF
    replace hG := Lib.hid hG
    repeat' (first | ((with_reducible apply ev_go); (focus (try simp (disch := omega) only [push_cast, Nat.reduceEqDiff, reduceCtorEq, ↓reduceIte, Nat.reduceAdd, Nat.reduceMul, Nat.reduceSub, Nat.reduceLT, Nat.reduceLeDiff, Int.reduceToNat, Int.reduceLT, Int.reduceLE, Int.reduceAdd, Int.reduceSub, Int.reduceMul, Int.reduceBEq, Int.reduceBNe, encB, encI, encBs, Nat.mul_one, Int.sub_zero, *]); (try exact rfl); done)) | ((with_reducible refine w_last ?_ ?_ ?_); (focus kernel_rfl); (focus rfl)) | ((with_reducible apply w_stepG); (focus rfl)) | ((with_reducible apply lk_mem); (focus ((repeat (first | exact List.Mem.head _ | apply List.Mem.tail)); done))) | with_reducible (first | refine w_step0 ?_ | refine w_nil ?_ | refine gd_tt ?_ | refine gd_ff ?_ | refine gd_tf ?_ | refine gd_ft ?_ | refine gd_un ?_ | refine s_move ?_ | refine s_assign ?_ | refine s_bin ?_ | refine s_un ?_ | refine s_conv ?_ | refine s_field ?_ | refine s_fieldAddr ?_ | refine s_ext ?_ | refine s_pick ?_ | refine s_nil ?_ | refine s_load ?_ | refine lk_ip ?_ | refine lk_ptr ?_ | refine s_index ?_ | refine s_indexAddr ?_ | refine s_slice ?_ | refine s_build ?_ | refine s_buildSlice ?_ | refine s_mk ?_ | refine s_store ?_ | refine s_alloc ?_ | refine s_call ?_ | refine s_ip ?_ | refine s_app ?_ | refine ak_go ?_ | refine s_aps ?_ | refine ap_go ?_ | refine p2_true ?_ | refine tr_seq ?_ | refine tr_block ?_ | refine tr_skip ?_ | refine tr_ret ?_ | refine tr_exit ?_ | refine tr_label ?_ | refine strip_norm ?_ | refine strip_ret ?_ | refine strip_exit ?_ | refine blk_norm ?_ | refine blk_ret ?_ | refine blk_same ?_ | refine tr_condT ?_ | refine tr_condCt ?_ | refine tr_condCf ?_) | ((with_reducible apply sto_go); (focus (intro cs'; repeat (first | exact ResAt.here | apply ResAt.there)))) | ((with_reducible refine al_go ?_); intro b) | ((with_reducible refine And.intro ?_ ?_); (focus ((repeat (first | exact keep_none | exact keep_nil | exact keep_ro | refine keep_cons ?_)); done))) | ((with_reducible apply (ck_ex Try.call27)); (focus exact LEL.refl _); (focus exact hG.out _); (focus exact ⟨.tight, by intro h; cases h⟩); intro o1 ho1) | ((with_reducible refine s_bi ?_ ?_); (focus rfl)) | ((with_reducible apply a2_go); (focus (first | assumption | (intro h; cases h))); (focus (intro o'; repeat (first | exact ResAt.here | apply ResAt.there))); (focus (first | assumption | exact len_nil | exact len_one rfl | (intro a ha; obtain ⟨x, -, rfl⟩ := List.mem_map.1 ha; first | rfl | simp) | (intro a ha; simp at ha; simp [ha]))); (focus (first | assumption | exact len_nil | exact len_one rfl | (intro a ha; obtain ⟨x, -, rfl⟩ := List.mem_map.1 ha; first | rfl | simp) | (intro a ha; simp at ha; simp [ha]))); (focus (first | omega | (simp only [List.length_map, List.length_cons, List.length_nil, List.length_append]; omega))); (focus (first | omega | (simp only [List.length_map, List.length_cons, List.length_nil, List.length_append]; omega))); intro o' ho') | ((with_reducible apply p2_go); (focus (first | assumption | (intro h; cases h))); (focus (intro o'; repeat (first | exact ResAt.here | apply ResAt.there))); (focus (first | assumption | exact len_nil | exact len_one rfl | (intro a ha; obtain ⟨x, -, rfl⟩ := List.mem_map.1 ha; first | rfl | simp) | (intro a ha; simp at ha; simp [ha]))); (focus (first | omega | (simp only [List.length_map, List.length_cons, List.length_nil, List.length_append]; omega))); (focus (first | omega | (simp only [List.length_map, List.length_cons, List.length_nil, List.length_append]; omega))); intro o' ho') | with_reducible refine blk_ne rfl ?_ | ((with_reducible refine w_region ?_ ?_); (focus kernel_rfl)) | ((with_reducible refine w_draw [] ?_ ?_ ?_ ?_ ?_); (iterate 3 (focus kernel_rfl)); (focus exact keeps_nil)) | ((with_reducible first | refine gd_d1 ?_ ?_ | refine gd_d0 ?_ ?_); all_goals (intro hb; (first | with_reducible replace hb := nt_t hb | with_reducible replace hb := nt_f hb | skip); (first | replace hb := of_decide_eq_true hb | replace hb := of_decide_eq_false hb | have hb1 := eq_of_beq hb | have hb1 := ne_of_beq_false hb | have hb1 := bne_t hb | have hb1 := bne_f hb | skip); (try (exfalso; first | contradiction | omega)))))
    refine tr_loopd (ι := Nat) (fun i A st' => i ≤ bs.length ∧ A.df = [] ∧ A.e 25 = .sl o (bs.map encBs) ∧ A.e 26 = .i bs.length ∧ A.e 27 = .i i ∧ ∃ o' B, o' ≠ .shared ∧ Hid (B = (bs.take i).flatten) ∧ B.length = (bs.take i).flatten.length ∧ A.e 6 = .sl o' (B.map encB) ∧ st' = .room o' 5 1 (B.map encB).length :: st) (fun i => bs.length - i) 0 ⟨Nat.zero_le _, ?_, ?_, ?_, ?_, o1, [], ho1, rfl, rfl, ?_, rfl⟩ ?_
    iterate 5 (focus (first | rfl | assumption | omega | (simp (disch := omega) only [push_cast, Nat.reduceEqDiff, reduceCtorEq, ↓reduceIte, Nat.reduceAdd, Nat.reduceMul, Nat.reduceSub, Nat.reduceLT, Nat.reduceLeDiff, Int.reduceToNat, Int.reduceLT, Int.reduceLE, Int.reduceAdd, Int.reduceSub, Int.reduceMul, Int.reduceBEq, Int.reduceBNe, encB, encI, encBs, Nat.mul_one, Int.sub_zero, *]; try omega; done)))
    clear hlt hi e0 e3 e9 e10 e11 hdf A i hG o1 ho1
    rintro i A st' ⟨hi, hdf, e25, e26, e27, o', B, ho', HB, hBl, e6, rfl⟩
    by_cases hlt : i < bs.length
    · obtain ⟨x, hx⟩ : ∃ x, bs[i]? = some x := ⟨_, List.getElem?_eq_getElem hlt⟩
      obtain ⟨hf, hfl⟩ := hF.out i x hx
      have HB2 : Hid (B ++ x = (bs.take (i + 1)).flatten) := by show _ = _; rw [hf, HB.out]
      have hBl2 : (B ++ x).length = (bs.take (i + 1)).flatten.length := by rw [hf, List.length_append, List.length_append, hBl]
      have hBx : B.length + x.length ≤ 1000000 := by
        have := hBl2
        rw [List.length_append] at this; omega
      replace hBl2 := Lib.hid hBl2
      clear hF hf HB hfl hBl
      repeat' (first | ((with_reducible apply ev_go); (focus (try simp (disch := omega) only [push_cast, Nat.reduceEqDiff, reduceCtorEq, ↓reduceIte, Nat.reduceAdd, Nat.reduceMul, Nat.reduceSub, Nat.reduceLT, Nat.reduceLeDiff, Int.reduceToNat, Int.reduceLT, Int.reduceLE, Int.reduceAdd, Int.reduceSub, Int.reduceMul, Int.reduceBEq, Int.reduceBNe, encB, encI, encBs, Nat.mul_one, Int.sub_zero, *]); (try exact rfl); done)) | ((with_reducible refine w_last ?_ ?_ ?_); (focus kernel_rfl); (focus rfl)) | ((with_reducible apply w_stepG); (focus rfl)) | ((with_reducible apply lk_mem); (focus ((repeat (first | exact List.Mem.head _ | apply List.Mem.tail)); done))) | with_reducible (first | refine w_step0 ?_ | refine w_nil ?_ | refine gd_tt ?_ | refine gd_ff ?_ | refine gd_tf ?_ | refine gd_ft ?_ | refine gd_un ?_ | refine s_move ?_ | refine s_assign ?_ | refine s_bin ?_ | refine s_un ?_ | refine s_conv ?_ | refine s_field ?_ | refine s_fieldAddr ?_ | refine s_ext ?_ | refine s_pick ?_ | refine s_nil ?_ | refine s_load ?_ | refine lk_ip ?_ | refine lk_ptr ?_ | refine s_index ?_ | refine s_indexAddr ?_ | refine s_slice ?_ | refine s_build ?_ | refine s_buildSlice ?_ | refine s_mk ?_ | refine s_store ?_ | refine s_alloc ?_ | refine s_call ?_ | refine s_ip ?_ | refine s_app ?_ | refine ak_go ?_ | refine s_aps ?_ | refine ap_go ?_ | refine p2_true ?_ | refine tr_seq ?_ | refine tr_block ?_ | refine tr_skip ?_ | refine tr_ret ?_ | refine tr_exit ?_ | refine tr_label ?_ | refine strip_norm ?_ | refine strip_ret ?_ | refine strip_exit ?_ | refine blk_norm ?_ | refine blk_ret ?_ | refine blk_same ?_ | refine tr_condT ?_ | refine tr_condCt ?_ | refine tr_condCf ?_) | ((with_reducible apply sto_go); (focus (intro cs'; repeat (first | exact ResAt.here | apply ResAt.there)))) | ((with_reducible refine al_go ?_); intro b) | ((with_reducible refine And.intro ?_ ?_); (focus ((repeat (first | exact keep_none | exact keep_nil | exact keep_ro | refine keep_cons ?_)); done))) | ((with_reducible refine s_bi ?_ ?_); (focus rfl)) | ((with_reducible apply a2_go); (focus (first | assumption | (intro h; cases h))); (focus (intro o'; repeat (first | exact ResAt.here | apply ResAt.there))); (focus (first | assumption | exact len_nil | exact len_one rfl | (intro a ha; obtain ⟨x, -, rfl⟩ := List.mem_map.1 ha; first | rfl | simp) | (intro a ha; simp at ha; simp [ha]))); (focus (first | assumption | exact len_nil | exact len_one rfl | (intro a ha; obtain ⟨x, -, rfl⟩ := List.mem_map.1 ha; first | rfl | simp) | (intro a ha; simp at ha; simp [ha]))); (focus (first | omega | (simp only [List.length_map, List.length_cons, List.length_nil, List.length_append]; omega))); (focus (first | omega | (simp only [List.length_map, List.length_cons, List.length_nil, List.length_append]; omega))); intro o' ho') | ((with_reducible apply p2_go); (focus (first | assumption | (intro h; cases h))); (focus (intro o'; repeat (first | exact ResAt.here | apply ResAt.there))); (focus (first | assumption | exact len_nil | exact len_one rfl | (intro a ha; obtain ⟨x, -, rfl⟩ := List.mem_map.1 ha; first | rfl | simp) | (intro a ha; simp at ha; simp [ha]))); (focus (first | omega | (simp only [List.length_map, List.length_cons, List.length_nil, List.length_append]; omega))); (focus (first | omega | (simp only [List.length_map, List.length_cons, List.length_nil, List.length_append]; omega))); intro o' ho') | with_reducible refine blk_ne rfl ?_ | ((with_reducible refine w_region ?_ ?_); (focus kernel_rfl)) | ((with_reducible refine w_draw [] ?_ ?_ ?_ ?_ ?_); (iterate 3 (focus kernel_rfl)); (focus exact keeps_nil)) | ((with_reducible first | refine gd_d1 ?_ ?_ | refine gd_d0 ?_ ?_); all_goals (intro hb; (first | with_reducible replace hb := nt_t hb | with_reducible replace hb := nt_f hb | skip); (first | replace hb := of_decide_eq_true hb | replace hb := of_decide_eq_false hb | have hb1 := eq_of_beq hb | have hb1 := ne_of_beq_false hb | have hb1 := bne_t hb | have hb1 := bne_f hb | skip); (try (exfalso; first | contradiction | omega)))))
      refine ⟨i + 1, .room o' 5 1 ((B ++ x).map encB).length :: st, ?_, ⟨hlt, ?_, ?_, ?_, ?_, o', B ++ x, ho', HB2, hBl2.out, ?_, rfl⟩, ?_⟩
      · rw [List.map_append]; (repeat (first | exact List.Sublist.refl _ | apply List.Sublist.cons))
      all_goals (first | rfl | assumption | omega | (simp (disch := omega) only [push_cast, Nat.reduceEqDiff, reduceCtorEq, ↓reduceIte, Nat.reduceAdd, Nat.reduceMul, Nat.reduceSub, Nat.reduceLT, Nat.reduceLeDiff, Int.reduceToNat, Int.reduceLT, Int.reduceLE, Int.reduceAdd, Int.reduceSub, Int.reduceMul, Int.reduceBEq, Int.reduceBNe, encB, encI, encBs, Nat.mul_one, Int.sub_zero, *]; try omega; done))
    · have hBe := HB.out
      rw [List.take_of_length_le (by omega)] at hBe
      rw [← hBe]
      clear hBe HB hBl hF
      repeat' (first | ((with_reducible apply ev_go); (focus (try simp (disch := omega) only [push_cast, Nat.reduceEqDiff, reduceCtorEq, ↓reduceIte, Nat.reduceAdd, Nat.reduceMul, Nat.reduceSub, Nat.reduceLT, Nat.reduceLeDiff, Int.reduceToNat, Int.reduceLT, Int.reduceLE, Int.reduceAdd, Int.reduceSub, Int.reduceMul, Int.reduceBEq, Int.reduceBNe, encB, encI, encBs, Nat.mul_one, Int.sub_zero, *]); (try exact rfl); done)) | ((with_reducible refine w_last ?_ ?_ ?_); (focus kernel_rfl); (focus rfl)) | ((with_reducible apply w_stepG); (focus rfl)) | ((with_reducible apply lk_mem); (focus ((repeat (first | exact List.Mem.head _ | apply List.Mem.tail)); done))) | with_reducible (first | refine w_step0 ?_ | refine w_nil ?_ | refine gd_tt ?_ | refine gd_ff ?_ | refine gd_tf ?_ | refine gd_ft ?_ | refine gd_un ?_ | refine s_move ?_ | refine s_assign ?_ | refine s_bin ?_ | refine s_un ?_ | refine s_conv ?_ | refine s_field ?_ | refine s_fieldAddr ?_ | refine s_ext ?_ | refine s_pick ?_ | refine s_nil ?_ | refine s_load ?_ | refine lk_ip ?_ | refine lk_ptr ?_ | refine s_index ?_ | refine s_indexAddr ?_ | refine s_slice ?_ | refine s_build ?_ | refine s_buildSlice ?_ | refine s_mk ?_ | refine s_store ?_ | refine s_alloc ?_ | refine s_call ?_ | refine s_ip ?_ | refine s_app ?_ | refine ak_go ?_ | refine s_aps ?_ | refine ap_go ?_ | refine p2_true ?_ | refine tr_seq ?_ | refine tr_block ?_ | refine tr_skip ?_ | refine tr_ret ?_ | refine tr_exit ?_ | refine tr_label ?_ | refine strip_norm ?_ | refine strip_ret ?_ | refine strip_exit ?_ | refine blk_norm ?_ | refine blk_ret ?_ | refine blk_same ?_ | refine tr_condT ?_ | refine tr_condCt ?_ | refine tr_condCf ?_) | ((with_reducible apply sto_go); (focus (intro cs'; repeat (first | exact ResAt.here | apply ResAt.there)))) | ((with_reducible refine al_go ?_); intro b) | ((with_reducible refine And.intro ?_ ?_); (focus ((repeat (first | exact keep_none | exact keep_nil | exact keep_ro | refine keep_cons ?_)); done))) | ((with_reducible refine s_bi ?_ ?_); (focus rfl)) | ((with_reducible apply a2_go); (focus (first | assumption | (intro h; cases h))); (focus (intro o'; repeat (first | exact ResAt.here | apply ResAt.there))); (focus (first | assumption | exact len_nil | exact len_one rfl | (intro a ha; obtain ⟨x, -, rfl⟩ := List.mem_map.1 ha; first | rfl | simp) | (intro a ha; simp at ha; simp [ha]))); (focus (first | assumption | exact len_nil | exact len_one rfl | (intro a ha; obtain ⟨x, -, rfl⟩ := List.mem_map.1 ha; first | rfl | simp) | (intro a ha; simp at ha; simp [ha]))); (focus (first | omega | (simp only [List.length_map, List.length_cons, List.length_nil, List.length_append]; omega))); (focus (first | omega | (simp only [List.length_map, List.length_cons, List.length_nil, List.length_append]; omega))); intro o' ho') | ((with_reducible apply p2_go); (focus (first | assumption | (intro h; cases h))); (focus (intro o'; repeat (first | exact ResAt.here | apply ResAt.there))); (focus (first | assumption | exact len_nil | exact len_one rfl | (intro a ha; obtain ⟨x, -, rfl⟩ := List.mem_map.1 ha; first | rfl | simp) | (intro a ha; simp at ha; simp [ha]))); (focus (first | omega | (simp only [List.length_map, List.length_cons, List.length_nil, List.length_append]; omega))); (focus (first | omega | (simp only [List.length_map, List.length_cons, List.length_nil, List.length_append]; omega))); intro o' ho') | with_reducible refine blk_ne rfl ?_ | ((with_reducible refine w_region ?_ ?_); (focus kernel_rfl)) | ((with_reducible refine w_draw [] ?_ ?_ ?_ ?_ ?_); (iterate 3 (focus kernel_rfl)); (focus exact keeps_nil)) | ((with_reducible first | refine gd_d1 ?_ ?_ | refine gd_d0 ?_ ?_); all_goals (intro hb; (first | with_reducible replace hb := nt_t hb | with_reducible replace hb := nt_f hb | skip); (first | replace hb := of_decide_eq_true hb | replace hb := of_decide_eq_false hb | have hb1 := eq_of_beq hb | have hb1 := ne_of_beq_false hb | have hb1 := bne_t hb | have hb1 := bne_f hb | skip); (try (exfalso; first | contradiction | omega)))))
      all_goals ((apply ret_own (by first | exact .inl rfl | exact .inr rfl) (by first | rfl | assumption)); (focus ((try simp (disch := omega) only [push_cast, Nat.reduceEqDiff, reduceCtorEq, ↓reduceIte, Nat.reduceAdd, Nat.reduceMul, Nat.reduceSub, Nat.reduceLT, Nat.reduceLeDiff, Int.reduceToNat, Int.reduceLT, Int.reduceLE, Int.reduceAdd, Int.reduceSub, Int.reduceMul, Int.reduceBEq, Int.reduceBNe, encB, encI, encBs, Nat.mul_one, Int.sub_zero, *]); (try exact rfl); done)); (focus (first | assumption | (intro h; cases h))); (focus ((repeat (first | exact List.Sublist.refl _ | apply List.Sublist.cons)); done)))
      all_goals rfl
end Go.Proofs.Ytlmklpbekgnceaa
end

/- Layer 4 over data: sums, and their reference. No statement is proved here. -/
section
namespace Go.Proofs.Ytlmklpbekgnceaa
set_option linter.unusedSimpArgs false
open Go.RowKit SumL
set_option maxRecDepth 10000
theorem sumPutF (n : Int) (st : St) : TrF Try.prog 20 [.i n] st fun d st' => d = .sl .shared ((SumL.put n).map encB) ∧ st' = st :=
  trF_list (fv := bv) (fun _ => rfl) (fun _ => rfl) fun vs w hv => by
    obtain ⟨v, rfl, h1⟩ := args1 hv
    cases rep_s h1
    exact sumPut_any n w
theorem refSumPutF (n : Int) (st : St) : TrF Try.prog 23 [.i n] st fun d st' => d = .sl .shared ((SumL.put n).map encB) ∧ st' = st :=
  trF_list (fv := bv) (fun _ => rfl) (fun _ => rfl) fun vs w hv => by
    obtain ⟨v, rfl, h1⟩ := args1 hv
    cases rep_s h1
    exact refPut_any n w
theorem sumMakeF (p : Int) (st : St) : TrF Try.prog 22 [.i p] st fun d st' => d = .sl .shared ((tab p).map encI) ∧ st' = st :=
  trF_list (fv := iv) (fun _ => rfl) (fun _ => rfl) fun vs w hv => by
    obtain ⟨v, rfl, h1⟩ := args1 hv
    cases rep_s h1
    exact make_any p w
theorem sumOfF (o1 o2 : Own) (t : List Int) (b : List UInt8) (st : St) : TrF Try.prog 21 [.sl o1 (t.map encI), .sl o2 (b.map encB)] st fun d st' => d = .i (more t 0 b) ∧ st' = st :=
  trF_pure fun vs w hv => by
    obtain ⟨v, v', rfl, h1, h2⟩ := args2 hv
    exact ⟨_, fun _ _ => .s _ rfl, (of_any v v' t b w (sees_ints h1) (sees_bytes h2)).mono fun _ _ ⟨h, e⟩ => ⟨h, e ▸ Below.refl _ _⟩⟩
theorem sumGetF (o : Own) (b : List UInt8) (st : St) : TrF Try.prog 34 [.sl o (b.map encB)] st fun d st' => d = .i (SumL.get b) ∧ st' = st :=
  trF_pure fun vs w hv => by
    obtain ⟨v, rfl, h1⟩ := args1 hv
    exact ⟨_, fun _ _ => .s _ rfl, (sumGet_any v b w (sees_bytes h1)).mono fun _ _ ⟨h, e⟩ => ⟨h, e ▸ Below.refl _ _⟩⟩
theorem refSumGetF (o : Own) (b : List UInt8) (st : St) : TrF Try.prog 26 [.sl o (b.map encB)] st fun d st' => d = .i (SumL.get b) ∧ st' = st :=
  trF_pure fun vs w hv => by
    obtain ⟨v, rfl, h1⟩ := args1 hv
    exact ⟨_, fun _ _ => .s _ rfl, (refGet_any v b w (sees_bytes h1)).mono fun _ _ ⟨h, n, e⟩ => ⟨h, by subst e; exact ⟨rfl, rfl, rfl, Nat.le_refl _, fun _ _ => rfl⟩⟩⟩
theorem refBitsF (o : Own) (b : List UInt8) (st : St) : TrF Try.prog 24 [.sl o (b.map encB)] st fun d st' => d = .i (bitSum b) ∧ st' = st :=
  trF_pure fun vs w hv => by
    obtain ⟨v, rfl, h1⟩ := args1 hv
    exact ⟨_, fun _ _ => .s _ rfl, (bits_any v b w (sees_bytes h1)).mono fun _ _ ⟨h, e⟩ => ⟨h, e ▸ Below.refl _ _⟩⟩
/-- A copy, with its room. -/
theorem cloneBO (o : Own) (l : List UInt8) (hl : l.length ≤ 1000000) (st : St) : TrF Try.prog 35 [.sl o (l.map encB)] st fun d st' => ∃ o', o' ≠ .shared ∧ d = .sl o' (l.map encB) ∧ st' = .room o' 5 1 (l.map encB).length :: st := by
  refine trF_enter (ts := [2]) Try.func35 rfl (by rw [Try.ntmps35]; exact Nat.le_of_ble_eq_true rfl) (fun tmps w => by simp [results, Try.results35, go_sem, resVal]) ?_
  simp only [Try.ntmps35]
  refine tr_room 5 1 0 ?_
  repeat' (first | ((with_reducible apply s_isNil); (focus ((try simp (disch := omega) only [push_cast, Nat.reduceEqDiff, reduceCtorEq, ↓reduceIte, Nat.reduceAdd, Nat.reduceMul, Nat.reduceSub, Nat.reduceLT, Nat.reduceLeDiff, Int.reduceToNat, Int.reduceLT, Int.reduceLE, Int.reduceAdd, Int.reduceSub, Int.reduceMul, Int.reduceBEq, Int.reduceBNe, encB, encI, Nat.mul_one, Int.sub_zero, *]); (try exact rfl); done)); (focus ((try simp (disch := omega) only [push_cast, Nat.reduceEqDiff, reduceCtorEq, ↓reduceIte, Nat.reduceAdd, Nat.reduceMul, Nat.reduceSub, Nat.reduceLT, Nat.reduceLeDiff, Int.reduceToNat, Int.reduceLT, Int.reduceLE, Int.reduceAdd, Int.reduceSub, Int.reduceMul, Int.reduceBEq, Int.reduceBNe, encB, encI, Nat.mul_one, Int.sub_zero, *]); (try exact rfl); done)); intro bn hbn) | ((with_reducible apply ev_go); (focus (try simp (disch := omega) only [push_cast, Nat.reduceEqDiff, reduceCtorEq, ↓reduceIte, Nat.reduceAdd, Nat.reduceMul, Nat.reduceSub, Nat.reduceLT, Nat.reduceLeDiff, Int.reduceToNat, Int.reduceLT, Int.reduceLE, Int.reduceAdd, Int.reduceSub, Int.reduceMul, Int.reduceBEq, Int.reduceBNe, encB, encI, Nat.mul_one, Int.sub_zero, *]); (try exact rfl); done)) | ((with_reducible refine w_last ?_ ?_ ?_); (focus kernel_rfl); (focus rfl)) | ((with_reducible apply w_stepG); (focus rfl)) | ((with_reducible apply lk_mem); (focus ((repeat (first | exact List.Mem.head _ | apply List.Mem.tail)); done))) | with_reducible (first | refine w_step0 ?_ | refine w_nil ?_ | refine gd_tt ?_ | refine gd_ff ?_ | refine gd_tf ?_ | refine gd_ft ?_ | refine gd_un ?_ | refine s_move ?_ | refine s_assign ?_ | refine s_bin ?_ | refine s_un ?_ | refine s_conv ?_ | refine s_field ?_ | refine s_fieldAddr ?_ | refine s_ext ?_ | refine s_pick ?_ | refine s_nil ?_ | refine s_load ?_ | refine lk_ip ?_ | refine lk_ptr ?_ | refine s_index ?_ | refine s_indexAddr ?_ | refine s_slice ?_ | refine s_build ?_ | refine s_buildSlice ?_ | refine s_mk ?_ | refine s_store ?_ | refine s_alloc ?_ | refine s_call ?_ | refine s_ip ?_ | refine s_app ?_ | refine ak_go ?_ | refine s_aps ?_ | refine ap_go ?_ | refine p2_true ?_ | refine tr_seq ?_ | refine tr_block ?_ | refine tr_skip ?_ | refine tr_ret ?_ | refine tr_exit ?_ | refine tr_label ?_ | refine strip_norm ?_ | refine strip_ret ?_ | refine strip_exit ?_ | refine blk_norm ?_ | refine blk_ret ?_ | refine blk_same ?_ | refine tr_condT ?_ | refine tr_condCt ?_ | refine tr_condCf ?_) | ((with_reducible apply sto_go); (focus (intro cs'; repeat (first | exact ResAt.here | apply ResAt.there)))) | ((with_reducible refine al_go ?_); intro b) | ((with_reducible refine And.intro ?_ ?_); (focus ((repeat (first | exact keep_none | exact keep_nil | exact keep_ro | refine keep_cons ?_)); done))) | ((with_reducible refine s_bi ?_ ?_); (focus rfl)) | ((with_reducible apply a2_go); (focus (first | assumption | (intro h; cases h))); (focus (intro o'; repeat (first | exact ResAt.here | apply ResAt.there))); (focus (first | assumption | exact len_nil | exact len_one rfl | (intro a ha; obtain ⟨x, -, rfl⟩ := List.mem_map.1 ha; first | rfl | simp) | (intro a ha; simp at ha; simp [ha]))); (focus (first | assumption | exact len_nil | exact len_one rfl | (intro a ha; obtain ⟨x, -, rfl⟩ := List.mem_map.1 ha; first | rfl | simp) | (intro a ha; simp at ha; simp [ha]))); (focus (first | omega | (simp only [List.length_map, List.length_cons, List.length_nil, List.length_append]; omega))); (focus (first | omega | (simp only [List.length_map, List.length_cons, List.length_nil, List.length_append]; omega))); intro o' ho') | ((with_reducible apply p2_go); (focus (first | assumption | (intro h; cases h))); (focus (intro o'; repeat (first | exact ResAt.here | apply ResAt.there))); (focus (first | assumption | exact len_nil | exact len_one rfl | (intro a ha; obtain ⟨x, -, rfl⟩ := List.mem_map.1 ha; first | rfl | simp) | (intro a ha; simp at ha; simp [ha]))); (focus (first | omega | (simp only [List.length_map, List.length_cons, List.length_nil, List.length_append]; omega))); (focus (first | omega | (simp only [List.length_map, List.length_cons, List.length_nil, List.length_append]; omega))); intro o' ho') | with_reducible refine blk_ne rfl ?_ | ((with_reducible refine w_region ?_ ?_); (focus kernel_rfl)) | ((with_reducible refine w_draw [] ?_ ?_ ?_ ?_ ?_); (iterate 3 (focus kernel_rfl)); (focus exact keeps_nil)) | ((with_reducible first | refine gd_d1 ?_ ?_ | refine gd_d0 ?_ ?_); all_goals (intro hb; (first | with_reducible replace hb := nt_t hb | with_reducible replace hb := nt_f hb | skip); (first | replace hb := of_decide_eq_true hb | replace hb := of_decide_eq_false hb | have hb1 := eq_of_beq hb | have hb1 := ne_of_beq_false hb | have hb1 := bne_t hb | have hb1 := bne_f hb | skip); (try (exfalso; first | contradiction | omega)))))
  · have h := hbn hb
    rw [h]
    clear hbn hb h
    ((apply ret_own (by first | exact .inl rfl | exact .inr rfl) (by first | rfl | assumption)); (focus ((try simp (disch := omega) only [push_cast, Nat.reduceEqDiff, reduceCtorEq, ↓reduceIte, Nat.reduceAdd, Nat.reduceMul, Nat.reduceSub, Nat.reduceLT, Nat.reduceLeDiff, Int.reduceToNat, Int.reduceLT, Int.reduceLE, Int.reduceAdd, Int.reduceSub, Int.reduceMul, Int.reduceBEq, Int.reduceBNe, encB, encI, Nat.mul_one, Int.sub_zero, *]); (try exact rfl); done)); (focus (first | assumption | (intro h; cases h))); (focus ((repeat (first | exact List.Sublist.refl _ | apply List.Sublist.cons)); done)))
    all_goals rfl
  · ((apply ret_own (by first | exact .inl rfl | exact .inr rfl) (by first | rfl | assumption)); (focus ((try simp (disch := omega) only [push_cast, Nat.reduceEqDiff, reduceCtorEq, ↓reduceIte, Nat.reduceAdd, Nat.reduceMul, Nat.reduceSub, Nat.reduceLT, Nat.reduceLeDiff, Int.reduceToNat, Int.reduceLT, Int.reduceLE, Int.reduceAdd, Int.reduceSub, Int.reduceMul, Int.reduceBEq, Int.reduceBNe, encB, encI, Nat.mul_one, Int.sub_zero, *]); (try exact rfl); done)); (focus (first | assumption | (intro h; cases h))); (focus ((repeat (first | exact List.Sublist.refl _ | apply List.Sublist.cons)); done)))
    all_goals rfl
end Go.Proofs.Ytlmklpbekgnceaa
end

/- The plain laws of layer 4's statements. -/
section
namespace Go.Proofs.Ytlmklpbekgnceaa
open Go.RowKit
namespace SumL
theorem xor_half (x y : Nat) : (x ^^^ y) / 2 = x / 2 ^^^ y / 2 := by
  apply Nat.eq_of_testBit_eq
  intro i
  simp [Nat.testBit_div_two]
theorem xor_par (x y : Nat) : (x ^^^ y) % 2 = (x % 2 + y % 2) % 2 := by
  have h := Nat.xor_mod_two_eq_one (a := x) (b := y)
  have a := Nat.mod_two_eq_zero_or_one x
  have b := Nat.mod_two_eq_zero_or_one y
  have c := Nat.mod_two_eq_zero_or_one (x ^^^ y)
  rcases a with a | a <;> rcases b with b | b <;> rcases c with c | c <;> simp [a, b, c] at h ⊢
theorem step1_xor (p x y : Nat) : step1 p (x ^^^ y) = step1 p x ^^^ step1 p y := by
  unfold step1
  rw [xor_par, xor_half]
  rcases Nat.mod_two_eq_zero_or_one x with a | a <;> rcases Nat.mod_two_eq_zero_or_one y with b | b <;> simp [a, b]
  · rw [Nat.xor_assoc]
  · rw [Nat.xor_assoc, Nat.xor_comm (y / 2) p, ← Nat.xor_assoc]
  · rw [Nat.xor_comm (y / 2) p, ← Nat.xor_assoc, Nat.xor_assoc (x / 2) p p, Nat.xor_self, Nat.xor_zero]
theorem row_xor (p x y : Nat) : ∀ k, row p k (x ^^^ y) = row p k x ^^^ row p k y
  | 0 => rfl
  | k + 1 => by rw [row, row, row, row_xor p x y k, step1_xor]
theorem row_zero (p : Nat) : ∀ k, row p k 0 = 0
  | 0 => rfl
  | k + 1 => by rw [row, row_zero p k]; simp [step1]
theorem tabN_get (p j : Nat) (h : j < 256) : (tabN p)[j]? = some (row p 8 j) := by simp [tabN, h]
theorem tab_get (p : Nat) (hp : p < 4294967296) (j : Nat) (h : j < 256) : (tab (p : Int))[j]? = some ((row p 8 j : Nat) : Int) := by
  have : isU32 (p : Int) = true := by simp [isU32]; omega
  simp only [tab, this, if_true, Int.toNat_natCast, List.getElem?_map, tabN_get p j h]
  rfl
theorem tab_len (p : Int) (hp : isU32 p = true) : (tab p).length = 256 := by simp [tab, hp, tabN]
theorem isTab_tab (p : Nat) (hp : p < 4294967296) : isTab (tab (p : Int)) = true := by
  have hu : isU32 (p : Int) = true := by simp [isU32]; omega
  simp only [isTab, Bool.and_eq_true, beq_iff_eq, List.all_eq_true]
  refine ⟨tab_len _ hu, fun x hx => ?_⟩
  simp only [tab, hu, if_true, Int.toNat_natCast, tabN, List.mem_map, List.mem_range] at hx
  obtain ⟨y, ⟨j, hj, rfl⟩, rfl⟩ := hx
  have := row_lt hp (i := j) (by omega) 8
  simp [isU32]
  omega
theorem more_more {t : List Int} {s : Int} (a b : List UInt8) (ht : isTab t = true) (hs : isU32 s = true) : more t (more t s a) b = more t s (a ++ b) := by
  have h1 : more t s a = 4294967295 - (crc t (4294967295 - s.toNat) a : Int) := by simp [more, ht, hs]
  have hlt := crc_lt ht a (r := 4294967295 - s.toNat) (by omega)
  have hu : isU32 (more t s a) = true := by rw [h1]; simp [isU32]; omega
  have h0 : ∀ s', isU32 s' = true → more t s' b = 4294967295 - (crc t (4294967295 - s'.toNat) b : Int) := fun s' h => by simp [more, ht, h]
  have h2 := h0 _ hu
  have h3 : more t s (a ++ b) = 4294967295 - (crc t (4294967295 - s.toNat) (a ++ b) : Int) := by simp [more, ht, hs]
  have e : 4294967295 - (more t s a).toNat = crc t (4294967295 - s.toNat) a := by rw [h1]; omega
  rw [h2, h3, e, crc_append]
theorem xor_mod256 (r c : Nat) (h : c < 256) : (r ^^^ c) % 256 = (r % 256) ^^^ c := by
  have := Nat.xor_mod_two_pow (a := r) (b := c) (n := 8)
  rw [show (2 : Nat) ^ 8 = 256 from rfl] at this
  rw [this, Nat.mod_eq_of_lt h]
theorem crcStep_bit (r : Nat) (c : UInt8) : crcStep (tab ((3988292384 : Nat) : Int)) r c = bitStep r c := by
  unfold crcStep bitStep
  rw [tab_get _ (by decide) _ (idx_lt r c), xor_mod256 _ _ c.toNat_lt]
  rfl
theorem crc_bit (r : Nat) : ∀ b, crc (tab ((3988292384 : Nat) : Int)) r b = b.foldl bitStep r := by
  intro b
  induction b generalizing r with
  | nil => rfl
  | cons c b ih => rw [List.foldl_cons, ← crcStep_bit, ← ih]; rfl
theorem more_bit (b : List UInt8) : more (tab 3988292384) 0 b = bitSum b := by
  have h : isTab (tab ((3988292384 : Nat) : Int)) = true := isTab_tab _ (by decide)
  have h' : isTab (tab 3988292384) = true := h
  have := crc_bit 4294967295 b
  simp only [more, h', bitSum]
  rw [← this]
  rfl
/-! ### one byte turned turns the sum -/
theorem xor_div_pow (x y n : Nat) : (x ^^^ y) / 2 ^ n = x / 2 ^ n ^^^ y / 2 ^ n := by
  apply Nat.eq_of_testBit_eq
  intro i
  simp [Nat.testBit_div_two_pow]
theorem top_lt (x : Nat) (h : x < 16777216) (y : Nat) : (y ^^^ x) / 16777216 = y / 16777216 := by
  have e := xor_div_pow y x 24
  rw [show (2 : Nat) ^ 24 = 16777216 from rfl] at e
  rw [e, Nat.div_eq_of_lt h, Nat.xor_zero]
theorem top_zero : ∀ i, i < 256 → row 3988292384 8 i / 16777216 = 0 → i = 0 := by
  have h : ∀ i : Fin 256, row 3988292384 8 i.1 / 16777216 = 0 → i.1 = 0 := by decide +kernel
  intro i hi e
  exact h ⟨i, hi⟩ e
theorem top_inj (i : Nat) (hi : i < 256) (j : Nat) (hj : j < 256) (h : row 3988292384 8 i / 16777216 = row 3988292384 8 j / 16777216) : i = j := by
  have e : row 3988292384 8 (i ^^^ j) / 2 ^ 24 = 0 := by rw [row_xor, xor_div_pow]; show row 3988292384 8 i / 16777216 ^^^ row 3988292384 8 j / 16777216 = 0; rw [h, Nat.xor_self]
  have := top_zero _ (Nat.xor_lt_two_pow (n := 8) hi hj) e
  have h2 := congrArg (· ^^^ j) this
  simpa [Nat.xor_assoc] using h2
theorem xor_left_cancel {a b c : Nat} (h : a ^^^ b = a ^^^ c) : b = c := by
  have := congrArg (a ^^^ ·) h
  simpa [← Nat.xor_assoc] using this
theorem bitStep_inj {r r' : Nat} {c c' : UInt8} (hr : r < 4294967296) (hr' : r' < 4294967296) (h : bitStep r c = bitStep r' c') : (r % 256) ^^^ c.toNat = (r' % 256) ^^^ c'.toNat ∧ r / 256 = r' / 256 := by
  unfold bitStep at h
  rw [xor_mod256 _ _ c.toNat_lt, xor_mod256 _ _ c'.toNat_lt] at h
  have h1 := congrArg (· / 16777216) h
  simp only [top_lt (r / 256) (by omega), top_lt (r' / 256) (by omega)] at h1
  have e := top_inj _ (idx_lt r c) _ (idx_lt r' c') h1
  rw [e] at h
  exact ⟨e, xor_left_cancel h⟩
theorem bitFold_inj : ∀ (b : List UInt8) {r r' : Nat}, r < 4294967296 → r' < 4294967296 → b.foldl bitStep r = b.foldl bitStep r' → r = r'
  | [], _, _, _, _, h => h
  | c :: b, r, r', hr, hr', h => by
    have h1 := bitFold_inj b (bitStep_lt hr c) (bitStep_lt hr' c) h
    obtain ⟨h2, h3⟩ := bitStep_inj hr hr' h1
    have h4 : r % 256 = r' % 256 := by
      rw [Nat.xor_comm _ c.toNat, Nat.xor_comm _ c.toNat] at h2
      exact xor_left_cancel h2
    omega
theorem bitSum_turn (a b : List UInt8) (c c' : UInt8) (h : bitSum (a ++ c :: b) = bitSum (a ++ c' :: b)) : c = c' := by
  have l1 := bitFold_lt (a ++ c :: b) (r := 4294967295) (by decide)
  have l2 := bitFold_lt (a ++ c' :: b) (r := 4294967295) (by decide)
  unfold bitSum at h
  have h1 : (a ++ c :: b).foldl bitStep 4294967295 = (a ++ c' :: b).foldl bitStep 4294967295 := by omega
  rw [List.foldl_append, List.foldl_append, List.foldl_cons, List.foldl_cons] at h1
  have la := bitFold_lt a (r := 4294967295) (by decide)
  have h2 := bitFold_inj b (bitStep_lt la c) (bitStep_lt la c') h1
  have h3 := (bitStep_inj la la h2).1
  exact UInt8.toNat_inj.1 (xor_left_cancel h3)
theorem get_put (n : Int) (h : isU32 n = true) : get (put n) = n := by
  simp only [isU32, decide_eq_true_eq] at h
  simp only [put, get, UInt8.toNat_ofNat']
  omega
end SumL
end Go.Proofs.Ytlmklpbekgnceaa
end

/- The plain law of layer 5 (feed): frames out of bytes, whole or in pieces; no program in sight. No statement is proved here. -/
section
namespace Go.Proofs.Ytlmklpbekgnceaa
open Go.RowKit SumL
namespace FeedL
/-- A frame: its kind, its payload. -/
structure Fr where
  k : Nat
  p : List UInt8
  deriving DecidableEq
def at' (b : List UInt8) (i : Nat) : Nat := (b[i]?.getD 0).toNat
def hdr (b : List UInt8) : Bool :=
  (decide (0 < b.length) && at' b 0 != 208) || (decide (1 < b.length) && at' b 1 != 161) || (decide (2 < b.length) && at' b 2 != 1) || (decide (3 < b.length) && (at' b 3 == 0 || decide (9 < at' b 3)))
/-- How long a payload is told to be. -/
def len (b : List UInt8) : Nat := (get ((b.drop 4).take 4)).toNat
def crcOk (b : List UInt8) : Bool := bitSum ((b.drop 2).take (6 + len b)) == get ((b.drop (8 + len b)).take 4)
/-- The error of bytes; 0: none. -/
def wrong (m : Nat) (b : List UInt8) : Nat :=
  if hdr b then 2 else if b.length < 8 then 0 else if m < len b then 4 else if 12 + len b ≤ b.length ∧ crcOk b = false then 11 else 0
def fr (b : List UInt8) : Fr := ⟨at' b 3, (b.drop 8).take (len b)⟩
/-- What bytes come to: frames, the error that closes, the bytes that are left. -/
def run (m : Nat) : Nat → List UInt8 → List Fr × Nat × List UInt8
  | 0, b => ([], 0, b)
  | n + 1, b =>
    if wrong m b ≠ 0 then ([], wrong m b, []) else
    if b.length < 12 + len b ∨ b.length < 8 then ([], 0, b) else
    (fr b :: (run m n (b.drop (12 + len b))).1, (run m n (b.drop (12 + len b))).2)
/-- Enough is enough. -/
theorem run_more (m : Nat) : ∀ (n n' : Nat) (b : List UInt8), b.length < n → b.length < n' → run m n b = run m n' b
  | 0, _, _, h, _ => by omega
  | _, 0, _, _, h => by omega
  | n + 1, n' + 1, b, h, h' => by
    unfold run
    split
    · rfl
    · split
      · rfl
      · rename_i h2
        have hd : (b.drop (12 + len b)).length < n := by rw [List.length_drop]; omega
        have hd' : (b.drop (12 + len b)).length < n' := by rw [List.length_drop]; omega
        rw [run_more m n n' _ hd hd']
def feed (m : Nat) (b : List UInt8) : List Fr × Nat × List UInt8 := run m (b.length + 1) b
theorem feed_eq (m : Nat) (b : List UInt8) : feed m b =
    if wrong m b ≠ 0 then ([], wrong m b, []) else
    if b.length < 12 + len b ∨ b.length < 8 then ([], 0, b) else
    (fr b :: (feed m (b.drop (12 + len b))).1, (feed m (b.drop (12 + len b))).2) := by
  unfold feed
  rw [run]
  split
  · rfl
  · split
    · rfl
    · rename_i h2
      have hd : (b.drop (12 + len b)).length + 1 ≤ b.length := by rw [List.length_drop]; omega
      rw [run_more m b.length ((b.drop (12 + len b)).length + 1) _ (by omega) (by omega)]
theorem feed_wrong {m : Nat} {b : List UInt8} (h : wrong m b ≠ 0) : feed m b = ([], wrong m b, []) := by rw [feed_eq, if_pos h]
theorem feed_wait {m : Nat} {b : List UInt8} (h : wrong m b = 0) (h' : b.length < 12 + len b ∨ b.length < 8) : feed m b = ([], 0, b) := by rw [feed_eq, if_neg (by simp [h]), if_pos h']
theorem feed_frame {m : Nat} {b : List UInt8} (h : wrong m b = 0) (h' : 12 + len b ≤ b.length) (h8 : 8 ≤ b.length) : feed m b = (fr b :: (feed m (b.drop (12 + len b))).1, (feed m (b.drop (12 + len b))).2) := by
  rw [feed_eq, if_neg (by simp [h]), if_neg (by omega)]
theorem at_app {a x : List UInt8} {i : Nat} (h : i < a.length) : at' (a ++ x) i = at' a i := by
  unfold at'; rw [List.getElem?_append_left h]
theorem len_app {a x : List UInt8} (h : 8 ≤ a.length) : len (a ++ x) = len a := by
  unfold len
  rw [List.drop_append_of_le_length (by omega), List.take_append_of_le_length (by rw [List.length_drop]; omega)]
theorem hdr_app {a x : List UInt8} (h : hdr a = true) : hdr (a ++ x) = true := by
  unfold hdr at *
  simp only [Bool.or_eq_true, Bool.and_eq_true, decide_eq_true_eq, List.length_append] at *
  rcases h with ((h | h) | h) | h
  · exact .inl (.inl (.inl ⟨by omega, by rw [at_app h.1]; exact h.2⟩))
  · exact .inl (.inl (.inr ⟨by omega, by rw [at_app h.1]; exact h.2⟩))
  · exact .inl (.inr ⟨by omega, by rw [at_app h.1]; exact h.2⟩)
  · exact .inr ⟨by omega, by rw [at_app h.1]; exact h.2⟩
theorem hdr_app8 {a x : List UInt8} (h : 8 ≤ a.length) : hdr (a ++ x) = hdr a := by
  have e0 := at_app (a := a) (x := x) (i := 0) (by omega)
  have e1 := at_app (a := a) (x := x) (i := 1) (by omega)
  have e2 := at_app (a := a) (x := x) (i := 2) (by omega)
  have e3 := at_app (a := a) (x := x) (i := 3) (by omega)
  have d : ∀ i, i < 4 → (decide (i < (a ++ x).length) = true ∧ decide (i < a.length) = true) := fun i hi => by simp only [List.length_append, decide_eq_true_eq]; omega
  unfold hdr
  rw [e0, e1, e2, e3, (d 0 (by omega)).1, (d 0 (by omega)).2, (d 1 (by omega)).1, (d 1 (by omega)).2, (d 2 (by omega)).1, (d 2 (by omega)).2, (d 3 (by omega)).1, (d 3 (by omega)).2]
theorem crc_app {a x : List UInt8} (h : 12 + len a ≤ a.length) (h8 : 8 ≤ a.length) : crcOk (a ++ x) = crcOk a := by
  unfold crcOk
  rw [len_app h8, List.drop_append_of_le_length (by omega), List.take_append_of_le_length (by rw [List.length_drop]; omega), List.drop_append_of_le_length (by omega), List.take_append_of_le_length (by rw [List.length_drop]; omega)]
theorem wrong_app {m : Nat} {a x : List UInt8} (h : wrong m a ≠ 0) : wrong m (a ++ x) = wrong m a := by
  unfold wrong at *
  by_cases hh : hdr a = true
  · rw [if_pos hh, if_pos (hdr_app hh)]
  · rw [if_neg hh] at h ⊢
    by_cases h8 : a.length < 8
    · rw [if_pos h8] at h; exact absurd rfl h
    · rw [if_neg h8] at h ⊢
      rw [hdr_app8 (by omega), if_neg hh, if_neg (by rw [List.length_append]; omega), len_app (by omega)]
      by_cases hl : m < len a
      · rw [if_pos hl, if_pos hl]
      · rw [if_neg hl] at h ⊢
        rw [if_neg hl]
        by_cases hc : 12 + len a ≤ a.length ∧ crcOk a = false
        · rw [if_pos hc, if_pos ⟨by rw [List.length_append]; omega, by rw [crc_app hc.1 (by omega)]; exact hc.2⟩]
        · rw [if_neg hc] at h; exact absurd rfl h
theorem wrong_full {m : Nat} {a x : List UInt8} (h : wrong m a = 0) (h' : 12 + len a ≤ a.length) (h8 : 8 ≤ a.length) : wrong m (a ++ x) = 0 := by
  unfold wrong at *
  by_cases hh : hdr a = true
  · rw [if_pos hh] at h; cases h
  · rw [if_neg hh, if_neg (by omega)] at h
    rw [hdr_app8 h8, if_neg hh, if_neg (by rw [List.length_append]; omega), len_app h8]
    by_cases hl : m < len a
    · rw [if_pos hl] at h; cases h
    · rw [if_neg hl] at h ⊢
      by_cases hc : 12 + len a ≤ a.length ∧ crcOk a = false
      · rw [if_pos hc] at h; cases h
      · rw [if_neg]
        rintro ⟨-, k⟩
        rw [crc_app h' h8] at k
        exact hc ⟨h', k⟩
theorem fr_app {a x : List UInt8} (h' : 12 + len a ≤ a.length) (h8 : 8 ≤ a.length) : fr (a ++ x) = fr a := by
  unfold fr
  rw [at_app (by omega), len_app h8, List.drop_append_of_le_length (by omega), List.take_append_of_le_length (by rw [List.length_drop]; omega)]
/-- Bytes that come in two pieces. -/
theorem feed_app (m : Nat) (x : List UInt8) : ∀ (n : Nat) (a : List UInt8), a.length ≤ n →
    feed m (a ++ x) = if (feed m a).2.1 ≠ 0 then feed m a else ((feed m a).1 ++ (feed m ((feed m a).2.2 ++ x)).1, (feed m ((feed m a).2.2 ++ x)).2) := by
  intro n
  induction n with
  | zero =>
    intro a ha
    have : a = [] := List.eq_nil_of_length_eq_zero (by omega)
    subst this
    have h : feed m ([] : List UInt8) = ([], 0, []) := feed_wait (by simp [wrong, hdr]) (.inr (by simp))
    rw [h, if_neg (by simp)]; simp
  | succ n ih =>
    intro a ha
    by_cases hw : wrong m a = 0
    · by_cases hl : 12 + len a ≤ a.length ∧ 8 ≤ a.length
      · obtain ⟨h1, h2⟩ := hl
        have e1 := feed_frame hw h1 h2
        have e2 := feed_frame (wrong_full (x := x) hw h1 h2) (by rw [len_app h2, List.length_append]; omega) (by rw [List.length_append]; omega)
        rw [e1, e2, fr_app h1 h2, len_app h2, List.drop_append_of_le_length h1, ih _ (by rw [List.length_drop]; omega)]
        dsimp only
        split
        · rfl
        · simp
      · have e1 := feed_wait hw (by omega)
        rw [e1, if_neg (by simp)]
        simp
    · rw [feed_wrong hw, feed_wrong (by rw [wrong_app hw]; exact hw), wrong_app hw, if_pos hw]
/-- What is left is less. -/
theorem feed_len (m : Nat) : ∀ (n : Nat) (a : List UInt8), a.length ≤ n → (feed m a).2.2.length ≤ a.length ∧ ((feed m a).2.1 ≠ 0 → (feed m a).2.2 = []) ∧ ((feed m a).2.1 = 0 ∨ (feed m a).2.1 = 2 ∨ (feed m a).2.1 = 4 ∨ (feed m a).2.1 = 11) ∧ (feed m a).1.length ≤ a.length ∧ ∀ x ∈ (feed m a).1, x.p.length ≤ a.length ∧ x.k < 256 := by
  intro n
  induction n with
  | zero =>
    intro a ha
    have : a = [] := List.eq_nil_of_length_eq_zero (by omega)
    subst this
    have h : feed m ([] : List UInt8) = ([], 0, []) := feed_wait (by simp [wrong, hdr]) (.inr (by simp))
    rw [h]; simp
  | succ n ih =>
    intro a ha
    by_cases hw : wrong m a = 0
    · by_cases hl : 12 + len a ≤ a.length ∧ 8 ≤ a.length
      · obtain ⟨h1, h2⟩ := hl
        rw [feed_frame hw h1 h2]
        obtain ⟨i1, i2, i3, i4, i5⟩ := ih (a.drop (12 + len a)) (by rw [List.length_drop]; omega)
        rw [List.length_drop] at i1 i4
        simp only [List.length_drop] at i5
        dsimp only
        refine ⟨by omega, i2, i3, by rw [List.length_cons]; omega, fun y hy => ?_⟩
        rcases List.mem_cons.1 hy with rfl | hy
        · exact ⟨by simp only [fr, List.length_take, List.length_drop]; omega, by simp only [fr, at']; exact UInt8.toNat_lt _⟩
        · have := i5 y hy; exact ⟨by omega, this.2⟩
      · rw [feed_wait hw (by omega)]; simp
    · rw [feed_wrong hw]
      refine ⟨by simp, fun _ => rfl, ?_, by simp, fun y hy => by cases hy⟩
      unfold wrong
      dsimp only
      split
      · exact .inr (.inl rfl)
      · split
        · exact .inl rfl
        · split
          · exact .inr (.inr (.inl rfl))
          · split
            · exact .inr (.inr (.inr rfl))
            · exact .inl rfl
/-- No bytes bring nothing. -/
theorem feed_nil (m : Nat) (a : List UInt8) (h : (feed m a).2.1 = 0) : feed m (feed m a).2.2 = ([], 0, (feed m a).2.2) := by
  have e := feed_app m [] a.length a (Nat.le_refl _)
  rw [List.append_nil, if_neg (by simp [h]), List.append_nil] at e
  have e1 : (feed m a).1 = (feed m a).1 ++ (feed m (feed m a).2.2).1 := congrArg Prod.fst e
  have e2 : (feed m a).2 = (feed m (feed m a).2.2).2 := by
    have := congrArg Prod.snd e
    exact this
  have e3 : (feed m (feed m a).2.2).1 = [] := by
    have := congrArg List.length e1
    rw [List.length_append] at this
    exact List.eq_nil_of_length_eq_zero (by omega)
  refine Prod.ext e3 ?_
  rw [← e2]
  exact Prod.ext h rfl
/-- A frame's bytes. -/
def frameB (k : Nat) (p : List UInt8) : List UInt8 := [208, 161, 1, UInt8.ofNat k] ++ put p.length ++ p ++ put (bitSum ([1, UInt8.ofNat k] ++ put p.length ++ p))
theorem put_len4 (n : Int) : (put n).length = 4 := rfl
theorem bitSum_u32 (b : List UInt8) : isU32 (bitSum b) = true := by
  have := bitFold_lt b (r := 4294967295) (by decide)
  unfold isU32 bitSum
  refine decide_eq_true ⟨?_, ?_⟩ <;> omega
theorem frameB_len (k : Nat) (p : List UInt8) : (frameB k p).length = 12 + p.length := by simp [frameB, put_len4]; omega
theorem frameB_drop4 (k : Nat) (p x : List UInt8) : ((frameB k p ++ x).drop 4).take 4 = put p.length := by
  simp only [frameB, List.append_assoc, put, List.cons_append, List.nil_append, List.drop_succ_cons, List.drop_zero, List.take_succ_cons, List.take_zero]
theorem frameB_lenOf (k : Nat) (p x : List UInt8) (h : p.length ≤ 4294967295) : len (frameB k p ++ x) = p.length := by
  unfold len
  rw [frameB_drop4, get_put _ (by simp [isU32]; omega)]; simp
theorem frameB_at3 (k : Nat) (p x : List UInt8) (h : k < 256) : at' (frameB k p ++ x) 3 = k := by
  simp [at', frameB, Nat.mod_eq_of_lt h]
theorem frameB_hdr (k : Nat) (p x : List UInt8) (h1 : 1 ≤ k) (h9 : k ≤ 9) : hdr (frameB k p ++ x) = false := by
  have e3 := frameB_at3 k p x (by omega)
  have e0 : at' (frameB k p ++ x) 0 = 208 := by simp [at', frameB]
  have e1 : at' (frameB k p ++ x) 1 = 161 := by simp [at', frameB]
  have e2 : at' (frameB k p ++ x) 2 = 1 := by simp [at', frameB]
  unfold hdr
  rw [e0, e1, e2, e3]
  have a1 : (k == 0) = false := by simp; omega
  have a2 : decide (9 < k) = false := by simp; omega
  rw [a1, a2]; simp
theorem frameB_pay (k : Nat) (p x : List UInt8) : ((frameB k p ++ x).drop 8).take p.length = p := by
  simp only [frameB, List.append_assoc, put, List.cons_append, List.nil_append, List.drop_succ_cons, List.drop_zero]
  rw [List.take_append_of_le_length (Nat.le_refl _), List.take_length]
theorem frameB_crc (k : Nat) (p x : List UInt8) (h : p.length ≤ 4294967295) : crcOk (frameB k p ++ x) = true := by
  unfold crcOk
  rw [frameB_lenOf k p x h]
  have e1 : ((frameB k p ++ x).drop 2).take (6 + p.length) = [1, UInt8.ofNat k] ++ put p.length ++ p := by
    rw [show (frameB k p ++ x).drop 2 = ([1, UInt8.ofNat k] ++ put p.length ++ p) ++ (put (bitSum ([1, UInt8.ofNat k] ++ put p.length ++ p)) ++ x) by simp [frameB], List.take_append_of_le_length (by simp [put_len4]; omega), List.take_of_length_le (by simp [put_len4]; omega)]
  have e2 : ((frameB k p ++ x).drop (8 + p.length)).take 4 = put (bitSum ([1, UInt8.ofNat k] ++ put p.length ++ p)) := by
    rw [show frameB k p ++ x = ([208, 161, 1, UInt8.ofNat k] ++ put p.length ++ p) ++ (put (bitSum ([1, UInt8.ofNat k] ++ put p.length ++ p)) ++ x) by simp [frameB], List.drop_left' (by simp [put_len4]; omega), List.take_append_of_le_length (by simp [put_len4]), List.take_of_length_le (by simp [put_len4])]
  rw [e1, e2, get_put _ (bitSum_u32 _)]
  exact beq_self_eq_true _
theorem frameB_wrong {m k : Nat} (p x : List UInt8) (h1 : 1 ≤ k) (h9 : k ≤ 9) (h : p.length ≤ m) (hm : m ≤ 65535) : wrong m (frameB k p ++ x) = 0 := by
  unfold wrong
  rw [frameB_hdr k p x h1 h9, frameB_lenOf k p x (by omega), frameB_crc k p x (by omega), if_neg (by simp), if_neg (by rw [List.length_append, frameB_len]; omega), if_neg (by omega), if_neg (by simp)]
/-- What is put comes out. -/
theorem feed_frameB {m k : Nat} (p x : List UInt8) (h1 : 1 ≤ k) (h9 : k ≤ 9) (h : p.length ≤ m) (hm : m ≤ 65535) : feed m (frameB k p ++ x) = (⟨k, p⟩ :: (feed m x).1, (feed m x).2) := by
  have hl := frameB_lenOf k p x (by omega)
  rw [feed_frame (frameB_wrong p x h1 h9 h hm) (by rw [hl, List.length_append, frameB_len]; omega) (by rw [List.length_append, frameB_len]; omega), hl, List.drop_left' (frameB_len k p)]
  simp only [fr, frameB_at3 k p x (by omega), hl, frameB_pay]
/-- The reference's test: the same bytes. -/
theorem put_get4 (b : List UInt8) (h : b.length = 4) : put (get b) = b := by
  match b, h with
  | [a, b, c, d], _ =>
    have ha := a.toNat_lt; have hb := b.toNat_lt; have hc := c.toNat_lt; have hd := d.toNat_lt
    simp only [SumL.get, SumL.put, List.cons.injEq, and_true]
    refine ⟨?_, ?_, ?_, ?_⟩ <;> (apply UInt8.toNat_inj.1; rw [UInt8.toNat_ofNat']; omega)
theorem get_nonneg (b : List UInt8) (h : b.length = 4) : (get b) = ((get b).toNat : Int) ∧ (get b).toNat < 4294967296 := by
  match b, h with
  | [a, b, c, d], _ =>
    have ha := a.toNat_lt; have hb := b.toNat_lt; have hc := c.toNat_lt; have hd := d.toNat_lt
    simp only [SumL.get]; omega
theorem ref_test (b : List UInt8) (h8 : 8 ≤ b.length) (hl : 12 + len b ≤ b.length) (hh : hdr b = false) : (frameB (at' b 3) ((b.drop 8).take (len b)) == b.take (12 + len b)) = crcOk b := by
  obtain ⟨c0, c1, c2, c3, t, rfl⟩ : ∃ c0 c1 c2 c3 t, b = c0 :: c1 :: c2 :: c3 :: t := by
    match b, h8 with
    | c0 :: c1 :: c2 :: c3 :: t, _ => exact ⟨c0, c1, c2, c3, t, rfl⟩
    | [_, _, _], h => simp at h
    | [_, _], h => simp at h
    | [_], h => simp at h
    | [], h => simp at h
  obtain ⟨n, hn⟩ : ∃ n, n = len (c0 :: c1 :: c2 :: c3 :: t) := ⟨_, rfl⟩
  have hn4 : get (t.take 4) = (n : Int) := by
    rw [hn]
    have := (get_nonneg (t.take 4) (by simp only [List.length_cons] at h8; rw [List.length_take]; omega)).1
    simpa [len] using this
  simp only [List.length_cons] at h8 hl
  have ht4 : put n = t.take 4 := by rw [← hn4]; exact put_get4 _ (by rw [List.length_take]; omega)
  have hd : c0 = 208 ∧ c1 = 161 ∧ c2 = 1 := by
    simp only [hdr, at', List.getElem?_cons_zero, List.getElem?_cons_succ, Option.getD_some, List.length_cons, Bool.or_eq_false_iff, Bool.and_eq_false_iff, decide_eq_false_iff_not, bne_eq_false_iff_eq] at hh
    obtain ⟨⟨⟨q0, q1⟩, q2⟩, -⟩ := hh
    refine ⟨?_, ?_, ?_⟩
    · apply UInt8.toNat_inj.1; rcases q0 with q | q
      · omega
      · exact q
    · apply UInt8.toNat_inj.1; rcases q1 with q | q
      · omega
      · exact q
    · apply UInt8.toNat_inj.1; rcases q2 with q | q
      · omega
      · exact q
  obtain ⟨rfl, rfl, rfl⟩ := hd
  rw [← hn] at hl ⊢
  have hlt : ((t.drop 4).take n).length = n := by rw [List.length_take, List.length_drop]; omega
  have e1 : frameB (at' (208 :: 161 :: 1 :: c3 :: t) 3) (((208 :: 161 :: 1 :: c3 :: t).drop 8).take n) = 208 :: 161 :: 1 :: c3 :: (t.take 4 ++ (t.drop 4).take n ++ put (bitSum (1 :: c3 :: (t.take 4 ++ (t.drop 4).take n)))) := by
    have : ((208 :: 161 :: 1 :: c3 :: t).drop 8).take n = (t.drop 4).take n := by simp
    rw [this]
    unfold frameB
    rw [hlt, ht4]
    simp [at']
  have e2 : (208 :: 161 :: 1 :: c3 :: t).take (12 + n) = 208 :: 161 :: 1 :: c3 :: (t.take 4 ++ (t.drop 4).take n ++ (t.drop (4 + n)).take 4) := by
    rw [show 12 + n = (8 + n) + 4 by omega]
    simp only [List.take_succ_cons]
    rw [← List.take_add, ← List.take_add, show 8 + n = 4 + n + 4 by omega]
  have e3 : crcOk (208 :: 161 :: 1 :: c3 :: t) = (bitSum (1 :: c3 :: (t.take 4 ++ (t.drop 4).take n)) == get ((t.drop (4 + n)).take 4)) := by
    unfold crcOk
    rw [← hn, show 6 + n = (4 + n) + 2 by omega, show 8 + n = (4 + n) + 4 by omega]
    simp only [List.drop_succ_cons, List.drop_zero, List.take_succ_cons]
    rw [List.take_add]
  have hl4 : ((t.drop (4 + n)).take 4).length = 4 := by rw [List.length_take, List.length_drop]; omega
  rw [e1, e2, e3, Bool.eq_iff_iff, beq_iff_eq, beq_iff_eq]
  constructor
  · intro h
    simp only [List.cons.injEq, true_and] at h
    have := List.append_cancel_left h
    rw [← this, get_put _ (bitSum_u32 _)]
  · intro h
    rw [h, put_get4 _ hl4]
end FeedL
end Go.Proofs.Ytlmklpbekgnceaa
end

/- Layer 5 over data: a frame is put; a feed is made, and asked. No statement is proved here. -/
section
namespace Go.Proofs.Ytlmklpbekgnceaa
set_option linter.unusedSimpArgs false
open Go.RowKit FeedL
set_option maxRecDepth 10000
set_option maxHeartbeats 4000000
abbrev noP : D := .s (.pointer none)
/-- A frame's bytes, or the error. -/
def putD (kind : Int) (p : List UInt8) (most : Int) : D :=
  if kind < 1 ∨ 9 < kind ∨ most < 0 ∨ 65535 < most then .tup [.sl .shared [], .i 1] else
  if most < p.length then .tup [.sl .shared [], .i 4] else .tup [.sl .shared ((frameB kind.toNat p).map encB), .i 0]
theorem putD_arg {kind most : Int} {p : List UInt8} (h : kind < 1 ∨ 9 < kind ∨ most < 0 ∨ 65535 < most) : putD kind p most = .tup [.sl .shared [], .i 1] := if_pos h
theorem putD_long {kind most : Int} {p : List UInt8} (h : ¬ (kind < 1 ∨ 9 < kind ∨ most < 0 ∨ 65535 < most)) (h' : most < p.length) : putD kind p most = .tup [.sl .shared [], .i 4] := by rw [putD, if_neg h, if_pos h']
theorem putD_ok {kind most : Int} {p : List UInt8} (h : ¬ (kind < 1 ∨ 9 < kind ∨ most < 0 ∨ 65535 < most)) (h' : ¬ most < p.length) : putD kind p most = .tup [.sl .shared ((frameB kind.toNat p).map encB), .i 0] := by rw [putD, if_neg h, if_neg h']
theorem feedPutF (kind : Int) (o : Own) (p : List UInt8) (most : Int) (hp : p.length ≤ 100000) (st : St) : TrF Try.prog 10 [.i kind, .sl o (p.map encB), .i most] st fun d st' => d = putD kind p most ∧ st' = st := by
  by_cases h : kind < 1 ∨ 9 < kind ∨ most < 0 ∨ 65535 < most
  · rw [putD_arg h]
    refine trF_enter (ts := [6,7]) Try.func10 rfl (by rw [Try.ntmps10]; exact Nat.le_of_ble_eq_true rfl) (fun tmps w => by simp [results, Try.results10, go_sem, resVal]) ?_
    simp only [Try.ntmps10]
    repeat' (first | ((with_reducible apply ev_go); (focus (try simp (disch := omega) only [push_cast, Nat.reduceEqDiff, reduceCtorEq, ↓reduceIte, Nat.reduceAdd, Nat.reduceMul, Nat.reduceSub, Nat.reduceLT, Nat.reduceLeDiff, Int.reduceToNat, Int.reduceLT, Int.reduceLE, Int.reduceAdd, Int.reduceSub, Int.reduceMul, Int.reduceBEq, Int.reduceBNe, encB, encI, encBs, Nat.mul_one, Int.sub_zero, *]); (try exact rfl); done)) | ((with_reducible refine w_last ?_ ?_ ?_); (focus kernel_rfl); (focus rfl)) | ((with_reducible apply w_stepG); (focus rfl)) | ((with_reducible apply lk_mem); (focus ((repeat (first | exact List.Mem.head _ | apply List.Mem.tail)); done))) | with_reducible (first | refine w_step0 ?_ | refine w_nil ?_ | refine gd_tt ?_ | refine gd_ff ?_ | refine gd_tf ?_ | refine gd_ft ?_ | refine gd_un ?_ | refine s_move ?_ | refine s_assign ?_ | refine s_bin ?_ | refine s_un ?_ | refine s_conv ?_ | refine s_field ?_ | refine s_fieldAddr ?_ | refine s_ext ?_ | refine s_pick ?_ | refine s_nil ?_ | refine s_load ?_ | refine lk_ip ?_ | refine lk_ptr ?_ | refine s_index ?_ | refine s_indexAddr ?_ | refine s_slice ?_ | refine s_build ?_ | refine s_buildSlice ?_ | refine s_mk ?_ | refine s_store ?_ | refine s_alloc ?_ | refine s_call ?_ | refine s_ip ?_ | refine s_app ?_ | refine ak_go ?_ | refine s_aps ?_ | refine ap_go ?_ | refine p2_true ?_ | refine tr_seq ?_ | refine tr_block ?_ | refine tr_skip ?_ | refine tr_ret ?_ | refine tr_exit ?_ | refine tr_label ?_ | refine strip_norm ?_ | refine strip_ret ?_ | refine strip_exit ?_ | refine blk_norm ?_ | refine blk_ret ?_ | refine blk_same ?_ | refine tr_condT ?_ | refine tr_condCt ?_ | refine tr_condCf ?_) | ((with_reducible apply sto_go); (focus (intro cs'; repeat (first | exact ResAt.here | apply ResAt.there)))) | ((with_reducible refine al_go ?_); intro b) | ((with_reducible refine And.intro ?_ ?_); (focus ((repeat (first | exact keep_none | exact keep_nil | exact keep_ro | refine keep_cons ?_)); done))) | ((with_reducible refine s_bi ?_ ?_); (focus rfl)) | ((with_reducible apply a2_go); (focus (first | assumption | (intro h; cases h))); (focus (intro o'; repeat (first | exact ResAt.here | apply ResAt.there))); (focus (first | assumption | exact len_nil | exact len_one rfl | (intro a ha; obtain ⟨x, -, rfl⟩ := List.mem_map.1 ha; first | rfl | simp) | (intro a ha; simp at ha; simp [ha]))); (focus (first | assumption | exact len_nil | exact len_one rfl | (intro a ha; obtain ⟨x, -, rfl⟩ := List.mem_map.1 ha; first | rfl | simp) | (intro a ha; simp at ha; simp [ha]))); (focus (first | omega | (simp only [List.length_map, List.length_cons, List.length_nil, List.length_append]; omega))); (focus (first | omega | (simp only [List.length_map, List.length_cons, List.length_nil, List.length_append]; omega))); intro o' ho') | ((with_reducible apply p2_go); (focus (first | assumption | (intro h; cases h))); (focus (intro o'; repeat (first | exact ResAt.here | apply ResAt.there))); (focus (first | assumption | exact len_nil | exact len_one rfl | (intro a ha; obtain ⟨x, -, rfl⟩ := List.mem_map.1 ha; first | rfl | simp) | (intro a ha; simp at ha; simp [ha]))); (focus (first | omega | (simp only [List.length_map, List.length_cons, List.length_nil, List.length_append]; omega))); (focus (first | omega | (simp only [List.length_map, List.length_cons, List.length_nil, List.length_append]; omega))); intro o' ho') | with_reducible refine blk_ne rfl ?_ | ((with_reducible refine w_region ?_ ?_); (focus kernel_rfl)) | ((with_reducible refine w_draw [] ?_ ?_ ?_ ?_ ?_); (iterate 3 (focus kernel_rfl)); (focus exact keeps_nil)) | ((with_reducible first | refine gd_d1 ?_ ?_ | refine gd_d0 ?_ ?_); all_goals (intro hb; (first | with_reducible replace hb := nt_t hb | with_reducible replace hb := nt_f hb | skip); (first | replace hb := of_decide_eq_true hb | replace hb := of_decide_eq_false hb | have hb1 := eq_of_beq hb | have hb1 := ne_of_beq_false hb | have hb1 := bne_t hb | have hb1 := bne_f hb | skip); (try (exfalso; first | contradiction | omega)))))
    all_goals first | (exfalso; omega) | (refine ret_eq (by first | exact .inl rfl | exact .inr rfl) (by first | rfl | assumption) (by (repeat (first | exact List.Sublist.refl _ | apply List.Sublist.cons))) ?_; (try simp (disch := omega) only [push_cast, Nat.reduceEqDiff, reduceCtorEq, ↓reduceIte, Nat.reduceAdd, Nat.reduceMul, Nat.reduceSub, Nat.reduceLT, Nat.reduceLeDiff, Int.reduceToNat, Int.reduceLT, Int.reduceLE, Int.reduceAdd, Int.reduceSub, Int.reduceMul, Int.reduceBEq, Int.reduceBNe, encB, encI, encBs, Nat.mul_one, Int.sub_zero, *]); try (first | exact LE.refl _ | exact LE.sl _ _ | (refine LE.tup ?_; (repeat' (first | exact LEL.nil | refine LEL.cons ?_ ?_ | exact LE.refl _ | exact LE.sl _ _ | refine LE.agg ?_)); done) | (refine LE.agg ?_; (repeat' (first | exact LEL.nil | refine LEL.cons ?_ ?_ | exact LE.refl _ | exact LE.sl _ _)); done) | refine LE.of_eq ?_))
  · by_cases h' : most < p.length
    · rw [putD_long h h']
      have h1 := not_or.1 h
      have h2 := not_or.1 h1.2
      have h3 := not_or.1 h2.2
      obtain ⟨k1, k2, k3, k4⟩ : ¬ kind < 1 ∧ ¬ 9 < kind ∧ ¬ most < 0 ∧ ¬ 65535 < most := ⟨h1.1, h2.1, h3.1, h3.2⟩
      clear h h1 h2 h3
      refine trF_enter (ts := [6,7]) Try.func10 rfl (by rw [Try.ntmps10]; exact Nat.le_of_ble_eq_true rfl) (fun tmps w => by simp [results, Try.results10, go_sem, resVal]) ?_
      simp only [Try.ntmps10]
      repeat' (first | ((with_reducible apply ev_go); (focus (try simp (disch := omega) only [push_cast, Nat.reduceEqDiff, reduceCtorEq, ↓reduceIte, Nat.reduceAdd, Nat.reduceMul, Nat.reduceSub, Nat.reduceLT, Nat.reduceLeDiff, Int.reduceToNat, Int.reduceLT, Int.reduceLE, Int.reduceAdd, Int.reduceSub, Int.reduceMul, Int.reduceBEq, Int.reduceBNe, encB, encI, encBs, Nat.mul_one, Int.sub_zero, *]); (try exact rfl); done)) | ((with_reducible refine w_last ?_ ?_ ?_); (focus kernel_rfl); (focus rfl)) | ((with_reducible apply w_stepG); (focus rfl)) | ((with_reducible apply lk_mem); (focus ((repeat (first | exact List.Mem.head _ | apply List.Mem.tail)); done))) | with_reducible (first | refine w_step0 ?_ | refine w_nil ?_ | refine gd_tt ?_ | refine gd_ff ?_ | refine gd_tf ?_ | refine gd_ft ?_ | refine gd_un ?_ | refine s_move ?_ | refine s_assign ?_ | refine s_bin ?_ | refine s_un ?_ | refine s_conv ?_ | refine s_field ?_ | refine s_fieldAddr ?_ | refine s_ext ?_ | refine s_pick ?_ | refine s_nil ?_ | refine s_load ?_ | refine lk_ip ?_ | refine lk_ptr ?_ | refine s_index ?_ | refine s_indexAddr ?_ | refine s_slice ?_ | refine s_build ?_ | refine s_buildSlice ?_ | refine s_mk ?_ | refine s_store ?_ | refine s_alloc ?_ | refine s_call ?_ | refine s_ip ?_ | refine s_app ?_ | refine ak_go ?_ | refine s_aps ?_ | refine ap_go ?_ | refine p2_true ?_ | refine tr_seq ?_ | refine tr_block ?_ | refine tr_skip ?_ | refine tr_ret ?_ | refine tr_exit ?_ | refine tr_label ?_ | refine strip_norm ?_ | refine strip_ret ?_ | refine strip_exit ?_ | refine blk_norm ?_ | refine blk_ret ?_ | refine blk_same ?_ | refine tr_condT ?_ | refine tr_condCt ?_ | refine tr_condCf ?_) | ((with_reducible apply sto_go); (focus (intro cs'; repeat (first | exact ResAt.here | apply ResAt.there)))) | ((with_reducible refine al_go ?_); intro b) | ((with_reducible refine And.intro ?_ ?_); (focus ((repeat (first | exact keep_none | exact keep_nil | exact keep_ro | refine keep_cons ?_)); done))) | ((with_reducible refine s_bi ?_ ?_); (focus rfl)) | ((with_reducible apply a2_go); (focus (first | assumption | (intro h; cases h))); (focus (intro o'; repeat (first | exact ResAt.here | apply ResAt.there))); (focus (first | assumption | exact len_nil | exact len_one rfl | (intro a ha; obtain ⟨x, -, rfl⟩ := List.mem_map.1 ha; first | rfl | simp) | (intro a ha; simp at ha; simp [ha]))); (focus (first | assumption | exact len_nil | exact len_one rfl | (intro a ha; obtain ⟨x, -, rfl⟩ := List.mem_map.1 ha; first | rfl | simp) | (intro a ha; simp at ha; simp [ha]))); (focus (first | omega | (simp only [List.length_map, List.length_cons, List.length_nil, List.length_append]; omega))); (focus (first | omega | (simp only [List.length_map, List.length_cons, List.length_nil, List.length_append]; omega))); intro o' ho') | ((with_reducible apply p2_go); (focus (first | assumption | (intro h; cases h))); (focus (intro o'; repeat (first | exact ResAt.here | apply ResAt.there))); (focus (first | assumption | exact len_nil | exact len_one rfl | (intro a ha; obtain ⟨x, -, rfl⟩ := List.mem_map.1 ha; first | rfl | simp) | (intro a ha; simp at ha; simp [ha]))); (focus (first | omega | (simp only [List.length_map, List.length_cons, List.length_nil, List.length_append]; omega))); (focus (first | omega | (simp only [List.length_map, List.length_cons, List.length_nil, List.length_append]; omega))); intro o' ho') | with_reducible refine blk_ne rfl ?_ | ((with_reducible refine w_region ?_ ?_); (focus kernel_rfl)) | ((with_reducible refine w_draw [] ?_ ?_ ?_ ?_ ?_); (iterate 3 (focus kernel_rfl)); (focus exact keeps_nil)) | ((with_reducible first | refine gd_d1 ?_ ?_ | refine gd_d0 ?_ ?_); all_goals (intro hb; (first | with_reducible replace hb := nt_t hb | with_reducible replace hb := nt_f hb | skip); (first | replace hb := of_decide_eq_true hb | replace hb := of_decide_eq_false hb | have hb1 := eq_of_beq hb | have hb1 := ne_of_beq_false hb | have hb1 := bne_t hb | have hb1 := bne_f hb | skip); (try (exfalso; first | contradiction | omega)))))
      all_goals (refine ret_eq (by first | exact .inl rfl | exact .inr rfl) (by first | rfl | assumption) (by (repeat (first | exact List.Sublist.refl _ | apply List.Sublist.cons))) ?_; (try simp (disch := omega) only [push_cast, Nat.reduceEqDiff, reduceCtorEq, ↓reduceIte, Nat.reduceAdd, Nat.reduceMul, Nat.reduceSub, Nat.reduceLT, Nat.reduceLeDiff, Int.reduceToNat, Int.reduceLT, Int.reduceLE, Int.reduceAdd, Int.reduceSub, Int.reduceMul, Int.reduceBEq, Int.reduceBNe, encB, encI, encBs, Nat.mul_one, Int.sub_zero, *]); try (first | exact LE.refl _ | exact LE.sl _ _ | (refine LE.tup ?_; (repeat' (first | exact LEL.nil | refine LEL.cons ?_ ?_ | exact LE.refl _ | exact LE.sl _ _ | refine LE.agg ?_)); done) | (refine LE.agg ?_; (repeat' (first | exact LEL.nil | refine LEL.cons ?_ ?_ | exact LE.refl _ | exact LE.sl _ _)); done) | refine LE.of_eq ?_))
    · rw [putD_ok h h']
      have h1 := not_or.1 h
      have h2 := not_or.1 h1.2
      have h3 := not_or.1 h2.2
      obtain ⟨k1, k2, k3, k4⟩ : ¬ kind < 1 ∧ ¬ 9 < kind ∧ ¬ most < 0 ∧ ¬ 65535 < most := ⟨h1.1, h2.1, h3.1, h3.2⟩
      clear h h1 h2 h3
      obtain ⟨k, rfl⟩ := Int.eq_ofNat_of_zero_le (show 0 ≤ kind by omega)
      obtain ⟨c, hc⟩ : ∃ c, c = UInt8.ofNat k := ⟨_, rfl⟩
      have hck : (c.toNat : Int) = k := by rw [hc, UInt8.toNat_ofNat']; omega
      obtain ⟨B, hB⟩ : ∃ B, B = [1, c] ++ SumL.put p.length ++ p := ⟨_, rfl⟩
      obtain ⟨A, hA⟩ : ∃ A, A = [208, 161] ++ B := ⟨_, rfl⟩
      have hC : Hid (∀ st, TrF Try.prog 19 [.sl .tight [[.sl .shared [[.s (.int .u8 208)], [.s (.int .u8 161)], [.s (.int .u8 1)], [.s (.int .u8 k)]]], [.sl .shared ((SumL.put p.length).map encB)], [.sl .shared (p.map encB)]]] st fun d st' => ∃ o', o' ≠ .shared ∧ d = .sl o' (A.map encB) ∧ st' = .room o' 5 1 (A.map encB).length :: st) := fun st => by
        have := concatBF .tight [[208, 161, 1, c], SumL.put p.length, p] (by simp [put_len4]; omega) (by simp) st
        have e1 : [[208, 161, 1, c], SumL.put p.length, p].flatten = A := by rw [hA, hB]; simp
        have e2 : List.map encBs [[208, 161, 1, c], SumL.put p.length, p] = [[.sl .shared [[.s (.int .u8 208)], [.s (.int .u8 161)], [.s (.int .u8 1)], [.s (.int .u8 k)]]], [.sl .shared ((SumL.put p.length).map encB)], [.sl .shared (p.map encB)]] := by simp [encBs, encB, D.y, hck]
        rw [e1, e2] at this
        exact this
      have hP := Lib.hid sumPutF
      have hM := Lib.hid (sumMakeF 3988292384)
      have hO : Hid (∀ o1 o2 st, TrF Try.prog 21 [.sl o1 ((SumL.tab 3988292384).map encI), .sl o2 (B.map encB)] st fun d st' => d = .i (SumL.bitSum B) ∧ st' = st) := fun o1 o2 st => by
        have := sumOfF o1 o2 (SumL.tab 3988292384) B st
        rw [SumL.more_bit] at this
        exact this
      have hF : List.map encB A ++ List.map encB (SumL.put (SumL.bitSum B)) = List.map encB (frameB k p) := by
        rw [← List.map_append, frameB, hA, hB, hc]; simp
      have hAl : 2 ≤ A.length ∧ A.length ≤ 100008 := by rw [hA, hB]; simp [put_len4]; omega
      have hAd : List.take (A.length - 2) (List.drop 2 (List.map encB A)) = List.map encB B := by
        have hl : A.length - 2 = (List.map encB B).length := by rw [hA]; simp
        rw [hl, hA, List.map_append]
        exact List.take_length
      obtain ⟨hA1, hA2⟩ := hAl
      have hp4 : (SumL.put (SumL.bitSum B)).length = 4 := rfl
      clear hA hB
      refine trF_enter (ts := [6,7]) Try.func10 rfl (by rw [Try.ntmps10]; exact Nat.le_of_ble_eq_true rfl) (fun tmps w => by simp [results, Try.results10, go_sem, resVal]) ?_
      simp only [Try.ntmps10]
      repeat' (first | ((with_reducible apply ev_go); (focus (try simp (disch := omega) only [push_cast, Nat.reduceEqDiff, reduceCtorEq, ↓reduceIte, Nat.reduceAdd, Nat.reduceMul, Nat.reduceSub, Nat.reduceLT, Nat.reduceLeDiff, Int.reduceToNat, Int.reduceLT, Int.reduceLE, Int.reduceAdd, Int.reduceSub, Int.reduceMul, Int.reduceBEq, Int.reduceBNe, encB, encI, encBs, Nat.mul_one, Int.sub_zero, *]); (try exact rfl); done)) | ((with_reducible refine w_last ?_ ?_ ?_); (focus kernel_rfl); (focus rfl)) | ((with_reducible apply w_stepG); (focus rfl)) | ((with_reducible apply lk_mem); (focus ((repeat (first | exact List.Mem.head _ | apply List.Mem.tail)); done))) | with_reducible (first | refine w_step0 ?_ | refine w_nil ?_ | refine gd_tt ?_ | refine gd_ff ?_ | refine gd_tf ?_ | refine gd_ft ?_ | refine gd_un ?_ | refine s_move ?_ | refine s_assign ?_ | refine s_bin ?_ | refine s_un ?_ | refine s_conv ?_ | refine s_field ?_ | refine s_fieldAddr ?_ | refine s_ext ?_ | refine s_pick ?_ | refine s_nil ?_ | refine s_load ?_ | refine lk_ip ?_ | refine lk_ptr ?_ | refine s_index ?_ | refine s_indexAddr ?_ | refine s_slice ?_ | refine s_build ?_ | refine s_buildSlice ?_ | refine s_mk ?_ | refine s_store ?_ | refine s_alloc ?_ | refine s_call ?_ | refine s_ip ?_ | refine s_app ?_ | refine ak_go ?_ | refine s_aps ?_ | refine ap_go ?_ | refine p2_true ?_ | refine tr_seq ?_ | refine tr_block ?_ | refine tr_skip ?_ | refine tr_ret ?_ | refine tr_exit ?_ | refine tr_label ?_ | refine strip_norm ?_ | refine strip_ret ?_ | refine strip_exit ?_ | refine blk_norm ?_ | refine blk_ret ?_ | refine blk_same ?_ | refine tr_condT ?_ | refine tr_condCt ?_ | refine tr_condCf ?_) | ((with_reducible apply sto_go); (focus (intro cs'; repeat (first | exact ResAt.here | apply ResAt.there)))) | ((with_reducible refine al_go ?_); intro b) | ((with_reducible refine And.intro ?_ ?_); (focus ((repeat (first | exact keep_none | exact keep_nil | exact keep_ro | refine keep_cons ?_)); done))) | ((with_reducible apply (ck_ex Try.call19)); (focus exact LEL.refl _); (focus exact hC.out _); (focus exact ⟨.tight, by intro h; cases h⟩); intro o1 ho1) | ((with_reducible apply (ck_le Try.call20)); (focus exact LEL.refl _); (focus exact hP.out _ _)) | ((with_reducible apply (ck_le Try.call22)); (focus exact LEL.refl _); (focus exact hM.out _)) | ((with_reducible apply (ck_le Try.call21)); (focus exact LEL.refl _); (focus exact hO.out _ _ _)) | ((with_reducible refine s_bi ?_ ?_); (focus rfl)) | ((with_reducible apply a2_go); (focus (first | assumption | (intro h; cases h))); (focus (intro o'; repeat (first | exact ResAt.here | apply ResAt.there))); (focus (first | assumption | exact len_nil | exact len_one rfl | (intro a ha; obtain ⟨x, -, rfl⟩ := List.mem_map.1 ha; first | rfl | simp) | (intro a ha; simp at ha; simp [ha]))); (focus (first | assumption | exact len_nil | exact len_one rfl | (intro a ha; obtain ⟨x, -, rfl⟩ := List.mem_map.1 ha; first | rfl | simp) | (intro a ha; simp at ha; simp [ha]))); (focus (first | omega | (simp only [List.length_map, List.length_cons, List.length_nil, List.length_append]; omega))); (focus (first | omega | (simp only [List.length_map, List.length_cons, List.length_nil, List.length_append]; omega))); intro o' ho') | ((with_reducible apply p2_go); (focus (first | assumption | (intro h; cases h))); (focus (intro o'; repeat (first | exact ResAt.here | apply ResAt.there))); (focus (first | assumption | exact len_nil | exact len_one rfl | (intro a ha; obtain ⟨x, -, rfl⟩ := List.mem_map.1 ha; first | rfl | simp) | (intro a ha; simp at ha; simp [ha]))); (focus (first | omega | (simp only [List.length_map, List.length_cons, List.length_nil, List.length_append]; omega))); (focus (first | omega | (simp only [List.length_map, List.length_cons, List.length_nil, List.length_append]; omega))); intro o' ho') | with_reducible refine blk_ne rfl ?_ | ((with_reducible refine w_region ?_ ?_); (focus kernel_rfl)) | ((with_reducible refine w_draw [] ?_ ?_ ?_ ?_ ?_); (iterate 3 (focus kernel_rfl)); (focus exact keeps_nil)) | ((with_reducible first | refine gd_d1 ?_ ?_ | refine gd_d0 ?_ ?_); all_goals (intro hb; (first | with_reducible replace hb := nt_t hb | with_reducible replace hb := nt_f hb | skip); (first | replace hb := of_decide_eq_true hb | replace hb := of_decide_eq_false hb | have hb1 := eq_of_beq hb | have hb1 := ne_of_beq_false hb | have hb1 := bne_t hb | have hb1 := bne_f hb | skip); (try (exfalso; first | contradiction | omega)))))
      all_goals (refine ret_eq (by first | exact .inl rfl | exact .inr rfl) (by first | rfl | assumption) (by (repeat (first | exact List.Sublist.refl _ | apply List.Sublist.cons))) ?_; (try simp (disch := omega) only [push_cast, Nat.reduceEqDiff, reduceCtorEq, ↓reduceIte, Nat.reduceAdd, Nat.reduceMul, Nat.reduceSub, Nat.reduceLT, Nat.reduceLeDiff, Int.reduceToNat, Int.reduceLT, Int.reduceLE, Int.reduceAdd, Int.reduceSub, Int.reduceMul, Int.reduceBEq, Int.reduceBNe, encB, encI, encBs, Nat.mul_one, Int.sub_zero, *]); try (first | exact LE.refl _ | exact LE.sl _ _ | (refine LE.tup ?_; (repeat' (first | exact LEL.nil | refine LEL.cons ?_ ?_ | exact LE.refl _ | exact LE.sl _ _ | refine LE.agg ?_)); done) | (refine LE.agg ?_; (repeat' (first | exact LEL.nil | refine LEL.cons ?_ ?_ | exact LE.refl _ | exact LE.sl _ _)); done) | refine LE.of_eq ?_))
end Go.Proofs.Ytlmklpbekgnceaa
end

/- Layer 5 over data: the reference's frame; a feed is made, and asked. No statement is proved here. -/
section
namespace Go.Proofs.Ytlmklpbekgnceaa
set_option linter.unusedSimpArgs false
open Go.RowKit FeedL
set_option maxRecDepth 10000
set_option maxHeartbeats 4000000
theorem refFeedPutF (kind : Int) (o : Own) (p : List UInt8) (most : Int) (hp : p.length ≤ 100000) (st : St) : TrF Try.prog 11 [.i kind, .sl o (p.map encB), .i most] st fun d st' => d = putD kind p most ∧ st' = st := by
  by_cases h : kind < 1 ∨ 9 < kind ∨ most < 0 ∨ 65535 < most
  · rw [putD_arg h]
    refine trF_enter (ts := [6,7]) Try.func11 rfl (by rw [Try.ntmps11]; exact Nat.le_of_ble_eq_true rfl) (fun tmps w => by simp [results, Try.results11, go_sem, resVal]) ?_
    simp only [Try.ntmps11]
    repeat' (first | ((with_reducible apply ev_go); (focus (try simp (disch := omega) only [push_cast, Nat.reduceEqDiff, reduceCtorEq, ↓reduceIte, Nat.reduceAdd, Nat.reduceMul, Nat.reduceSub, Nat.reduceLT, Nat.reduceLeDiff, Int.reduceToNat, Int.reduceLT, Int.reduceLE, Int.reduceAdd, Int.reduceSub, Int.reduceMul, Int.reduceBEq, Int.reduceBNe, encB, encI, encBs, Nat.mul_one, Int.sub_zero, *]); (try exact rfl); done)) | ((with_reducible refine w_last ?_ ?_ ?_); (focus kernel_rfl); (focus rfl)) | ((with_reducible apply w_stepG); (focus rfl)) | ((with_reducible apply lk_mem); (focus ((repeat (first | exact List.Mem.head _ | apply List.Mem.tail)); done))) | with_reducible (first | refine w_step0 ?_ | refine w_nil ?_ | refine gd_tt ?_ | refine gd_ff ?_ | refine gd_tf ?_ | refine gd_ft ?_ | refine gd_un ?_ | refine s_move ?_ | refine s_assign ?_ | refine s_bin ?_ | refine s_un ?_ | refine s_conv ?_ | refine s_field ?_ | refine s_fieldAddr ?_ | refine s_ext ?_ | refine s_pick ?_ | refine s_nil ?_ | refine s_load ?_ | refine lk_ip ?_ | refine lk_ptr ?_ | refine s_index ?_ | refine s_indexAddr ?_ | refine s_slice ?_ | refine s_build ?_ | refine s_buildSlice ?_ | refine s_mk ?_ | refine s_store ?_ | refine s_alloc ?_ | refine s_call ?_ | refine s_ip ?_ | refine s_app ?_ | refine ak_go ?_ | refine s_aps ?_ | refine ap_go ?_ | refine p2_true ?_ | refine tr_seq ?_ | refine tr_block ?_ | refine tr_skip ?_ | refine tr_ret ?_ | refine tr_exit ?_ | refine tr_label ?_ | refine strip_norm ?_ | refine strip_ret ?_ | refine strip_exit ?_ | refine blk_norm ?_ | refine blk_ret ?_ | refine blk_same ?_ | refine tr_condT ?_ | refine tr_condCt ?_ | refine tr_condCf ?_) | ((with_reducible apply sto_go); (focus (intro cs'; repeat (first | exact ResAt.here | apply ResAt.there)))) | ((with_reducible refine al_go ?_); intro b) | ((with_reducible refine And.intro ?_ ?_); (focus ((repeat (first | exact keep_none | exact keep_nil | exact keep_ro | refine keep_cons ?_)); done))) | ((with_reducible refine s_bi ?_ ?_); (focus rfl)) | ((with_reducible apply a2_go); (focus (first | assumption | (intro h; cases h))); (focus (intro o'; repeat (first | exact ResAt.here | apply ResAt.there))); (focus (first | assumption | exact len_nil | exact len_one rfl | (intro a ha; obtain ⟨x, -, rfl⟩ := List.mem_map.1 ha; first | rfl | simp) | (intro a ha; simp at ha; simp [ha]))); (focus (first | assumption | exact len_nil | exact len_one rfl | (intro a ha; obtain ⟨x, -, rfl⟩ := List.mem_map.1 ha; first | rfl | simp) | (intro a ha; simp at ha; simp [ha]))); (focus (first | omega | (simp only [List.length_map, List.length_cons, List.length_nil, List.length_append]; omega))); (focus (first | omega | (simp only [List.length_map, List.length_cons, List.length_nil, List.length_append]; omega))); intro o' ho') | ((with_reducible apply p2_go); (focus (first | assumption | (intro h; cases h))); (focus (intro o'; repeat (first | exact ResAt.here | apply ResAt.there))); (focus (first | assumption | exact len_nil | exact len_one rfl | (intro a ha; obtain ⟨x, -, rfl⟩ := List.mem_map.1 ha; first | rfl | simp) | (intro a ha; simp at ha; simp [ha]))); (focus (first | omega | (simp only [List.length_map, List.length_cons, List.length_nil, List.length_append]; omega))); (focus (first | omega | (simp only [List.length_map, List.length_cons, List.length_nil, List.length_append]; omega))); intro o' ho') | with_reducible refine blk_ne rfl ?_ | ((with_reducible refine w_region ?_ ?_); (focus kernel_rfl)) | ((with_reducible refine w_draw [] ?_ ?_ ?_ ?_ ?_); (iterate 3 (focus kernel_rfl)); (focus exact keeps_nil)) | ((with_reducible first | refine gd_d1 ?_ ?_ | refine gd_d0 ?_ ?_); all_goals (intro hb; (first | with_reducible replace hb := nt_t hb | with_reducible replace hb := nt_f hb | skip); (first | replace hb := of_decide_eq_true hb | replace hb := of_decide_eq_false hb | have hb1 := eq_of_beq hb | have hb1 := ne_of_beq_false hb | have hb1 := bne_t hb | have hb1 := bne_f hb | skip); (try (exfalso; first | contradiction | omega)))))
    all_goals first | (exfalso; omega) | (refine ret_eq (by first | exact .inl rfl | exact .inr rfl) (by first | rfl | assumption) (by (repeat (first | exact List.Sublist.refl _ | apply List.Sublist.cons))) ?_; (try simp (disch := omega) only [push_cast, Nat.reduceEqDiff, reduceCtorEq, ↓reduceIte, Nat.reduceAdd, Nat.reduceMul, Nat.reduceSub, Nat.reduceLT, Nat.reduceLeDiff, Int.reduceToNat, Int.reduceLT, Int.reduceLE, Int.reduceAdd, Int.reduceSub, Int.reduceMul, Int.reduceBEq, Int.reduceBNe, encB, encI, encBs, Nat.mul_one, Int.sub_zero, *]); try (first | exact LE.refl _ | exact LE.sl _ _ | (refine LE.tup ?_; (repeat' (first | exact LEL.nil | refine LEL.cons ?_ ?_ | exact LE.refl _ | exact LE.sl _ _ | refine LE.agg ?_)); done) | (refine LE.agg ?_; (repeat' (first | exact LEL.nil | refine LEL.cons ?_ ?_ | exact LE.refl _ | exact LE.sl _ _)); done) | refine LE.of_eq ?_))
  · have h1 := not_or.1 h
    have h2 := not_or.1 h1.2
    have h3 := not_or.1 h2.2
    obtain ⟨k1, k2, k3, k4⟩ : ¬ kind < 1 ∧ ¬ 9 < kind ∧ ¬ most < 0 ∧ ¬ 65535 < most := ⟨h1.1, h2.1, h3.1, h3.2⟩
    by_cases h' : most < p.length
    · rw [putD_long h h']
      clear h h1 h2 h3
      refine trF_enter (ts := [6,7]) Try.func11 rfl (by rw [Try.ntmps11]; exact Nat.le_of_ble_eq_true rfl) (fun tmps w => by simp [results, Try.results11, go_sem, resVal]) ?_
      simp only [Try.ntmps11]
      repeat' (first | ((with_reducible apply ev_go); (focus (try simp (disch := omega) only [push_cast, Nat.reduceEqDiff, reduceCtorEq, ↓reduceIte, Nat.reduceAdd, Nat.reduceMul, Nat.reduceSub, Nat.reduceLT, Nat.reduceLeDiff, Int.reduceToNat, Int.reduceLT, Int.reduceLE, Int.reduceAdd, Int.reduceSub, Int.reduceMul, Int.reduceBEq, Int.reduceBNe, encB, encI, encBs, Nat.mul_one, Int.sub_zero, *]); (try exact rfl); done)) | ((with_reducible refine w_last ?_ ?_ ?_); (focus kernel_rfl); (focus rfl)) | ((with_reducible apply w_stepG); (focus rfl)) | ((with_reducible apply lk_mem); (focus ((repeat (first | exact List.Mem.head _ | apply List.Mem.tail)); done))) | with_reducible (first | refine w_step0 ?_ | refine w_nil ?_ | refine gd_tt ?_ | refine gd_ff ?_ | refine gd_tf ?_ | refine gd_ft ?_ | refine gd_un ?_ | refine s_move ?_ | refine s_assign ?_ | refine s_bin ?_ | refine s_un ?_ | refine s_conv ?_ | refine s_field ?_ | refine s_fieldAddr ?_ | refine s_ext ?_ | refine s_pick ?_ | refine s_nil ?_ | refine s_load ?_ | refine lk_ip ?_ | refine lk_ptr ?_ | refine s_index ?_ | refine s_indexAddr ?_ | refine s_slice ?_ | refine s_build ?_ | refine s_buildSlice ?_ | refine s_mk ?_ | refine s_store ?_ | refine s_alloc ?_ | refine s_call ?_ | refine s_ip ?_ | refine s_app ?_ | refine ak_go ?_ | refine s_aps ?_ | refine ap_go ?_ | refine p2_true ?_ | refine tr_seq ?_ | refine tr_block ?_ | refine tr_skip ?_ | refine tr_ret ?_ | refine tr_exit ?_ | refine tr_label ?_ | refine strip_norm ?_ | refine strip_ret ?_ | refine strip_exit ?_ | refine blk_norm ?_ | refine blk_ret ?_ | refine blk_same ?_ | refine tr_condT ?_ | refine tr_condCt ?_ | refine tr_condCf ?_) | ((with_reducible apply sto_go); (focus (intro cs'; repeat (first | exact ResAt.here | apply ResAt.there)))) | ((with_reducible refine al_go ?_); intro b) | ((with_reducible refine And.intro ?_ ?_); (focus ((repeat (first | exact keep_none | exact keep_nil | exact keep_ro | refine keep_cons ?_)); done))) | ((with_reducible refine s_bi ?_ ?_); (focus rfl)) | ((with_reducible apply a2_go); (focus (first | assumption | (intro h; cases h))); (focus (intro o'; repeat (first | exact ResAt.here | apply ResAt.there))); (focus (first | assumption | exact len_nil | exact len_one rfl | (intro a ha; obtain ⟨x, -, rfl⟩ := List.mem_map.1 ha; first | rfl | simp) | (intro a ha; simp at ha; simp [ha]))); (focus (first | assumption | exact len_nil | exact len_one rfl | (intro a ha; obtain ⟨x, -, rfl⟩ := List.mem_map.1 ha; first | rfl | simp) | (intro a ha; simp at ha; simp [ha]))); (focus (first | omega | (simp only [List.length_map, List.length_cons, List.length_nil, List.length_append]; omega))); (focus (first | omega | (simp only [List.length_map, List.length_cons, List.length_nil, List.length_append]; omega))); intro o' ho') | ((with_reducible apply p2_go); (focus (first | assumption | (intro h; cases h))); (focus (intro o'; repeat (first | exact ResAt.here | apply ResAt.there))); (focus (first | assumption | exact len_nil | exact len_one rfl | (intro a ha; obtain ⟨x, -, rfl⟩ := List.mem_map.1 ha; first | rfl | simp) | (intro a ha; simp at ha; simp [ha]))); (focus (first | omega | (simp only [List.length_map, List.length_cons, List.length_nil, List.length_append]; omega))); (focus (first | omega | (simp only [List.length_map, List.length_cons, List.length_nil, List.length_append]; omega))); intro o' ho') | with_reducible refine blk_ne rfl ?_ | ((with_reducible refine w_region ?_ ?_); (focus kernel_rfl)) | ((with_reducible refine w_draw [] ?_ ?_ ?_ ?_ ?_); (iterate 3 (focus kernel_rfl)); (focus exact keeps_nil)) | ((with_reducible first | refine gd_d1 ?_ ?_ | refine gd_d0 ?_ ?_); all_goals (intro hb; (first | with_reducible replace hb := nt_t hb | with_reducible replace hb := nt_f hb | skip); (first | replace hb := of_decide_eq_true hb | replace hb := of_decide_eq_false hb | have hb1 := eq_of_beq hb | have hb1 := ne_of_beq_false hb | have hb1 := bne_t hb | have hb1 := bne_f hb | skip); (try (exfalso; first | contradiction | omega)))))
      all_goals (refine ret_eq (by first | exact .inl rfl | exact .inr rfl) (by first | rfl | assumption) (by (repeat (first | exact List.Sublist.refl _ | apply List.Sublist.cons))) ?_; (try simp (disch := omega) only [push_cast, Nat.reduceEqDiff, reduceCtorEq, ↓reduceIte, Nat.reduceAdd, Nat.reduceMul, Nat.reduceSub, Nat.reduceLT, Nat.reduceLeDiff, Int.reduceToNat, Int.reduceLT, Int.reduceLE, Int.reduceAdd, Int.reduceSub, Int.reduceMul, Int.reduceBEq, Int.reduceBNe, encB, encI, encBs, Nat.mul_one, Int.sub_zero, *]); try (first | exact LE.refl _ | exact LE.sl _ _ | (refine LE.tup ?_; (repeat' (first | exact LEL.nil | refine LEL.cons ?_ ?_ | exact LE.refl _ | exact LE.sl _ _ | refine LE.agg ?_)); done) | (refine LE.agg ?_; (repeat' (first | exact LEL.nil | refine LEL.cons ?_ ?_ | exact LE.refl _ | exact LE.sl _ _)); done) | refine LE.of_eq ?_))
    · rw [putD_ok h h']
      clear h h1 h2 h3
      obtain ⟨k, rfl⟩ := Int.eq_ofNat_of_zero_le (show 0 ≤ kind by omega)
      obtain ⟨c, hc⟩ : ∃ c, c = UInt8.ofNat k := ⟨_, rfl⟩
      have hck : (c.toNat : Int) = k := by rw [hc, UInt8.toNat_ofNat']; omega
      obtain ⟨B, hB⟩ : ∃ B, B = [1, c] ++ SumL.put p.length ++ p := ⟨_, rfl⟩
      obtain ⟨A, hA⟩ : ∃ A, A = [208, 161] ++ B := ⟨_, rfl⟩
      obtain ⟨H0, hH0⟩ : ∃ H0 : List UInt8, H0 = [208, 161, 1, c] := ⟨_, rfl⟩
      obtain ⟨H1, hH1⟩ : ∃ H1 : List UInt8, H1 = H0 ++ SumL.put p.length := ⟨_, rfl⟩
      have e0 : ([[.s (.int .u8 208)], [.s (.int .u8 161)], [.s (.int .u8 1)], [.s (.int .u8 k)]] : List (List D)) = List.map encB H0 := by rw [hH0]; simp [encB, D.y, hck]
      have e1 : Hid (List.map encB H0 ++ List.map encB (SumL.put p.length) = List.map encB H1) := by show _ = _; rw [hH1, List.map_append]
      have e2 : Hid (List.map encB H1 ++ List.map encB p = List.map encB A) := by show _ = _; rw [hA, hB, hH1, hH0, ← List.map_append]; simp
      have hF : List.map encB A ++ List.map encB (SumL.put (SumL.bitSum B)) = List.map encB (frameB k p) := by
        rw [← List.map_append, frameB, hA, hB, hc]; simp
      have hP := Lib.hid refSumPutF
      have hO := Lib.hid (fun o => refBitsF o B)
      have hAl : 2 ≤ A.length ∧ A.length ≤ 100008 := by rw [hA, hB]; simp [put_len4]; omega
      have hAd : List.take (A.length - 2) (List.drop 2 (List.map encB A)) = List.map encB B := by
        have hl : A.length - 2 = (List.map encB B).length := by rw [hA]; simp
        rw [hl, hA, List.map_append]
        exact List.take_length
      obtain ⟨hA1, hA2⟩ := hAl
      have hH1l : H1.length ≤ 8 := by rw [hH1, hH0]; simp [put_len4]
      have hH0l : H0.length ≤ 4 := by rw [hH0]; simp
      have hp4 : (SumL.put (SumL.bitSum B)).length = 4 := rfl
      have hp5 : (SumL.put p.length).length = 4 := rfl
      clear hA hB hH0 hH1
      refine trF_enter (ts := [6,7]) Try.func11 rfl (by rw [Try.ntmps11]; exact Nat.le_of_ble_eq_true rfl) (fun tmps w => by simp [results, Try.results11, go_sem, resVal]) ?_
      simp only [Try.ntmps11]
      refine tr_room 5 1 (List.map encB H0).length ?_
      repeat' (first | rw [e1.out] | rw [e2.out] | ((with_reducible apply ev_go); (focus (try simp (disch := omega) only [push_cast, Nat.reduceEqDiff, reduceCtorEq, ↓reduceIte, Nat.reduceAdd, Nat.reduceMul, Nat.reduceSub, Nat.reduceLT, Nat.reduceLeDiff, Int.reduceToNat, Int.reduceLT, Int.reduceLE, Int.reduceAdd, Int.reduceSub, Int.reduceMul, Int.reduceBEq, Int.reduceBNe, encB, encI, encBs, Nat.mul_one, Int.sub_zero, *]); (try exact rfl); done)) | ((with_reducible refine w_last ?_ ?_ ?_); (focus kernel_rfl); (focus rfl)) | ((with_reducible apply w_stepG); (focus rfl)) | ((with_reducible apply lk_mem); (focus ((repeat (first | exact List.Mem.head _ | apply List.Mem.tail)); done))) | with_reducible (first | refine w_step0 ?_ | refine w_nil ?_ | refine gd_tt ?_ | refine gd_ff ?_ | refine gd_tf ?_ | refine gd_ft ?_ | refine gd_un ?_ | refine s_move ?_ | refine s_assign ?_ | refine s_bin ?_ | refine s_un ?_ | refine s_conv ?_ | refine s_field ?_ | refine s_fieldAddr ?_ | refine s_ext ?_ | refine s_pick ?_ | refine s_nil ?_ | refine s_load ?_ | refine lk_ip ?_ | refine lk_ptr ?_ | refine s_index ?_ | refine s_indexAddr ?_ | refine s_slice ?_ | refine s_build ?_ | refine s_buildSlice ?_ | refine s_mk ?_ | refine s_store ?_ | refine s_alloc ?_ | refine s_call ?_ | refine s_ip ?_ | refine s_app ?_ | refine ak_go ?_ | refine s_aps ?_ | refine ap_go ?_ | refine p2_true ?_ | refine tr_seq ?_ | refine tr_block ?_ | refine tr_skip ?_ | refine tr_ret ?_ | refine tr_exit ?_ | refine tr_label ?_ | refine strip_norm ?_ | refine strip_ret ?_ | refine strip_exit ?_ | refine blk_norm ?_ | refine blk_ret ?_ | refine blk_same ?_ | refine tr_condT ?_ | refine tr_condCt ?_ | refine tr_condCf ?_) | ((with_reducible apply sto_go); (focus (intro cs'; repeat (first | exact ResAt.here | apply ResAt.there)))) | ((with_reducible refine al_go ?_); intro b) | ((with_reducible refine And.intro ?_ ?_); (focus ((repeat (first | exact keep_none | exact keep_nil | exact keep_ro | refine keep_cons ?_)); done))) | ((with_reducible apply (ck_le Try.call23)); (focus exact LEL.refl _); (focus exact hP.out _ _)) | ((with_reducible apply (ck_le Try.call24)); (focus exact LEL.refl _); (focus exact hO.out _ _)) | ((with_reducible refine s_bi ?_ ?_); (focus rfl)) | ((with_reducible apply a2_go); (focus (first | assumption | (intro h; cases h))); (focus (intro o'; repeat (first | exact ResAt.here | apply ResAt.there))); (focus (first | assumption | exact len_nil | exact len_one rfl | (intro a ha; obtain ⟨x, -, rfl⟩ := List.mem_map.1 ha; first | rfl | simp) | (intro a ha; simp at ha; simp [ha]))); (focus (first | assumption | exact len_nil | exact len_one rfl | (intro a ha; obtain ⟨x, -, rfl⟩ := List.mem_map.1 ha; first | rfl | simp) | (intro a ha; simp at ha; simp [ha]))); (focus (first | omega | (simp only [List.length_map, List.length_cons, List.length_nil, List.length_append]; omega))); (focus (first | omega | (simp only [List.length_map, List.length_cons, List.length_nil, List.length_append]; omega))); intro o' ho') | ((with_reducible apply p2_go); (focus (first | assumption | (intro h; cases h))); (focus (intro o'; repeat (first | exact ResAt.here | apply ResAt.there))); (focus (first | assumption | exact len_nil | exact len_one rfl | (intro a ha; obtain ⟨x, -, rfl⟩ := List.mem_map.1 ha; first | rfl | simp) | (intro a ha; simp at ha; simp [ha]))); (focus (first | omega | (simp only [List.length_map, List.length_cons, List.length_nil, List.length_append]; omega))); (focus (first | omega | (simp only [List.length_map, List.length_cons, List.length_nil, List.length_append]; omega))); intro o' ho') | with_reducible refine blk_ne rfl ?_ | ((with_reducible refine w_region ?_ ?_); (focus kernel_rfl)) | ((with_reducible refine w_draw [] ?_ ?_ ?_ ?_ ?_); (iterate 3 (focus kernel_rfl)); (focus exact keeps_nil)) | ((with_reducible first | refine gd_d1 ?_ ?_ | refine gd_d0 ?_ ?_); all_goals (intro hb; (first | with_reducible replace hb := nt_t hb | with_reducible replace hb := nt_f hb | skip); (first | replace hb := of_decide_eq_true hb | replace hb := of_decide_eq_false hb | have hb1 := eq_of_beq hb | have hb1 := ne_of_beq_false hb | have hb1 := bne_t hb | have hb1 := bne_f hb | skip); (try (exfalso; first | contradiction | omega)))))
      all_goals (refine ret_eq (by first | exact .inl rfl | exact .inr rfl) (by first | rfl | assumption) (by (repeat (first | exact List.Sublist.refl _ | apply List.Sublist.cons))) ?_; (try simp (disch := omega) only [push_cast, Nat.reduceEqDiff, reduceCtorEq, ↓reduceIte, Nat.reduceAdd, Nat.reduceMul, Nat.reduceSub, Nat.reduceLT, Nat.reduceLeDiff, Int.reduceToNat, Int.reduceLT, Int.reduceLE, Int.reduceAdd, Int.reduceSub, Int.reduceMul, Int.reduceBEq, Int.reduceBNe, encB, encI, encBs, Nat.mul_one, Int.sub_zero, *]); try (first | exact LE.refl _ | exact LE.sl _ _ | (refine LE.tup ?_; (repeat' (first | exact LEL.nil | refine LEL.cons ?_ ?_ | exact LE.refl _ | exact LE.sl _ _ | refine LE.agg ?_)); done) | (refine LE.agg ?_; (repeat' (first | exact LEL.nil | refine LEL.cons ?_ ?_ | exact LE.refl _ | exact LE.sl _ _)); done) | refine LE.of_eq ?_))
/-- A feed's cells. -/
def feedC (m : Nat) (o : Own) (b : List UInt8) (c : Nat) : List D := [.i m, .sl .shared ((SumL.tab 3988292384).map encI), .sl o (b.map encB), .i c]
abbrev feedR (f : Nat) (m : Nat) (o : Own) (b : List UInt8) (c : Nat) : Res := .box f 55 (feedC m o b c)
abbrev roomR (o : Own) (b : List UInt8) : Res := .room o 5 1 (b.map encB).length
end Go.Proofs.Ytlmklpbekgnceaa
end
