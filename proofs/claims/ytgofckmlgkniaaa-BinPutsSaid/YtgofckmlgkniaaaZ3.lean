/- Texts put together: AmArr, AmReads, Types, Val, Bin06a, Bin06d, Bin06e, Val03a, Val03b. No statement is proved here. -/
import Derived.Laws.OwnMore
import Derived.Laws.Cover3
import Derived.OpenShut
import Derived.ShutString
import Derived.ChangeOld
import Derived.Below
import Derived.WalkKit
import Derived.ProofKit
import Derived.Test.YtgofckmlgkniaaaProg
import Derived.Laws.BitsAllLaws
import Derived.Test.YtgofckmlgkniaaaZ2
set_option linter.all false
/- Rows that are made, and written place by place: steps over data. No statement is proved here. -/
section
namespace Go.Proofs.Ytgofckmlgkniaaa
set_option linter.unusedSimpArgs false
open Go.RowKit
section
variable {P : Program} {N : Nat} {r : Option Nat} {A : AA} {st : St} {Q : Exit → AA → St → Prop} {m : Option Ro} {k : D → St → Prop} {dst : Option Tmp} {ty : TypeId} {pos : String} {aft : Array Edge} {gd : Option (Nat × Bool)} {o : Oper} {w : World}
/-- What a row's type says: its elements' type, how many bytes one has, its zero (of one cell). -/
def oneT (P : Program) (t : TypeId) : Option (TypeId × Nat × Value) := (tinfo P t).bind fun ti => match ti.k with
  | .slice el 1 bytes [z] => if noAgg z && (leafD z).leaf then some (el, bytes, z) else none
  | _ => none
theorem oneT_spec {t : TypeId} {el : TypeId} {bytes : Nat} {z : Value} (h : oneT P t = some (el, bytes, z)) : P.underlying t = some (.slice el) ∧ (∃ i zv, P.info? el = some i ∧ i.zero = some zv ∧ zv.cells.toList = [z] ∧ i.size = 1 ∧ i.bytes = bytes) ∧ noAgg z = true ∧ (leafD z).leaf = true := by
  unfold oneT at h
  cases ht : tinfo P t with
  | none => rw [ht] at h; cases h
  | some ti =>
    rw [ht, Option.bind_some] at h
    split at h
    · rename_i el' bytes' z' hk
      split at h
      · rename_i hz
        cases h
        obtain ⟨hu, ii, zv, q1, q2, q3, q4, q5, q6, q7⟩ := (und_of_k ht).2.2.2.2.1 _ _ _ _ hk
        rw [Bool.and_eq_true] at hz
        exact ⟨hu, ⟨ii, zv, q1, by assumption, by assumption, by assumption, by assumption⟩, hz.1, hz.2⟩
      · cases h
    · cases h
theorem zeros_rep {O : Nat → Nat → Prop} {z : Value} (h : noAgg z = true) (n : Nat) : RepL O w (List.replicate n z) (List.replicate n (leafD z)) := by
  have := RepL.map (O := O) (w := w) (l := List.replicate n z) (f := id) (g := leafD) (fun x hx => by rw [(List.mem_replicate.1 hx).2]; exact leafD_rep h)
  rwa [List.map_id, List.map_replicate] at this
def MakK (P : Program) (m : Option Ro) (t : TypeId) (p : D × D) (st : St) (k : D → St → Prop) : Prop :=
  ∃ (kd : IntKind) (n : Nat) (el : TypeId) (bytes : Nat) (z : Value), p = (.s (.int kd n), .s (.int kd n)) ∧ oneT P t = some (el, bytes, z) ∧ n * bytes ≤ 140737488355328 ∧ n ≤ 140737488355328 ∧ ∀ g, Keep m (.box g el (List.replicate n (leafD z)) :: st) ∧ k (.ar g 0 n n) (.box g el (List.replicate n (leafD z)) :: st)
theorem s_make {t : TypeId} {x y : Operand} (h : Ev (pairX (ev A.e x) (ev A.e y)) fun p => MakK P m t p st k) : S P r m ⟨dst, .makeSlice t x y, ty, pos, aft, gd⟩ A st k := by
  obtain ⟨p, h1, kd, n, el, bytes, z, rfl, h2, h3, h4, h5⟩ := h
  unfold pairX at h1
  split at h1
  · rename_i d d' hx hy
    cases h1
    refine s_chain (R := fun d st' => ∃ g, d = .ar g 0 n n ∧ st' = .box g el (List.replicate n (leafD z)) :: st) rfl ?_ ⟨_, _, 0, rfl, rfl⟩ fun d st' ⟨g, e1, e2⟩ => by subst e1 e2; exact h5 g
    refine opC_val (by intro c hc; cases hc) fun ρ w hr hh => .inl ?_
    have hv1 := rep_s (hr _ (by simp [Op.operands]) _ hx)
    have hv2 := rep_s (hr _ (by simp [Op.operands]) _ hy)
    obtain ⟨q1, ⟨i, zv, q2, q3, q4, q5, q6⟩, q7, q8⟩ := oneT_spec h2
    have hby : (i.bytes : Int) * (n : Int) ≤ 281474976710656 := by
      rw [q6, ← Int.natCast_mul, Nat.mul_comm]; omega
    have hrun := run_make (P := P) w t el i zv q1 q2 q3 kd kd n n (by omega) (Int.le_refl _) hby (by omega)
    have hz : zv.cells = #[z] := by
      apply Array.ext'
      simpa using q4
    rw [q5, Nat.mul_one, Int.toNat_natCast, hz] at hrun
    have hcells : madeCells #[z] n = (List.replicate n z).toArray := by
      apply Array.ext'
      rw [toList_madeCells_one]
    rw [hcells] at hrun
    obtain ⟨k1, k2⟩ := new_box hh el (zeros_rep (w := w) q7 n) (fun d hd => by rw [(List.mem_replicate.1 hd).2]; exact q8)
    refine ⟨_, _, ?_, _, _, .ar w.heap.size 0 n n (Nat.le_refl _) (by unfold maxLen; omega), k1, k2, ⟨_, rfl, rfl⟩⟩
    unfold execOp
    simp only [hv1, hv2, Sem.run_bind, hrun, Result.andThen_ok, Sem.run_pure]
  · cases h1
def Mak2 (m : Option Ro) (q : TypeId × Nat × Value) (n : Nat) (st : St) (k : D → St → Prop) : Prop := (n * q.2.1 ≤ 140737488355328 ∧ n ≤ 140737488355328) ∧ ∀ g, Keep m (.box g q.1 (List.replicate n (leafD q.2.2)) :: st) ∧ k (.ar g 0 n n) (.box g q.1 (List.replicate n (leafD q.2.2)) :: st)
theorem mk_go {t : TypeId} {kd : IntKind} {n : Nat} (h : Ev (oneT P t) fun q => Mak2 m q n st k) : MakK P m t (.s (.int kd n), .s (.int kd n)) st k := by
  obtain ⟨⟨el, bytes, z⟩, h1, ⟨h2, h3⟩, h4⟩ := h
  exact ⟨kd, n, el, bytes, z, rfl, h1, h2, h3, h4⟩
theorem mk2_go {el : TypeId} {bytes n : Nat} {z : Value} {dz : D} (h1 : n * bytes ≤ 140737488355328) (h2 : n ≤ 140737488355328) (hz : leafD z = dz) (h : ∀ g, Keep m (.box g el (List.replicate n dz) :: st) ∧ k (.ar g 0 n n) (.box g el (List.replicate n dz) :: st)) : Mak2 m (el, bytes, z) n st k := by
  subst hz
  exact ⟨⟨h1, h2⟩, h⟩
/-! what is written is given up: nobody writes it any more -/
theorem chopA_len {sz : Nat} : ∀ (n : Nat) (cs : List D), (chop sz n cs).length = n
  | 0, _ => rfl
  | n + 1, cs => by rw [chop, List.length_cons, chopA_len n]
theorem chopA_each {sz : Nat} : ∀ (n : Nat) (cs : List D), n * sz ≤ cs.length → ∀ e ∈ chop sz n cs, e.length = sz
  | 0, _, _, e, he => by cases he
  | n + 1, cs, h, e, he => by
    rw [Nat.succ_mul] at h
    rw [chop] at he
    rcases List.mem_cons.1 he with rfl | he
    · rw [List.length_take]; omega
    · exact chopA_each n _ (by rw [List.length_drop]; omega) e he
theorem chopA_flat {sz : Nat} : ∀ (n : Nat) (cs : List D), n * sz ≤ cs.length → (chop sz n cs).flatten = cs.take (n * sz)
  | 0, cs, _ => by simp [chop]
  | n + 1, cs, h => by
    rw [Nat.succ_mul] at h
    rw [chop, List.flatten_cons, chopA_flat n _ (by rw [List.length_drop]; omega), Nat.succ_mul, Nat.add_comm (n * sz) sz, List.take_add]
theorem frozen (ow : Own) (how : ow = .shared ∨ ow = .tight) {g : Nat} {el : TypeId} {cs : List D} {s0 : St} {v : Value} {sz off n cap : Nat} (hh : Holds (.box g el cs :: s0) w) (hv : Rep (OwnS (.box g el cs :: s0)) w v (.ar g off n cap)) (hsz : 0 < sz) (hn : off + n * sz ≤ cs.length) (hcap : ow = .tight → cap = n) : Rep (OwnS s0) w v (.sl ow (chop sz n (cs.drop off))) := by
  cases hv with
  | ar _ _ _ _ c1 c2 =>
    obtain ⟨⟨us, hb, hr⟩, hlc⟩ := hh.2 _ (List.mem_cons_self ..)
    have he : Ext (OwnS (.box g el cs :: s0)) w (OwnS s0) w := Ext.drop (fun _ h => List.mem_cons_of_mem _ h) w
    have hr := hr.ext he
    have hd : n * sz ≤ (cs.drop off).length := by rw [List.length_drop]; omega
    have hfl := chopA_flat (sz := sz) n (cs.drop off) hd
    have hlen := chopA_len (sz := sz) n (cs.drop off)
    have hsl : us.toList.length = cs.length := hr.1
    have hrl : RepL (OwnS s0) w ((us.toList.drop off).take (n * sz)) (chop sz n (cs.drop off)).flatten := by rw [hfl]; exact (hr.drop _).take _
    have hne : ∀ o, ¬ OwnS s0 g o := fun o ho => by
      obtain ⟨x, hx, hxb, _⟩ := ho
      exact (List.pairwise_cons.1 hh.1).1 x hx g rfl hxb
    have := Rep.sl (O := OwnS s0) (w := w) ow (chop sz n (cs.drop off)) (some ⟨g, off, none⟩) cap ((us.toList.drop off).take (n * sz)) sz (by omega) c2 (fun e => by cases e) hsz (chopA_each n _ hd) hrl.1 (fun d hd' => by
      rw [hfl] at hd'
      exact hlc d (List.mem_of_mem_drop (List.mem_of_mem_take hd'))) (fun i hi => ⟨g, off, rfl, (Array.getElem?_eq_some_iff.1 hb).1, hne _, by
        rw [cell_of_row _ g (off + i) us el (0, 0) hb]
        rw [List.getElem_take, List.getElem_drop]
        simp at hi
        rw [Array.getElem?_eq_getElem (by omega)]
        simp⟩) hrl.2 (by
        rcases how with rfl | rfl
        · trivial
        · show cap = _; rw [hlen]; exact hcap rfl)
    rwa [hlen] at this
/-- The slots that are told read as a list from now on; the row is nobody's. -/
theorem tr_freeze (ow : Own) (how : ow = .shared ∨ ow = .tight) (ts : List Tmp) (sz : Nat) {c : Code} {g : Nat} {el : TypeId} {cs : List D} {s0 : St} {off n cap : Nat} (hp : st.Perm (.box g el cs :: s0)) (hsz : 0 < sz) (hn : off + n * sz ≤ cs.length) (hcap : ow = .tight → cap = n) (ht : ∀ t ∈ ts, A.e t = .ar g off n cap) (h : Tr P N r c { A with e := fun t => if t ∈ ts then .sl ow (chop sz n (cs.drop off)) else A.e t } s0 Q) : Tr P N r c A st Q := by
  refine tr_perm hp ?_
  intro a w h1 h2
  have he : Ext (OwnS (.box g el cs :: s0)) w (OwnS s0) w := Ext.drop (fun _ h => List.mem_cons_of_mem _ h) w
  refine wpIn_mono (h a w ⟨h1.1, h1.2.1, fun t => ?_⟩ (h2.sub (List.sublist_cons_self _ _))) fun _ _ _ => PostA.ext he
  show Rep _ _ _ (if t ∈ ts then _ else _)
  split
  · rename_i htm
    have := h1.2.2 t
    rw [ht t htm] at this
    exact frozen ow how h2 this hsz hn hcap
  · exact (h1.2.2 t).ext he
/-- A row of which nothing is read is a room. -/
theorem tr_reroom (ts : List Tmp) (sz : Nat) {c : Code} {g : Nat} {el : TypeId} {cs : List D} {s0 : St} {cap : Nat} (hp : st.Perm (.box g el cs :: s0)) (hsz : 0 < sz) (hn : cs.length = cap * sz) (ht : ∀ t ∈ ts, A.e t = .ar g 0 0 cap) (h : Tr P N r c { A with e := fun t => if t ∈ ts then .sl (.row g cap) [] else A.e t } (.room (.row g cap) el sz 0 :: s0) Q) : Tr P N r c A st Q := by
  refine tr_perm hp ?_
  intro a w h1 h2
  have hown : OwnS (.room (.row g cap) el sz 0 :: s0) = OwnS (.box g el cs :: s0) := by
    funext b off
    apply propext
    rw [OwnS.cons_iff, OwnS.cons_iff]
    constructor
    · rintro (⟨x1, x2⟩ | x)
      · exact .inl ⟨x1, Nat.zero_le _⟩
      · exact .inr x
    · rintro (⟨x1, x2⟩ | x)
      · exact .inl ⟨x1, by show 0 * sz ≤ off; omega⟩
      · exact .inr x
  have he : Ext (OwnS (.box g el cs :: s0)) w (OwnS (.room (.row g cap) el sz 0 :: s0)) w := by rw [hown]; exact Ext.refl _ _
  have hh : Holds (.room (.row g cap) el sz 0 :: s0) w := by
    obtain ⟨⟨us, hb, hr⟩, hlc⟩ := h2.2 _ (List.mem_cons_self ..)
    refine h2.put he (fun _ _ _ _ => rfl) ⟨us, hb, ?_, Nat.zero_le _⟩ fun x hx => (List.pairwise_cons.1 h2.1).1 x hx
    have := hr.1
    rw [Array.length_toList] at this
    omega
  refine wpIn_mono (h a w ⟨h1.1, h1.2.1, fun t => ?_⟩ hh) fun _ _ _ => PostA.ext he
  show Rep _ _ _ (if t ∈ ts then _ else _)
  split
  · rename_i htm
    have hv := h1.2.2 t
    rw [ht t htm] at hv
    generalize a.tmps.getD t undef = v at hv
    cases hv with
    | ar _ _ _ _ c1 c2 =>
      exact .sl (.row g cap) [] (some ⟨g, 0, none⟩) cap [] sz (Nat.zero_le _) c2 (fun e => by cases e) hsz (fun e h => by cases h) rfl (fun d h => by simp at h) (fun i h => absurd h (Nat.not_lt_zero _)) (fun i h => absurd h (Nat.not_lt_zero _)) ⟨rfl, rfl⟩
  · exact (h1.2.2 t).ext he
theorem tr_freezeA (ow : Own) (how : ow = .shared ∨ ow = .tight) (ts : List Tmp) (sz : Nat) {c : Code} {g : Nat} {el : TypeId} {cs : List D} {s0 : St} {off n cap : Nat} (hp : st.Perm (.box g el cs :: s0)) (hsz : 0 < sz) (hn : off + n * sz ≤ cs.length) (hcap : ow = .tight → cap = n) (ht : ∀ t ∈ ts, A.e t = .ar g off n cap) (h : ∀ A' : AA, A'.df = A.df → (∀ t ∈ ts, A'.e t = .sl ow (chop sz n (cs.drop off))) → (∀ t, ts.contains t = false → A'.e t = A.e t) → Tr P N r c A' s0 Q) : Tr P N r c A st Q :=
  tr_freeze ow how ts sz hp hsz hn hcap ht (h _ rfl (fun t ht => by show (if t ∈ ts then _ else _) = _; rw [if_pos ht]) fun t ht => by
    show (if t ∈ ts then _ else _) = _
    rw [if_neg (by simpa using ht)])
theorem tr_reroomA (ts : List Tmp) (sz : Nat) {c : Code} {g : Nat} {el : TypeId} {cs : List D} {s0 : St} {cap : Nat} (hp : st.Perm (.box g el cs :: s0)) (hsz : 0 < sz) (hn : cs.length = cap * sz) (ht : ∀ t ∈ ts, A.e t = .ar g 0 0 cap) (h : ∀ A' : AA, A'.df = A.df → (∀ t ∈ ts, A'.e t = .sl (.row g cap) []) → (∀ t, ts.contains t = false → A'.e t = A.e t) → Tr P N r c A' (.room (.row g cap) el sz 0 :: s0) Q) : Tr P N r c A st Q :=
  tr_reroom ts sz hp hsz hn ht (h _ rfl (fun t ht => by show (if t ∈ ts then _ else _) = _; rw [if_pos ht]) fun t ht => by
    show (if t ∈ ts then _ else _) = _
    rw [if_neg (by simpa using ht)])
/-- Is a list nil? Nobody knows of an empty one. -/
theorem s_isNil {t t' : TypeId} {x : Operand} {ow : Own} {es : List (List D)} {q : TypeId × Nat × Nat} (ht : sliceT P t = some q) (hx : ev A.e x = some (.sl ow es)) (hk : ∀ b : Bool, (b = true → es = []) → k (.b b) st) : S P r none ⟨dst, .binOp .eql t x (.const (.slice none 0 0)) t', ty, pos, aft, gd⟩ A st k := by
  refine opC_val (by intro c hc; cases hc) fun ρ w hr hh => .inl ?_
  have hv1 := hr _ (by simp [Op.operands]) _ hx
  have hv2 := hr.cst (.slice none 0 0)
  obtain ⟨el, sz, bytes⟩ := q
  obtain ⟨ti, z, h10, h11⟩ := sliceT_spec ht
  obtain ⟨hu, -⟩ := (und_of_k h10).2.2.2.2.1 _ _ _ _ h11
  obtain ⟨a, cap0, us, sz1, e1, c1, c2, c3, c4, c5, c6, c7, c8, c9, c10⟩ := calm_src hv1
  refine ⟨.bool a.isNone, w, ?_, _, _, .s (.bool a.isNone) rfl, hh, Ext.refl _ _, hk a.isNone fun hb => ?_⟩
  · unfold execOp
    have hrun : (binOp .eql t (.slice a es.length cap0) (.slice none 0 0)).run P w = .ok (.bool a.isNone) w := by
      simp only [binOp]
      simp [run_equal_slice_nil w t el a es.length cap0 hu]
    simp only [e1, hv2, Sem.run_bind, guard_plain .eql t x (.const (.slice none 0 0)) (.slice a es.length cap0) (.slice none 0 0) (fun u => by simp) (fun u v => by simp), hrun, Result.andThen_ok, Sem.run_pure]
  · have : a = none := by simpa using hb
    have := c8 this
    exact List.eq_nil_of_length_eq_zero (by omega)
/-- A cut ahead of one region. -/
theorem tr_cutB (id : Nat) (K : AA → St → Prop) {ops : Array Oper} {b : Bool} {x c : Code} (h1 : Tr P N r x A st (thenA K fun _ _ _ => False)) (h2 : ∀ A' st', K A' st' → Tr P N r (.seq (.region id ops b) c) A' st' Q) : Tr P N r (.seq x (.seq (.region id ops b) c)) A st Q :=
  tr_seq (tr_mono h1 fun ex A' st' h => by
    cases ex with
    | normal => exact h2 A' st' h
    | exit id => exact h.elim
    | goto l => exact h.elim
    | ret => exact h.elim
    | panic c => exact h.elim
    | outgrown => exact h.elim)
def boxC (d : D) : Option (List D) :=
  match d.cells.all D.leaf with
  | true => some d.cells
  | false => none
/-- A box that is written later: its pointer is kept. -/
theorem s_boxP {t : TypeId} {x : Operand} (h : Ev ((ev A.e x).bind boxC) fun cs => AlK none t cs st k) : S P r none ⟨dst, .box t x, ty, pos, aft, gd⟩ A st k := by
  obtain ⟨cs, h1, h2⟩ := h
  cases hx : ev A.e x with
  | none => rw [hx] at h1; cases h1
  | some d =>
    rw [hx, Option.bind_some] at h1
    unfold boxC at h1
    split at h1
    · rename_i hl; cases h1; exact opC_box rfl hx hl fun b => (h2 b).2
    · cases h1
theorem ret_new {ts : List Tmp} {ex : Exit} {b : Nat} {B : Nat → Res} {st0 : St} (hex : ex = .normal ∨ ex = .ret) (hdf : A.df = []) (hr : resD ts A.e = .ptr b 0) (hs : (B b :: st0).Sublist st) : retA ts (fun d st' => ∃ b, d = .ptr b 0 ∧ st' = B b :: st0) ex A st := retA_mk hex hdf hs (LE.of_eq hr) ⟨b, rfl, rfl⟩
/-- A contract that turns one box, wherever it stands. -/
theorem TrF.at {f : FuncId} {args : List D} {B B' : Res} {X : D} {st1 : St} (h : ∀ s, TrF P f args (B :: s) fun d st' => d = X ∧ st' = B' :: s) (hat : ResAt B B' st st1) : TrF P f args st fun d st' => d = X ∧ st' = st1 := by
  obtain ⟨s0, p1, p2⟩ := hat.perm
  exact TrF.permPost p1 ((h s0).mono fun d st' ⟨e1, e2⟩ => ⟨_, ⟨e1, rfl⟩, by subst e2; exact p2.symm⟩)
section
variable {f : FuncId} {ds ds' : List D} {X : D}
theorem ck_el {X : D} {s1 : St} (henter : ∀ args w, (callFunc f args).run P w = .ok (.enter f args) w) (h : TrF P f ds' st fun d st' => d = X ∧ st' = s1) (hle : LEL ds ds') (hk : Keep m s1 ∧ k X s1) : CallK P m (f, ds) st k := ck_le henter hle h hk
theorem ck_exl {ι : Type} {p : ι → Prop} {F : ι → D} {Sx : ι → St} (henter : ∀ args w, (callFunc f args).run P w = .ok (.enter f args) w) (h : TrF P f ds' st fun d st' => ∃ i, p i ∧ d = F i ∧ st' = Sx i) (hle : LEL ds ds') (hex : ∃ i, p i) (hk : ∀ i, p i → Keep m (Sx i) ∧ k (F i) (Sx i)) : CallK P m (f, ds) st k := ck_ex henter hle h hex hk
theorem ck_newl {F : Nat → D} {Sx : Nat → St} (henter : ∀ args w, (callFunc f args).run P w = .ok (.enter f args) w) (h : TrF P f ds' st fun d st' => ∃ b, d = F b ∧ st' = Sx b) (hle : LEL ds ds') (hk : ∀ b, Keep m (Sx b) ∧ k (F b) (Sx b)) : CallK P m (f, ds) st k :=
  ⟨_, henter, h.le hle, ⟨_, _, 0, rfl, rfl⟩, fun d st' ⟨i, e1, e2⟩ => by subst e1 e2; exact hk i⟩
theorem ck_at {B B' : Res} {st1 : St} (henter : ∀ args w, (callFunc f args).run P w = .ok (.enter f args) w) (hle : LEL ds ds') (h : ∀ s, TrF P f ds' (B :: s) fun d st' => d = X ∧ st' = B' :: s) (hat : ResAt B B' st st1) (hk : Keep m st1 ∧ k X st1) : CallK P m (f, ds) st k := ck_le henter hle (TrF.at h hat) hk
/-- A call that makes something new. -/
theorem ck_new {F : Nat → D} {Sx : Nat → St} (henter : ∀ args w, (callFunc f args).run P w = .ok (.enter f args) w) (hle : LEL ds ds') (h : TrF P f ds' st fun d st' => ∃ b, d = F b ∧ st' = Sx b) (hk : ∀ b, Keep m (Sx b) ∧ k (F b) (Sx b)) : CallK P m (f, ds) st k :=
  ⟨_, henter, h.le hle, ⟨_, _, 0, rfl, rfl⟩, fun d st' ⟨i, e1, e2⟩ => by subst e1 e2; exact hk i⟩
end
/-- What is returned is a list with a room of its own. -/
theorem ret_own {ts : List Tmp} {ex : Exit} {o' : Own} {el : TypeId} {sz : Nat} {es es' : List (List D)} {st0 : St} (hex : ex = .normal ∨ ex = .ret) (hdf : A.df = []) (hr : resD ts A.e = .sl o' es') (ho : o' ≠ .shared) (hs : (.room o' el sz es'.length :: st0).Sublist st) (he : es' = es) : retA ts (fun d st' => ∃ o', o' ≠ .shared ∧ d = .sl o' es ∧ st' = .room o' el sz es.length :: st0) ex A st := by
  subst he
  exact retA_mk hex hdf hs (LE.of_eq hr) ⟨o', ho, rfl, rfl⟩
theorem frz_in {t : Tmp} {ts : List Tmp} {d : D} {e : Nat → D} {df : List Deferred} (h : ts.contains t = true) : (AA.mk (fun t => if t ∈ ts then d else e t) df).e t = d := by
  show (if t ∈ ts then d else e t) = d
  rw [if_pos (by simpa using h)]
theorem frz_out {t : Tmp} {ts : List Tmp} {d : D} {e : Nat → D} {df : List Deferred} (h : ts.contains t = false) : (AA.mk (fun t => if t ∈ ts then d else e t) df).e t = e t := by
  show (if t ∈ ts then d else e t) = e t
  rw [if_neg (by simpa using h)]
/-- 'append(s, make([]T, n)...)' onto nothing. -/
theorem run_append_zeros (t u ty e : TypeId) (i : TypeInfo) (z : Value) {ku : IntKind} (ht : P.underlying t = some (.slice e)) (hu : P.underlying u = some (.int ku)) (hi : P.info? e = some i) (hz : i.zero = some z) (hz1 : z.cells.size = 1) (hs1 : i.size = 1)
    (a : Option Addr) (kd : IntKind) (n : Nat) (h0 : 0 < n) (h48 : n * i.bytes ≤ 140737488355328) (h63 : n ≤ 140737488355328) :
    (Builtin.append_ #[t, u] ty #[.slice a 0 0, .int kd n]).run P w =
      .ok (.slice (some ⟨w.heap.size, 0, none⟩) n (grownCap w n 0 e)) (w.drew.alloc (.cells (Builtin.zeroCells z.cells n ++ Builtin.zeroCells z.cells (grownCap w n 0 e - n)) e)) := by
  have hn : n ≠ 0 := by omega
  have hw : IntKind.i64.wrap (n : Int) = n := i64_in (by omega) (by omega)
  have hb2 : ¬ (281474976710656 < (n : Int) * (i.bytes : Int)) := by
    have : ((n * i.bytes : Nat) : Int) ≤ 140737488355328 := by omega
    rw [Int.natCast_mul] at this; omega
  have h63' : ¬ (9223372036854775807 < (n : Int)) := by omega
  have h48' : ¬ (281474976710656 < Builtin.nextslicecap n 0 * i.bytes) := by rw [nextslicecap_zero h0]; omega
  cases a with
  | none => simp [Builtin.append_, run_underlying ht, run_underlying hu, sizeOf, typeInfo, zeroValue, hi, hz, asInt, asIntOf, hw, hb2, hn, h63', h48', hs1, Question.forced, run_firstCells_none, newRow, grownCap]; intro hlt; exact absurd hlt (by omega)
  | some ad =>
    have hfo := run_firstCells_some (P := P) w.drew 1 0 ad 0 0 [] rfl (fun j v h => by simp at h)
    simp [Builtin.append_, run_underlying ht, run_underlying hu, sizeOf, typeInfo, zeroValue, hi, hz, asInt, asIntOf, hw, hb2, hn, h63', h48', hs1, Question.forced, hfo, newRow, grownCap]; intro hlt; exact absurd hlt (by omega)
def intT (P : Program) (t : TypeId) : Option Bool := (tinfo P t).bind fun ti => match ti.k with
  | .int _ => some true
  | _ => none
theorem intT_spec {t : TypeId} {b : Bool} (h : intT P t = some b) : ∃ k, P.underlying t = some (.int k) := by
  unfold intT at h
  cases ht : tinfo P t with
  | none => rw [ht] at h; cases h
  | some ti =>
    rw [ht, Option.bind_some] at h
    split at h
    · rename_i k hk; exact ⟨k, (und_of_k ht).2.1 _ hk⟩
    · cases h
theorem zeroCells_one (z : Value) (n : Nat) : Builtin.zeroCells #[z] n = (List.replicate n z).toArray := by
  have : Builtin.zeroCells #[z] n = madeCells #[z] (n * 1) := rfl
  rw [this, Nat.mul_one]
  apply Array.ext'
  rw [toList_madeCells_one]
def ZerK (P : Program) (m : Option Ro) (t u : TypeId) (p : D × D) (st : St) (k : D → St → Prop) : Prop :=
  ∃ (kd : IntKind) (n : Nat) (el : TypeId) (bytes : Nat) (z : Value) (b : Bool), p = (.sl .tight [], .s (.int kd n)) ∧ 0 < n ∧ oneT P t = some (el, bytes, z) ∧ intT P u = some b ∧ n * bytes ≤ 140737488355328 ∧ n ≤ 140737488355328 ∧ ∀ g cap, n ≤ cap → Keep m (.box g el (List.replicate cap (leafD z)) :: st) ∧ k (.ar g 0 n cap) (.box g el (List.replicate cap (leafD z)) :: st)
theorem s_zeros {t u : TypeId} {x y : Operand} (h : Ev (pairX (ev A.e x) (ev A.e y)) fun p => ZerK P m t u p st k) : S P r m ⟨dst, .call ⟨.builtin .append, #[x, y], #[t, u]⟩, ty, pos, aft, gd⟩ A st k := by
  obtain ⟨p, h1, kd, n, el, bytes, z, b, rfl, h0, h2, h2', h3, h4, h5⟩ := h
  unfold pairX at h1
  split at h1
  · rename_i d d' hx hy
    cases h1
    refine s_chain (R := fun d st' => ∃ g cap, n ≤ cap ∧ d = .ar g 0 n cap ∧ st' = .box g el (List.replicate cap (leafD z)) :: st) rfl ?_ ⟨_, _, 0, n, Nat.le_refl _, rfl, rfl⟩ fun d st' ⟨g, cap, e0, e1, e2⟩ => by subst e1 e2; exact h5 g cap e0
    refine opC_val (by intro c hc; cases hc) fun ρ w hr hh => .inl ?_
    have hv1 := hr _ (by simp [Op.operands, Call.operands]) _ hx
    have hv2 := rep_s (hr _ (by simp [Op.operands, Call.operands]) _ hy)
    obtain ⟨q1, ⟨i, zv, q2, q3, q4, q5, q6⟩, q7, q8⟩ := oneT_spec h2
    obtain ⟨ku, hu⟩ := intT_spec h2'
    have hz : zv.cells = #[z] := by
      apply Array.ext'
      simpa using q4
    obtain ⟨a, cap0, us, sz1, e1, c1, c2, c3, c4, c5, c6, c7, c8, c9, c10⟩ := calm_src hv1
    have hcap : cap0 = 0 := c10
    subst hcap
    have hrun := run_append_zeros (P := P) (w := w) t u ty el i zv q1 hu q2 q3 (by rw [hz]; rfl) q5 a kd n h0 (by rw [q6]; exact h3) h4
    have hge := grownCap_ge w n 0 el
    have hmx := grownCap_le_maxLen w n 0 el (by unfold maxLen; omega)
    generalize grownCap w n 0 el = cap at *
    have hcl : Builtin.zeroCells zv.cells n ++ Builtin.zeroCells zv.cells (cap - n) = (List.replicate cap z).toArray := by
      rw [hz, zeroCells_one, zeroCells_one, List.append_toArray, List.replicate_append_replicate]
      congr 2
      omega
    rw [hcl] at hrun
    have hh' : Holds st w.drew := hh.drewN 1
    obtain ⟨k1, k2⟩ := new_box hh' el (zeros_rep (w := w.drew) q7 cap) (fun d hd => by rw [(List.mem_replicate.1 hd).2]; exact q8)
    refine ⟨_, _, ?_, _, _, .ar w.heap.size 0 n cap hge hmx, k1, (Ext.drew (OwnS st) w).trans k2, ⟨_, _, hge, rfl, rfl⟩⟩
    unfold execOp
    simp only [resolve, invoke, builtin, Sem.run_bind, Sem.run_pure, Result.andThen_ok, List.map_toArray, List.map_cons, List.map_nil, e1, hv2]
    show ((Builtin.append_ #[t, u] ty #[.slice a 0 0, .int kd n]).run P w).andThen _ = _
    rw [hrun]
    rfl
  · cases h1
def Zer2 (m : Option Ro) (q : TypeId × Nat × Value) (n : Nat) (st : St) (k : D → St → Prop) : Prop := (0 < n ∧ n * q.2.1 ≤ 140737488355328 ∧ n ≤ 140737488355328) ∧ ∀ g cap, n ≤ cap → Keep m (.box g q.1 (List.replicate cap (leafD q.2.2)) :: st) ∧ k (.ar g 0 n cap) (.box g q.1 (List.replicate cap (leafD q.2.2)) :: st)
theorem zr_go {t u : TypeId} {kd : IntKind} {n : Nat} (h : Ev (intT P u) fun _ => Ev (oneT P t) fun q => Zer2 m q n st k) : ZerK P m t u (.sl .tight [], .s (.int kd n)) st k := by
  obtain ⟨b, h0, ⟨el, bytes, z⟩, h1, ⟨h2, h3, h4⟩, h5⟩ := h
  exact ⟨kd, n, el, bytes, z, b, rfl, h2, h1, h0, h3, h4, h5⟩
theorem zr2_go {el : TypeId} {bytes n : Nat} {z : Value} {dz : D} (h0 : 0 < n) (h1 : n * bytes ≤ 140737488355328) (h2 : n ≤ 140737488355328) (hz : leafD z = dz) (h : ∀ g cap, n ≤ cap → Keep m (.box g el (List.replicate cap dz) :: st) ∧ k (.ar g 0 n cap) (.box g el (List.replicate cap dz) :: st)) : Zer2 m (el, bytes, z) n st k := by
  subst hz
  exact ⟨⟨h0, h1, h2⟩, h⟩
/-- All of what has no room is a part of it. -/
theorem s_sliceT {t : TypeId} {x y : Operand} (hx : ev A.e x = some (.sl .tight [])) (hy : ev A.e y = some (.i 0)) (ht : (sliceT P t).isSome = true) (hk : k (.sl .tight []) st) : S P r none ⟨dst, .slice t x none (some y) none, ty, pos, aft, gd⟩ A st k := by
  refine opC_val (by intro c hc; cases hc) fun ρ w hr hh => .inl ?_
  have hv1 := hr _ (by simp [Op.operands]) _ hx
  have hv2 := rep_s (hr _ (by simp [Op.operands]) _ hy)
  obtain ⟨⟨el, sz, bytes⟩, hq⟩ := Option.isSome_iff_exists.1 ht
  obtain ⟨ti, z, h10, h11⟩ := sliceT_spec hq
  obtain ⟨hu, ii, zv, q1, q2, q3, q4, q5, q6, q7⟩ := (und_of_k h10).2.2.2.2.1 _ _ _ _ h11
  obtain ⟨a, cap0, us, sz1, e1, c1, c2, c3, c4, c5, c6, c7, c8, c9, c10⟩ := calm_src hv1
  have hcap : cap0 = 0 := c10
  subst hcap
  have hb : aBounds 0 none (some 0) = some (0, 0) := by decide
  have hrun : (Instr.sliceAt t (.slice a 0 0) none (some (.int .i64 0)) none).run P w = .ok (.slice a 0 0) w := by
    simp only [Instr.sliceAt, Sem.run_bind, run_underlying hu, Result.andThen_ok, Instr.slice, run_bounds (isS := true) (lo := none) (hi := some 0) (mx := none) rfl ⟨.i64, rfl⟩ rfl hb (Nat.le_refl 0) (.inl rfl), sizeOf, typeInfo, run_program, q1, Sem.run_pure, q4]
    simp
  refine ⟨.slice a 0 0, w, ?_, _, _, .sl .tight [] a 0 [] 1 (Nat.le_refl _) (Nat.zero_le _) (fun _ => rfl) (by omega) (fun e h => by cases h) rfl (fun d h => by simp at h) (fun i h => absurd h (Nat.not_lt_zero _)) (fun i h => absurd h (Nat.not_lt_zero _)) rfl, hh, Ext.refl _ _, hk⟩
  unfold execOp
  simp only [e1, hv2, Option.map_some, Option.map_none, Sem.run_bind, Sem.run_pure]
  show ((Instr.sliceAt t (.slice a 0 0) none (some (.int .i64 0)) none).run P w).andThen _ = _
  rw [hrun]
  rfl
end
section
variable {P : Program} {t : TypeId} {a b : Int} {k' : IntKind}
theorem shr_u64 (h0 : 0 ≤ b) (h1 : b ≤ 64) : aBin P .shr t (.s (.int .u64 a)) (.s (.int k' b)) = some (.s (.int .u64 (a / 2 ^ b.toNat))) := bin_shr h0 h1
theorem shl_u64 (h0 : 0 ≤ b) (h1 : b ≤ 64) : aBin P .shl t (.s (.int .u64 a)) (.s (.int k' b)) = some (.s (.int .u64 (IntKind.u64.wrap (a * 2 ^ b.toNat)))) := bin_shl h0 h1
theorem shr_i64 (h0 : 0 ≤ b) (h1 : b ≤ 64) : aBin P .shr t (.s (.int .i64 a)) (.s (.int k' b)) = some (.s (.int .i64 (a / 2 ^ b.toNat))) := bin_shr h0 h1
theorem shl_i64 (h0 : 0 ≤ b) (h1 : b ≤ 64) : aBin P .shl t (.s (.int .i64 a)) (.s (.int k' b)) = some (.s (.int .i64 (IntKind.i64.wrap (a * 2 ^ b.toNat)))) := bin_shl h0 h1
end
theorem all_encB (l : List UInt8) : (l.map encB).all (fun e => e.length == 1) = true := by
  rw [List.all_map]; exact List.all_eq_true.2 fun _ _ => rfl
theorem all_encI (l : List Int) : (l.map encI).all (fun e => e.length == 1) = true := by
  rw [List.all_map]; exact List.all_eq_true.2 fun _ _ => rfl
attribute [push_cast] Option.isSome_some boxC Nat.add_sub_cancel Nat.add_sub_cancel_left Nat.sub_zero all_encB all_encI shr_u64 shl_u64 shr_i64 shl_i64 intT oneT
end Go.Proofs.Ytgofckmlgkniaaa
end

/- What the statements' arguments read as: from the rows' reading of memory to data. No statement is proved here. -/
section
namespace Go.Proofs.Ytgofckmlgkniaaa
open Go.RowKit Go.ChangeShapes Go.WideShapes

/-- Whatever lies in memory as a thing of the type, of so many steps at most, is the cells of some 'a'. -/
def ReadsN {α : Type} (n : Nat) (P : Program) (t : TypeId) (e : α → List D) (ok : α → Prop) : Prop :=
  ∀ (H : Type) (enc : TypeId × Value → H) (W : World) (fuel : Nat) (cs : List Value) (x : DataW H × List MemPlace), fuel ≤ n →
    DataW.trod enc P W 0 (fun _ => true) true fuel t cs = some x → ∃ a, RepL (OwnS []) W cs (e a) ∧ ok a
def Reads {α : Type} (P : Program) (t : TypeId) (e : α → List D) (ok : α → Prop) : Prop := ∀ n, ReadsN n P t e ok
section
variable {P : Program} {t : TypeId} {n : Nat} {W : World}
theorem reads_int {k : IntKind} (ht : P.underlying t = some (.int k)) : Reads P t (fun a : Int => [.s (.int k a)]) fun a => (Lit.int k a).wf = true := by
  intro n H enc W fuel cs x _ h
  obtain ⟨a, rfl, -, hw⟩ := DataW.trod_int ht h
  exact ⟨a, .cons (.s _ rfl) .nil, hw⟩
theorem reads_u8 (ht : P.underlying t = some (.int .u8)) : Reads P t encB fun _ => True := by
  intro n H enc W fuel cs x _ h
  obtain ⟨a, rfl, -, hw⟩ := DataW.trod_int ht h
  have hw' : 0 ≤ a ∧ a ≤ 255 := by simpa [Lit.wf, IntKind.min, IntKind.max, IntKind.bits, IntKind.signed] using hw
  obtain ⟨b, rfl⟩ : ∃ b : UInt8, (b.toNat : Int) = a := ⟨UInt8.ofNat a.toNat, by simp; omega⟩
  exact ⟨b, .cons (.s _ rfl) .nil, trivial⟩
theorem reads_bool (ht : P.underlying t = some .bool) : Reads P t (fun a : Bool => [.b a]) fun _ => True := by
  intro n H enc W fuel cs x _ h
  obtain ⟨a, rfl, -⟩ := DataW.trod_bool ht h
  exact ⟨a, .cons (.s _ rfl) .nil, trivial⟩
theorem reads_string (ht : P.underlying t = some .string) : Reads P t (fun a : ByteArray => [.str a]) fun a => a.size ≤ maxLen := by
  intro n H enc W fuel cs x _ h
  obtain ⟨a, rfl, -, hs⟩ := DataW.trod_string ht h
  exact ⟨a, .cons (.s _ rfl) .nil, hs⟩
theorem chosen {α : Type} {k : Nat} {p : Nat → α → Prop} (h : ∀ i, i < k → ∃ a, p i a) : ∃ l : List α, l.length = k ∧ ∀ i (hi : i < l.length), p i l[i] := by
  induction k with
  | zero => exact ⟨[], rfl, fun i hi => absurd hi (Nat.not_lt_zero _)⟩
  | succ k ih =>
    obtain ⟨l, h1, h2⟩ := ih fun i hi => h i (by omega)
    obtain ⟨a, ha⟩ := h k (by omega)
    refine ⟨l ++ [a], by simp [h1], fun i hi => ?_⟩
    rw [List.getElem_append]
    split
    · exact h2 i _
    · have : i = k := by simp at hi; omega
      subst this; simpa using ha
theorem flat_get {β : Type} {ls : List (List β)} {sz : Nat} (h : ∀ l ∈ ls, l.length = sz) {i j : Nat} (hi : i < ls.length) (hj : j < sz) :
    ls.flatten[i * sz + j]? = (ls[i])[j]? := by
  induction ls generalizing i with
  | nil => simp at hi
  | cons l ls ih =>
    have hl : l.length = sz := h l (by simp)
    cases i with
    | zero => rw [List.flatten_cons, List.getElem?_append_left (by omega)]; simp
    | succ i =>
      rw [List.flatten_cons, List.getElem?_append_right (by rw [hl, Nat.succ_mul]; omega), hl, show (i + 1) * sz + j - sz = i * sz + j by rw [Nat.succ_mul]; omega, ih (fun l hl => h l (by simp [hl])) (by simpa using hi)]
      simp
theorem flat_lenV {β : Type} {ls : List (List β)} {sz : Nat} (h : ∀ l ∈ ls, l.length = sz) : ls.flatten.length = ls.length * sz := by
  induction ls with
  | nil => simp
  | cons l ls ih => rw [List.flatten_cons, List.length_append, ih (fun l hl => h l (by simp [hl])), h l (by simp), List.length_cons, Nat.succ_mul]; omega
theorem add_spot {bk off k : Nat} : (Addr.mk bk off none).add k = ⟨bk, off + k, none⟩ := by
  unfold Addr.add
  by_cases hk : k = 0
  · subst hk; simp
  · simp [hk]
theorem repL_flat {O : Nat → Nat → Prop} : ∀ {us : List (List Value)} {ds : List (List D)}, us.length = ds.length → (∀ i (h : i < us.length) (h' : i < ds.length), RepL O W us[i] ds[i]) → RepL O W us.flatten ds.flatten
  | [], [], _, _ => .nil
  | [], _ :: _, h, _ => by simp at h
  | _ :: _, [], h, _ => by simp at h
  | u :: us, d :: ds, hl, h => by
    rw [List.flatten_cons, List.flatten_cons]
    exact (h 0 (by simp) (by simp)).append (repL_flat (by simpa using hl) fun i h1 h2 => h (i + 1) (by simpa using h1) (by simpa using h2))
theorem reads_slice {α : Type} {e : TypeId} {sz : Nat} {f : α → List D} {ok : α → Prop} (ht : P.underlying t = some (.slice e)) (hsz : P.cellsOf e = sz) (hp : 0 < sz) (h : ReadsN n P e f ok) (hlen : ∀ a, (f a).length = sz) (hleaf : ∀ a, ∀ d ∈ f a, d.leaf = true) :
    ReadsN (n + 1) P t (fun l : List α => [.sl .shared (l.map f)]) fun l => (∀ a ∈ l, ok a) ∧ l.length ≤ maxLen := by
  intro H enc W fuel cs x hn hx
  rcases DataW.trod_slice ht hx with ⟨rfl, -⟩ | ⟨a, len, cap, elems, rest, m, rfl, rfl, -, -, hlc, hcm, hel, hget, -, -⟩
  · refine ⟨[], .cons ?_ .nil, ⟨by simp, by simp⟩⟩
    exact .sl .shared [] none 0 [] 1 (Nat.le_refl _) (by simp) (fun _ => rfl) (Nat.lt_succ_self _) (by simp) rfl (by simp) (fun i hi => absurd hi (by simp)) (fun i hi => absurd hi (by simp)) trivial
  · have hone : ∀ i, i < len → ∃ p : α × List Value, W.cells? 0 (a.add (i * sz)) sz = some p.2 ∧ RepL (OwnS []) W p.2 (f p.1) ∧ ok p.1 := by
      intro i hi
      have h1 := hget i hi
      rw [hsz, List.getElem?_eq_getElem (by omega)] at h1
      obtain ⟨cs', h2, h3⟩ := Option.bind_eq_some_iff.1 h1
      obtain ⟨b, h4, h5⟩ := h H enc W m cs' _ (by omega) h3
      exact ⟨(b, cs'), h2, h4, h5⟩
    obtain ⟨l, hl, hl2⟩ := chosen hone
    refine ⟨l.map (·.1), .cons ?_ .nil, fun b hb => ?_, by simp; omega⟩
    · have hus : ∀ u ∈ l.map (·.2), u.length = sz := by
        intro u hu
        obtain ⟨p, hp', rfl⟩ := List.mem_map.1 hu
        obtain ⟨i, hi, rfl⟩ := List.getElem_of_mem hp'
        exact (World.cells?_some (hl2 i hi).1).2.1
      have hrl : RepL (OwnS []) W (l.map (·.2)).flatten ((l.map (·.1)).map f).flatten := repL_flat (by simp) fun i h1 h2 => by
        simp only [List.getElem_map]
        exact (hl2 i (by simpa using h1)).2.1
      have key := Rep.sl (O := OwnS []) (w := W) .shared ((l.map (·.1)).map f) (some a) cap (l.map (·.2)).flatten sz (by simp; omega) hcm (fun h => by cases h) hp
        (fun e he => by obtain ⟨b, -, rfl⟩ := List.mem_map.1 he; exact hlen b) hrl.1
        (fun d hd => by obtain ⟨q, hq, hd⟩ := List.mem_flatten.1 hd; obtain ⟨b, -, rfl⟩ := List.mem_map.1 hq; exact hleaf b d hd)
        (fun i hi => by
          have hfl : (l.map (·.2)).flatten.length = l.length * sz := by rw [flat_lenV hus]; simp
          have hi' : i / sz < l.length := by rw [hfl] at hi; exact Nat.div_lt_of_lt_mul (by rw [Nat.mul_comm]; exact hi)
          obtain ⟨-, c2, c3⟩ := World.cells?_some (hl2 _ hi').1
          have hj : i % sz < sz := Nat.mod_lt _ hp
          have c4 := c3 _ hj
          have hidx : (l.map (·.2)).flatten[i / sz * sz + i % sz]? = (l[i / sz].2)[i % sz]? := by
            rw [flat_get hus (by simpa using hi') hj]; simp
          have hi2 : i / sz * sz + i % sz = i := Nat.div_add_mod' i sz
          rw [hi2] at hidx
          rw [List.getElem?_eq_getElem hi] at hidx
          rw [← hidx] at c4
          obtain ⟨bk, off, sp⟩ := a
          have hsp : sp = none := by
            cases sp with
            | none => rfl
            | some q =>
              have h0 : 0 < l.length := Nat.lt_of_le_of_lt (Nat.zero_le _) hi'
              have hz := (World.cells?_some (hl2 0 h0).1).2.2 0 hp
              rw [List.getElem?_eq_getElem (by rw [(World.cells?_some (hl2 0 h0).1).2.1]; exact hp)] at hz
              simp only [Addr.add, World.cell?, Nat.zero_mul, if_true, Option.isSome_some] at hz
              split at hz <;> cases hz
          subst hsp
          have c5 : W.cell? ⟨bk, off + i, none⟩ = some (l.map (·.2)).flatten[i] := by
            rw [← c4, add_spot, add_spot, show off + i / sz * sz + i % sz = off + i by omega]
          refine ⟨bk, off, rfl, ?_, OwnS.nil bk _, c5⟩
          unfold World.cell? at c5
          dsimp only at c5
          by_cases hb : bk < W.heap.size
          · exact hb
          · rw [Array.getElem?_eq_none (by omega)] at c5; cases c5)
        (fun i h1 h2 => hrl.2 i h1 h2) trivial
      rw [List.length_map, List.length_map, hl] at key
      exact key
    · obtain ⟨p, hp', rfl⟩ := List.mem_map.1 hb
      obtain ⟨i, hi, rfl⟩ := List.getElem_of_mem hp'
      exact (hl2 i hi).2.2
theorem reads_slice' {α : Type} {e : TypeId} {sz : Nat} {f : α → List D} {ok : α → Prop} (ht : P.underlying t = some (.slice e)) (hsz : P.cellsOf e = sz) (hp : 0 < sz) (h : Reads P e f ok) (hlen : ∀ a, (f a).length = sz) (hleaf : ∀ a, ∀ d ∈ f a, d.leaf = true) :
    Reads P t (fun l : List α => [.sl .shared (l.map f)]) fun l => (∀ a ∈ l, ok a) ∧ l.length ≤ maxLen :=
  fun m H enc W fuel cs x hn hx => reads_slice ht hsz hp (h m) hlen hleaf H enc W fuel cs x (by omega) hx
/-- A struct's cells, piece by piece. -/
theorem RepL.glue {O : Nat → Nat → Prop} {cs : List Value} {o k : Nat} {L R : List D} (h1 : RepL O W ((cs.drop o).take k) L) (h2 : RepL O W (cs.drop (o + k)) R) : RepL O W (cs.drop o) (L ++ R) := by
  have := h1.append h2
  rwa [show cs.drop (o + k) = (cs.drop o).drop k by rw [List.drop_drop], List.take_append_drop] at this
theorem RepL.glue_end {O : Nat → Nat → Prop} {cs : List Value} {o : Nat} (h : cs.length = o) : RepL O W (cs.drop o) [] := by
  rw [List.drop_eq_nil_of_le (by omega)]; exact .nil
theorem struct_field {fs : Array Field} {H : Type} {enc : TypeId × Value → H} {m : Nat} {cs : List Value} {xs : List (DataW H × List MemPlace)} {α : Type} {f : α → List D} {ok : α → Prop} {i : Nat} {g : Field} {k : Nat}
    (hx : ∀ (i : Nat) (f : Field), fs[i]? = some f → DataW.trod enc P W 0 (fun _ => true) true m f.type ((cs.drop f.offset).take (P.cellsOf f.type)) = xs[i]?) (hl : xs.length = fs.size) (hg : fs[i]? = some g) (hk : P.cellsOf g.type = k) (h : ReadsN n P g.type f ok) (hm : m ≤ n) :
    ∃ a, RepL (OwnS []) W ((cs.drop g.offset).take k) (f a) ∧ ok a := by
  have h1 := hx i g hg
  have hi : i < xs.length := by rw [hl]; exact (Array.getElem?_eq_some_iff.1 hg).1
  rw [List.getElem?_eq_getElem hi] at h1
  obtain ⟨a, h2, h3⟩ := h _ _ _ _ _ _ hm h1
  rw [hk] at h2
  exact ⟨a, h2, h3⟩

/-! ### arguments -/
section
variable {H : Type} {enc : TypeId × Value → H} {r : Reach} {b0 : Nat} {v : Value} {d : DataW H} {ps : List MemPlace} {α : Type} {f : α → List D} {ok : α → Prop}
theorem repL_one {O : Nat → Nat → Prop} {u : Value} {c : D} (h : RepL O W [u] [c]) : Rep O W u c := h.2 0 (by simp) (by simp)
theorem arg_int {k : IntKind} (ht : P.underlying t = some (.int k)) (hv : Value.okWide P W r b0 t v) (h : DataW.Trod enc P W 0 (fun _ => true) true t v d ps) : ∃ a, Rep (OwnS []) W v (.s (.int k a)) ∧ (Lit.int k a).wf = true := by
  obtain ⟨a, rfl, -, -, hw⟩ := open_int ht hv h
  exact ⟨a, .s _ rfl, hw⟩
theorem arg_u8 (ht : P.underlying t = some (.int .u8)) (hv : Value.okWide P W r b0 t v) (h : DataW.Trod enc P W 0 (fun _ => true) true t v d ps) : ∃ a : UInt8, Rep (OwnS []) W v (.y a) ∧ True := by
  obtain ⟨a, rfl, -, -, hw⟩ := open_int ht hv h
  have hw' : 0 ≤ a ∧ a ≤ 255 := by simpa [Lit.wf, IntKind.min, IntKind.max, IntKind.bits, IntKind.signed] using hw
  obtain ⟨b, rfl⟩ : ∃ b : UInt8, (b.toNat : Int) = a := ⟨UInt8.ofNat a.toNat, by simp; omega⟩
  exact ⟨b, .s _ rfl, trivial⟩
theorem arg_bool (ht : P.underlying t = some .bool) (hv : Value.okWide P W r b0 t v) (h : DataW.Trod enc P W 0 (fun _ => true) true t v d ps) : ∃ a : Bool, Rep (OwnS []) W v (.b a) ∧ True := by
  obtain ⟨a, rfl, -⟩ := open_bool ht hv h
  exact ⟨a, .s _ rfl, trivial⟩
theorem arg_string (ht : P.underlying t = some .string) (hv : Value.okWide P W r b0 t v) (h : DataW.Trod enc P W 0 (fun _ => true) true t v d ps) : ∃ a : ByteArray, Rep (OwnS []) W v (.str a) ∧ a.size ≤ maxLen := by
  obtain ⟨a, rfl, -, -, hs⟩ := Go.ChangeMaps.open_string ht hv h
  exact ⟨a, .s _ rfl, hs⟩
theorem arg_slice {e : TypeId} {g : α → D} (ht : P.underlying t = some (.slice e)) (hv : Value.okWide P W r b0 t v) (h : DataW.Trod enc P W 0 (fun _ => true) true t v d ps) (hr : Reads P t (fun a => [g a]) ok) : ∃ a, Rep (OwnS []) W v (g a) ∧ ok a := by
  obtain ⟨a, len, cap, rfl⟩ := okWide_slice ht hv
  obtain ⟨fuel, hf⟩ := h
  obtain ⟨b, h1, h2⟩ := hr fuel _ _ _ _ _ _ (Nat.le_refl _) hf
  exact ⟨b, repL_one h1, h2⟩
theorem arg_struct {fs : Array Field} (ht : P.underlying t = some (.struct fs)) (hv : Value.okWide P W r b0 t v) (h : DataW.Trod enc P W 0 (fun _ => true) true t v d ps) (hr : Reads P t f ok) : ∃ a, Rep (OwnS []) W v (.agg (f a)) ∧ ok a := by
  obtain ⟨cs, rfl, -⟩ := okWide_struct ht hv
  obtain ⟨fuel, hf⟩ := h
  obtain ⟨b, h1, h2⟩ := hr fuel _ _ _ _ _ _ (Nat.le_refl _) hf
  have h3 : RepL (OwnS []) W cs.toList (f b) := h1
  exact ⟨b, by have := Rep.agg (O := OwnS []) (w := W) cs.toList (f b) h3.1 h3.2; simpa using this, h2⟩
/-- Each argument reads behind the call as before. -/
theorem trodAll_stays (hl : laidOutB P = true) {W' : World} (hb : Below W.heap.size W W') : ∀ {ts : List TypeId} {vs : List Value} {ds : List (DataW H)} {p : List MemPlace}, (∀ t ∈ ts, P.readableRec t = true ∧ t < P.types.size) → DataW.TrodAll enc P W 0 (fun _ => true) true ts vs ds p →
    ∃ q, DataW.TrodAll enc P W' 0 (fun b => decide (b < W.heap.size)) true ts vs ds q
  | [], [], [], _, _, _ => ⟨[], rfl⟩
  | t :: ts, v :: vs, d :: ds, p, ht, h => by
    obtain ⟨p1, p2, h1, h2, rfl⟩ := h
    obtain ⟨q, hq⟩ := trodAll_stays hl hb (fun t h => ht t (by simp [h])) h2
    have hlt : ∀ x ∈ p1, x.block < W.heap.size := by obtain ⟨m, hm⟩ := h1; exact DataW.trod_lt m _ _ _ hm
    exact ⟨_, _, q, Below.trod hl (ht t (by simp)).1 (ht t (by simp)).2 h1 hb hlt, hq, rfl⟩
  | [], [], _ :: _, _, _, h => by cases h
  | [], _ :: _, _, _, _, h => by cases h
  | _ :: _, [], _, _, _, h => by cases h
  | _ :: _, _ :: _, [], _, _, h => by cases h
end
end
end Go.Proofs.Ytgofckmlgkniaaa
end

/- What is known of each type of the program (printed by a program of ours off the loaded program's own rows). No statement is proved here. -/
section
namespace Go.Proofs.Ytgofckmlgkniaaa
open Go.RowKit
set_option maxRecDepth 100000
theorem ti1 : tinfo Try.prog 1 = some ⟨false, 1, [Go.Value.nilFunc], .other⟩ := by kernel_rfl
theorem ti2 : tinfo Try.prog 2 = some ⟨false, 1, [Go.Value.int Go.IntKind.i64 0], .int Go.IntKind.i64⟩ := by kernel_rfl
theorem ti3 : tinfo Try.prog 3 = some ⟨false, 1, [Go.Value.int Go.IntKind.i64 0], .int Go.IntKind.i64⟩ := by kernel_rfl
theorem ti4 : tinfo Try.prog 4 = some ⟨false, 1, [Go.Value.bool false], .bool⟩ := by kernel_rfl
theorem ti5 : tinfo Try.prog 5 = some ⟨false, 1, [Go.Value.int Go.IntKind.u8 0], .int Go.IntKind.u8⟩ := by kernel_rfl
theorem ti9 : tinfo Try.prog 9 = some ⟨false, 1, [Go.Value.string ⟨#[]⟩], .string⟩ := by kernel_rfl
theorem ti12 : tinfo Try.prog 12 = some ⟨false, 1, [Go.Value.int Go.IntKind.u64 0], .int Go.IntKind.u64⟩ := by kernel_rfl
theorem ti13 : tinfo Try.prog 13 = some ⟨true, 2, [Go.Value.string ⟨#[]⟩, Go.Value.int Go.IntKind.u64 0], .struct [(0, 1, false), (1, 1, false)]⟩ := by kernel_rfl
theorem ti21 : tinfo Try.prog 21 = some ⟨false, 1, [Go.Value.int Go.IntKind.i32 0], .int Go.IntKind.i32⟩ := by kernel_rfl
theorem ti22 : tinfo Try.prog 22 = some ⟨false, 1, [Go.Value.slice none 0 0], .slice 24 4 56 [Go.Value.int Go.IntKind.i64 0, Go.Value.int Go.IntKind.i64 0, Go.Value.string ⟨#[]⟩, Go.Value.slice none 0 0]⟩ := by kernel_rfl
theorem ti23 : tinfo Try.prog 23 = some ⟨true, 4, [Go.Value.int Go.IntKind.i64 0, Go.Value.int Go.IntKind.i64 0, Go.Value.string ⟨#[]⟩, Go.Value.slice none 0 0], .struct [(0, 1, false), (1, 1, false), (2, 1, false), (3, 1, false)]⟩ := by kernel_rfl
theorem ti24 : tinfo Try.prog 24 = some ⟨true, 4, [Go.Value.int Go.IntKind.i64 0, Go.Value.int Go.IntKind.i64 0, Go.Value.string ⟨#[]⟩, Go.Value.slice none 0 0], .struct [(0, 1, false), (1, 1, false), (2, 1, false), (3, 1, false)]⟩ := by kernel_rfl
theorem ti25 : tinfo Try.prog 25 = some ⟨false, 1, [Go.Value.nilFunc], .other⟩ := by kernel_rfl
theorem ti26 : tinfo Try.prog 26 = some ⟨false, 1, [Go.Value.nilFunc], .other⟩ := by kernel_rfl
theorem ti27 : tinfo Try.prog 27 = some ⟨false, 1, [Go.Value.slice none 0 0], .slice 5 1 1 [Go.Value.int Go.IntKind.u8 0]⟩ := by kernel_rfl
theorem ti28 : tinfo Try.prog 28 = some ⟨false, 1, [Go.Value.nilFunc], .other⟩ := by kernel_rfl
theorem ti29 : tinfo Try.prog 29 = some ⟨false, 1, [Go.Value.nilFunc], .other⟩ := by kernel_rfl
theorem ti30 : tinfo Try.prog 30 = some ⟨false, 1, [Go.Value.nilFunc], .other⟩ := by kernel_rfl
theorem ti31 : tinfo Try.prog 31 = some ⟨false, 1, [Go.Value.nilFunc], .other⟩ := by kernel_rfl
theorem ti32 : tinfo Try.prog 32 = some ⟨false, 1, [Go.Value.nilFunc], .other⟩ := by kernel_rfl
theorem ti33 : tinfo Try.prog 33 = some ⟨false, 1, [Go.Value.nilFunc], .other⟩ := by kernel_rfl
theorem ti34 : tinfo Try.prog 34 = some ⟨false, 1, [Go.Value.pointer none], .pointer⟩ := by kernel_rfl
theorem ti35 : tinfo Try.prog 35 = some ⟨false, 1, [Go.Value.nilFunc], .other⟩ := by kernel_rfl
theorem ti36 : tinfo Try.prog 36 = some ⟨false, 1, [Go.Value.nilFunc], .other⟩ := by kernel_rfl
theorem ti37 : tinfo Try.prog 37 = some ⟨false, 1, [Go.Value.nilFunc], .other⟩ := by kernel_rfl
theorem ti38 : tinfo Try.prog 38 = some ⟨false, 1, [Go.Value.nilFunc], .other⟩ := by kernel_rfl
theorem ti39 : tinfo Try.prog 39 = some ⟨false, 1, [Go.Value.nilFunc], .other⟩ := by kernel_rfl
theorem ti40 : tinfo Try.prog 40 = some ⟨false, 1, [Go.Value.pointer none], .pointer⟩ := by kernel_rfl
theorem ti41 : tinfo Try.prog 41 = some ⟨true, 3, [Go.Value.slice none 0 0, Go.Value.int Go.IntKind.i64 0, Go.Value.bool false], .struct [(0, 1, false), (1, 1, false), (2, 1, false)]⟩ := by kernel_rfl
theorem ti42 : tinfo Try.prog 42 = some ⟨true, 3, [Go.Value.slice none 0 0, Go.Value.int Go.IntKind.i64 0, Go.Value.bool false], .struct [(0, 1, false), (1, 1, false), (2, 1, false)]⟩ := by kernel_rfl
theorem ti43 : tinfo Try.prog 43 = some ⟨false, 1, [Go.Value.nilFunc], .other⟩ := by kernel_rfl
theorem ti44 : tinfo Try.prog 44 = some ⟨false, 1, [Go.Value.nilFunc], .other⟩ := by kernel_rfl
theorem ti45 : tinfo Try.prog 45 = some ⟨false, 1, [Go.Value.nilFunc], .other⟩ := by kernel_rfl
theorem ti46 : tinfo Try.prog 46 = some ⟨false, 1, [Go.Value.nilFunc], .other⟩ := by kernel_rfl
theorem ti47 : tinfo Try.prog 47 = some ⟨false, 1, [Go.Value.nilFunc], .other⟩ := by kernel_rfl
theorem ti48 : tinfo Try.prog 48 = some ⟨false, 1, [Go.Value.nilFunc], .other⟩ := by kernel_rfl
theorem ti49 : tinfo Try.prog 49 = some ⟨false, 1, [Go.Value.nilFunc], .other⟩ := by kernel_rfl
theorem ti50 : tinfo Try.prog 50 = some ⟨false, 1, [Go.Value.nilFunc], .other⟩ := by kernel_rfl
theorem ti51 : tinfo Try.prog 51 = some ⟨false, 1, [Go.Value.nilFunc], .other⟩ := by kernel_rfl
theorem ti52 : tinfo Try.prog 52 = some ⟨false, 1, [Go.Value.nilFunc], .other⟩ := by kernel_rfl
theorem ti53 : tinfo Try.prog 53 = some ⟨false, 1, [Go.Value.nilFunc], .other⟩ := by kernel_rfl
theorem ti54 : tinfo Try.prog 54 = some ⟨false, 1, [Go.Value.nilFunc], .other⟩ := by kernel_rfl
theorem ti55 : tinfo Try.prog 55 = some ⟨false, 1, [Go.Value.nilFunc], .other⟩ := by kernel_rfl
theorem ti56 : tinfo Try.prog 56 = some ⟨false, 1, [Go.Value.nilFunc], .other⟩ := by kernel_rfl
theorem ti57 : tinfo Try.prog 57 = some ⟨false, 1, [Go.Value.int Go.IntKind.u64 0], .int Go.IntKind.u64⟩ := by kernel_rfl
theorem ti58 : tinfo Try.prog 58 = some ⟨true, 2, [Go.Value.slice none 0 0, Go.Value.bool false], .struct [(0, 1, false), (1, 1, false)]⟩ := by kernel_rfl
theorem ti59 : tinfo Try.prog 59 = some ⟨true, 2, [Go.Value.slice none 0 0, Go.Value.bool false], .struct [(0, 1, false), (1, 1, false)]⟩ := by kernel_rfl
theorem ti60 : tinfo Try.prog 60 = some ⟨false, 1, [Go.Value.nilFunc], .other⟩ := by kernel_rfl
theorem ti61 : tinfo Try.prog 61 = some ⟨false, 1, [Go.Value.nilFunc], .other⟩ := by kernel_rfl
theorem ti62 : tinfo Try.prog 62 = some ⟨false, 1, [Go.Value.nilFunc], .other⟩ := by kernel_rfl
theorem ti63 : tinfo Try.prog 63 = some ⟨false, 1, [Go.Value.nilFunc], .other⟩ := by kernel_rfl
theorem ti64 : tinfo Try.prog 64 = some ⟨false, 1, [Go.Value.nilFunc], .other⟩ := by kernel_rfl
theorem ti65 : tinfo Try.prog 65 = some ⟨false, 1, [Go.Value.nilFunc], .other⟩ := by kernel_rfl
theorem ti66 : tinfo Try.prog 66 = some ⟨false, 1, [Go.Value.nilFunc], .other⟩ := by kernel_rfl
theorem ti67 : tinfo Try.prog 67 = some ⟨false, 1, [Go.Value.nilFunc], .other⟩ := by kernel_rfl
theorem ti68 : tinfo Try.prog 68 = some ⟨false, 1, [Go.Value.nilFunc], .other⟩ := by kernel_rfl
theorem ti70 : tinfo Try.prog 70 = some ⟨false, 1, [Go.Value.nilFunc], .other⟩ := by kernel_rfl
theorem ti71 : tinfo Try.prog 71 = some ⟨false, 1, [Go.Value.slice none 0 0], .slice 27 1 24 [Go.Value.slice none 0 0]⟩ := by kernel_rfl
theorem ti72 : tinfo Try.prog 72 = some ⟨false, 1, [Go.Value.nilFunc], .other⟩ := by kernel_rfl
theorem ti73 : tinfo Try.prog 73 = some ⟨false, 1, [Go.Value.nilFunc], .other⟩ := by kernel_rfl
theorem ti74 : tinfo Try.prog 74 = some ⟨false, 1, [Go.Value.slice none 0 0], .slice 9 1 16 [Go.Value.string ⟨#[]⟩]⟩ := by kernel_rfl
theorem ti75 : tinfo Try.prog 75 = some ⟨false, 1, [Go.Value.nilFunc], .other⟩ := by kernel_rfl
theorem ti76 : tinfo Try.prog 76 = some ⟨false, 1, [Go.Value.nilFunc], .other⟩ := by kernel_rfl
theorem ti77 : tinfo Try.prog 77 = some ⟨false, 1, [Go.Value.nilFunc], .other⟩ := by kernel_rfl
theorem ti78 : tinfo Try.prog 78 = some ⟨false, 1, [Go.Value.nilFunc], .other⟩ := by kernel_rfl
theorem ti79 : tinfo Try.prog 79 = some ⟨false, 1, [Go.Value.nilFunc], .other⟩ := by kernel_rfl
theorem ti80 : tinfo Try.prog 80 = some ⟨false, 1, [Go.Value.nilFunc], .other⟩ := by kernel_rfl
theorem ti81 : tinfo Try.prog 81 = some ⟨false, 1, [Go.Value.nilFunc], .other⟩ := by kernel_rfl
theorem ti82 : tinfo Try.prog 82 = some ⟨false, 1, [Go.Value.nilFunc], .other⟩ := by kernel_rfl
theorem ti83 : tinfo Try.prog 83 = some ⟨false, 1, [Go.Value.int Go.IntKind.u64 0], .int Go.IntKind.u64⟩ := by kernel_rfl
theorem ti87 : tinfo Try.prog 87 = some ⟨false, 1, [Go.Value.nilFunc], .other⟩ := by kernel_rfl
theorem ti88 : tinfo Try.prog 88 = some ⟨false, 1, [Go.Value.nilFunc], .other⟩ := by kernel_rfl
theorem ti89 : tinfo Try.prog 89 = some ⟨false, 1, [Go.Value.nilFunc], .other⟩ := by kernel_rfl
theorem ti90 : tinfo Try.prog 90 = some ⟨false, 1, [Go.Value.nilFunc], .other⟩ := by kernel_rfl
theorem ti91 : tinfo Try.prog 91 = some ⟨false, 1, [Go.Value.nilFunc], .other⟩ := by kernel_rfl
theorem ti92 : tinfo Try.prog 92 = some ⟨false, 1, [Go.Value.pointer none], .pointer⟩ := by kernel_rfl
theorem ti93 : tinfo Try.prog 93 = some ⟨true, 2, [Go.Value.pointer none, Go.Value.slice none 0 0], .struct [(0, 1, false), (1, 1, false)]⟩ := by kernel_rfl
theorem ti94 : tinfo Try.prog 94 = some ⟨true, 2, [Go.Value.pointer none, Go.Value.slice none 0 0], .struct [(0, 1, false), (1, 1, false)]⟩ := by kernel_rfl
theorem ti97 : tinfo Try.prog 97 = some ⟨false, 1, [Go.Value.nilFunc], .other⟩ := by kernel_rfl
theorem ti98 : tinfo Try.prog 98 = some ⟨false, 1, [Go.Value.nilFunc], .other⟩ := by kernel_rfl
theorem ti100 : tinfo Try.prog 100 = some ⟨false, 1, [Go.Value.nilFunc], .other⟩ := by kernel_rfl
theorem ti101 : tinfo Try.prog 101 = some ⟨false, 1, [Go.Value.slice none 0 0], .slice 3 1 8 [Go.Value.int Go.IntKind.i64 0]⟩ := by kernel_rfl
theorem ti102 : tinfo Try.prog 102 = some ⟨false, 1, [Go.Value.nilFunc], .other⟩ := by kernel_rfl
theorem ti103 : tinfo Try.prog 103 = some ⟨false, 1, [Go.Value.nilFunc], .other⟩ := by kernel_rfl
theorem ti104 : tinfo Try.prog 104 = some ⟨false, 1, [Go.Value.pointer none], .pointer⟩ := by kernel_rfl
theorem ti106 : tinfo Try.prog 106 = some ⟨false, 1, [Go.Value.nilFunc], .other⟩ := by kernel_rfl
theorem ti107 : tinfo Try.prog 107 = some ⟨false, 1, [Go.Value.nilFunc], .other⟩ := by kernel_rfl
theorem ti109 : tinfo Try.prog 109 = some ⟨false, 1, [Go.Value.nilFunc], .other⟩ := by kernel_rfl
theorem ti111 : tinfo Try.prog 111 = some ⟨false, 1, [Go.Value.nilFunc], .other⟩ := by kernel_rfl
theorem ti112 : tinfo Try.prog 112 = some ⟨false, 1, [Go.Value.nilFunc], .other⟩ := by kernel_rfl
theorem ti113 : tinfo Try.prog 113 = some ⟨false, 1, [Go.Value.nilFunc], .other⟩ := by kernel_rfl
theorem ti114 : tinfo Try.prog 114 = some ⟨false, 1, [Go.Value.nilFunc], .other⟩ := by kernel_rfl
theorem ti115 : tinfo Try.prog 115 = some ⟨false, 1, [Go.Value.nilFunc], .other⟩ := by kernel_rfl
theorem ti117 : tinfo Try.prog 117 = some ⟨false, 1, [Go.Value.nilFunc], .other⟩ := by kernel_rfl
theorem ti118 : tinfo Try.prog 118 = some ⟨false, 1, [Go.Value.nilFunc], .other⟩ := by kernel_rfl
theorem ti124 : tinfo Try.prog 124 = some ⟨false, 1, [Go.Value.int Go.IntKind.u32 0], .int Go.IntKind.u32⟩ := by kernel_rfl
theorem ti127 : tinfo Try.prog 127 = some ⟨false, 1, [Go.Value.nilFunc], .other⟩ := by kernel_rfl
attribute [push_cast] ti2 ti3 ti4 ti5 ti9 ti12 ti13 ti21 ti22 ti23 ti24 ti27 ti34 ti40 ti41 ti42 ti57 ti58 ti59 ti71 ti74 ti83 ti92 ti93 ti94 ti101 ti104 ti124
end Go.Proofs.Ytgofckmlgkniaaa
end

/- Values (api.Value) as data, what layer 3 computes of them, and their reading out of memory. No statement is proved here. -/
section
namespace Go.Proofs.Ytgofckmlgkniaaa
set_option linter.unusedSimpArgs false
open Go.RowKit Go.ChangeShapes

inductive V where
  | mk (k n : Int) (s : ByteArray) (l : List V)
namespace V
mutual
def cells : V → List D
  | .mk k n s l => [.i k, .i n, .str s, .sl .shared (cellsL l)]
def cellsL : List V → List (List D)
  | [] => []
  | x :: l => x.cells :: cellsL l
end
theorem cellsL_map : ∀ l : List V, cellsL l = l.map cells
  | [] => rfl
  | x :: l => by rw [cellsL, cellsL_map l]; rfl
theorem cells_mk (k n : Int) (s : ByteArray) (l : List V) : (V.mk k n s l).cells = [.i k, .i n, .str s, .sl .shared (l.map cells)] := by rw [cells, cellsL_map]
theorem cells_len (v : V) : v.cells.length = 4 := by cases v; rw [cells_mk]; rfl
theorem cells_take (v : V) : v.cells.take 4 = v.cells := List.take_of_length_le (by rw [cells_len]; omega)
theorem cells_leaf (v : V) : ∀ d ∈ v.cells, d.leaf = true := by
  cases v
  rw [cells_mk]
  intro d hd
  simp only [List.mem_cons, List.not_mem_nil, or_false] at hd
  rcases hd with rfl | rfl | rfl | rfl <;> rfl
mutual
/-- How many nodes; how deep. -/
def nodes : V → Nat
  | .mk _ _ _ l => 1 + nodesL l
def nodesL : List V → Nat
  | [] => 0
  | x :: l => x.nodes + nodesL l
end
mutual
def deep : V → Nat
  | .mk k _ _ l => if k = 5 ∨ l ≠ [] then deepL l + 1 else 0
def deepL : List V → Nat
  | [] => 0
  | x :: l => max x.deep (deepL l)
end
theorem nodes_pos (v : V) : 0 < v.nodes := by cases v; rw [nodes]; omega
theorem nodesL_mem {x : V} : ∀ {l : List V}, x ∈ l → x.nodes ≤ nodesL l
  | y :: l, h => by
    rw [nodesL]
    rcases List.mem_cons.1 h with rfl | h
    · omega
    · have := nodesL_mem h; omega
theorem nodes_lt {k n : Int} {s : ByteArray} {l : List V} {x : V} (h : x ∈ l) : x.nodes < (V.mk k n s l).nodes := by
  have := nodesL_mem h
  rw [nodes]; omega
theorem nodesL_len : ∀ l : List V, l.length ≤ nodesL l
  | [] => Nat.le_refl _
  | x :: l => by have := nodesL_len l; have := x.nodes_pos; rw [nodesL, List.length_cons]; omega
theorem nodesL_app : ∀ a b : List V, nodesL (a ++ b) = nodesL a + nodesL b
  | [], b => by rw [List.nil_append, nodesL]; omega
  | x :: a, b => by rw [List.cons_append, nodesL, nodesL, nodesL_app a b]; omega
mutual
theorem deep_le : ∀ v : V, v.deep ≤ v.nodes
  | .mk k n s l => by
    have := deepL_le l
    rw [deep, nodes]
    split <;> omega
theorem deepL_le : ∀ l : List V, deepL l ≤ nodesL l
  | [] => Nat.le_refl _
  | x :: l => by
    have := deep_le x
    have := deepL_le l
    rw [deepL, nodesL]; omega
end
theorem drop_cons {α : Type} {l : List α} {i : Nat} {x : α} (h : l[i]? = some x) : l.drop i = x :: l.drop (i + 1) := by
  obtain ⟨h1, rfl⟩ := List.getElem?_eq_some_iff.1 h
  exact List.drop_eq_getElem_cons h1
theorem mem_of {α : Type} {l : List α} {i : Nat} {x : α} (h : l[i]? = some x) : x ∈ l := List.mem_of_getElem? h
/-- What stands in memory as a value is within Go's bounds. -/
inductive Ok : V → Prop
  | mk {k n : Int} {s : ByteArray} {l : List V} (hk : -9223372036854775808 ≤ k ∧ k ≤ 9223372036854775807) (hn : -9223372036854775808 ≤ n ∧ n ≤ 9223372036854775807) (hs : s.size ≤ maxLen) (hl : l.length ≤ maxLen) (h : ∀ x ∈ l, Ok x) : Ok (.mk k n s l)
end V
theorem i64_bounds {n : Int} (h : (Lit.int .i64 n).wf = true) : -9223372036854775808 ≤ n ∧ n ≤ 9223372036854775807 := by
  simpa [Lit.wf, IntKind.min, IntKind.max, IntKind.bits, IntKind.signed] using h
section
open V
theorem readsV : ∀ n, ReadsN n Try.prog 24 V.cells V.Ok
  | 0 => fun H enc W fuel cs x hf h => by
    obtain rfl : fuel = 0 := by omega
    simp [DataW.trod] at h
  | 1 => fun H enc W fuel cs x hf h => by
    obtain ⟨xs, m, rfl, -, hl, hn, hx⟩ := DataW.trod_struct Try.underlying24 h
    obtain ⟨a, -⟩ := struct_field (i := 0) (n := 0) (f := fun a : Int => [D.i a]) hx hn rfl (k := 1) (by kernel_rfl) (reads_int (k := .i64) Try.underlying3 0) (by omega)
    have := hx 0 _ rfl
    obtain rfl : m = 0 := by omega
    rw [List.getElem?_eq_getElem (by rw [hn]; exact Nat.le_of_ble_eq_true rfl)] at this
    simp [DataW.trod] at this
  | n + 2 => fun H enc W fuel cs x hf h => by
    obtain ⟨xs, m, rfl, -, hl, hn, hx⟩ := DataW.trod_struct Try.underlying24 h
    have hl4 : cs.length = 4 := hl.trans (by kernel_rfl)
    obtain ⟨a, a1, a2⟩ := struct_field (i := 0) (n := n + 1) (f := fun a : Int => [D.i a]) hx hn rfl (k := 1) (by kernel_rfl) (reads_int (k := .i64) Try.underlying3 _) (by omega)
    obtain ⟨b, b1, b2⟩ := struct_field (i := 1) (n := n + 1) (f := fun a : Int => [D.i a]) hx hn rfl (k := 1) (by kernel_rfl) (reads_int (k := .i64) Try.underlying2 _) (by omega)
    obtain ⟨c, c1, c2⟩ := struct_field (i := 2) (n := n + 1) (f := fun a : ByteArray => [D.str a]) hx hn rfl (k := 1) (by kernel_rfl) (reads_string Try.underlying9 _) (by omega)
    obtain ⟨d, d1, d2, d3⟩ := struct_field (i := 3) (n := n + 1) (f := fun l : List V => [D.sl .shared (l.map V.cells)]) hx hn rfl (k := 1) (by kernel_rfl) (reads_slice (sz := 4) Try.underlying22 (by kernel_rfl) (by omega) (readsV n) V.cells_len V.cells_leaf) (by omega)
    refine ⟨.mk a b c d, ?_, .mk (i64_bounds a2) (i64_bounds b2) c2 d3 d2⟩
    rw [V.cells_mk]
    have := RepL.glue a1 (RepL.glue b1 (RepL.glue c1 (RepL.glue d1 (RepL.glue_end hl4))))
    exact this
theorem readsVs : Reads Try.prog 22 (fun l : List V => [D.sl .shared (l.map V.cells)]) fun l => (∀ x ∈ l, V.Ok x) ∧ l.length ≤ maxLen :=
  reads_slice' (sz := 4) Try.underlying22 (by kernel_rfl) (by omega) readsV V.cells_len V.cells_leaf
end
end Go.Proofs.Ytgofckmlgkniaaa
end

/- Layer 6 over data: numbers as bytes. No statement is proved here. -/
section
namespace Go.Proofs.Ytgofckmlgkniaaa
set_option linter.unusedSimpArgs false
open Go.RowKit
set_option maxRecDepth 10000
set_option maxHeartbeats 4000000
namespace B
/-- The low bytes of a number, the highest first. -/
def be : Nat → Nat → List UInt8
  | 0, _ => []
  | m + 1, x => UInt8.ofNat (x / 256 ^ m) :: be m x
theorem be_len : ∀ m x, (be m x).length = m
  | 0, _ => rfl
  | m + 1, x => by rw [be, List.length_cons, be_len m x]
end B
theorem u8_wrap (n : Nat) : IntKind.u8.wrap (n : Int) = ((UInt8.ofNat n).toNat : Int) := by
  rw [UInt8.toNat_ofNat']
  simp [IntKind.wrap, IntKind.bits, IntKind.signed]
theorem chop1_map (l : List UInt8) : chop 1 l.length (l.map D.y) = l.map encB := by
  induction l with
  | nil => rfl
  | cons b l ih => rw [List.length_cons, chop, List.map_cons, List.map_cons, List.take_succ_cons, List.take_zero, List.drop_succ_cons, List.drop_zero, ih]; rfl
open B in
theorem binRowF (x m : Nat) (hm : m ≤ 1000) (st : St) : TrF Try.prog 54 [.s (.int .u64 x), .i m] st fun d st' => d = .sl .tight ((be m x).map encB) ∧ st' = st := by
  refine trF_enter (ts := [4]) Try.func54 rfl (by rw [Try.ntmps54]; exact Nat.le_of_ble_eq_true rfl) (fun tmps w => by simp [results, Try.results54, go_sem, resVal]) ?_
  simp only [Try.ntmps54]
  repeat' (first | ((with_reducible apply ev_go); (focus (try simp (disch := omega) only [push_cast, Nat.reduceEqDiff, reduceCtorEq, ↓reduceIte, Nat.reduceAdd, Nat.reduceMul, Nat.reduceSub, Nat.reduceLT, Nat.reduceLeDiff, Int.reduceToNat, Int.reduceLT, Int.reduceLE, Int.reduceAdd, Int.reduceSub, Int.reduceMul, Int.reduceBEq, Int.reduceBNe, encB, encI, Nat.mul_one, Int.reducePow, *]); (try exact rfl); done)) | ((with_reducible refine w_last ?_ ?_ ?_); (focus kernel_rfl); (focus rfl)) | ((with_reducible apply w_stepG); (focus rfl)) | ((with_reducible apply lk_mem); (focus ((repeat (first | exact List.Mem.head _ | apply List.Mem.tail)); done))) | with_reducible (first | refine w_step0 ?_ | refine w_nil ?_ | refine gd_tt ?_ | refine gd_ff ?_ | refine gd_tf ?_ | refine gd_ft ?_ | refine gd_un ?_ | refine s_move ?_ | refine s_assign ?_ | refine s_bin ?_ | refine s_un ?_ | refine s_conv ?_ | refine s_field ?_ | refine s_fieldAddr ?_ | refine s_ext ?_ | refine s_pick ?_ | refine s_nil ?_ | refine s_load ?_ | refine lk_ip ?_ | refine lk_ptr ?_ | refine s_index ?_ | refine s_indexAddr ?_ | refine s_slice ?_ | refine s_build ?_ | refine s_buildSlice ?_ | refine s_mk ?_ | refine s_store ?_ | refine s_alloc ?_ | refine s_call ?_ | refine s_ip ?_ | refine tr_seq ?_ | refine tr_block ?_ | refine tr_skip ?_ | refine tr_ret ?_ | refine tr_exit ?_ | refine tr_label ?_ | refine strip_norm ?_ | refine strip_ret ?_ | refine strip_exit ?_ | refine blk_norm ?_ | refine blk_ret ?_ | refine blk_same ?_ | refine tr_condT ?_ | refine tr_condCt ?_ | refine tr_condCf ?_) | ((with_reducible apply sto_go); (focus (intro cs'; repeat (first | exact ResAt.here | apply ResAt.there)))) | ((with_reducible refine al_go ?_); intro b) | ((with_reducible refine And.intro ?_ ?_); (focus ((repeat (first | exact keep_none | exact keep_nil | exact keep_ro | refine keep_cons ?_)); done))) | with_reducible refine s_make ?_ | with_reducible refine mk_go ?_ | ((with_reducible apply mk2_go); (focus omega); (focus omega); (focus exact rfl); intro g) | ((with_reducible refine s_bi ?_ ?_); (focus rfl)) | with_reducible refine blk_ne rfl ?_ | ((with_reducible refine w_region ?_ ?_); (focus kernel_rfl)) | ((with_reducible refine w_draw [] ?_ ?_ ?_ ?_ ?_); (iterate 3 (focus kernel_rfl)); (focus exact keeps_nil)) | ((with_reducible first | refine gd_d1 ?_ ?_ | refine gd_d0 ?_ ?_); all_goals (intro hb; (first | with_reducible replace hb := nt_t hb | with_reducible replace hb := nt_f hb | skip); (first | replace hb := of_decide_eq_true hb | replace hb := of_decide_eq_false hb | have hb1 := eq_of_beq hb | have hb1 := ne_of_beq_false hb | have hb1 := bne_t hb | have hb1 := bne_f hb | skip); (try (exfalso; first | contradiction | omega)))))
  refine tr_loop (ι := Nat) (fun q A st' => q ≤ m ∧ A.df = [] ∧ A.e 5 = .ar g 0 m m ∧ A.e 6 = .i ((q : Int) - 1) ∧ A.e 0 = .s (.int .u64 ((x / 256 ^ (m - q) : Nat) : Int)) ∧ ∃ L, st' = .box g 5 L :: st ∧ L.length = m ∧ Hid (L = List.replicate q (.y 0) ++ (be (m - q) x).map D.y)) (fun q => q) m ⟨Nat.le_refl _, rfl, by (first | rfl | assumption | omega | (simp (disch := omega) only [push_cast, Nat.reduceEqDiff, reduceCtorEq, ↓reduceIte, Nat.reduceAdd, Nat.reduceMul, Nat.reduceSub, Nat.reduceLT, Nat.reduceLeDiff, Int.reduceToNat, Int.reduceLT, Int.reduceLE, Int.reduceAdd, Int.reduceSub, Int.reduceMul, Int.reduceBEq, Int.reduceBNe, encB, encI, Nat.mul_one, Int.reducePow, *]; try omega; done)), by (first | rfl | assumption | omega | (simp (disch := omega) only [push_cast, Nat.reduceEqDiff, reduceCtorEq, ↓reduceIte, Nat.reduceAdd, Nat.reduceMul, Nat.reduceSub, Nat.reduceLT, Nat.reduceLeDiff, Int.reduceToNat, Int.reduceLT, Int.reduceLE, Int.reduceAdd, Int.reduceSub, Int.reduceMul, Int.reduceBEq, Int.reduceBNe, encB, encI, Nat.mul_one, Int.reducePow, *]; try omega; done)), by rw [Nat.sub_self, Nat.pow_zero, Nat.div_one]; rfl, _, rfl, List.length_replicate, by rw [Nat.sub_self]; show List.replicate m _ = List.replicate m _ ++ []; rw [List.append_nil]; rfl⟩ ?_
  rintro q A st' ⟨hq, hdf, e5, e6, e0, L, rfl, hL, HL⟩
  cases q with
  | zero =>
    have hLe := HL.out
    rw [Nat.sub_zero, List.replicate_zero, List.nil_append] at hLe
    have hfin := chop1_map (be m x)
    rw [be_len, ← hLe] at hfin
    refine tr_freezeA .tight (.inr rfl) (n := m) (off := 0) (cap := m) [5] 1 (.refl _) (by omega) (by rw [hL]; omega) (fun _ => rfl) (fun t ht => by rw [List.mem_singleton.1 ht]; exact e5) fun A' hdf' h1 h2 => ?_
    have e5' := h1 5 (List.mem_singleton.2 rfl)
    have e6' := h2 6 rfl
    rw [e6] at e6'
    rw [List.drop_zero, hfin] at e5'
    rw [hdf] at hdf'
    clear h1 h2 e5 e6 e0 hLe hfin HL hL hdf
    repeat' (first | ((with_reducible apply ev_go); (focus (try simp (disch := omega) only [push_cast, Nat.reduceEqDiff, reduceCtorEq, ↓reduceIte, Nat.reduceAdd, Nat.reduceMul, Nat.reduceSub, Nat.reduceLT, Nat.reduceLeDiff, Int.reduceToNat, Int.reduceLT, Int.reduceLE, Int.reduceAdd, Int.reduceSub, Int.reduceMul, Int.reduceBEq, Int.reduceBNe, encB, encI, Nat.mul_one, Int.reducePow, *]); (try exact rfl); done)) | ((with_reducible refine w_last ?_ ?_ ?_); (focus kernel_rfl); (focus rfl)) | ((with_reducible apply w_stepG); (focus rfl)) | ((with_reducible apply lk_mem); (focus ((repeat (first | exact List.Mem.head _ | apply List.Mem.tail)); done))) | with_reducible (first | refine w_step0 ?_ | refine w_nil ?_ | refine gd_tt ?_ | refine gd_ff ?_ | refine gd_tf ?_ | refine gd_ft ?_ | refine gd_un ?_ | refine s_move ?_ | refine s_assign ?_ | refine s_bin ?_ | refine s_un ?_ | refine s_conv ?_ | refine s_field ?_ | refine s_fieldAddr ?_ | refine s_ext ?_ | refine s_pick ?_ | refine s_nil ?_ | refine s_load ?_ | refine lk_ip ?_ | refine lk_ptr ?_ | refine s_index ?_ | refine s_indexAddr ?_ | refine s_slice ?_ | refine s_build ?_ | refine s_buildSlice ?_ | refine s_mk ?_ | refine s_store ?_ | refine s_alloc ?_ | refine s_call ?_ | refine s_ip ?_ | refine tr_seq ?_ | refine tr_block ?_ | refine tr_skip ?_ | refine tr_ret ?_ | refine tr_exit ?_ | refine tr_label ?_ | refine strip_norm ?_ | refine strip_ret ?_ | refine strip_exit ?_ | refine blk_norm ?_ | refine blk_ret ?_ | refine blk_same ?_ | refine tr_condT ?_ | refine tr_condCt ?_ | refine tr_condCf ?_) | ((with_reducible apply sto_go); (focus (intro cs'; repeat (first | exact ResAt.here | apply ResAt.there)))) | ((with_reducible refine al_go ?_); intro b) | ((with_reducible refine And.intro ?_ ?_); (focus ((repeat (first | exact keep_none | exact keep_nil | exact keep_ro | refine keep_cons ?_)); done))) | ((with_reducible refine s_bi ?_ ?_); (focus rfl)) | with_reducible refine blk_ne rfl ?_ | ((with_reducible refine w_region ?_ ?_); (focus kernel_rfl)) | ((with_reducible refine w_draw [] ?_ ?_ ?_ ?_ ?_); (iterate 3 (focus kernel_rfl)); (focus exact keeps_nil)) | ((with_reducible first | refine gd_d1 ?_ ?_ | refine gd_d0 ?_ ?_); all_goals (intro hb; (first | with_reducible replace hb := nt_t hb | with_reducible replace hb := nt_f hb | skip); (first | replace hb := of_decide_eq_true hb | replace hb := of_decide_eq_false hb | have hb1 := eq_of_beq hb | have hb1 := ne_of_beq_false hb | have hb1 := bne_t hb | have hb1 := bne_f hb | skip); (try (exfalso; first | contradiction | omega)))))
    all_goals (refine ret_eq (by first | exact .inl rfl | exact .inr rfl) (by first | rfl | assumption) (by (repeat (first | exact List.Sublist.refl _ | apply List.Sublist.cons))) ?_; (try simp (disch := omega) only [push_cast, Nat.reduceEqDiff, reduceCtorEq, ↓reduceIte, Nat.reduceAdd, Nat.reduceMul, Nat.reduceSub, Nat.reduceLT, Nat.reduceLeDiff, Int.reduceToNat, Int.reduceLT, Int.reduceLE, Int.reduceAdd, Int.reduceSub, Int.reduceMul, Int.reduceBEq, Int.reduceBNe, encB, encI, Nat.mul_one, Int.reducePow, *]); try (first | exact LE.refl _ | exact LE.sl _ _ | (refine LE.tup ?_; (repeat' (first | exact LEL.nil | refine LEL.cons ?_ ?_ | exact LE.refl _ | exact LE.sl _ _ | refine LE.agg ?_)); done) | (refine LE.agg ?_; (repeat' (first | exact LEL.nil | refine LEL.cons ?_ ?_ | exact LE.refl _ | exact LE.sl _ _)); done) | refine LE.of_eq ?_))
  | succ i =>
    replace e6 : A.e 6 = .i i := by rw [e6]; congr 2; omega
    have hLe := HL.out
    have ht : L.take i = List.replicate i (.y 0) := by
      rw [hLe, List.take_append_of_le_length (by simp), List.take_replicate, Nat.min_eq_left (by omega)]
    have hd : L.drop (i + 1) = (be (m - (i + 1)) x).map D.y := by
      rw [hLe, List.drop_left' (by simp)]
    have hX : ((x / 256 ^ (m - (i + 1)) : Nat) : Int) / 256 = ((x / 256 ^ (m - i) : Nat) : Int) := by
      rw [show m - i = (m - (i + 1)) + 1 by omega, Nat.pow_succ, ← Nat.div_div_eq_div_mul]; rfl
    have hB : be (m - i) x = UInt8.ofNat (x / 256 ^ (m - (i + 1))) :: be (m - (i + 1)) x := by
      rw [show m - i = (m - (i + 1)) + 1 by omega, be]
    have hW := u8_wrap (x / 256 ^ (m - (i + 1)))
    generalize x / 256 ^ (m - (i + 1)) = X at *
    have hNew : Hid (List.replicate i (.y 0) ++ [D.y (UInt8.ofNat X)] ++ (be (m - (i + 1)) x).map D.y = List.replicate i (.y 0) ++ (be (m - i) x).map D.y) := by
      show _ = _
      rw [hB]; simp
    have hTl : ((be (m - (i + 1)) x).map D.y).length = m - (i + 1) := by rw [List.length_map, be_len]
    clear hLe HL hB
    generalize (be (m - (i + 1)) x).map D.y = T at *
    repeat' (first | ((with_reducible apply ev_go); (focus (try simp (disch := omega) only [push_cast, Nat.reduceEqDiff, reduceCtorEq, ↓reduceIte, Nat.reduceAdd, Nat.reduceMul, Nat.reduceSub, Nat.reduceLT, Nat.reduceLeDiff, Int.reduceToNat, Int.reduceLT, Int.reduceLE, Int.reduceAdd, Int.reduceSub, Int.reduceMul, Int.reduceBEq, Int.reduceBNe, encB, encI, Nat.mul_one, Int.reducePow, *]); (try exact rfl); done)) | ((with_reducible refine w_last ?_ ?_ ?_); (focus kernel_rfl); (focus rfl)) | ((with_reducible apply w_stepG); (focus rfl)) | ((with_reducible apply lk_mem); (focus ((repeat (first | exact List.Mem.head _ | apply List.Mem.tail)); done))) | with_reducible (first | refine w_step0 ?_ | refine w_nil ?_ | refine gd_tt ?_ | refine gd_ff ?_ | refine gd_tf ?_ | refine gd_ft ?_ | refine gd_un ?_ | refine s_move ?_ | refine s_assign ?_ | refine s_bin ?_ | refine s_un ?_ | refine s_conv ?_ | refine s_field ?_ | refine s_fieldAddr ?_ | refine s_ext ?_ | refine s_pick ?_ | refine s_nil ?_ | refine s_load ?_ | refine lk_ip ?_ | refine lk_ptr ?_ | refine s_index ?_ | refine s_indexAddr ?_ | refine s_slice ?_ | refine s_build ?_ | refine s_buildSlice ?_ | refine s_mk ?_ | refine s_store ?_ | refine s_alloc ?_ | refine s_call ?_ | refine s_ip ?_ | refine tr_seq ?_ | refine tr_block ?_ | refine tr_skip ?_ | refine tr_ret ?_ | refine tr_exit ?_ | refine tr_label ?_ | refine strip_norm ?_ | refine strip_ret ?_ | refine strip_exit ?_ | refine blk_norm ?_ | refine blk_ret ?_ | refine blk_same ?_ | refine tr_condT ?_ | refine tr_condCt ?_ | refine tr_condCf ?_) | ((with_reducible apply sto_go); (focus (intro cs'; repeat (first | exact ResAt.here | apply ResAt.there)))) | ((with_reducible refine al_go ?_); intro b) | ((with_reducible refine And.intro ?_ ?_); (focus ((repeat (first | exact keep_none | exact keep_nil | exact keep_ro | refine keep_cons ?_)); done))) | ((with_reducible refine s_bi ?_ ?_); (focus rfl)) | with_reducible refine blk_ne rfl ?_ | ((with_reducible refine w_region ?_ ?_); (focus kernel_rfl)) | ((with_reducible refine w_draw [] ?_ ?_ ?_ ?_ ?_); (iterate 3 (focus kernel_rfl)); (focus exact keeps_nil)) | ((with_reducible first | refine gd_d1 ?_ ?_ | refine gd_d0 ?_ ?_); all_goals (intro hb; (first | with_reducible replace hb := nt_t hb | with_reducible replace hb := nt_f hb | skip); (first | replace hb := of_decide_eq_true hb | replace hb := of_decide_eq_false hb | have hb1 := eq_of_beq hb | have hb1 := ne_of_beq_false hb | have hb1 := bne_t hb | have hb1 := bne_f hb | skip); (try (exfalso; first | contradiction | omega)))))
    refine ⟨i, ⟨by omega, ?_, ?_, ?_, ?_, _, rfl, by simp; omega, hNew⟩, ?_⟩
    all_goals (first | rfl | assumption | omega | (simp (disch := omega) only [push_cast, Nat.reduceEqDiff, reduceCtorEq, ↓reduceIte, Nat.reduceAdd, Nat.reduceMul, Nat.reduceSub, Nat.reduceLT, Nat.reduceLeDiff, Int.reduceToNat, Int.reduceLT, Int.reduceLE, Int.reduceAdd, Int.reduceSub, Int.reduceMul, Int.reduceBEq, Int.reduceBNe, encB, encI, Nat.mul_one, Int.reducePow, *]; try omega; done))
open B in
theorem binNumF (n : Int) (st : St) : TrF Try.prog 14 [.i n] st fun d st' => d = .sl .tight ((if 0 ≤ n ∧ n ≤ 2147483647 then be 4 n.toNat else []).map encB) ∧ st' = st := by
  refine trF_enter (ts := [2]) Try.func14 rfl (by rw [Try.ntmps14]; exact Nat.le_of_ble_eq_true rfl) (fun tmps w => by simp [results, Try.results14, go_sem, resVal]) ?_
  simp only [Try.ntmps14]
  by_cases h : 0 ≤ n ∧ n ≤ 2147483647
  · rw [if_pos h]
    obtain ⟨m, rfl⟩ : ∃ m : Nat, n = m := ⟨n.toNat, by omega⟩
    obtain ⟨h1, h2⟩ := h
    have hW : IntKind.u64.wrap (m : Int) = m := by simp [IntKind.wrap, IntKind.bits, IntKind.signed]; omega
    rw [Int.toNat_natCast]
    repeat' (first | ((with_reducible apply ev_go); (focus (try simp (disch := omega) only [push_cast, Nat.reduceEqDiff, reduceCtorEq, ↓reduceIte, Nat.reduceAdd, Nat.reduceMul, Nat.reduceSub, Nat.reduceLT, Nat.reduceLeDiff, Int.reduceToNat, Int.reduceLT, Int.reduceLE, Int.reduceAdd, Int.reduceSub, Int.reduceMul, Int.reduceBEq, Int.reduceBNe, encB, encI, Nat.mul_one, Int.reducePow, *]); (try exact rfl); done)) | ((with_reducible refine w_last ?_ ?_ ?_); (focus kernel_rfl); (focus rfl)) | ((with_reducible apply w_stepG); (focus rfl)) | ((with_reducible apply lk_mem); (focus ((repeat (first | exact List.Mem.head _ | apply List.Mem.tail)); done))) | with_reducible (first | refine w_step0 ?_ | refine w_nil ?_ | refine gd_tt ?_ | refine gd_ff ?_ | refine gd_tf ?_ | refine gd_ft ?_ | refine gd_un ?_ | refine s_move ?_ | refine s_assign ?_ | refine s_bin ?_ | refine s_un ?_ | refine s_conv ?_ | refine s_field ?_ | refine s_fieldAddr ?_ | refine s_ext ?_ | refine s_pick ?_ | refine s_nil ?_ | refine s_load ?_ | refine lk_ip ?_ | refine lk_ptr ?_ | refine s_index ?_ | refine s_indexAddr ?_ | refine s_slice ?_ | refine s_build ?_ | refine s_buildSlice ?_ | refine s_mk ?_ | refine s_store ?_ | refine s_alloc ?_ | refine s_call ?_ | refine s_ip ?_ | refine tr_seq ?_ | refine tr_block ?_ | refine tr_skip ?_ | refine tr_ret ?_ | refine tr_exit ?_ | refine tr_label ?_ | refine strip_norm ?_ | refine strip_ret ?_ | refine strip_exit ?_ | refine blk_norm ?_ | refine blk_ret ?_ | refine blk_same ?_ | refine tr_condT ?_ | refine tr_condCt ?_ | refine tr_condCf ?_) | ((with_reducible apply sto_go); (focus (intro cs'; repeat (first | exact ResAt.here | apply ResAt.there)))) | ((with_reducible refine al_go ?_); intro b) | ((with_reducible refine And.intro ?_ ?_); (focus ((repeat (first | exact keep_none | exact keep_nil | exact keep_ro | refine keep_cons ?_)); done))) | ((with_reducible apply (ck_le Try.call54)); (focus exact LEL.refl _); (focus exact binRowF m 4 (by omega) _)) | ((with_reducible refine s_bi ?_ ?_); (focus rfl)) | with_reducible refine blk_ne rfl ?_ | ((with_reducible refine w_region ?_ ?_); (focus kernel_rfl)) | ((with_reducible refine w_draw [] ?_ ?_ ?_ ?_ ?_); (iterate 3 (focus kernel_rfl)); (focus exact keeps_nil)) | ((with_reducible first | refine gd_d1 ?_ ?_ | refine gd_d0 ?_ ?_); all_goals (intro hb; (first | with_reducible replace hb := nt_t hb | with_reducible replace hb := nt_f hb | skip); (first | replace hb := of_decide_eq_true hb | replace hb := of_decide_eq_false hb | have hb1 := eq_of_beq hb | have hb1 := ne_of_beq_false hb | have hb1 := bne_t hb | have hb1 := bne_f hb | skip); (try (exfalso; first | contradiction | omega)))))
    all_goals (refine ret_eq (by first | exact .inl rfl | exact .inr rfl) (by first | rfl | assumption) (by (repeat (first | exact List.Sublist.refl _ | apply List.Sublist.cons))) ?_; (try simp (disch := omega) only [push_cast, Nat.reduceEqDiff, reduceCtorEq, ↓reduceIte, Nat.reduceAdd, Nat.reduceMul, Nat.reduceSub, Nat.reduceLT, Nat.reduceLeDiff, Int.reduceToNat, Int.reduceLT, Int.reduceLE, Int.reduceAdd, Int.reduceSub, Int.reduceMul, Int.reduceBEq, Int.reduceBNe, encB, encI, Nat.mul_one, Int.reducePow, *]); try (first | exact LE.refl _ | exact LE.sl _ _ | (refine LE.tup ?_; (repeat' (first | exact LEL.nil | refine LEL.cons ?_ ?_ | exact LE.refl _ | exact LE.sl _ _ | refine LE.agg ?_)); done) | (refine LE.agg ?_; (repeat' (first | exact LEL.nil | refine LEL.cons ?_ ?_ | exact LE.refl _ | exact LE.sl _ _)); done) | refine LE.of_eq ?_))
  · rw [if_neg h]
    repeat' (first | ((with_reducible apply ev_go); (focus (try simp (disch := omega) only [push_cast, Nat.reduceEqDiff, reduceCtorEq, ↓reduceIte, Nat.reduceAdd, Nat.reduceMul, Nat.reduceSub, Nat.reduceLT, Nat.reduceLeDiff, Int.reduceToNat, Int.reduceLT, Int.reduceLE, Int.reduceAdd, Int.reduceSub, Int.reduceMul, Int.reduceBEq, Int.reduceBNe, encB, encI, Nat.mul_one, Int.reducePow, *]); (try exact rfl); done)) | ((with_reducible refine w_last ?_ ?_ ?_); (focus kernel_rfl); (focus rfl)) | ((with_reducible apply w_stepG); (focus rfl)) | ((with_reducible apply lk_mem); (focus ((repeat (first | exact List.Mem.head _ | apply List.Mem.tail)); done))) | with_reducible (first | refine w_step0 ?_ | refine w_nil ?_ | refine gd_tt ?_ | refine gd_ff ?_ | refine gd_tf ?_ | refine gd_ft ?_ | refine gd_un ?_ | refine s_move ?_ | refine s_assign ?_ | refine s_bin ?_ | refine s_un ?_ | refine s_conv ?_ | refine s_field ?_ | refine s_fieldAddr ?_ | refine s_ext ?_ | refine s_pick ?_ | refine s_nil ?_ | refine s_load ?_ | refine lk_ip ?_ | refine lk_ptr ?_ | refine s_index ?_ | refine s_indexAddr ?_ | refine s_slice ?_ | refine s_build ?_ | refine s_buildSlice ?_ | refine s_mk ?_ | refine s_store ?_ | refine s_alloc ?_ | refine s_call ?_ | refine s_ip ?_ | refine tr_seq ?_ | refine tr_block ?_ | refine tr_skip ?_ | refine tr_ret ?_ | refine tr_exit ?_ | refine tr_label ?_ | refine strip_norm ?_ | refine strip_ret ?_ | refine strip_exit ?_ | refine blk_norm ?_ | refine blk_ret ?_ | refine blk_same ?_ | refine tr_condT ?_ | refine tr_condCt ?_ | refine tr_condCf ?_) | ((with_reducible apply sto_go); (focus (intro cs'; repeat (first | exact ResAt.here | apply ResAt.there)))) | ((with_reducible refine al_go ?_); intro b) | ((with_reducible refine And.intro ?_ ?_); (focus ((repeat (first | exact keep_none | exact keep_nil | exact keep_ro | refine keep_cons ?_)); done))) | ((with_reducible refine s_bi ?_ ?_); (focus rfl)) | with_reducible refine blk_ne rfl ?_ | ((with_reducible refine w_region ?_ ?_); (focus kernel_rfl)) | ((with_reducible refine w_draw [] ?_ ?_ ?_ ?_ ?_); (iterate 3 (focus kernel_rfl)); (focus exact keeps_nil)) | ((with_reducible first | refine gd_d1 ?_ ?_ | refine gd_d0 ?_ ?_); all_goals (intro hb; (first | with_reducible replace hb := nt_t hb | with_reducible replace hb := nt_f hb | skip); (first | replace hb := of_decide_eq_true hb | replace hb := of_decide_eq_false hb | have hb1 := eq_of_beq hb | have hb1 := ne_of_beq_false hb | have hb1 := bne_t hb | have hb1 := bne_f hb | skip); (try (exfalso; first | contradiction | omega)))))
    all_goals (refine ret_eq (by first | exact .inl rfl | exact .inr rfl) (by first | rfl | assumption) (by (repeat (first | exact List.Sublist.refl _ | apply List.Sublist.cons))) ?_; (try simp (disch := omega) only [push_cast, Nat.reduceEqDiff, reduceCtorEq, ↓reduceIte, Nat.reduceAdd, Nat.reduceMul, Nat.reduceSub, Nat.reduceLT, Nat.reduceLeDiff, Int.reduceToNat, Int.reduceLT, Int.reduceLE, Int.reduceAdd, Int.reduceSub, Int.reduceMul, Int.reduceBEq, Int.reduceBNe, encB, encI, Nat.mul_one, Int.reducePow, *]); try (first | exact LE.refl _ | exact LE.sl _ _ | (refine LE.tup ?_; (repeat' (first | exact LEL.nil | refine LEL.cons ?_ ?_ | exact LE.refl _ | exact LE.sl _ _ | refine LE.agg ?_)); done) | (refine LE.agg ?_; (repeat' (first | exact LEL.nil | refine LEL.cons ?_ ?_ | exact LE.refl _ | exact LE.sl _ _)); done) | refine LE.of_eq ?_))
open B in
theorem binLongF (n : Int) (hn : -9223372036854775808 ≤ n ∧ n ≤ 9223372036854775807) (st : St) : TrF Try.prog 16 [.i n] st fun d st' => d = .sl .tight ((be 8 (IntKind.u64.wrap n).toNat).map encB) ∧ st' = st := by
  refine trF_enter (ts := [2]) Try.func16 rfl (by rw [Try.ntmps16]; exact Nat.le_of_ble_eq_true rfl) (fun tmps w => by simp [results, Try.results16, go_sem, resVal]) ?_
  simp only [Try.ntmps16]
  obtain ⟨m, hm⟩ : ∃ m : Nat, IntKind.u64.wrap n = m := ⟨(IntKind.u64.wrap n).toNat, by
    have : 0 ≤ IntKind.u64.wrap n := by simp [IntKind.wrap, IntKind.bits, IntKind.signed]; omega
    omega⟩
  rw [hm, Int.toNat_natCast]
  repeat' (first | ((with_reducible apply ev_go); (focus (try simp (disch := omega) only [push_cast, Nat.reduceEqDiff, reduceCtorEq, ↓reduceIte, Nat.reduceAdd, Nat.reduceMul, Nat.reduceSub, Nat.reduceLT, Nat.reduceLeDiff, Int.reduceToNat, Int.reduceLT, Int.reduceLE, Int.reduceAdd, Int.reduceSub, Int.reduceMul, Int.reduceBEq, Int.reduceBNe, encB, encI, Nat.mul_one, Int.reducePow, *]); (try exact rfl); done)) | ((with_reducible refine w_last ?_ ?_ ?_); (focus kernel_rfl); (focus rfl)) | ((with_reducible apply w_stepG); (focus rfl)) | ((with_reducible apply lk_mem); (focus ((repeat (first | exact List.Mem.head _ | apply List.Mem.tail)); done))) | with_reducible (first | refine w_step0 ?_ | refine w_nil ?_ | refine gd_tt ?_ | refine gd_ff ?_ | refine gd_tf ?_ | refine gd_ft ?_ | refine gd_un ?_ | refine s_move ?_ | refine s_assign ?_ | refine s_bin ?_ | refine s_un ?_ | refine s_conv ?_ | refine s_field ?_ | refine s_fieldAddr ?_ | refine s_ext ?_ | refine s_pick ?_ | refine s_nil ?_ | refine s_load ?_ | refine lk_ip ?_ | refine lk_ptr ?_ | refine s_index ?_ | refine s_indexAddr ?_ | refine s_slice ?_ | refine s_build ?_ | refine s_buildSlice ?_ | refine s_mk ?_ | refine s_store ?_ | refine s_alloc ?_ | refine s_call ?_ | refine s_ip ?_ | refine tr_seq ?_ | refine tr_block ?_ | refine tr_skip ?_ | refine tr_ret ?_ | refine tr_exit ?_ | refine tr_label ?_ | refine strip_norm ?_ | refine strip_ret ?_ | refine strip_exit ?_ | refine blk_norm ?_ | refine blk_ret ?_ | refine blk_same ?_ | refine tr_condT ?_ | refine tr_condCt ?_ | refine tr_condCf ?_) | ((with_reducible apply sto_go); (focus (intro cs'; repeat (first | exact ResAt.here | apply ResAt.there)))) | ((with_reducible refine al_go ?_); intro b) | ((with_reducible refine And.intro ?_ ?_); (focus ((repeat (first | exact keep_none | exact keep_nil | exact keep_ro | refine keep_cons ?_)); done))) | ((with_reducible apply (ck_le Try.call54)); (focus exact LEL.refl _); (focus exact binRowF m 8 (by omega) _)) | ((with_reducible refine s_bi ?_ ?_); (focus rfl)) | with_reducible refine blk_ne rfl ?_ | ((with_reducible refine w_region ?_ ?_); (focus kernel_rfl)) | ((with_reducible refine w_draw [] ?_ ?_ ?_ ?_ ?_); (iterate 3 (focus kernel_rfl)); (focus exact keeps_nil)) | ((with_reducible first | refine gd_d1 ?_ ?_ | refine gd_d0 ?_ ?_); all_goals (intro hb; (first | with_reducible replace hb := nt_t hb | with_reducible replace hb := nt_f hb | skip); (first | replace hb := of_decide_eq_true hb | replace hb := of_decide_eq_false hb | have hb1 := eq_of_beq hb | have hb1 := ne_of_beq_false hb | have hb1 := bne_t hb | have hb1 := bne_f hb | skip); (try (exfalso; first | contradiction | omega)))))
  all_goals (refine ret_eq (by first | exact .inl rfl | exact .inr rfl) (by first | rfl | assumption) (by (repeat (first | exact List.Sublist.refl _ | apply List.Sublist.cons))) ?_; (try simp (disch := omega) only [push_cast, Nat.reduceEqDiff, reduceCtorEq, ↓reduceIte, Nat.reduceAdd, Nat.reduceMul, Nat.reduceSub, Nat.reduceLT, Nat.reduceLeDiff, Int.reduceToNat, Int.reduceLT, Int.reduceLE, Int.reduceAdd, Int.reduceSub, Int.reduceMul, Int.reduceBEq, Int.reduceBNe, encB, encI, Nat.mul_one, Int.reducePow, *]); try (first | exact LE.refl _ | exact LE.sl _ _ | (refine LE.tup ?_; (repeat' (first | exact LEL.nil | refine LEL.cons ?_ ?_ | exact LE.refl _ | exact LE.sl _ _ | refine LE.agg ?_)); done) | (refine LE.agg ?_; (repeat' (first | exact LEL.nil | refine LEL.cons ?_ ?_ | exact LE.refl _ | exact LE.sl _ _)); done) | refine LE.of_eq ?_))
open B in
theorem binByteF (n : Int) (st : St) : TrF Try.prog 22 [.i n] st fun d st' => d = .sl .tight ((if 0 ≤ n ∧ n ≤ 255 then [UInt8.ofNat n.toNat] else []).map encB) ∧ st' = st := by
  refine trF_enter (ts := [2]) Try.func22 rfl (by rw [Try.ntmps22]; exact Nat.le_of_ble_eq_true rfl) (fun tmps w => by simp [results, Try.results22, go_sem, resVal]) ?_
  simp only [Try.ntmps22]
  by_cases h : 0 ≤ n ∧ n ≤ 255
  · rw [if_pos h]
    obtain ⟨m, rfl⟩ : ∃ m : Nat, n = m := ⟨n.toNat, by omega⟩
    obtain ⟨h1, h2⟩ := h
    have hW := u8_wrap m
    rw [Int.toNat_natCast]
    repeat' (first | ((with_reducible apply ev_go); (focus (try simp (disch := omega) only [push_cast, Nat.reduceEqDiff, reduceCtorEq, ↓reduceIte, Nat.reduceAdd, Nat.reduceMul, Nat.reduceSub, Nat.reduceLT, Nat.reduceLeDiff, Int.reduceToNat, Int.reduceLT, Int.reduceLE, Int.reduceAdd, Int.reduceSub, Int.reduceMul, Int.reduceBEq, Int.reduceBNe, encB, encI, Nat.mul_one, Int.reducePow, *]); (try exact rfl); done)) | ((with_reducible refine w_last ?_ ?_ ?_); (focus kernel_rfl); (focus rfl)) | ((with_reducible apply w_stepG); (focus rfl)) | ((with_reducible apply lk_mem); (focus ((repeat (first | exact List.Mem.head _ | apply List.Mem.tail)); done))) | with_reducible (first | refine w_step0 ?_ | refine w_nil ?_ | refine gd_tt ?_ | refine gd_ff ?_ | refine gd_tf ?_ | refine gd_ft ?_ | refine gd_un ?_ | refine s_move ?_ | refine s_assign ?_ | refine s_bin ?_ | refine s_un ?_ | refine s_conv ?_ | refine s_field ?_ | refine s_fieldAddr ?_ | refine s_ext ?_ | refine s_pick ?_ | refine s_nil ?_ | refine s_load ?_ | refine lk_ip ?_ | refine lk_ptr ?_ | refine s_index ?_ | refine s_indexAddr ?_ | refine s_slice ?_ | refine s_build ?_ | refine s_buildSlice ?_ | refine s_mk ?_ | refine s_store ?_ | refine s_alloc ?_ | refine s_call ?_ | refine s_ip ?_ | refine tr_seq ?_ | refine tr_block ?_ | refine tr_skip ?_ | refine tr_ret ?_ | refine tr_exit ?_ | refine tr_label ?_ | refine strip_norm ?_ | refine strip_ret ?_ | refine strip_exit ?_ | refine blk_norm ?_ | refine blk_ret ?_ | refine blk_same ?_ | refine tr_condT ?_ | refine tr_condCt ?_ | refine tr_condCf ?_) | ((with_reducible apply sto_go); (focus (intro cs'; repeat (first | exact ResAt.here | apply ResAt.there)))) | ((with_reducible refine al_go ?_); intro b) | ((with_reducible refine And.intro ?_ ?_); (focus ((repeat (first | exact keep_none | exact keep_nil | exact keep_ro | refine keep_cons ?_)); done))) | ((with_reducible refine s_bi ?_ ?_); (focus rfl)) | with_reducible refine blk_ne rfl ?_ | ((with_reducible refine w_region ?_ ?_); (focus kernel_rfl)) | ((with_reducible refine w_draw [] ?_ ?_ ?_ ?_ ?_); (iterate 3 (focus kernel_rfl)); (focus exact keeps_nil)) | ((with_reducible first | refine gd_d1 ?_ ?_ | refine gd_d0 ?_ ?_); all_goals (intro hb; (first | with_reducible replace hb := nt_t hb | with_reducible replace hb := nt_f hb | skip); (first | replace hb := of_decide_eq_true hb | replace hb := of_decide_eq_false hb | have hb1 := eq_of_beq hb | have hb1 := ne_of_beq_false hb | have hb1 := bne_t hb | have hb1 := bne_f hb | skip); (try (exfalso; first | contradiction | omega)))))
    all_goals (refine ret_eq (by first | exact .inl rfl | exact .inr rfl) (by first | rfl | assumption) (by (repeat (first | exact List.Sublist.refl _ | apply List.Sublist.cons))) ?_; (try simp (disch := omega) only [push_cast, Nat.reduceEqDiff, reduceCtorEq, ↓reduceIte, Nat.reduceAdd, Nat.reduceMul, Nat.reduceSub, Nat.reduceLT, Nat.reduceLeDiff, Int.reduceToNat, Int.reduceLT, Int.reduceLE, Int.reduceAdd, Int.reduceSub, Int.reduceMul, Int.reduceBEq, Int.reduceBNe, encB, encI, Nat.mul_one, Int.reducePow, *]); try (first | exact LE.refl _ | exact LE.sl _ _ | (refine LE.tup ?_; (repeat' (first | exact LEL.nil | refine LEL.cons ?_ ?_ | exact LE.refl _ | exact LE.sl _ _ | refine LE.agg ?_)); done) | (refine LE.agg ?_; (repeat' (first | exact LEL.nil | refine LEL.cons ?_ ?_ | exact LE.refl _ | exact LE.sl _ _)); done) | refine LE.of_eq ?_))
  · rw [if_neg h]
    repeat' (first | ((with_reducible apply ev_go); (focus (try simp (disch := omega) only [push_cast, Nat.reduceEqDiff, reduceCtorEq, ↓reduceIte, Nat.reduceAdd, Nat.reduceMul, Nat.reduceSub, Nat.reduceLT, Nat.reduceLeDiff, Int.reduceToNat, Int.reduceLT, Int.reduceLE, Int.reduceAdd, Int.reduceSub, Int.reduceMul, Int.reduceBEq, Int.reduceBNe, encB, encI, Nat.mul_one, Int.reducePow, *]); (try exact rfl); done)) | ((with_reducible refine w_last ?_ ?_ ?_); (focus kernel_rfl); (focus rfl)) | ((with_reducible apply w_stepG); (focus rfl)) | ((with_reducible apply lk_mem); (focus ((repeat (first | exact List.Mem.head _ | apply List.Mem.tail)); done))) | with_reducible (first | refine w_step0 ?_ | refine w_nil ?_ | refine gd_tt ?_ | refine gd_ff ?_ | refine gd_tf ?_ | refine gd_ft ?_ | refine gd_un ?_ | refine s_move ?_ | refine s_assign ?_ | refine s_bin ?_ | refine s_un ?_ | refine s_conv ?_ | refine s_field ?_ | refine s_fieldAddr ?_ | refine s_ext ?_ | refine s_pick ?_ | refine s_nil ?_ | refine s_load ?_ | refine lk_ip ?_ | refine lk_ptr ?_ | refine s_index ?_ | refine s_indexAddr ?_ | refine s_slice ?_ | refine s_build ?_ | refine s_buildSlice ?_ | refine s_mk ?_ | refine s_store ?_ | refine s_alloc ?_ | refine s_call ?_ | refine s_ip ?_ | refine tr_seq ?_ | refine tr_block ?_ | refine tr_skip ?_ | refine tr_ret ?_ | refine tr_exit ?_ | refine tr_label ?_ | refine strip_norm ?_ | refine strip_ret ?_ | refine strip_exit ?_ | refine blk_norm ?_ | refine blk_ret ?_ | refine blk_same ?_ | refine tr_condT ?_ | refine tr_condCt ?_ | refine tr_condCf ?_) | ((with_reducible apply sto_go); (focus (intro cs'; repeat (first | exact ResAt.here | apply ResAt.there)))) | ((with_reducible refine al_go ?_); intro b) | ((with_reducible refine And.intro ?_ ?_); (focus ((repeat (first | exact keep_none | exact keep_nil | exact keep_ro | refine keep_cons ?_)); done))) | ((with_reducible refine s_bi ?_ ?_); (focus rfl)) | with_reducible refine blk_ne rfl ?_ | ((with_reducible refine w_region ?_ ?_); (focus kernel_rfl)) | ((with_reducible refine w_draw [] ?_ ?_ ?_ ?_ ?_); (iterate 3 (focus kernel_rfl)); (focus exact keeps_nil)) | ((with_reducible first | refine gd_d1 ?_ ?_ | refine gd_d0 ?_ ?_); all_goals (intro hb; (first | with_reducible replace hb := nt_t hb | with_reducible replace hb := nt_f hb | skip); (first | replace hb := of_decide_eq_true hb | replace hb := of_decide_eq_false hb | have hb1 := eq_of_beq hb | have hb1 := ne_of_beq_false hb | have hb1 := bne_t hb | have hb1 := bne_f hb | skip); (try (exfalso; first | contradiction | omega)))))
    all_goals (refine ret_eq (by first | exact .inl rfl | exact .inr rfl) (by first | rfl | assumption) (by (repeat (first | exact List.Sublist.refl _ | apply List.Sublist.cons))) ?_; (try simp (disch := omega) only [push_cast, Nat.reduceEqDiff, reduceCtorEq, ↓reduceIte, Nat.reduceAdd, Nat.reduceMul, Nat.reduceSub, Nat.reduceLT, Nat.reduceLeDiff, Int.reduceToNat, Int.reduceLT, Int.reduceLE, Int.reduceAdd, Int.reduceSub, Int.reduceMul, Int.reduceBEq, Int.reduceBNe, encB, encI, Nat.mul_one, Int.reducePow, *]); try (first | exact LE.refl _ | exact LE.sl _ _ | (refine LE.tup ?_; (repeat' (first | exact LEL.nil | refine LEL.cons ?_ ?_ | exact LE.refl _ | exact LE.sl _ _ | refine LE.agg ?_)); done) | (refine LE.agg ?_; (repeat' (first | exact LEL.nil | refine LEL.cons ?_ ?_ | exact LE.refl _ | exact LE.sl _ _)); done) | refine LE.of_eq ?_))
namespace B
/-- A text's bytes. -/
def tx (l : List UInt8) : List UInt8 := be 4 l.length ++ l
end B
open B in
theorem binTextF (s : ByteArray) (hs : s.size ≤ 1000000) (st : St) : TrF Try.prog 18 [.str s] st fun d st' => d = .sl .shared ((tx s.data.toList).map encB) ∧ st' = st := by
  have hN := binNumF s.size
  rw [if_pos (by omega), Int.toNat_natCast] at hN
  have hN := Lib.hid hN
  have h4 : (be 4 s.size).length = 4 := be_len _ _
  have ht : tx s.data.toList = be 4 s.size ++ s.data.toList := by unfold tx; congr 1
  rw [ht]
  clear ht
  generalize be 4 s.size = hd at *
  refine trF_enter (ts := [2]) Try.func18 rfl (by rw [Try.ntmps18]; exact Nat.le_of_ble_eq_true rfl) (fun tmps w => by simp [results, Try.results18, go_sem, resVal]) ?_
  simp only [Try.ntmps18]
  refine tr_room 5 1 4 ?_
  have h4 : (hd.map encB).length = 4 := by rw [List.length_map]; exact h4
  rw [← h4]
  repeat' (first | ((with_reducible apply ev_go); (focus (try simp (disch := omega) only [push_cast, Nat.reduceEqDiff, reduceCtorEq, ↓reduceIte, Nat.reduceAdd, Nat.reduceMul, Nat.reduceSub, Nat.reduceLT, Nat.reduceLeDiff, Int.reduceToNat, Int.reduceLT, Int.reduceLE, Int.reduceAdd, Int.reduceSub, Int.reduceMul, Int.reduceBEq, Int.reduceBNe, encB, encI, Nat.mul_one, Int.reducePow, *]); (try exact rfl); done)) | ((with_reducible refine w_last ?_ ?_ ?_); (focus kernel_rfl); (focus rfl)) | ((with_reducible apply w_stepG); (focus rfl)) | ((with_reducible apply lk_mem); (focus ((repeat (first | exact List.Mem.head _ | apply List.Mem.tail)); done))) | with_reducible (first | refine w_step0 ?_ | refine w_nil ?_ | refine gd_tt ?_ | refine gd_ff ?_ | refine gd_tf ?_ | refine gd_ft ?_ | refine gd_un ?_ | refine s_move ?_ | refine s_assign ?_ | refine s_bin ?_ | refine s_un ?_ | refine s_conv ?_ | refine s_field ?_ | refine s_fieldAddr ?_ | refine s_ext ?_ | refine s_pick ?_ | refine s_nil ?_ | refine s_load ?_ | refine lk_ip ?_ | refine lk_ptr ?_ | refine s_index ?_ | refine s_indexAddr ?_ | refine s_slice ?_ | refine s_build ?_ | refine s_buildSlice ?_ | refine s_mk ?_ | refine s_store ?_ | refine s_alloc ?_ | refine s_call ?_ | refine s_ip ?_ | refine s_app ?_ | refine ak_go ?_ | refine s_aps ?_ | refine ap_go ?_ | refine p2_true ?_ | refine tr_seq ?_ | refine tr_block ?_ | refine tr_skip ?_ | refine tr_ret ?_ | refine tr_exit ?_ | refine tr_label ?_ | refine strip_norm ?_ | refine strip_ret ?_ | refine strip_exit ?_ | refine blk_norm ?_ | refine blk_ret ?_ | refine blk_same ?_ | refine tr_condT ?_ | refine tr_condCt ?_ | refine tr_condCf ?_) | ((with_reducible apply sto_go); (focus (intro cs'; repeat (first | exact ResAt.here | apply ResAt.there)))) | ((with_reducible refine al_go ?_); intro b) | ((with_reducible refine And.intro ?_ ?_); (focus ((repeat (first | exact keep_none | exact keep_nil | exact keep_ro | refine keep_cons ?_)); done))) | ((with_reducible apply (ck_le Try.call14)); (focus exact LEL.refl _); (focus exact hN.out _)) | ((with_reducible refine s_bi ?_ ?_); (focus rfl)) | ((with_reducible apply a2_go); (focus (first | assumption | (intro h; cases h))); (focus (intro o'; repeat (first | exact ResAt.here | apply ResAt.there))); (focus (first | assumption | exact len_nil | exact len_one rfl | (intro a ha; obtain ⟨x, -, rfl⟩ := List.mem_map.1 ha; first | rfl | simp) | (intro a ha; simp at ha; simp [ha]))); (focus (first | assumption | exact len_nil | exact len_one rfl | (intro a ha; obtain ⟨x, -, rfl⟩ := List.mem_map.1 ha; first | rfl | simp) | (intro a ha; simp at ha; simp [ha]))); (focus (first | omega | (simp only [List.length_map, List.length_cons, List.length_nil, List.length_append]; omega))); (focus (first | omega | (simp only [List.length_map, List.length_cons, List.length_nil, List.length_append]; omega))); intro o' ho') | ((with_reducible apply p2_go); (focus (first | assumption | (intro h; cases h))); (focus (intro o'; repeat (first | exact ResAt.here | apply ResAt.there))); (focus (first | assumption | exact len_nil | exact len_one rfl | (intro a ha; obtain ⟨x, -, rfl⟩ := List.mem_map.1 ha; first | rfl | simp) | (intro a ha; simp at ha; simp [ha]))); (focus (first | omega | (simp only [List.length_map, List.length_cons, List.length_nil, List.length_append]; omega))); (focus (first | omega | (simp only [List.length_map, List.length_cons, List.length_nil, List.length_append]; omega))); intro o' ho') | with_reducible refine blk_ne rfl ?_ | ((with_reducible refine w_region ?_ ?_); (focus kernel_rfl)) | ((with_reducible refine w_draw [] ?_ ?_ ?_ ?_ ?_); (iterate 3 (focus kernel_rfl)); (focus exact keeps_nil)) | ((with_reducible first | refine gd_d1 ?_ ?_ | refine gd_d0 ?_ ?_); all_goals (intro hb; (first | with_reducible replace hb := nt_t hb | with_reducible replace hb := nt_f hb | skip); (first | replace hb := of_decide_eq_true hb | replace hb := of_decide_eq_false hb | have hb1 := eq_of_beq hb | have hb1 := ne_of_beq_false hb | have hb1 := bne_t hb | have hb1 := bne_f hb | skip); (try (exfalso; first | contradiction | omega)))))
  all_goals (refine ret_eq (by first | exact .inl rfl | exact .inr rfl) (by first | rfl | assumption) (by (repeat (first | exact List.Sublist.refl _ | apply List.Sublist.cons))) ?_; (try simp (disch := omega) only [push_cast, Nat.reduceEqDiff, reduceCtorEq, ↓reduceIte, Nat.reduceAdd, Nat.reduceMul, Nat.reduceSub, Nat.reduceLT, Nat.reduceLeDiff, Int.reduceToNat, Int.reduceLT, Int.reduceLE, Int.reduceAdd, Int.reduceSub, Int.reduceMul, Int.reduceBEq, Int.reduceBNe, encB, encI, Nat.mul_one, Int.reducePow, *]); try (first | exact LE.refl _ | exact LE.sl _ _ | (refine LE.tup ?_; (repeat' (first | exact LEL.nil | refine LEL.cons ?_ ?_ | exact LE.refl _ | exact LE.sl _ _ | refine LE.agg ?_)); done) | (refine LE.agg ?_; (repeat' (first | exact LEL.nil | refine LEL.cons ?_ ?_ | exact LE.refl _ | exact LE.sl _ _)); done) | refine LE.of_eq ?_))
end Go.Proofs.Ytgofckmlgkniaaa
end

/- Layer 6 over data: a reader, step by step. No statement is proved here. -/
section
namespace Go.Proofs.Ytgofckmlgkniaaa
set_option linter.unusedSimpArgs false
open Go.RowKit B
set_option maxRecDepth 10000
set_option maxHeartbeats 4000000
/-- What a reader has. -/
structure RS where
  o : Own
  l : List UInt8
  bad : Bool
namespace RS
def cells (s : RS) : List D := [.sl s.o (s.l.map encB), .b s.bad]
def fail : RS := ⟨.tight, [], true⟩
def cut (s : RS) (n : Nat) : RS := ⟨.shared, s.l.drop n, s.bad⟩
end RS
abbrev rdR (b : Nat) (s : RS) : Res := .box b 59 s.cells
theorem rdFailF (b : Nat) (s : RS) (st : St) : TrF Try.prog 66 [.ptr b 0] (rdR b s :: st) fun x st' => x = .tup [] ∧ st' = rdR b .fail :: st := by
  refine trF_enter (ts := []) Try.func66 rfl (by rw [Try.ntmps66]; exact Nat.le_of_ble_eq_true rfl) (fun tmps w => by simp [results, Try.results66, go_sem, resVal]) ?_
  simp only [Try.ntmps66]
  repeat' (first | ((with_reducible apply ev_go); (focus (try simp (disch := omega) only [push_cast, Nat.reduceEqDiff, reduceCtorEq, ↓reduceIte, Nat.reduceAdd, Nat.reduceMul, Nat.reduceSub, Nat.reduceLT, Nat.reduceLeDiff, Int.reduceToNat, Int.reduceLT, Int.reduceLE, Int.reduceAdd, Int.reduceSub, Int.reduceMul, Int.reduceBEq, Int.reduceBNe, encB, encI, RS.cells, RS.fail, RS.cut, Nat.mul_one, Int.reducePow, *]); (try exact rfl); done)) | ((with_reducible refine w_last ?_ ?_ ?_); (focus kernel_rfl); (focus rfl)) | ((with_reducible apply w_stepG); (focus rfl)) | ((with_reducible apply lk_mem); (focus ((repeat (first | exact List.Mem.head _ | apply List.Mem.tail)); done))) | with_reducible (first | refine w_step0 ?_ | refine w_nil ?_ | refine gd_tt ?_ | refine gd_ff ?_ | refine gd_tf ?_ | refine gd_ft ?_ | refine gd_un ?_ | refine s_move ?_ | refine s_assign ?_ | refine s_bin ?_ | refine s_un ?_ | refine s_conv ?_ | refine s_field ?_ | refine s_fieldAddr ?_ | refine s_ext ?_ | refine s_pick ?_ | refine s_nil ?_ | refine s_load ?_ | refine lk_ip ?_ | refine lk_ptr ?_ | refine s_index ?_ | refine s_indexAddr ?_ | refine s_slice ?_ | refine s_build ?_ | refine s_buildSlice ?_ | refine s_mk ?_ | refine s_store ?_ | refine s_alloc ?_ | refine s_call ?_ | refine s_ip ?_ | refine tr_seq ?_ | refine tr_block ?_ | refine tr_skip ?_ | refine tr_ret ?_ | refine tr_exit ?_ | refine tr_label ?_ | refine strip_norm ?_ | refine strip_ret ?_ | refine strip_exit ?_ | refine blk_norm ?_ | refine blk_ret ?_ | refine blk_same ?_ | refine tr_condT ?_ | refine tr_condCt ?_ | refine tr_condCf ?_) | ((with_reducible apply sto_go); (focus (intro cs'; repeat (first | exact ResAt.here | apply ResAt.there)))) | ((with_reducible refine al_go ?_); intro b) | ((with_reducible refine And.intro ?_ ?_); (focus ((repeat (first | exact keep_none | exact keep_nil | exact keep_ro | refine keep_cons ?_)); done))) | ((with_reducible refine s_bi ?_ ?_); (focus rfl)) | with_reducible refine blk_ne rfl ?_ | ((with_reducible refine w_region ?_ ?_); (focus kernel_rfl)) | ((with_reducible refine w_draw [] ?_ ?_ ?_ ?_ ?_); (iterate 3 (focus kernel_rfl)); (focus exact keeps_nil)) | ((with_reducible first | refine gd_d1 ?_ ?_ | refine gd_d0 ?_ ?_); all_goals (intro hb; (first | with_reducible replace hb := nt_t hb | with_reducible replace hb := nt_f hb | skip); (first | replace hb := of_decide_eq_true hb | replace hb := of_decide_eq_false hb | have hb1 := eq_of_beq hb | have hb1 := ne_of_beq_false hb | have hb1 := bne_t hb | have hb1 := bne_f hb | skip); (try (exfalso; first | contradiction | omega)))))
  all_goals (refine ret_eq (by first | exact .inl rfl | exact .inr rfl) (by first | rfl | assumption) (by (repeat (first | exact List.Sublist.refl _ | apply List.Sublist.cons))) ?_; (try simp (disch := omega) only [push_cast, Nat.reduceEqDiff, reduceCtorEq, ↓reduceIte, Nat.reduceAdd, Nat.reduceMul, Nat.reduceSub, Nat.reduceLT, Nat.reduceLeDiff, Int.reduceToNat, Int.reduceLT, Int.reduceLE, Int.reduceAdd, Int.reduceSub, Int.reduceMul, Int.reduceBEq, Int.reduceBNe, encB, encI, RS.cells, RS.fail, RS.cut, Nat.mul_one, Int.reducePow, *]); try (first | exact LE.refl _ | exact LE.sl _ _ | (refine LE.tup ?_; (repeat' (first | exact LEL.nil | refine LEL.cons ?_ ?_ | exact LE.refl _ | exact LE.sl _ _ | refine LE.agg ?_)); done) | (refine LE.agg ?_; (repeat' (first | exact LEL.nil | refine LEL.cons ?_ ?_ | exact LE.refl _ | exact LE.sl _ _)); done) | refine LE.of_eq ?_))
theorem rdBadF (b : Nat) (s : RS) (st : St) : TrF Try.prog 23 [.ptr b 0] (rdR b s :: st) fun x st' => x = .b s.bad ∧ st' = rdR b s :: st := by
  refine trF_enter (ts := [2]) Try.func23 rfl (by rw [Try.ntmps23]; exact Nat.le_of_ble_eq_true rfl) (fun tmps w => by simp [results, Try.results23, go_sem, resVal]) ?_
  simp only [Try.ntmps23]
  repeat' (first | ((with_reducible apply ev_go); (focus (try simp (disch := omega) only [push_cast, Nat.reduceEqDiff, reduceCtorEq, ↓reduceIte, Nat.reduceAdd, Nat.reduceMul, Nat.reduceSub, Nat.reduceLT, Nat.reduceLeDiff, Int.reduceToNat, Int.reduceLT, Int.reduceLE, Int.reduceAdd, Int.reduceSub, Int.reduceMul, Int.reduceBEq, Int.reduceBNe, encB, encI, RS.cells, RS.fail, RS.cut, Nat.mul_one, Int.reducePow, *]); (try exact rfl); done)) | ((with_reducible refine w_last ?_ ?_ ?_); (focus kernel_rfl); (focus rfl)) | ((with_reducible apply w_stepG); (focus rfl)) | ((with_reducible apply lk_mem); (focus ((repeat (first | exact List.Mem.head _ | apply List.Mem.tail)); done))) | with_reducible (first | refine w_step0 ?_ | refine w_nil ?_ | refine gd_tt ?_ | refine gd_ff ?_ | refine gd_tf ?_ | refine gd_ft ?_ | refine gd_un ?_ | refine s_move ?_ | refine s_assign ?_ | refine s_bin ?_ | refine s_un ?_ | refine s_conv ?_ | refine s_field ?_ | refine s_fieldAddr ?_ | refine s_ext ?_ | refine s_pick ?_ | refine s_nil ?_ | refine s_load ?_ | refine lk_ip ?_ | refine lk_ptr ?_ | refine s_index ?_ | refine s_indexAddr ?_ | refine s_slice ?_ | refine s_build ?_ | refine s_buildSlice ?_ | refine s_mk ?_ | refine s_store ?_ | refine s_alloc ?_ | refine s_call ?_ | refine s_ip ?_ | refine tr_seq ?_ | refine tr_block ?_ | refine tr_skip ?_ | refine tr_ret ?_ | refine tr_exit ?_ | refine tr_label ?_ | refine strip_norm ?_ | refine strip_ret ?_ | refine strip_exit ?_ | refine blk_norm ?_ | refine blk_ret ?_ | refine blk_same ?_ | refine tr_condT ?_ | refine tr_condCt ?_ | refine tr_condCf ?_) | ((with_reducible apply sto_go); (focus (intro cs'; repeat (first | exact ResAt.here | apply ResAt.there)))) | ((with_reducible refine al_go ?_); intro b) | ((with_reducible refine And.intro ?_ ?_); (focus ((repeat (first | exact keep_none | exact keep_nil | exact keep_ro | refine keep_cons ?_)); done))) | ((with_reducible refine s_bi ?_ ?_); (focus rfl)) | with_reducible refine blk_ne rfl ?_ | ((with_reducible refine w_region ?_ ?_); (focus kernel_rfl)) | ((with_reducible refine w_draw [] ?_ ?_ ?_ ?_ ?_); (iterate 3 (focus kernel_rfl)); (focus exact keeps_nil)) | ((with_reducible first | refine gd_d1 ?_ ?_ | refine gd_d0 ?_ ?_); all_goals (intro hb; (first | with_reducible replace hb := nt_t hb | with_reducible replace hb := nt_f hb | skip); (first | replace hb := of_decide_eq_true hb | replace hb := of_decide_eq_false hb | have hb1 := eq_of_beq hb | have hb1 := ne_of_beq_false hb | have hb1 := bne_t hb | have hb1 := bne_f hb | skip); (try (exfalso; first | contradiction | omega)))))
  all_goals (refine ret_eq (by first | exact .inl rfl | exact .inr rfl) (by first | rfl | assumption) (by (repeat (first | exact List.Sublist.refl _ | apply List.Sublist.cons))) ?_; (try simp (disch := omega) only [push_cast, Nat.reduceEqDiff, reduceCtorEq, ↓reduceIte, Nat.reduceAdd, Nat.reduceMul, Nat.reduceSub, Nat.reduceLT, Nat.reduceLeDiff, Int.reduceToNat, Int.reduceLT, Int.reduceLE, Int.reduceAdd, Int.reduceSub, Int.reduceMul, Int.reduceBEq, Int.reduceBNe, encB, encI, RS.cells, RS.fail, RS.cut, Nat.mul_one, Int.reducePow, *]); try (first | exact LE.refl _ | exact LE.sl _ _ | (refine LE.tup ?_; (repeat' (first | exact LEL.nil | refine LEL.cons ?_ ?_ | exact LE.refl _ | exact LE.sl _ _ | refine LE.agg ?_)); done) | (refine LE.agg ?_; (repeat' (first | exact LEL.nil | refine LEL.cons ?_ ?_ | exact LE.refl _ | exact LE.sl _ _)); done) | refine LE.of_eq ?_))
theorem rdLeftF (b : Nat) (s : RS) (st : St) : TrF Try.prog 25 [.ptr b 0] (rdR b s :: st) fun x st' => x = .i s.l.length ∧ st' = rdR b s :: st := by
  refine trF_enter (ts := [2]) Try.func25 rfl (by rw [Try.ntmps25]; exact Nat.le_of_ble_eq_true rfl) (fun tmps w => by simp [results, Try.results25, go_sem, resVal]) ?_
  simp only [Try.ntmps25]
  repeat' (first | ((with_reducible apply ev_go); (focus (try simp (disch := omega) only [push_cast, Nat.reduceEqDiff, reduceCtorEq, ↓reduceIte, Nat.reduceAdd, Nat.reduceMul, Nat.reduceSub, Nat.reduceLT, Nat.reduceLeDiff, Int.reduceToNat, Int.reduceLT, Int.reduceLE, Int.reduceAdd, Int.reduceSub, Int.reduceMul, Int.reduceBEq, Int.reduceBNe, encB, encI, RS.cells, RS.fail, RS.cut, Nat.mul_one, Int.reducePow, *]); (try exact rfl); done)) | ((with_reducible refine w_last ?_ ?_ ?_); (focus kernel_rfl); (focus rfl)) | ((with_reducible apply w_stepG); (focus rfl)) | ((with_reducible apply lk_mem); (focus ((repeat (first | exact List.Mem.head _ | apply List.Mem.tail)); done))) | with_reducible (first | refine w_step0 ?_ | refine w_nil ?_ | refine gd_tt ?_ | refine gd_ff ?_ | refine gd_tf ?_ | refine gd_ft ?_ | refine gd_un ?_ | refine s_move ?_ | refine s_assign ?_ | refine s_bin ?_ | refine s_un ?_ | refine s_conv ?_ | refine s_field ?_ | refine s_fieldAddr ?_ | refine s_ext ?_ | refine s_pick ?_ | refine s_nil ?_ | refine s_load ?_ | refine lk_ip ?_ | refine lk_ptr ?_ | refine s_index ?_ | refine s_indexAddr ?_ | refine s_slice ?_ | refine s_build ?_ | refine s_buildSlice ?_ | refine s_mk ?_ | refine s_store ?_ | refine s_alloc ?_ | refine s_call ?_ | refine s_ip ?_ | refine tr_seq ?_ | refine tr_block ?_ | refine tr_skip ?_ | refine tr_ret ?_ | refine tr_exit ?_ | refine tr_label ?_ | refine strip_norm ?_ | refine strip_ret ?_ | refine strip_exit ?_ | refine blk_norm ?_ | refine blk_ret ?_ | refine blk_same ?_ | refine tr_condT ?_ | refine tr_condCt ?_ | refine tr_condCf ?_) | ((with_reducible apply sto_go); (focus (intro cs'; repeat (first | exact ResAt.here | apply ResAt.there)))) | ((with_reducible refine al_go ?_); intro b) | ((with_reducible refine And.intro ?_ ?_); (focus ((repeat (first | exact keep_none | exact keep_nil | exact keep_ro | refine keep_cons ?_)); done))) | ((with_reducible refine s_bi ?_ ?_); (focus rfl)) | with_reducible refine blk_ne rfl ?_ | ((with_reducible refine w_region ?_ ?_); (focus kernel_rfl)) | ((with_reducible refine w_draw [] ?_ ?_ ?_ ?_ ?_); (iterate 3 (focus kernel_rfl)); (focus exact keeps_nil)) | ((with_reducible first | refine gd_d1 ?_ ?_ | refine gd_d0 ?_ ?_); all_goals (intro hb; (first | with_reducible replace hb := nt_t hb | with_reducible replace hb := nt_f hb | skip); (first | replace hb := of_decide_eq_true hb | replace hb := of_decide_eq_false hb | have hb1 := eq_of_beq hb | have hb1 := ne_of_beq_false hb | have hb1 := bne_t hb | have hb1 := bne_f hb | skip); (try (exfalso; first | contradiction | omega)))))
  all_goals (refine ret_eq (by first | exact .inl rfl | exact .inr rfl) (by first | rfl | assumption) (by (repeat (first | exact List.Sublist.refl _ | apply List.Sublist.cons))) ?_; (try simp (disch := omega) only [push_cast, Nat.reduceEqDiff, reduceCtorEq, ↓reduceIte, Nat.reduceAdd, Nat.reduceMul, Nat.reduceSub, Nat.reduceLT, Nat.reduceLeDiff, Int.reduceToNat, Int.reduceLT, Int.reduceLE, Int.reduceAdd, Int.reduceSub, Int.reduceMul, Int.reduceBEq, Int.reduceBNe, encB, encI, RS.cells, RS.fail, RS.cut, Nat.mul_one, Int.reducePow, *]); try (first | exact LE.refl _ | exact LE.sl _ _ | (refine LE.tup ?_; (repeat' (first | exact LEL.nil | refine LEL.cons ?_ ?_ | exact LE.refl _ | exact LE.sl _ _ | refine LE.agg ?_)); done) | (refine LE.agg ?_; (repeat' (first | exact LEL.nil | refine LEL.cons ?_ ?_ | exact LE.refl _ | exact LE.sl _ _)); done) | refine LE.of_eq ?_))
theorem rdDoneF (b : Nat) (s : RS) (st : St) : TrF Try.prog 24 [.ptr b 0] (rdR b s :: st) fun x st' => x = .b (!s.bad && decide (s.l.length = 0)) ∧ st' = rdR b s :: st := by
  have hB := Lib.hid (rdBadF b s)
  cases hb : s.bad
  · rw [hb] at hB
    refine trF_enter (ts := [2]) Try.func24 rfl (by rw [Try.ntmps24]; exact Nat.le_of_ble_eq_true rfl) (fun tmps w => by simp [results, Try.results24, go_sem, resVal]) ?_
    simp only [Try.ntmps24]
    repeat' (first | ((with_reducible apply ev_go); (focus (try simp (disch := omega) only [push_cast, Nat.reduceEqDiff, reduceCtorEq, ↓reduceIte, Nat.reduceAdd, Nat.reduceMul, Nat.reduceSub, Nat.reduceLT, Nat.reduceLeDiff, Int.reduceToNat, Int.reduceLT, Int.reduceLE, Int.reduceAdd, Int.reduceSub, Int.reduceMul, Int.reduceBEq, Int.reduceBNe, encB, encI, RS.cells, RS.fail, RS.cut, Nat.mul_one, Int.reducePow, *]); (try exact rfl); done)) | ((with_reducible refine w_last ?_ ?_ ?_); (focus kernel_rfl); (focus rfl)) | ((with_reducible apply w_stepG); (focus rfl)) | ((with_reducible apply lk_mem); (focus ((repeat (first | exact List.Mem.head _ | apply List.Mem.tail)); done))) | with_reducible (first | refine w_step0 ?_ | refine w_nil ?_ | refine gd_tt ?_ | refine gd_ff ?_ | refine gd_tf ?_ | refine gd_ft ?_ | refine gd_un ?_ | refine s_move ?_ | refine s_assign ?_ | refine s_bin ?_ | refine s_un ?_ | refine s_conv ?_ | refine s_field ?_ | refine s_fieldAddr ?_ | refine s_ext ?_ | refine s_pick ?_ | refine s_nil ?_ | refine s_load ?_ | refine lk_ip ?_ | refine lk_ptr ?_ | refine s_index ?_ | refine s_indexAddr ?_ | refine s_slice ?_ | refine s_build ?_ | refine s_buildSlice ?_ | refine s_mk ?_ | refine s_store ?_ | refine s_alloc ?_ | refine s_call ?_ | refine s_ip ?_ | refine tr_seq ?_ | refine tr_block ?_ | refine tr_skip ?_ | refine tr_ret ?_ | refine tr_exit ?_ | refine tr_label ?_ | refine strip_norm ?_ | refine strip_ret ?_ | refine strip_exit ?_ | refine blk_norm ?_ | refine blk_ret ?_ | refine blk_same ?_ | refine tr_condT ?_ | refine tr_condCt ?_ | refine tr_condCf ?_) | ((with_reducible apply sto_go); (focus (intro cs'; repeat (first | exact ResAt.here | apply ResAt.there)))) | ((with_reducible refine al_go ?_); intro b) | ((with_reducible refine And.intro ?_ ?_); (focus ((repeat (first | exact keep_none | exact keep_nil | exact keep_ro | refine keep_cons ?_)); done))) | ((with_reducible apply (ck_le Try.call23)); (focus exact LEL.refl _); (focus exact hB.out _)) | ((with_reducible refine s_bi ?_ ?_); (focus rfl)) | with_reducible refine blk_ne rfl ?_ | ((with_reducible refine w_region ?_ ?_); (focus kernel_rfl)) | ((with_reducible refine w_draw [] ?_ ?_ ?_ ?_ ?_); (iterate 3 (focus kernel_rfl)); (focus exact keeps_nil)) | ((with_reducible first | refine gd_d1 ?_ ?_ | refine gd_d0 ?_ ?_); all_goals (intro hb; (first | with_reducible replace hb := nt_t hb | with_reducible replace hb := nt_f hb | skip); (first | replace hb := of_decide_eq_true hb | replace hb := of_decide_eq_false hb | have hb1 := eq_of_beq hb | have hb1 := ne_of_beq_false hb | have hb1 := bne_t hb | have hb1 := bne_f hb | skip); (try (exfalso; first | contradiction | omega)))))
    all_goals (refine ret_eq (by first | exact .inl rfl | exact .inr rfl) (by first | rfl | assumption) (by (repeat (first | exact List.Sublist.refl _ | apply List.Sublist.cons))) ?_; (try simp (disch := omega) only [push_cast, Nat.reduceEqDiff, reduceCtorEq, ↓reduceIte, Nat.reduceAdd, Nat.reduceMul, Nat.reduceSub, Nat.reduceLT, Nat.reduceLeDiff, Int.reduceToNat, Int.reduceLT, Int.reduceLE, Int.reduceAdd, Int.reduceSub, Int.reduceMul, Int.reduceBEq, Int.reduceBNe, encB, encI, RS.cells, RS.fail, RS.cut, Nat.mul_one, Int.reducePow, *]); try (first | exact LE.refl _ | exact LE.sl _ _ | (refine LE.tup ?_; (repeat' (first | exact LEL.nil | refine LEL.cons ?_ ?_ | exact LE.refl _ | exact LE.sl _ _ | refine LE.agg ?_)); done) | (refine LE.agg ?_; (repeat' (first | exact LEL.nil | refine LEL.cons ?_ ?_ | exact LE.refl _ | exact LE.sl _ _)); done) | refine LE.of_eq ?_))
    all_goals (first | rfl | (refine congrArg D.b ?_; rw [Bool.eq_iff_iff]; simp only [Bool.true_and, Bool.false_and, Bool.and_true, Bool.and_false, Bool.or_false, Bool.or_true, Bool.true_or, Bool.false_or, true_and, and_true, Bool.not_eq_true', Bool.not_eq_false', decide_eq_true_eq, decide_eq_false_iff_not, beq_iff_eq, beq_eq_false_iff_ne, bne_iff_ne, ne_eq, reduceCtorEq, iff_true, true_iff, iff_false, false_iff, Bool.and_eq_true, Bool.or_eq_true, Bool.false_eq_true, Bool.true_eq_false]; first | done | omega))
  · rw [hb] at hB
    refine trF_enter (ts := [2]) Try.func24 rfl (by rw [Try.ntmps24]; exact Nat.le_of_ble_eq_true rfl) (fun tmps w => by simp [results, Try.results24, go_sem, resVal]) ?_
    simp only [Try.ntmps24]
    repeat' (first | ((with_reducible apply ev_go); (focus (try simp (disch := omega) only [push_cast, Nat.reduceEqDiff, reduceCtorEq, ↓reduceIte, Nat.reduceAdd, Nat.reduceMul, Nat.reduceSub, Nat.reduceLT, Nat.reduceLeDiff, Int.reduceToNat, Int.reduceLT, Int.reduceLE, Int.reduceAdd, Int.reduceSub, Int.reduceMul, Int.reduceBEq, Int.reduceBNe, encB, encI, RS.cells, RS.fail, RS.cut, Nat.mul_one, Int.reducePow, *]); (try exact rfl); done)) | ((with_reducible refine w_last ?_ ?_ ?_); (focus kernel_rfl); (focus rfl)) | ((with_reducible apply w_stepG); (focus rfl)) | ((with_reducible apply lk_mem); (focus ((repeat (first | exact List.Mem.head _ | apply List.Mem.tail)); done))) | with_reducible (first | refine w_step0 ?_ | refine w_nil ?_ | refine gd_tt ?_ | refine gd_ff ?_ | refine gd_tf ?_ | refine gd_ft ?_ | refine gd_un ?_ | refine s_move ?_ | refine s_assign ?_ | refine s_bin ?_ | refine s_un ?_ | refine s_conv ?_ | refine s_field ?_ | refine s_fieldAddr ?_ | refine s_ext ?_ | refine s_pick ?_ | refine s_nil ?_ | refine s_load ?_ | refine lk_ip ?_ | refine lk_ptr ?_ | refine s_index ?_ | refine s_indexAddr ?_ | refine s_slice ?_ | refine s_build ?_ | refine s_buildSlice ?_ | refine s_mk ?_ | refine s_store ?_ | refine s_alloc ?_ | refine s_call ?_ | refine s_ip ?_ | refine tr_seq ?_ | refine tr_block ?_ | refine tr_skip ?_ | refine tr_ret ?_ | refine tr_exit ?_ | refine tr_label ?_ | refine strip_norm ?_ | refine strip_ret ?_ | refine strip_exit ?_ | refine blk_norm ?_ | refine blk_ret ?_ | refine blk_same ?_ | refine tr_condT ?_ | refine tr_condCt ?_ | refine tr_condCf ?_) | ((with_reducible apply sto_go); (focus (intro cs'; repeat (first | exact ResAt.here | apply ResAt.there)))) | ((with_reducible refine al_go ?_); intro b) | ((with_reducible refine And.intro ?_ ?_); (focus ((repeat (first | exact keep_none | exact keep_nil | exact keep_ro | refine keep_cons ?_)); done))) | ((with_reducible apply (ck_le Try.call23)); (focus exact LEL.refl _); (focus exact hB.out _)) | ((with_reducible refine s_bi ?_ ?_); (focus rfl)) | with_reducible refine blk_ne rfl ?_ | ((with_reducible refine w_region ?_ ?_); (focus kernel_rfl)) | ((with_reducible refine w_draw [] ?_ ?_ ?_ ?_ ?_); (iterate 3 (focus kernel_rfl)); (focus exact keeps_nil)) | ((with_reducible first | refine gd_d1 ?_ ?_ | refine gd_d0 ?_ ?_); all_goals (intro hb; (first | with_reducible replace hb := nt_t hb | with_reducible replace hb := nt_f hb | skip); (first | replace hb := of_decide_eq_true hb | replace hb := of_decide_eq_false hb | have hb1 := eq_of_beq hb | have hb1 := ne_of_beq_false hb | have hb1 := bne_t hb | have hb1 := bne_f hb | skip); (try (exfalso; first | contradiction | omega)))))
    all_goals (refine ret_eq (by first | exact .inl rfl | exact .inr rfl) (by first | rfl | assumption) (by (repeat (first | exact List.Sublist.refl _ | apply List.Sublist.cons))) ?_; (try simp (disch := omega) only [push_cast, Nat.reduceEqDiff, reduceCtorEq, ↓reduceIte, Nat.reduceAdd, Nat.reduceMul, Nat.reduceSub, Nat.reduceLT, Nat.reduceLeDiff, Int.reduceToNat, Int.reduceLT, Int.reduceLE, Int.reduceAdd, Int.reduceSub, Int.reduceMul, Int.reduceBEq, Int.reduceBNe, encB, encI, RS.cells, RS.fail, RS.cut, Nat.mul_one, Int.reducePow, *]); try (first | exact LE.refl _ | exact LE.sl _ _ | (refine LE.tup ?_; (repeat' (first | exact LEL.nil | refine LEL.cons ?_ ?_ | exact LE.refl _ | exact LE.sl _ _ | refine LE.agg ?_)); done) | (refine LE.agg ?_; (repeat' (first | exact LEL.nil | refine LEL.cons ?_ ?_ | exact LE.refl _ | exact LE.sl _ _)); done) | refine LE.of_eq ?_))
/-- The number of bytes, the highest first. -/
def B.num (l : List UInt8) : Nat := l.foldl (fun n c => n * 256 + c.toNat) 0
theorem B.num_snoc (l : List UInt8) (c : UInt8) : num (l ++ [c]) = num l * 256 + c.toNat := by unfold num; rw [List.foldl_append]; rfl
theorem B.fold_lt : ∀ (l : List UInt8) (a k : Nat), a < 256 ^ k → l.foldl (fun n c => n * 256 + c.toNat) a < 256 ^ (k + l.length)
  | [], a, k, h => h
  | c :: l, a, k, h => by
    rw [List.foldl_cons, List.length_cons, show k + (l.length + 1) = (k + 1) + l.length by omega]
    refine B.fold_lt l _ _ ?_
    have := c.toNat_lt
    rw [Nat.pow_succ]; omega
theorem B.num_lt (l : List UInt8) : num l < 256 ^ l.length := by
  have := B.fold_lt l 0 0 (by decide)
  rwa [Nat.zero_add] at this
theorem or_byte (n c : Nat) (hn : n < 72057594037927936) (hc : c < 256) : bits .or .u64 ((n * 256 : Nat) : Int) (c : Int) = ((n * 256 + c : Nat) : Int) := by
  rw [u64_or_nat _ _ (by omega) (by omega)]
  have := Nat.shiftLeft_add_eq_or_of_lt (i := 8) (b := c) (by omega) n
  rw [Nat.shiftLeft_eq] at this
  rw [← this]
theorem binNumberF (o : Own) (l : List UInt8) (hl : l.length ≤ 8) (st : St) : TrF Try.prog 60 [.sl o (l.map encB)] st fun x st' => x = .s (.int .u64 (num l : Nat)) ∧ st' = st := by
  refine trF_enter (ts := [2]) Try.func60 rfl (by rw [Try.ntmps60]; exact Nat.le_of_ble_eq_true rfl) (fun tmps w => by simp [results, Try.results60, go_sem, resVal]) ?_
  simp only [Try.ntmps60]
  repeat' (first | ((with_reducible apply ev_go); (focus (try simp (disch := omega) only [push_cast, Nat.reduceEqDiff, reduceCtorEq, ↓reduceIte, Nat.reduceAdd, Nat.reduceMul, Nat.reduceSub, Nat.reduceLT, Nat.reduceLeDiff, Int.reduceToNat, Int.reduceLT, Int.reduceLE, Int.reduceAdd, Int.reduceSub, Int.reduceMul, Int.reduceBEq, Int.reduceBNe, encB, encI, RS.cells, RS.fail, RS.cut, Nat.mul_one, Int.reducePow, *]); (try exact rfl); done)) | ((with_reducible refine w_last ?_ ?_ ?_); (focus kernel_rfl); (focus rfl)) | ((with_reducible apply w_stepG); (focus rfl)) | ((with_reducible apply lk_mem); (focus ((repeat (first | exact List.Mem.head _ | apply List.Mem.tail)); done))) | with_reducible (first | refine w_step0 ?_ | refine w_nil ?_ | refine gd_tt ?_ | refine gd_ff ?_ | refine gd_tf ?_ | refine gd_ft ?_ | refine gd_un ?_ | refine s_move ?_ | refine s_assign ?_ | refine s_bin ?_ | refine s_un ?_ | refine s_conv ?_ | refine s_field ?_ | refine s_fieldAddr ?_ | refine s_ext ?_ | refine s_pick ?_ | refine s_nil ?_ | refine s_load ?_ | refine lk_ip ?_ | refine lk_ptr ?_ | refine s_index ?_ | refine s_indexAddr ?_ | refine s_slice ?_ | refine s_build ?_ | refine s_buildSlice ?_ | refine s_mk ?_ | refine s_store ?_ | refine s_alloc ?_ | refine s_call ?_ | refine s_ip ?_ | refine s_app ?_ | refine ak_go ?_ | refine s_aps ?_ | refine ap_go ?_ | refine p2_true ?_ | refine tr_seq ?_ | refine tr_block ?_ | refine tr_skip ?_ | refine tr_ret ?_ | refine tr_exit ?_ | refine tr_label ?_ | refine strip_norm ?_ | refine strip_ret ?_ | refine strip_exit ?_ | refine blk_norm ?_ | refine blk_ret ?_ | refine blk_same ?_ | refine tr_condT ?_ | refine tr_condCt ?_ | refine tr_condCf ?_) | ((with_reducible apply sto_go); (focus (intro cs'; repeat (first | exact ResAt.here | apply ResAt.there)))) | ((with_reducible refine al_go ?_); intro b) | ((with_reducible refine And.intro ?_ ?_); (focus ((repeat (first | exact keep_none | exact keep_nil | exact keep_ro | refine keep_cons ?_)); done))) | ((with_reducible refine s_bi ?_ ?_); (focus rfl)) | ((with_reducible apply a2_go); (focus (first | assumption | (intro h; cases h))); (focus (intro o'; repeat (first | exact ResAt.here | apply ResAt.there))); (focus (first | assumption | exact len_nil | exact len_one rfl | (intro a ha; obtain ⟨x, -, rfl⟩ := List.mem_map.1 ha; first | rfl | simp) | (intro a ha; simp at ha; simp [ha]))); (focus (first | assumption | exact len_nil | exact len_one rfl | (intro a ha; obtain ⟨x, -, rfl⟩ := List.mem_map.1 ha; first | rfl | simp) | (intro a ha; simp at ha; simp [ha]))); (focus (first | omega | (simp only [List.length_map, List.length_cons, List.length_nil, List.length_append]; omega))); (focus (first | omega | (simp only [List.length_map, List.length_cons, List.length_nil, List.length_append]; omega))); intro o' ho') | ((with_reducible apply p2_go); (focus (first | assumption | (intro h; cases h))); (focus (intro o'; repeat (first | exact ResAt.here | apply ResAt.there))); (focus (first | assumption | exact len_nil | exact len_one rfl | (intro a ha; obtain ⟨x, -, rfl⟩ := List.mem_map.1 ha; first | rfl | simp) | (intro a ha; simp at ha; simp [ha]))); (focus (first | omega | (simp only [List.length_map, List.length_cons, List.length_nil, List.length_append]; omega))); (focus (first | omega | (simp only [List.length_map, List.length_cons, List.length_nil, List.length_append]; omega))); intro o' ho') | with_reducible refine blk_ne rfl ?_ | ((with_reducible refine w_region ?_ ?_); (focus kernel_rfl)) | ((with_reducible refine w_draw [] ?_ ?_ ?_ ?_ ?_); (iterate 3 (focus kernel_rfl)); (focus exact keeps_nil)) | ((with_reducible first | refine gd_d1 ?_ ?_ | refine gd_d0 ?_ ?_); all_goals (intro hb; (first | with_reducible replace hb := nt_t hb | with_reducible replace hb := nt_f hb | skip); (first | replace hb := of_decide_eq_true hb | replace hb := of_decide_eq_false hb | have hb1 := eq_of_beq hb | have hb1 := ne_of_beq_false hb | have hb1 := bne_t hb | have hb1 := bne_f hb | skip); (try (exfalso; first | contradiction | omega)))))
  refine tr_loop (ι := Nat) (fun i A st' => i ≤ l.length ∧ A.df = [] ∧ A.e 3 = .s (.int .u64 (num (l.take i) : Nat)) ∧ A.e 6 = .sl o (l.map encB) ∧ A.e 7 = .i l.length ∧ A.e 8 = .i i ∧ st = st') (fun i => l.length - i) 0 ⟨Nat.zero_le _, ?_, ?_, ?_, ?_, ?_, rfl⟩ ?_
  iterate 5 (focus (first | rfl | assumption | omega | (simp (disch := omega) only [push_cast, Nat.reduceEqDiff, reduceCtorEq, ↓reduceIte, Nat.reduceAdd, Nat.reduceMul, Nat.reduceSub, Nat.reduceLT, Nat.reduceLeDiff, Int.reduceToNat, Int.reduceLT, Int.reduceLE, Int.reduceAdd, Int.reduceSub, Int.reduceMul, Int.reduceBEq, Int.reduceBNe, encB, encI, RS.cells, RS.fail, RS.cut, Nat.mul_one, Int.reducePow, *]; try omega; done)))
  rintro i A st' ⟨hi, hdf, e3, e6, e7, e8, rfl⟩
  by_cases hlt : i < l.length
  · obtain ⟨x, hx⟩ : ∃ x, l[i]? = some x := ⟨_, List.getElem?_eq_getElem hlt⟩
    have hs : num (l.take (i + 1)) = num (l.take i) * 256 + x.toNat := by rw [List.take_succ, hx]; exact num_snoc _ _
    have hn : num (l.take i) < 72057594037927936 := by
      have h1 := num_lt (l.take i)
      rw [List.length_take, Nat.min_eq_left hi] at h1
      exact Nat.lt_of_lt_of_le h1 (Nat.pow_le_pow_right (by omega) (show i ≤ 7 by omega))
    have hx2 := x.toNat_lt
    have hor := or_byte (num (l.take i)) x.toNat hn hx2
    have hw1 : IntKind.u64.wrap (((num (l.take i) : Nat) : Int) * 256) = ((num (l.take i) * 256 : Nat) : Int) := by
      simp [IntKind.wrap, IntKind.bits, IntKind.signed]; omega
    have hw2 : IntKind.u64.wrap (x.toNat : Int) = x.toNat := by
      simp [IntKind.wrap, IntKind.bits, IntKind.signed]; omega
    rw [← hs, Int.natCast_mul] at hor
    rw [Int.natCast_mul] at hw1
    replace hor : bits .or .u64 ((num (l.take i) : Int) * 256) (x.toNat : Int) = (num (l.take (i + 1)) : Nat) := hor
    replace hw1 : IntKind.u64.wrap (((num (l.take i) : Nat) : Int) * 256) = ((num (l.take i) : Nat) : Int) * 256 := hw1
    clear hs
    generalize num (l.take i) = q0 at *
    repeat' (first | ((with_reducible apply ev_go); (focus (try simp (disch := omega) only [push_cast, Nat.reduceEqDiff, reduceCtorEq, ↓reduceIte, Nat.reduceAdd, Nat.reduceMul, Nat.reduceSub, Nat.reduceLT, Nat.reduceLeDiff, Int.reduceToNat, Int.reduceLT, Int.reduceLE, Int.reduceAdd, Int.reduceSub, Int.reduceMul, Int.reduceBEq, Int.reduceBNe, encB, encI, RS.cells, RS.fail, RS.cut, Nat.mul_one, Int.reducePow, *]); (try exact rfl); done)) | ((with_reducible refine w_last ?_ ?_ ?_); (focus kernel_rfl); (focus rfl)) | ((with_reducible apply w_stepG); (focus rfl)) | ((with_reducible apply lk_mem); (focus ((repeat (first | exact List.Mem.head _ | apply List.Mem.tail)); done))) | with_reducible (first | refine w_step0 ?_ | refine w_nil ?_ | refine gd_tt ?_ | refine gd_ff ?_ | refine gd_tf ?_ | refine gd_ft ?_ | refine gd_un ?_ | refine s_move ?_ | refine s_assign ?_ | refine s_bin ?_ | refine s_un ?_ | refine s_conv ?_ | refine s_field ?_ | refine s_fieldAddr ?_ | refine s_ext ?_ | refine s_pick ?_ | refine s_nil ?_ | refine s_load ?_ | refine lk_ip ?_ | refine lk_ptr ?_ | refine s_index ?_ | refine s_indexAddr ?_ | refine s_slice ?_ | refine s_build ?_ | refine s_buildSlice ?_ | refine s_mk ?_ | refine s_store ?_ | refine s_alloc ?_ | refine s_call ?_ | refine s_ip ?_ | refine s_app ?_ | refine ak_go ?_ | refine s_aps ?_ | refine ap_go ?_ | refine p2_true ?_ | refine tr_seq ?_ | refine tr_block ?_ | refine tr_skip ?_ | refine tr_ret ?_ | refine tr_exit ?_ | refine tr_label ?_ | refine strip_norm ?_ | refine strip_ret ?_ | refine strip_exit ?_ | refine blk_norm ?_ | refine blk_ret ?_ | refine blk_same ?_ | refine tr_condT ?_ | refine tr_condCt ?_ | refine tr_condCf ?_) | ((with_reducible apply sto_go); (focus (intro cs'; repeat (first | exact ResAt.here | apply ResAt.there)))) | ((with_reducible refine al_go ?_); intro b) | ((with_reducible refine And.intro ?_ ?_); (focus ((repeat (first | exact keep_none | exact keep_nil | exact keep_ro | refine keep_cons ?_)); done))) | ((with_reducible refine s_bi ?_ ?_); (focus rfl)) | ((with_reducible apply a2_go); (focus (first | assumption | (intro h; cases h))); (focus (intro o'; repeat (first | exact ResAt.here | apply ResAt.there))); (focus (first | assumption | exact len_nil | exact len_one rfl | (intro a ha; obtain ⟨x, -, rfl⟩ := List.mem_map.1 ha; first | rfl | simp) | (intro a ha; simp at ha; simp [ha]))); (focus (first | assumption | exact len_nil | exact len_one rfl | (intro a ha; obtain ⟨x, -, rfl⟩ := List.mem_map.1 ha; first | rfl | simp) | (intro a ha; simp at ha; simp [ha]))); (focus (first | omega | (simp only [List.length_map, List.length_cons, List.length_nil, List.length_append]; omega))); (focus (first | omega | (simp only [List.length_map, List.length_cons, List.length_nil, List.length_append]; omega))); intro o' ho') | ((with_reducible apply p2_go); (focus (first | assumption | (intro h; cases h))); (focus (intro o'; repeat (first | exact ResAt.here | apply ResAt.there))); (focus (first | assumption | exact len_nil | exact len_one rfl | (intro a ha; obtain ⟨x, -, rfl⟩ := List.mem_map.1 ha; first | rfl | simp) | (intro a ha; simp at ha; simp [ha]))); (focus (first | omega | (simp only [List.length_map, List.length_cons, List.length_nil, List.length_append]; omega))); (focus (first | omega | (simp only [List.length_map, List.length_cons, List.length_nil, List.length_append]; omega))); intro o' ho') | with_reducible refine blk_ne rfl ?_ | ((with_reducible refine w_region ?_ ?_); (focus kernel_rfl)) | ((with_reducible refine w_draw [] ?_ ?_ ?_ ?_ ?_); (iterate 3 (focus kernel_rfl)); (focus exact keeps_nil)) | ((with_reducible first | refine gd_d1 ?_ ?_ | refine gd_d0 ?_ ?_); all_goals (intro hb; (first | with_reducible replace hb := nt_t hb | with_reducible replace hb := nt_f hb | skip); (first | replace hb := of_decide_eq_true hb | replace hb := of_decide_eq_false hb | have hb1 := eq_of_beq hb | have hb1 := ne_of_beq_false hb | have hb1 := bne_t hb | have hb1 := bne_f hb | skip); (try (exfalso; first | contradiction | omega)))))
    refine ⟨i + 1, ⟨hlt, ?_, ?_, ?_, ?_, ?_, rfl⟩, ?_⟩
    all_goals (first | rfl | assumption | omega | (simp (disch := omega) only [push_cast, Nat.reduceEqDiff, reduceCtorEq, ↓reduceIte, Nat.reduceAdd, Nat.reduceMul, Nat.reduceSub, Nat.reduceLT, Nat.reduceLeDiff, Int.reduceToNat, Int.reduceLT, Int.reduceLE, Int.reduceAdd, Int.reduceSub, Int.reduceMul, Int.reduceBEq, Int.reduceBNe, encB, encI, RS.cells, RS.fail, RS.cut, Nat.mul_one, Int.reducePow, *]; try omega; done))
  · rw [List.take_of_length_le (by omega)] at e3
    repeat' (first | ((with_reducible apply ev_go); (focus (try simp (disch := omega) only [push_cast, Nat.reduceEqDiff, reduceCtorEq, ↓reduceIte, Nat.reduceAdd, Nat.reduceMul, Nat.reduceSub, Nat.reduceLT, Nat.reduceLeDiff, Int.reduceToNat, Int.reduceLT, Int.reduceLE, Int.reduceAdd, Int.reduceSub, Int.reduceMul, Int.reduceBEq, Int.reduceBNe, encB, encI, RS.cells, RS.fail, RS.cut, Nat.mul_one, Int.reducePow, *]); (try exact rfl); done)) | ((with_reducible refine w_last ?_ ?_ ?_); (focus kernel_rfl); (focus rfl)) | ((with_reducible apply w_stepG); (focus rfl)) | ((with_reducible apply lk_mem); (focus ((repeat (first | exact List.Mem.head _ | apply List.Mem.tail)); done))) | with_reducible (first | refine w_step0 ?_ | refine w_nil ?_ | refine gd_tt ?_ | refine gd_ff ?_ | refine gd_tf ?_ | refine gd_ft ?_ | refine gd_un ?_ | refine s_move ?_ | refine s_assign ?_ | refine s_bin ?_ | refine s_un ?_ | refine s_conv ?_ | refine s_field ?_ | refine s_fieldAddr ?_ | refine s_ext ?_ | refine s_pick ?_ | refine s_nil ?_ | refine s_load ?_ | refine lk_ip ?_ | refine lk_ptr ?_ | refine s_index ?_ | refine s_indexAddr ?_ | refine s_slice ?_ | refine s_build ?_ | refine s_buildSlice ?_ | refine s_mk ?_ | refine s_store ?_ | refine s_alloc ?_ | refine s_call ?_ | refine s_ip ?_ | refine s_app ?_ | refine ak_go ?_ | refine s_aps ?_ | refine ap_go ?_ | refine p2_true ?_ | refine tr_seq ?_ | refine tr_block ?_ | refine tr_skip ?_ | refine tr_ret ?_ | refine tr_exit ?_ | refine tr_label ?_ | refine strip_norm ?_ | refine strip_ret ?_ | refine strip_exit ?_ | refine blk_norm ?_ | refine blk_ret ?_ | refine blk_same ?_ | refine tr_condT ?_ | refine tr_condCt ?_ | refine tr_condCf ?_) | ((with_reducible apply sto_go); (focus (intro cs'; repeat (first | exact ResAt.here | apply ResAt.there)))) | ((with_reducible refine al_go ?_); intro b) | ((with_reducible refine And.intro ?_ ?_); (focus ((repeat (first | exact keep_none | exact keep_nil | exact keep_ro | refine keep_cons ?_)); done))) | ((with_reducible refine s_bi ?_ ?_); (focus rfl)) | ((with_reducible apply a2_go); (focus (first | assumption | (intro h; cases h))); (focus (intro o'; repeat (first | exact ResAt.here | apply ResAt.there))); (focus (first | assumption | exact len_nil | exact len_one rfl | (intro a ha; obtain ⟨x, -, rfl⟩ := List.mem_map.1 ha; first | rfl | simp) | (intro a ha; simp at ha; simp [ha]))); (focus (first | assumption | exact len_nil | exact len_one rfl | (intro a ha; obtain ⟨x, -, rfl⟩ := List.mem_map.1 ha; first | rfl | simp) | (intro a ha; simp at ha; simp [ha]))); (focus (first | omega | (simp only [List.length_map, List.length_cons, List.length_nil, List.length_append]; omega))); (focus (first | omega | (simp only [List.length_map, List.length_cons, List.length_nil, List.length_append]; omega))); intro o' ho') | ((with_reducible apply p2_go); (focus (first | assumption | (intro h; cases h))); (focus (intro o'; repeat (first | exact ResAt.here | apply ResAt.there))); (focus (first | assumption | exact len_nil | exact len_one rfl | (intro a ha; obtain ⟨x, -, rfl⟩ := List.mem_map.1 ha; first | rfl | simp) | (intro a ha; simp at ha; simp [ha]))); (focus (first | omega | (simp only [List.length_map, List.length_cons, List.length_nil, List.length_append]; omega))); (focus (first | omega | (simp only [List.length_map, List.length_cons, List.length_nil, List.length_append]; omega))); intro o' ho') | with_reducible refine blk_ne rfl ?_ | ((with_reducible refine w_region ?_ ?_); (focus kernel_rfl)) | ((with_reducible refine w_draw [] ?_ ?_ ?_ ?_ ?_); (iterate 3 (focus kernel_rfl)); (focus exact keeps_nil)) | ((with_reducible first | refine gd_d1 ?_ ?_ | refine gd_d0 ?_ ?_); all_goals (intro hb; (first | with_reducible replace hb := nt_t hb | with_reducible replace hb := nt_f hb | skip); (first | replace hb := of_decide_eq_true hb | replace hb := of_decide_eq_false hb | have hb1 := eq_of_beq hb | have hb1 := ne_of_beq_false hb | have hb1 := bne_t hb | have hb1 := bne_f hb | skip); (try (exfalso; first | contradiction | omega)))))
    all_goals (refine ret_eq (by first | exact .inl rfl | exact .inr rfl) (by first | rfl | assumption) (by (repeat (first | exact List.Sublist.refl _ | apply List.Sublist.cons))) ?_; (try simp (disch := omega) only [push_cast, Nat.reduceEqDiff, reduceCtorEq, ↓reduceIte, Nat.reduceAdd, Nat.reduceMul, Nat.reduceSub, Nat.reduceLT, Nat.reduceLeDiff, Int.reduceToNat, Int.reduceLT, Int.reduceLE, Int.reduceAdd, Int.reduceSub, Int.reduceMul, Int.reduceBEq, Int.reduceBNe, encB, encI, RS.cells, RS.fail, RS.cut, Nat.mul_one, Int.reducePow, *]); try (first | exact LE.refl _ | exact LE.sl _ _ | (refine LE.tup ?_; (repeat' (first | exact LEL.nil | refine LEL.cons ?_ ?_ | exact LE.refl _ | exact LE.sl _ _ | refine LE.agg ?_)); done) | (refine LE.agg ?_; (repeat' (first | exact LEL.nil | refine LEL.cons ?_ ?_ | exact LE.refl _ | exact LE.sl _ _)); done) | refine LE.of_eq ?_))
theorem rdByte1F (o : Own) (c : UInt8) (l : List UInt8) (st : St) : TrF Try.prog 58 [.sl o ((c :: l).map encB)] st fun x st' => x = .tup [.i c.toNat, .b true] ∧ st' = st := by
  have hw := c.toNat_lt
  refine trF_enter (ts := [2,3]) Try.func58 rfl (by rw [Try.ntmps58]; exact Nat.le_of_ble_eq_true rfl) (fun tmps w => by simp [results, Try.results58, go_sem, resVal]) ?_
  simp only [Try.ntmps58]
  repeat' (first | ((with_reducible apply ev_go); (focus (try simp (disch := omega) only [push_cast, Nat.reduceEqDiff, reduceCtorEq, ↓reduceIte, Nat.reduceAdd, Nat.reduceMul, Nat.reduceSub, Nat.reduceLT, Nat.reduceLeDiff, Int.reduceToNat, Int.reduceLT, Int.reduceLE, Int.reduceAdd, Int.reduceSub, Int.reduceMul, Int.reduceBEq, Int.reduceBNe, encB, encI, RS.cells, RS.fail, RS.cut, Nat.mul_one, Int.reducePow, *]); (try exact rfl); done)) | ((with_reducible refine w_last ?_ ?_ ?_); (focus kernel_rfl); (focus rfl)) | ((with_reducible apply w_stepG); (focus rfl)) | ((with_reducible apply lk_mem); (focus ((repeat (first | exact List.Mem.head _ | apply List.Mem.tail)); done))) | with_reducible (first | refine w_step0 ?_ | refine w_nil ?_ | refine gd_tt ?_ | refine gd_ff ?_ | refine gd_tf ?_ | refine gd_ft ?_ | refine gd_un ?_ | refine s_move ?_ | refine s_assign ?_ | refine s_bin ?_ | refine s_un ?_ | refine s_conv ?_ | refine s_field ?_ | refine s_fieldAddr ?_ | refine s_ext ?_ | refine s_pick ?_ | refine s_nil ?_ | refine s_load ?_ | refine lk_ip ?_ | refine lk_ptr ?_ | refine s_index ?_ | refine s_indexAddr ?_ | refine s_slice ?_ | refine s_build ?_ | refine s_buildSlice ?_ | refine s_mk ?_ | refine s_store ?_ | refine s_alloc ?_ | refine s_call ?_ | refine s_ip ?_ | refine s_app ?_ | refine ak_go ?_ | refine s_aps ?_ | refine ap_go ?_ | refine p2_true ?_ | refine tr_seq ?_ | refine tr_block ?_ | refine tr_skip ?_ | refine tr_ret ?_ | refine tr_exit ?_ | refine tr_label ?_ | refine strip_norm ?_ | refine strip_ret ?_ | refine strip_exit ?_ | refine blk_norm ?_ | refine blk_ret ?_ | refine blk_same ?_ | refine tr_condT ?_ | refine tr_condCt ?_ | refine tr_condCf ?_) | ((with_reducible apply sto_go); (focus (intro cs'; repeat (first | exact ResAt.here | apply ResAt.there)))) | ((with_reducible refine al_go ?_); intro b) | ((with_reducible refine And.intro ?_ ?_); (focus ((repeat (first | exact keep_none | exact keep_nil | exact keep_ro | refine keep_cons ?_)); done))) | ((with_reducible refine s_bi ?_ ?_); (focus rfl)) | ((with_reducible apply a2_go); (focus (first | assumption | (intro h; cases h))); (focus (intro o'; repeat (first | exact ResAt.here | apply ResAt.there))); (focus (first | assumption | exact len_nil | exact len_one rfl | (intro a ha; obtain ⟨x, -, rfl⟩ := List.mem_map.1 ha; first | rfl | simp) | (intro a ha; simp at ha; simp [ha]))); (focus (first | assumption | exact len_nil | exact len_one rfl | (intro a ha; obtain ⟨x, -, rfl⟩ := List.mem_map.1 ha; first | rfl | simp) | (intro a ha; simp at ha; simp [ha]))); (focus (first | omega | (simp only [List.length_map, List.length_cons, List.length_nil, List.length_append]; omega))); (focus (first | omega | (simp only [List.length_map, List.length_cons, List.length_nil, List.length_append]; omega))); intro o' ho') | ((with_reducible apply p2_go); (focus (first | assumption | (intro h; cases h))); (focus (intro o'; repeat (first | exact ResAt.here | apply ResAt.there))); (focus (first | assumption | exact len_nil | exact len_one rfl | (intro a ha; obtain ⟨x, -, rfl⟩ := List.mem_map.1 ha; first | rfl | simp) | (intro a ha; simp at ha; simp [ha]))); (focus (first | omega | (simp only [List.length_map, List.length_cons, List.length_nil, List.length_append]; omega))); (focus (first | omega | (simp only [List.length_map, List.length_cons, List.length_nil, List.length_append]; omega))); intro o' ho') | with_reducible refine blk_ne rfl ?_ | ((with_reducible refine w_region ?_ ?_); (focus kernel_rfl)) | ((with_reducible refine w_draw [] ?_ ?_ ?_ ?_ ?_); (iterate 3 (focus kernel_rfl)); (focus exact keeps_nil)) | ((with_reducible first | refine gd_d1 ?_ ?_ | refine gd_d0 ?_ ?_); all_goals (intro hb; (first | with_reducible replace hb := nt_t hb | with_reducible replace hb := nt_f hb | skip); (first | replace hb := of_decide_eq_true hb | replace hb := of_decide_eq_false hb | have hb1 := eq_of_beq hb | have hb1 := ne_of_beq_false hb | have hb1 := bne_t hb | have hb1 := bne_f hb | skip); (try (exfalso; first | contradiction | omega)))))
  all_goals (refine ret_eq (by first | exact .inl rfl | exact .inr rfl) (by first | rfl | assumption) (by (repeat (first | exact List.Sublist.refl _ | apply List.Sublist.cons))) ?_; (try simp (disch := omega) only [push_cast, Nat.reduceEqDiff, reduceCtorEq, ↓reduceIte, Nat.reduceAdd, Nat.reduceMul, Nat.reduceSub, Nat.reduceLT, Nat.reduceLeDiff, Int.reduceToNat, Int.reduceLT, Int.reduceLE, Int.reduceAdd, Int.reduceSub, Int.reduceMul, Int.reduceBEq, Int.reduceBNe, encB, encI, RS.cells, RS.fail, RS.cut, Nat.mul_one, Int.reducePow, *]); try (first | exact LE.refl _ | exact LE.sl _ _ | (refine LE.tup ?_; (repeat' (first | exact LEL.nil | refine LEL.cons ?_ ?_ | exact LE.refl _ | exact LE.sl _ _ | refine LE.agg ?_)); done) | (refine LE.agg ?_; (repeat' (first | exact LEL.nil | refine LEL.cons ?_ ?_ | exact LE.refl _ | exact LE.sl _ _)); done) | refine LE.of_eq ?_))
theorem rdNum1F (o : Own) (l : List UInt8) (hl : l.length = 4) (st : St) : TrF Try.prog 59 [.sl o (l.map encB)] st fun x st' => x = .tup [.i (num l), .b (decide ((num l : Int) ≤ 2147483647))] ∧ st' = st := by
  have h1 : num l < 4294967296 := by
    have := num_lt l
    rw [hl] at this; exact this
  have hN := Lib.hid (binNumberF o l (by omega))
  generalize num l = q at *
  clear hl
  refine trF_enter (ts := [2,3]) Try.func59 rfl (by rw [Try.ntmps59]; exact Nat.le_of_ble_eq_true rfl) (fun tmps w => by simp [results, Try.results59, go_sem, resVal]) ?_
  simp only [Try.ntmps59]
  repeat' (first | ((with_reducible apply ev_go); (focus (try simp (disch := omega) only [push_cast, Nat.reduceEqDiff, reduceCtorEq, ↓reduceIte, Nat.reduceAdd, Nat.reduceMul, Nat.reduceSub, Nat.reduceLT, Nat.reduceLeDiff, Int.reduceToNat, Int.reduceLT, Int.reduceLE, Int.reduceAdd, Int.reduceSub, Int.reduceMul, Int.reduceBEq, Int.reduceBNe, encB, encI, RS.cells, RS.fail, RS.cut, Nat.mul_one, Int.reducePow, *]); (try exact rfl); done)) | ((with_reducible refine w_last ?_ ?_ ?_); (focus kernel_rfl); (focus rfl)) | ((with_reducible apply w_stepG); (focus rfl)) | ((with_reducible apply lk_mem); (focus ((repeat (first | exact List.Mem.head _ | apply List.Mem.tail)); done))) | with_reducible (first | refine w_step0 ?_ | refine w_nil ?_ | refine gd_tt ?_ | refine gd_ff ?_ | refine gd_tf ?_ | refine gd_ft ?_ | refine gd_un ?_ | refine s_move ?_ | refine s_assign ?_ | refine s_bin ?_ | refine s_un ?_ | refine s_conv ?_ | refine s_field ?_ | refine s_fieldAddr ?_ | refine s_ext ?_ | refine s_pick ?_ | refine s_nil ?_ | refine s_load ?_ | refine lk_ip ?_ | refine lk_ptr ?_ | refine s_index ?_ | refine s_indexAddr ?_ | refine s_slice ?_ | refine s_build ?_ | refine s_buildSlice ?_ | refine s_mk ?_ | refine s_store ?_ | refine s_alloc ?_ | refine s_call ?_ | refine s_ip ?_ | refine s_app ?_ | refine ak_go ?_ | refine s_aps ?_ | refine ap_go ?_ | refine p2_true ?_ | refine tr_seq ?_ | refine tr_block ?_ | refine tr_skip ?_ | refine tr_ret ?_ | refine tr_exit ?_ | refine tr_label ?_ | refine strip_norm ?_ | refine strip_ret ?_ | refine strip_exit ?_ | refine blk_norm ?_ | refine blk_ret ?_ | refine blk_same ?_ | refine tr_condT ?_ | refine tr_condCt ?_ | refine tr_condCf ?_) | ((with_reducible apply sto_go); (focus (intro cs'; repeat (first | exact ResAt.here | apply ResAt.there)))) | ((with_reducible refine al_go ?_); intro b) | ((with_reducible refine And.intro ?_ ?_); (focus ((repeat (first | exact keep_none | exact keep_nil | exact keep_ro | refine keep_cons ?_)); done))) | ((with_reducible apply (ck_le Try.call60)); (focus exact LEL.refl _); (focus exact hN.out _)) | ((with_reducible refine s_bi ?_ ?_); (focus rfl)) | ((with_reducible apply a2_go); (focus (first | assumption | (intro h; cases h))); (focus (intro o'; repeat (first | exact ResAt.here | apply ResAt.there))); (focus (first | assumption | exact len_nil | exact len_one rfl | (intro a ha; obtain ⟨x, -, rfl⟩ := List.mem_map.1 ha; first | rfl | simp) | (intro a ha; simp at ha; simp [ha]))); (focus (first | assumption | exact len_nil | exact len_one rfl | (intro a ha; obtain ⟨x, -, rfl⟩ := List.mem_map.1 ha; first | rfl | simp) | (intro a ha; simp at ha; simp [ha]))); (focus (first | omega | (simp only [List.length_map, List.length_cons, List.length_nil, List.length_append]; omega))); (focus (first | omega | (simp only [List.length_map, List.length_cons, List.length_nil, List.length_append]; omega))); intro o' ho') | ((with_reducible apply p2_go); (focus (first | assumption | (intro h; cases h))); (focus (intro o'; repeat (first | exact ResAt.here | apply ResAt.there))); (focus (first | assumption | exact len_nil | exact len_one rfl | (intro a ha; obtain ⟨x, -, rfl⟩ := List.mem_map.1 ha; first | rfl | simp) | (intro a ha; simp at ha; simp [ha]))); (focus (first | omega | (simp only [List.length_map, List.length_cons, List.length_nil, List.length_append]; omega))); (focus (first | omega | (simp only [List.length_map, List.length_cons, List.length_nil, List.length_append]; omega))); intro o' ho') | with_reducible refine blk_ne rfl ?_ | ((with_reducible refine w_region ?_ ?_); (focus kernel_rfl)) | ((with_reducible refine w_draw [] ?_ ?_ ?_ ?_ ?_); (iterate 3 (focus kernel_rfl)); (focus exact keeps_nil)) | ((with_reducible first | refine gd_d1 ?_ ?_ | refine gd_d0 ?_ ?_); all_goals (intro hb; (first | with_reducible replace hb := nt_t hb | with_reducible replace hb := nt_f hb | skip); (first | replace hb := of_decide_eq_true hb | replace hb := of_decide_eq_false hb | have hb1 := eq_of_beq hb | have hb1 := ne_of_beq_false hb | have hb1 := bne_t hb | have hb1 := bne_f hb | skip); (try (exfalso; first | contradiction | omega)))))
  all_goals (refine ret_eq (by first | exact .inl rfl | exact .inr rfl) (by first | rfl | assumption) (by (repeat (first | exact List.Sublist.refl _ | apply List.Sublist.cons))) ?_; (try simp (disch := omega) only [push_cast, Nat.reduceEqDiff, reduceCtorEq, ↓reduceIte, Nat.reduceAdd, Nat.reduceMul, Nat.reduceSub, Nat.reduceLT, Nat.reduceLeDiff, Int.reduceToNat, Int.reduceLT, Int.reduceLE, Int.reduceAdd, Int.reduceSub, Int.reduceMul, Int.reduceBEq, Int.reduceBNe, encB, encI, RS.cells, RS.fail, RS.cut, Nat.mul_one, Int.reducePow, *]); try (first | exact LE.refl _ | exact LE.sl _ _ | (refine LE.tup ?_; (repeat' (first | exact LEL.nil | refine LEL.cons ?_ ?_ | exact LE.refl _ | exact LE.sl _ _ | refine LE.agg ?_)); done) | (refine LE.agg ?_; (repeat' (first | exact LEL.nil | refine LEL.cons ?_ ?_ | exact LE.refl _ | exact LE.sl _ _)); done) | refine LE.of_eq ?_))
  all_goals (first | rfl | assumption | omega | (simp (disch := omega) only [push_cast, Nat.reduceEqDiff, reduceCtorEq, ↓reduceIte, Nat.reduceAdd, Nat.reduceMul, Nat.reduceSub, Nat.reduceLT, Nat.reduceLeDiff, Int.reduceToNat, Int.reduceLT, Int.reduceLE, Int.reduceAdd, Int.reduceSub, Int.reduceMul, Int.reduceBEq, Int.reduceBNe, encB, encI, RS.cells, RS.fail, RS.cut, Nat.mul_one, Int.reducePow, *]; try omega; done))
theorem rdLong1F (o : Own) (l : List UInt8) (hl : l.length = 8) (st : St) : TrF Try.prog 62 [.sl o (l.map encB)] st fun x st' => x = .tup [.i (IntKind.i64.wrap (num l)), .b true] ∧ st' = st := by
  have hN := Lib.hid (binNumberF o l (by omega))
  generalize num l = q at *
  clear hl
  refine trF_enter (ts := [2,3]) Try.func62 rfl (by rw [Try.ntmps62]; exact Nat.le_of_ble_eq_true rfl) (fun tmps w => by simp [results, Try.results62, go_sem, resVal]) ?_
  simp only [Try.ntmps62]
  repeat' (first | ((with_reducible apply ev_go); (focus (try simp (disch := omega) only [push_cast, Nat.reduceEqDiff, reduceCtorEq, ↓reduceIte, Nat.reduceAdd, Nat.reduceMul, Nat.reduceSub, Nat.reduceLT, Nat.reduceLeDiff, Int.reduceToNat, Int.reduceLT, Int.reduceLE, Int.reduceAdd, Int.reduceSub, Int.reduceMul, Int.reduceBEq, Int.reduceBNe, encB, encI, RS.cells, RS.fail, RS.cut, Nat.mul_one, Int.reducePow, *]); (try exact rfl); done)) | ((with_reducible refine w_last ?_ ?_ ?_); (focus kernel_rfl); (focus rfl)) | ((with_reducible apply w_stepG); (focus rfl)) | ((with_reducible apply lk_mem); (focus ((repeat (first | exact List.Mem.head _ | apply List.Mem.tail)); done))) | with_reducible (first | refine w_step0 ?_ | refine w_nil ?_ | refine gd_tt ?_ | refine gd_ff ?_ | refine gd_tf ?_ | refine gd_ft ?_ | refine gd_un ?_ | refine s_move ?_ | refine s_assign ?_ | refine s_bin ?_ | refine s_un ?_ | refine s_conv ?_ | refine s_field ?_ | refine s_fieldAddr ?_ | refine s_ext ?_ | refine s_pick ?_ | refine s_nil ?_ | refine s_load ?_ | refine lk_ip ?_ | refine lk_ptr ?_ | refine s_index ?_ | refine s_indexAddr ?_ | refine s_slice ?_ | refine s_build ?_ | refine s_buildSlice ?_ | refine s_mk ?_ | refine s_store ?_ | refine s_alloc ?_ | refine s_call ?_ | refine s_ip ?_ | refine s_app ?_ | refine ak_go ?_ | refine s_aps ?_ | refine ap_go ?_ | refine p2_true ?_ | refine tr_seq ?_ | refine tr_block ?_ | refine tr_skip ?_ | refine tr_ret ?_ | refine tr_exit ?_ | refine tr_label ?_ | refine strip_norm ?_ | refine strip_ret ?_ | refine strip_exit ?_ | refine blk_norm ?_ | refine blk_ret ?_ | refine blk_same ?_ | refine tr_condT ?_ | refine tr_condCt ?_ | refine tr_condCf ?_) | ((with_reducible apply sto_go); (focus (intro cs'; repeat (first | exact ResAt.here | apply ResAt.there)))) | ((with_reducible refine al_go ?_); intro b) | ((with_reducible refine And.intro ?_ ?_); (focus ((repeat (first | exact keep_none | exact keep_nil | exact keep_ro | refine keep_cons ?_)); done))) | ((with_reducible apply (ck_le Try.call60)); (focus exact LEL.refl _); (focus exact hN.out _)) | ((with_reducible refine s_bi ?_ ?_); (focus rfl)) | ((with_reducible apply a2_go); (focus (first | assumption | (intro h; cases h))); (focus (intro o'; repeat (first | exact ResAt.here | apply ResAt.there))); (focus (first | assumption | exact len_nil | exact len_one rfl | (intro a ha; obtain ⟨x, -, rfl⟩ := List.mem_map.1 ha; first | rfl | simp) | (intro a ha; simp at ha; simp [ha]))); (focus (first | assumption | exact len_nil | exact len_one rfl | (intro a ha; obtain ⟨x, -, rfl⟩ := List.mem_map.1 ha; first | rfl | simp) | (intro a ha; simp at ha; simp [ha]))); (focus (first | omega | (simp only [List.length_map, List.length_cons, List.length_nil, List.length_append]; omega))); (focus (first | omega | (simp only [List.length_map, List.length_cons, List.length_nil, List.length_append]; omega))); intro o' ho') | ((with_reducible apply p2_go); (focus (first | assumption | (intro h; cases h))); (focus (intro o'; repeat (first | exact ResAt.here | apply ResAt.there))); (focus (first | assumption | exact len_nil | exact len_one rfl | (intro a ha; obtain ⟨x, -, rfl⟩ := List.mem_map.1 ha; first | rfl | simp) | (intro a ha; simp at ha; simp [ha]))); (focus (first | omega | (simp only [List.length_map, List.length_cons, List.length_nil, List.length_append]; omega))); (focus (first | omega | (simp only [List.length_map, List.length_cons, List.length_nil, List.length_append]; omega))); intro o' ho') | with_reducible refine blk_ne rfl ?_ | ((with_reducible refine w_region ?_ ?_); (focus kernel_rfl)) | ((with_reducible refine w_draw [] ?_ ?_ ?_ ?_ ?_); (iterate 3 (focus kernel_rfl)); (focus exact keeps_nil)) | ((with_reducible first | refine gd_d1 ?_ ?_ | refine gd_d0 ?_ ?_); all_goals (intro hb; (first | with_reducible replace hb := nt_t hb | with_reducible replace hb := nt_f hb | skip); (first | replace hb := of_decide_eq_true hb | replace hb := of_decide_eq_false hb | have hb1 := eq_of_beq hb | have hb1 := ne_of_beq_false hb | have hb1 := bne_t hb | have hb1 := bne_f hb | skip); (try (exfalso; first | contradiction | omega)))))
  all_goals (refine ret_eq (by first | exact .inl rfl | exact .inr rfl) (by first | rfl | assumption) (by (repeat (first | exact List.Sublist.refl _ | apply List.Sublist.cons))) ?_; (try simp (disch := omega) only [push_cast, Nat.reduceEqDiff, reduceCtorEq, ↓reduceIte, Nat.reduceAdd, Nat.reduceMul, Nat.reduceSub, Nat.reduceLT, Nat.reduceLeDiff, Int.reduceToNat, Int.reduceLT, Int.reduceLE, Int.reduceAdd, Int.reduceSub, Int.reduceMul, Int.reduceBEq, Int.reduceBNe, encB, encI, RS.cells, RS.fail, RS.cut, Nat.mul_one, Int.reducePow, *]); try (first | exact LE.refl _ | exact LE.sl _ _ | (refine LE.tup ?_; (repeat' (first | exact LEL.nil | refine LEL.cons ?_ ?_ | exact LE.refl _ | exact LE.sl _ _ | refine LE.agg ?_)); done) | (refine LE.agg ?_; (repeat' (first | exact LEL.nil | refine LEL.cons ?_ ?_ | exact LE.refl _ | exact LE.sl _ _)); done) | refine LE.of_eq ?_))
theorem rdText1F (o : Own) (l : List UInt8) (st : St) : TrF Try.prog 64 [.sl o (l.map encB)] st fun x st' => x = .tup [.str ⟨l.toArray⟩, .b true] ∧ st' = st := by
  refine trF_enter (ts := [2,3]) Try.func64 rfl (by rw [Try.ntmps64]; exact Nat.le_of_ble_eq_true rfl) (fun tmps w => by simp [results, Try.results64, go_sem, resVal]) ?_
  simp only [Try.ntmps64]
  repeat' (first | ((with_reducible apply ev_go); (focus (try simp (disch := omega) only [push_cast, Nat.reduceEqDiff, reduceCtorEq, ↓reduceIte, Nat.reduceAdd, Nat.reduceMul, Nat.reduceSub, Nat.reduceLT, Nat.reduceLeDiff, Int.reduceToNat, Int.reduceLT, Int.reduceLE, Int.reduceAdd, Int.reduceSub, Int.reduceMul, Int.reduceBEq, Int.reduceBNe, encB, encI, RS.cells, RS.fail, RS.cut, Nat.mul_one, Int.reducePow, *]); (try exact rfl); done)) | ((with_reducible refine w_last ?_ ?_ ?_); (focus kernel_rfl); (focus rfl)) | ((with_reducible apply w_stepG); (focus rfl)) | ((with_reducible apply lk_mem); (focus ((repeat (first | exact List.Mem.head _ | apply List.Mem.tail)); done))) | with_reducible (first | refine w_step0 ?_ | refine w_nil ?_ | refine gd_tt ?_ | refine gd_ff ?_ | refine gd_tf ?_ | refine gd_ft ?_ | refine gd_un ?_ | refine s_move ?_ | refine s_assign ?_ | refine s_bin ?_ | refine s_un ?_ | refine s_conv ?_ | refine s_field ?_ | refine s_fieldAddr ?_ | refine s_ext ?_ | refine s_pick ?_ | refine s_nil ?_ | refine s_load ?_ | refine lk_ip ?_ | refine lk_ptr ?_ | refine s_index ?_ | refine s_indexAddr ?_ | refine s_slice ?_ | refine s_build ?_ | refine s_buildSlice ?_ | refine s_mk ?_ | refine s_store ?_ | refine s_alloc ?_ | refine s_call ?_ | refine s_ip ?_ | refine s_app ?_ | refine ak_go ?_ | refine s_aps ?_ | refine ap_go ?_ | refine p2_true ?_ | refine tr_seq ?_ | refine tr_block ?_ | refine tr_skip ?_ | refine tr_ret ?_ | refine tr_exit ?_ | refine tr_label ?_ | refine strip_norm ?_ | refine strip_ret ?_ | refine strip_exit ?_ | refine blk_norm ?_ | refine blk_ret ?_ | refine blk_same ?_ | refine tr_condT ?_ | refine tr_condCt ?_ | refine tr_condCf ?_) | ((with_reducible apply sto_go); (focus (intro cs'; repeat (first | exact ResAt.here | apply ResAt.there)))) | ((with_reducible refine al_go ?_); intro b) | ((with_reducible refine And.intro ?_ ?_); (focus ((repeat (first | exact keep_none | exact keep_nil | exact keep_ro | refine keep_cons ?_)); done))) | ((with_reducible refine s_bi ?_ ?_); (focus rfl)) | ((with_reducible apply a2_go); (focus (first | assumption | (intro h; cases h))); (focus (intro o'; repeat (first | exact ResAt.here | apply ResAt.there))); (focus (first | assumption | exact len_nil | exact len_one rfl | (intro a ha; obtain ⟨x, -, rfl⟩ := List.mem_map.1 ha; first | rfl | simp) | (intro a ha; simp at ha; simp [ha]))); (focus (first | assumption | exact len_nil | exact len_one rfl | (intro a ha; obtain ⟨x, -, rfl⟩ := List.mem_map.1 ha; first | rfl | simp) | (intro a ha; simp at ha; simp [ha]))); (focus (first | omega | (simp only [List.length_map, List.length_cons, List.length_nil, List.length_append]; omega))); (focus (first | omega | (simp only [List.length_map, List.length_cons, List.length_nil, List.length_append]; omega))); intro o' ho') | ((with_reducible apply p2_go); (focus (first | assumption | (intro h; cases h))); (focus (intro o'; repeat (first | exact ResAt.here | apply ResAt.there))); (focus (first | assumption | exact len_nil | exact len_one rfl | (intro a ha; obtain ⟨x, -, rfl⟩ := List.mem_map.1 ha; first | rfl | simp) | (intro a ha; simp at ha; simp [ha]))); (focus (first | omega | (simp only [List.length_map, List.length_cons, List.length_nil, List.length_append]; omega))); (focus (first | omega | (simp only [List.length_map, List.length_cons, List.length_nil, List.length_append]; omega))); intro o' ho') | with_reducible refine blk_ne rfl ?_ | ((with_reducible refine w_region ?_ ?_); (focus kernel_rfl)) | ((with_reducible refine w_draw [] ?_ ?_ ?_ ?_ ?_); (iterate 3 (focus kernel_rfl)); (focus exact keeps_nil)) | ((with_reducible first | refine gd_d1 ?_ ?_ | refine gd_d0 ?_ ?_); all_goals (intro hb; (first | with_reducible replace hb := nt_t hb | with_reducible replace hb := nt_f hb | skip); (first | replace hb := of_decide_eq_true hb | replace hb := of_decide_eq_false hb | have hb1 := eq_of_beq hb | have hb1 := ne_of_beq_false hb | have hb1 := bne_t hb | have hb1 := bne_f hb | skip); (try (exfalso; first | contradiction | omega)))))
  all_goals (refine ret_eq (by first | exact .inl rfl | exact .inr rfl) (by first | rfl | assumption) (by (repeat (first | exact List.Sublist.refl _ | apply List.Sublist.cons))) ?_; (try simp (disch := omega) only [push_cast, Nat.reduceEqDiff, reduceCtorEq, ↓reduceIte, Nat.reduceAdd, Nat.reduceMul, Nat.reduceSub, Nat.reduceLT, Nat.reduceLeDiff, Int.reduceToNat, Int.reduceLT, Int.reduceLE, Int.reduceAdd, Int.reduceSub, Int.reduceMul, Int.reduceBEq, Int.reduceBNe, encB, encI, RS.cells, RS.fail, RS.cut, Nat.mul_one, Int.reducePow, *]); try (first | exact LE.refl _ | exact LE.sl _ _ | (refine LE.tup ?_; (repeat' (first | exact LEL.nil | refine LEL.cons ?_ ?_ | exact LE.refl _ | exact LE.sl _ _ | refine LE.agg ?_)); done) | (refine LE.agg ?_; (repeat' (first | exact LEL.nil | refine LEL.cons ?_ ?_ | exact LE.refl _ | exact LE.sl _ _)); done) | refine LE.of_eq ?_))
end Go.Proofs.Ytgofckmlgkniaaa
end

/- Layer 6 over data: what a reader reads. No statement is proved here. -/
section
namespace Go.Proofs.Ytgofckmlgkniaaa
set_option linter.unusedSimpArgs false
open Go.RowKit B
set_option maxRecDepth 10000
set_option maxHeartbeats 4000000
namespace RS
def byte (s : RS) : Int × RS := if s.bad = true then (0, fail) else match s.l with
  | [] => (0, fail)
  | c :: _ => (c.toNat, s.cut 1)
def rnum (s : RS) : Int × RS := if s.bad = true ∨ s.l.length < 4 then (0, fail) else if num (s.l.take 4) ≤ 2147483647 then (num (s.l.take 4), s.cut 4) else (0, fail)
def long (s : RS) : Int × RS := if s.bad = true ∨ s.l.length < 8 then (0, fail) else (IntKind.i64.wrap (num (s.l.take 8)), s.cut 8)
def textN (s : RS) (n : Int) : ByteArray × RS := if s.bad = true ∨ n < 0 ∨ s.l.length < n then (⟨#[]⟩, fail) else (⟨(s.l.take n.toNat).toArray⟩, s.cut n.toNat)
def text (s : RS) : ByteArray × RS := s.rnum.2.textN s.rnum.1
end RS
theorem takeByteF (b : Nat) (s : RS) (st : St) : TrF Try.prog 57 [.ptr b 0, .i 1, .fn (.func 58) [] []] (rdR b s :: st) fun x st' => x = .i s.byte.1 ∧ st' = rdR b s.byte.2 :: st := by
  obtain ⟨o, l, bad⟩ := s
  have hB := Lib.hid (rdBadF b ⟨o, l, bad⟩)
  have hF := Lib.hid (rdFailF b ⟨o, l, bad⟩)
  cases bad with
  | true =>
    show TrF _ _ _ _ fun x st' => x = .i 0 ∧ st' = rdR b .fail :: st
    refine trF_enter (ts := [6]) Try.func57 rfl (by rw [Try.ntmps57]; exact Nat.le_of_ble_eq_true rfl) (fun tmps w => by simp [results, Try.results57, go_sem, resVal]) ?_
    simp only [Try.ntmps57]
    repeat' (first | ((with_reducible apply ev_go); (focus (try simp (disch := omega) only [push_cast, Nat.reduceEqDiff, reduceCtorEq, ↓reduceIte, Nat.reduceAdd, Nat.reduceMul, Nat.reduceSub, Nat.reduceLT, Nat.reduceLeDiff, Int.reduceToNat, Int.reduceLT, Int.reduceLE, Int.reduceAdd, Int.reduceSub, Int.reduceMul, Int.reduceBEq, Int.reduceBNe, encB, encI, RS.cells, RS.fail, RS.cut, Nat.mul_one, *]); (try exact rfl); done)) | ((with_reducible refine w_last ?_ ?_ ?_); (focus kernel_rfl); (focus rfl)) | ((with_reducible apply w_stepG); (focus rfl)) | ((with_reducible apply lk_mem); (focus ((repeat (first | exact List.Mem.head _ | apply List.Mem.tail)); done))) | with_reducible (first | refine w_step0 ?_ | refine w_nil ?_ | refine gd_tt ?_ | refine gd_ff ?_ | refine gd_tf ?_ | refine gd_ft ?_ | refine gd_un ?_ | refine s_move ?_ | refine s_assign ?_ | refine s_bin ?_ | refine s_un ?_ | refine s_conv ?_ | refine s_field ?_ | refine s_fieldAddr ?_ | refine s_ext ?_ | refine s_pick ?_ | refine s_nil ?_ | refine s_load ?_ | refine lk_ip ?_ | refine lk_ptr ?_ | refine s_index ?_ | refine s_indexAddr ?_ | refine s_slice ?_ | refine s_build ?_ | refine s_buildSlice ?_ | refine s_mk ?_ | refine s_store ?_ | refine s_alloc ?_ | refine s_call ?_ | refine s_ip ?_ | refine tr_seq ?_ | refine tr_block ?_ | refine tr_skip ?_ | refine tr_ret ?_ | refine tr_exit ?_ | refine tr_label ?_ | refine strip_norm ?_ | refine strip_ret ?_ | refine strip_exit ?_ | refine blk_norm ?_ | refine blk_ret ?_ | refine blk_same ?_ | refine tr_condT ?_ | refine tr_condCt ?_ | refine tr_condCf ?_) | ((with_reducible apply sto_go); (focus (intro cs'; repeat (first | exact ResAt.here | apply ResAt.there)))) | ((with_reducible refine al_go ?_); intro b) | ((with_reducible refine And.intro ?_ ?_); (focus ((repeat (first | exact keep_none | exact keep_nil | exact keep_ro | refine keep_cons ?_)); done))) | ((with_reducible apply (ck_le Try.call23)); (focus exact LEL.refl _); (focus exact hB.out _)) | ((with_reducible apply (ck_le Try.call66)); (focus exact LEL.refl _); (focus exact hF.out _)) | ((with_reducible refine s_bi ?_ ?_); (focus rfl)) | with_reducible refine blk_ne rfl ?_ | ((with_reducible refine w_region ?_ ?_); (focus kernel_rfl)) | ((with_reducible refine w_draw [] ?_ ?_ ?_ ?_ ?_); (iterate 3 (focus kernel_rfl)); (focus exact keeps_nil)) | ((with_reducible first | refine gd_d1 ?_ ?_ | refine gd_d0 ?_ ?_); all_goals (intro hb; (first | with_reducible replace hb := nt_t hb | with_reducible replace hb := nt_f hb | skip); (first | replace hb := of_decide_eq_true hb | replace hb := of_decide_eq_false hb | have hb1 := eq_of_beq hb | have hb1 := ne_of_beq_false hb | have hb1 := bne_t hb | have hb1 := bne_f hb | skip); (try (exfalso; first | contradiction | omega)))))
    all_goals (refine ret_eq (by first | exact .inl rfl | exact .inr rfl) (by first | rfl | assumption) (by (repeat (first | exact List.Sublist.refl _ | apply List.Sublist.cons))) ?_; (try simp (disch := omega) only [push_cast, Nat.reduceEqDiff, reduceCtorEq, ↓reduceIte, Nat.reduceAdd, Nat.reduceMul, Nat.reduceSub, Nat.reduceLT, Nat.reduceLeDiff, Int.reduceToNat, Int.reduceLT, Int.reduceLE, Int.reduceAdd, Int.reduceSub, Int.reduceMul, Int.reduceBEq, Int.reduceBNe, encB, encI, RS.cells, RS.fail, RS.cut, Nat.mul_one, *]); try (first | exact LE.refl _ | exact LE.sl _ _ | (refine LE.tup ?_; (repeat' (first | exact LEL.nil | refine LEL.cons ?_ ?_ | exact LE.refl _ | exact LE.sl _ _ | refine LE.agg ?_)); done) | (refine LE.agg ?_; (repeat' (first | exact LEL.nil | refine LEL.cons ?_ ?_ | exact LE.refl _ | exact LE.sl _ _)); done) | refine LE.of_eq ?_))
  | false =>
    cases l with
    | nil =>
      show TrF _ _ _ _ fun x st' => x = .i 0 ∧ st' = rdR b .fail :: st
      refine trF_enter (ts := [6]) Try.func57 rfl (by rw [Try.ntmps57]; exact Nat.le_of_ble_eq_true rfl) (fun tmps w => by simp [results, Try.results57, go_sem, resVal]) ?_
      simp only [Try.ntmps57]
      repeat' (first | ((with_reducible apply ev_go); (focus (try simp (disch := omega) only [push_cast, Nat.reduceEqDiff, reduceCtorEq, ↓reduceIte, Nat.reduceAdd, Nat.reduceMul, Nat.reduceSub, Nat.reduceLT, Nat.reduceLeDiff, Int.reduceToNat, Int.reduceLT, Int.reduceLE, Int.reduceAdd, Int.reduceSub, Int.reduceMul, Int.reduceBEq, Int.reduceBNe, encB, encI, RS.cells, RS.fail, RS.cut, Nat.mul_one, *]); (try exact rfl); done)) | ((with_reducible refine w_last ?_ ?_ ?_); (focus kernel_rfl); (focus rfl)) | ((with_reducible apply w_stepG); (focus rfl)) | ((with_reducible apply lk_mem); (focus ((repeat (first | exact List.Mem.head _ | apply List.Mem.tail)); done))) | with_reducible (first | refine w_step0 ?_ | refine w_nil ?_ | refine gd_tt ?_ | refine gd_ff ?_ | refine gd_tf ?_ | refine gd_ft ?_ | refine gd_un ?_ | refine s_move ?_ | refine s_assign ?_ | refine s_bin ?_ | refine s_un ?_ | refine s_conv ?_ | refine s_field ?_ | refine s_fieldAddr ?_ | refine s_ext ?_ | refine s_pick ?_ | refine s_nil ?_ | refine s_load ?_ | refine lk_ip ?_ | refine lk_ptr ?_ | refine s_index ?_ | refine s_indexAddr ?_ | refine s_slice ?_ | refine s_build ?_ | refine s_buildSlice ?_ | refine s_mk ?_ | refine s_store ?_ | refine s_alloc ?_ | refine s_call ?_ | refine s_ip ?_ | refine tr_seq ?_ | refine tr_block ?_ | refine tr_skip ?_ | refine tr_ret ?_ | refine tr_exit ?_ | refine tr_label ?_ | refine strip_norm ?_ | refine strip_ret ?_ | refine strip_exit ?_ | refine blk_norm ?_ | refine blk_ret ?_ | refine blk_same ?_ | refine tr_condT ?_ | refine tr_condCt ?_ | refine tr_condCf ?_) | ((with_reducible apply sto_go); (focus (intro cs'; repeat (first | exact ResAt.here | apply ResAt.there)))) | ((with_reducible refine al_go ?_); intro b) | ((with_reducible refine And.intro ?_ ?_); (focus ((repeat (first | exact keep_none | exact keep_nil | exact keep_ro | refine keep_cons ?_)); done))) | ((with_reducible apply (ck_le Try.call23)); (focus exact LEL.refl _); (focus exact hB.out _)) | ((with_reducible apply (ck_le Try.call66)); (focus exact LEL.refl _); (focus exact hF.out _)) | ((with_reducible refine s_bi ?_ ?_); (focus rfl)) | with_reducible refine blk_ne rfl ?_ | ((with_reducible refine w_region ?_ ?_); (focus kernel_rfl)) | ((with_reducible refine w_draw [] ?_ ?_ ?_ ?_ ?_); (iterate 3 (focus kernel_rfl)); (focus exact keeps_nil)) | ((with_reducible first | refine gd_d1 ?_ ?_ | refine gd_d0 ?_ ?_); all_goals (intro hb; (first | with_reducible replace hb := nt_t hb | with_reducible replace hb := nt_f hb | skip); (first | replace hb := of_decide_eq_true hb | replace hb := of_decide_eq_false hb | have hb1 := eq_of_beq hb | have hb1 := ne_of_beq_false hb | have hb1 := bne_t hb | have hb1 := bne_f hb | skip); (try (exfalso; first | contradiction | omega)))))
      all_goals (refine ret_eq (by first | exact .inl rfl | exact .inr rfl) (by first | rfl | assumption) (by (repeat (first | exact List.Sublist.refl _ | apply List.Sublist.cons))) ?_; (try simp (disch := omega) only [push_cast, Nat.reduceEqDiff, reduceCtorEq, ↓reduceIte, Nat.reduceAdd, Nat.reduceMul, Nat.reduceSub, Nat.reduceLT, Nat.reduceLeDiff, Int.reduceToNat, Int.reduceLT, Int.reduceLE, Int.reduceAdd, Int.reduceSub, Int.reduceMul, Int.reduceBEq, Int.reduceBNe, encB, encI, RS.cells, RS.fail, RS.cut, Nat.mul_one, *]); try (first | exact LE.refl _ | exact LE.sl _ _ | (refine LE.tup ?_; (repeat' (first | exact LEL.nil | refine LEL.cons ?_ ?_ | exact LE.refl _ | exact LE.sl _ _ | refine LE.agg ?_)); done) | (refine LE.agg ?_; (repeat' (first | exact LEL.nil | refine LEL.cons ?_ ?_ | exact LE.refl _ | exact LE.sl _ _)); done) | refine LE.of_eq ?_))
    | cons c t =>
      show TrF _ _ _ _ fun x st' => x = .i c.toNat ∧ st' = rdR b ⟨.shared, t, false⟩ :: st
      have hlt : ¬ ((t.length : Int) + 1 < 1) := by omega
      have htk : List.take t.length (List.map encB t) = List.map encB t := List.take_of_length_le (by simp)
      refine trF_enter (ts := [6]) Try.func57 rfl (by rw [Try.ntmps57]; exact Nat.le_of_ble_eq_true rfl) (fun tmps w => by simp [results, Try.results57, go_sem, resVal]) ?_
      simp only [Try.ntmps57]
      repeat' (first | ((with_reducible apply ev_go); (focus (try simp (disch := omega) only [push_cast, Nat.reduceEqDiff, reduceCtorEq, ↓reduceIte, Nat.reduceAdd, Nat.reduceMul, Nat.reduceSub, Nat.reduceLT, Nat.reduceLeDiff, Int.reduceToNat, Int.reduceLT, Int.reduceLE, Int.reduceAdd, Int.reduceSub, Int.reduceMul, Int.reduceBEq, Int.reduceBNe, encB, encI, RS.cells, RS.fail, RS.cut, Nat.mul_one, *]); (try exact rfl); done)) | ((with_reducible refine w_last ?_ ?_ ?_); (focus kernel_rfl); (focus rfl)) | ((with_reducible apply w_stepG); (focus rfl)) | ((with_reducible apply lk_mem); (focus ((repeat (first | exact List.Mem.head _ | apply List.Mem.tail)); done))) | with_reducible (first | refine w_step0 ?_ | refine w_nil ?_ | refine gd_tt ?_ | refine gd_ff ?_ | refine gd_tf ?_ | refine gd_ft ?_ | refine gd_un ?_ | refine s_move ?_ | refine s_assign ?_ | refine s_bin ?_ | refine s_un ?_ | refine s_conv ?_ | refine s_field ?_ | refine s_fieldAddr ?_ | refine s_ext ?_ | refine s_pick ?_ | refine s_nil ?_ | refine s_load ?_ | refine lk_ip ?_ | refine lk_ptr ?_ | refine s_index ?_ | refine s_indexAddr ?_ | refine s_slice ?_ | refine s_build ?_ | refine s_buildSlice ?_ | refine s_mk ?_ | refine s_store ?_ | refine s_alloc ?_ | refine s_call ?_ | refine s_ip ?_ | refine tr_seq ?_ | refine tr_block ?_ | refine tr_skip ?_ | refine tr_ret ?_ | refine tr_exit ?_ | refine tr_label ?_ | refine strip_norm ?_ | refine strip_ret ?_ | refine strip_exit ?_ | refine blk_norm ?_ | refine blk_ret ?_ | refine blk_same ?_ | refine tr_condT ?_ | refine tr_condCt ?_ | refine tr_condCf ?_) | ((with_reducible apply sto_go); (focus (intro cs'; repeat (first | exact ResAt.here | apply ResAt.there)))) | ((with_reducible refine al_go ?_); intro b) | ((with_reducible refine And.intro ?_ ?_); (focus ((repeat (first | exact keep_none | exact keep_nil | exact keep_ro | refine keep_cons ?_)); done))) | ((with_reducible apply (ck_le Try.call23)); (focus exact LEL.refl _); (focus exact hB.out _)) | ((with_reducible apply (ck_le Try.call66)); (focus exact LEL.refl _); (focus exact hF.out _)) | ((with_reducible apply (ck_le Try.call58)); (focus exact LEL.refl _); (focus exact rdByte1F _ c [] _)) | ((with_reducible refine s_bi ?_ ?_); (focus rfl)) | with_reducible refine blk_ne rfl ?_ | ((with_reducible refine w_region ?_ ?_); (focus kernel_rfl)) | ((with_reducible refine w_draw [] ?_ ?_ ?_ ?_ ?_); (iterate 3 (focus kernel_rfl)); (focus exact keeps_nil)) | ((with_reducible first | refine gd_d1 ?_ ?_ | refine gd_d0 ?_ ?_); all_goals (intro hb; (first | with_reducible replace hb := nt_t hb | with_reducible replace hb := nt_f hb | skip); (first | replace hb := of_decide_eq_true hb | replace hb := of_decide_eq_false hb | have hb1 := eq_of_beq hb | have hb1 := ne_of_beq_false hb | have hb1 := bne_t hb | have hb1 := bne_f hb | skip); (try (exfalso; first | contradiction | omega)))))
      all_goals (refine ret_eq (by first | exact .inl rfl | exact .inr rfl) (by first | rfl | assumption) (by (repeat (first | exact List.Sublist.refl _ | apply List.Sublist.cons))) ?_; (try simp (disch := omega) only [push_cast, Nat.reduceEqDiff, reduceCtorEq, ↓reduceIte, Nat.reduceAdd, Nat.reduceMul, Nat.reduceSub, Nat.reduceLT, Nat.reduceLeDiff, Int.reduceToNat, Int.reduceLT, Int.reduceLE, Int.reduceAdd, Int.reduceSub, Int.reduceMul, Int.reduceBEq, Int.reduceBNe, encB, encI, RS.cells, RS.fail, RS.cut, Nat.mul_one, *]); try (first | exact LE.refl _ | exact LE.sl _ _ | (refine LE.tup ?_; (repeat' (first | exact LEL.nil | refine LEL.cons ?_ ?_ | exact LE.refl _ | exact LE.sl _ _ | refine LE.agg ?_)); done) | (refine LE.agg ?_; (repeat' (first | exact LEL.nil | refine LEL.cons ?_ ?_ | exact LE.refl _ | exact LE.sl _ _)); done) | refine LE.of_eq ?_))

theorem takeNumF (b : Nat) (o : Own) (l p t : List UInt8) (hl : p ++ t = l) (hp : p.length = 4) (hx : num p ≤ 2147483647) (st : St) : TrF Try.prog 57 [.ptr b 0, .i 4, .fn (.func 59) [] []] (rdR b ⟨o, l, false⟩ :: st) fun x st' => x = .i (num p) ∧ st' = rdR b ⟨.shared, t, false⟩ :: st := by
  have hB := Lib.hid (rdBadF b ⟨o, l, false⟩)
  have hC := fun o => rdNum1F o p hp
  have hx : ((num p : Nat) : Int) ≤ 2147483647 := by omega
  have hln : l.length = 4 + t.length := by rw [← hl, List.length_append, hp]
  have hT : List.take 4 (List.map encB l) = List.map encB p := by rw [← List.map_take, ← hl, ← hp, List.take_left]
  have hD : List.drop 4 (List.map encB l) = List.map encB t := by rw [← List.map_drop, ← hl, ← hp, List.drop_left]
  have hTT : List.take t.length (List.map encB t) = List.map encB t := List.take_of_length_le (by simp)
  replace hC := Lib.hid hC
  clear hl
  generalize num p = q at *
  refine trF_enter (ts := [6]) Try.func57 rfl (by rw [Try.ntmps57]; exact Nat.le_of_ble_eq_true rfl) (fun tmps w => by simp [results, Try.results57, go_sem, resVal]) ?_
  simp only [Try.ntmps57]
  repeat' (first | ((with_reducible apply ev_go); (focus (try simp (disch := omega) only [push_cast, Nat.reduceEqDiff, reduceCtorEq, ↓reduceIte, Nat.reduceAdd, Nat.reduceMul, Nat.reduceSub, Nat.reduceLT, Nat.reduceLeDiff, Int.reduceToNat, Int.reduceLT, Int.reduceLE, Int.reduceAdd, Int.reduceSub, Int.reduceMul, Int.reduceBEq, Int.reduceBNe, encB, encI, RS.cells, RS.fail, RS.cut, Nat.mul_one, *]); (try exact rfl); done)) | ((with_reducible refine w_last ?_ ?_ ?_); (focus kernel_rfl); (focus rfl)) | ((with_reducible apply w_stepG); (focus rfl)) | ((with_reducible apply lk_mem); (focus ((repeat (first | exact List.Mem.head _ | apply List.Mem.tail)); done))) | with_reducible (first | refine w_step0 ?_ | refine w_nil ?_ | refine gd_tt ?_ | refine gd_ff ?_ | refine gd_tf ?_ | refine gd_ft ?_ | refine gd_un ?_ | refine s_move ?_ | refine s_assign ?_ | refine s_bin ?_ | refine s_un ?_ | refine s_conv ?_ | refine s_field ?_ | refine s_fieldAddr ?_ | refine s_ext ?_ | refine s_pick ?_ | refine s_nil ?_ | refine s_load ?_ | refine lk_ip ?_ | refine lk_ptr ?_ | refine s_index ?_ | refine s_indexAddr ?_ | refine s_slice ?_ | refine s_build ?_ | refine s_buildSlice ?_ | refine s_mk ?_ | refine s_store ?_ | refine s_alloc ?_ | refine s_call ?_ | refine s_ip ?_ | refine s_app ?_ | refine ak_go ?_ | refine s_aps ?_ | refine ap_go ?_ | refine p2_true ?_ | refine tr_seq ?_ | refine tr_block ?_ | refine tr_skip ?_ | refine tr_ret ?_ | refine tr_exit ?_ | refine tr_label ?_ | refine strip_norm ?_ | refine strip_ret ?_ | refine strip_exit ?_ | refine blk_norm ?_ | refine blk_ret ?_ | refine blk_same ?_ | refine tr_condT ?_ | refine tr_condCt ?_ | refine tr_condCf ?_) | ((with_reducible apply sto_go); (focus (intro cs'; repeat (first | exact ResAt.here | apply ResAt.there)))) | ((with_reducible refine al_go ?_); intro b) | ((with_reducible refine And.intro ?_ ?_); (focus ((repeat (first | exact keep_none | exact keep_nil | exact keep_ro | refine keep_cons ?_)); done))) | ((with_reducible apply (ck_le Try.call23)); (focus exact LEL.refl _); (focus exact hB.out _)) | ((with_reducible apply (ck_le Try.call59)); (focus exact LEL.refl _); (focus exact hC.out _ _)) | ((with_reducible refine s_bi ?_ ?_); (focus rfl)) | ((with_reducible apply a2_go); (focus (first | assumption | (intro h; cases h))); (focus (intro o'; repeat (first | exact ResAt.here | apply ResAt.there))); (focus (first | assumption | exact len_nil | exact len_one rfl | (intro a ha; obtain ⟨x, -, rfl⟩ := List.mem_map.1 ha; first | rfl | simp) | (intro a ha; simp at ha; simp [ha]))); (focus (first | assumption | exact len_nil | exact len_one rfl | (intro a ha; obtain ⟨x, -, rfl⟩ := List.mem_map.1 ha; first | rfl | simp) | (intro a ha; simp at ha; simp [ha]))); (focus (first | omega | (simp only [List.length_map, List.length_cons, List.length_nil, List.length_append]; omega))); (focus (first | omega | (simp only [List.length_map, List.length_cons, List.length_nil, List.length_append]; omega))); intro o' ho') | ((with_reducible apply p2_go); (focus (first | assumption | (intro h; cases h))); (focus (intro o'; repeat (first | exact ResAt.here | apply ResAt.there))); (focus (first | assumption | exact len_nil | exact len_one rfl | (intro a ha; obtain ⟨x, -, rfl⟩ := List.mem_map.1 ha; first | rfl | simp) | (intro a ha; simp at ha; simp [ha]))); (focus (first | omega | (simp only [List.length_map, List.length_cons, List.length_nil, List.length_append]; omega))); (focus (first | omega | (simp only [List.length_map, List.length_cons, List.length_nil, List.length_append]; omega))); intro o' ho') | with_reducible refine blk_ne rfl ?_ | ((with_reducible refine w_region ?_ ?_); (focus kernel_rfl)) | ((with_reducible refine w_draw [] ?_ ?_ ?_ ?_ ?_); (iterate 3 (focus kernel_rfl)); (focus exact keeps_nil)) | ((with_reducible first | refine gd_d1 ?_ ?_ | refine gd_d0 ?_ ?_); all_goals (intro hb; (first | with_reducible replace hb := nt_t hb | with_reducible replace hb := nt_f hb | skip); (first | replace hb := of_decide_eq_true hb | replace hb := of_decide_eq_false hb | have hb1 := eq_of_beq hb | have hb1 := ne_of_beq_false hb | have hb1 := bne_t hb | have hb1 := bne_f hb | skip); (try (exfalso; first | contradiction | omega)))))
  all_goals (refine ret_eq (by first | exact .inl rfl | exact .inr rfl) (by first | rfl | assumption) (by (repeat (first | exact List.Sublist.refl _ | apply List.Sublist.cons))) ?_; (try simp (disch := omega) only [push_cast, Nat.reduceEqDiff, reduceCtorEq, ↓reduceIte, Nat.reduceAdd, Nat.reduceMul, Nat.reduceSub, Nat.reduceLT, Nat.reduceLeDiff, Int.reduceToNat, Int.reduceLT, Int.reduceLE, Int.reduceAdd, Int.reduceSub, Int.reduceMul, Int.reduceBEq, Int.reduceBNe, encB, encI, RS.cells, RS.fail, RS.cut, Nat.mul_one, *]); try (first | exact LE.refl _ | exact LE.sl _ _ | (refine LE.tup ?_; (repeat' (first | exact LEL.nil | refine LEL.cons ?_ ?_ | exact LE.refl _ | exact LE.sl _ _ | refine LE.agg ?_)); done) | (refine LE.agg ?_; (repeat' (first | exact LEL.nil | refine LEL.cons ?_ ?_ | exact LE.refl _ | exact LE.sl _ _)); done) | refine LE.of_eq ?_))

theorem takeLongF (b : Nat) (o : Own) (l p t : List UInt8) (hl : p ++ t = l) (hp : p.length = 8) (st : St) : TrF Try.prog 61 [.ptr b 0, .i 8, .fn (.func 62) [] []] (rdR b ⟨o, l, false⟩ :: st) fun x st' => x = .i (IntKind.i64.wrap (num p)) ∧ st' = rdR b ⟨.shared, t, false⟩ :: st := by
  have hB := Lib.hid (rdBadF b ⟨o, l, false⟩)
  have hC := fun o => rdLong1F o p hp
  skip
  have hln : l.length = 8 + t.length := by rw [← hl, List.length_append, hp]
  have hT : List.take 8 (List.map encB l) = List.map encB p := by rw [← List.map_take, ← hl, ← hp, List.take_left]
  have hD : List.drop 8 (List.map encB l) = List.map encB t := by rw [← List.map_drop, ← hl, ← hp, List.drop_left]
  have hTT : List.take t.length (List.map encB t) = List.map encB t := List.take_of_length_le (by simp)
  replace hC := Lib.hid hC
  clear hl
  generalize num p = q at *
  refine trF_enter (ts := [6]) Try.func61 rfl (by rw [Try.ntmps61]; exact Nat.le_of_ble_eq_true rfl) (fun tmps w => by simp [results, Try.results61, go_sem, resVal]) ?_
  simp only [Try.ntmps61]
  repeat' (first | ((with_reducible apply ev_go); (focus (try simp (disch := omega) only [push_cast, Nat.reduceEqDiff, reduceCtorEq, ↓reduceIte, Nat.reduceAdd, Nat.reduceMul, Nat.reduceSub, Nat.reduceLT, Nat.reduceLeDiff, Int.reduceToNat, Int.reduceLT, Int.reduceLE, Int.reduceAdd, Int.reduceSub, Int.reduceMul, Int.reduceBEq, Int.reduceBNe, encB, encI, RS.cells, RS.fail, RS.cut, Nat.mul_one, *]); (try exact rfl); done)) | ((with_reducible refine w_last ?_ ?_ ?_); (focus kernel_rfl); (focus rfl)) | ((with_reducible apply w_stepG); (focus rfl)) | ((with_reducible apply lk_mem); (focus ((repeat (first | exact List.Mem.head _ | apply List.Mem.tail)); done))) | with_reducible (first | refine w_step0 ?_ | refine w_nil ?_ | refine gd_tt ?_ | refine gd_ff ?_ | refine gd_tf ?_ | refine gd_ft ?_ | refine gd_un ?_ | refine s_move ?_ | refine s_assign ?_ | refine s_bin ?_ | refine s_un ?_ | refine s_conv ?_ | refine s_field ?_ | refine s_fieldAddr ?_ | refine s_ext ?_ | refine s_pick ?_ | refine s_nil ?_ | refine s_load ?_ | refine lk_ip ?_ | refine lk_ptr ?_ | refine s_index ?_ | refine s_indexAddr ?_ | refine s_slice ?_ | refine s_build ?_ | refine s_buildSlice ?_ | refine s_mk ?_ | refine s_store ?_ | refine s_alloc ?_ | refine s_call ?_ | refine s_ip ?_ | refine s_app ?_ | refine ak_go ?_ | refine s_aps ?_ | refine ap_go ?_ | refine p2_true ?_ | refine tr_seq ?_ | refine tr_block ?_ | refine tr_skip ?_ | refine tr_ret ?_ | refine tr_exit ?_ | refine tr_label ?_ | refine strip_norm ?_ | refine strip_ret ?_ | refine strip_exit ?_ | refine blk_norm ?_ | refine blk_ret ?_ | refine blk_same ?_ | refine tr_condT ?_ | refine tr_condCt ?_ | refine tr_condCf ?_) | ((with_reducible apply sto_go); (focus (intro cs'; repeat (first | exact ResAt.here | apply ResAt.there)))) | ((with_reducible refine al_go ?_); intro b) | ((with_reducible refine And.intro ?_ ?_); (focus ((repeat (first | exact keep_none | exact keep_nil | exact keep_ro | refine keep_cons ?_)); done))) | ((with_reducible apply (ck_le Try.call23)); (focus exact LEL.refl _); (focus exact hB.out _)) | ((with_reducible apply (ck_le Try.call62)); (focus exact LEL.refl _); (focus exact hC.out _ _)) | ((with_reducible refine s_bi ?_ ?_); (focus rfl)) | ((with_reducible apply a2_go); (focus (first | assumption | (intro h; cases h))); (focus (intro o'; repeat (first | exact ResAt.here | apply ResAt.there))); (focus (first | assumption | exact len_nil | exact len_one rfl | (intro a ha; obtain ⟨x, -, rfl⟩ := List.mem_map.1 ha; first | rfl | simp) | (intro a ha; simp at ha; simp [ha]))); (focus (first | assumption | exact len_nil | exact len_one rfl | (intro a ha; obtain ⟨x, -, rfl⟩ := List.mem_map.1 ha; first | rfl | simp) | (intro a ha; simp at ha; simp [ha]))); (focus (first | omega | (simp only [List.length_map, List.length_cons, List.length_nil, List.length_append]; omega))); (focus (first | omega | (simp only [List.length_map, List.length_cons, List.length_nil, List.length_append]; omega))); intro o' ho') | ((with_reducible apply p2_go); (focus (first | assumption | (intro h; cases h))); (focus (intro o'; repeat (first | exact ResAt.here | apply ResAt.there))); (focus (first | assumption | exact len_nil | exact len_one rfl | (intro a ha; obtain ⟨x, -, rfl⟩ := List.mem_map.1 ha; first | rfl | simp) | (intro a ha; simp at ha; simp [ha]))); (focus (first | omega | (simp only [List.length_map, List.length_cons, List.length_nil, List.length_append]; omega))); (focus (first | omega | (simp only [List.length_map, List.length_cons, List.length_nil, List.length_append]; omega))); intro o' ho') | with_reducible refine blk_ne rfl ?_ | ((with_reducible refine w_region ?_ ?_); (focus kernel_rfl)) | ((with_reducible refine w_draw [] ?_ ?_ ?_ ?_ ?_); (iterate 3 (focus kernel_rfl)); (focus exact keeps_nil)) | ((with_reducible first | refine gd_d1 ?_ ?_ | refine gd_d0 ?_ ?_); all_goals (intro hb; (first | with_reducible replace hb := nt_t hb | with_reducible replace hb := nt_f hb | skip); (first | replace hb := of_decide_eq_true hb | replace hb := of_decide_eq_false hb | have hb1 := eq_of_beq hb | have hb1 := ne_of_beq_false hb | have hb1 := bne_t hb | have hb1 := bne_f hb | skip); (try (exfalso; first | contradiction | omega)))))
  all_goals (refine ret_eq (by first | exact .inl rfl | exact .inr rfl) (by first | rfl | assumption) (by (repeat (first | exact List.Sublist.refl _ | apply List.Sublist.cons))) ?_; (try simp (disch := omega) only [push_cast, Nat.reduceEqDiff, reduceCtorEq, ↓reduceIte, Nat.reduceAdd, Nat.reduceMul, Nat.reduceSub, Nat.reduceLT, Nat.reduceLeDiff, Int.reduceToNat, Int.reduceLT, Int.reduceLE, Int.reduceAdd, Int.reduceSub, Int.reduceMul, Int.reduceBEq, Int.reduceBNe, encB, encI, RS.cells, RS.fail, RS.cut, Nat.mul_one, *]); try (first | exact LE.refl _ | exact LE.sl _ _ | (refine LE.tup ?_; (repeat' (first | exact LEL.nil | refine LEL.cons ?_ ?_ | exact LE.refl _ | exact LE.sl _ _ | refine LE.agg ?_)); done) | (refine LE.agg ?_; (repeat' (first | exact LEL.nil | refine LEL.cons ?_ ?_ | exact LE.refl _ | exact LE.sl _ _)); done) | refine LE.of_eq ?_))

theorem takeTextF (b : Nat) (o : Own) (l p t : List UInt8) (n : Nat) (hl : p ++ t = l) (hp : p.length = n) (st : St) : TrF Try.prog 63 [.ptr b 0, .i n, .fn (.func 64) [] []] (rdR b ⟨o, l, false⟩ :: st) fun x st' => x = .str ⟨p.toArray⟩ ∧ st' = rdR b ⟨.shared, t, false⟩ :: st := by
  have hB := Lib.hid (rdBadF b ⟨o, l, false⟩)
  have hC := Lib.hid fun o => rdText1F o p
  have hln : l.length = n + t.length := by rw [← hl, List.length_append, hp]
  have hT : List.take n (List.map encB l) = List.map encB p := by rw [← List.map_take, ← hl, ← hp, List.take_left]
  have hD : List.drop n (List.map encB l) = List.map encB t := by rw [← List.map_drop, ← hl, ← hp, List.drop_left]
  have hTT : List.take t.length (List.map encB t) = List.map encB t := List.take_of_length_le (by simp)
  clear hl
  refine trF_enter (ts := [6]) Try.func63 rfl (by rw [Try.ntmps63]; exact Nat.le_of_ble_eq_true rfl) (fun tmps w => by simp [results, Try.results63, go_sem, resVal]) ?_
  simp only [Try.ntmps63]
  repeat' (first | ((with_reducible apply ev_go); (focus (try simp (disch := omega) only [push_cast, Nat.reduceEqDiff, reduceCtorEq, ↓reduceIte, Nat.reduceAdd, Nat.reduceMul, Nat.reduceSub, Nat.reduceLT, Nat.reduceLeDiff, Int.reduceToNat, Int.reduceLT, Int.reduceLE, Int.reduceAdd, Int.reduceSub, Int.reduceMul, Int.reduceBEq, Int.reduceBNe, encB, encI, RS.cells, RS.fail, RS.cut, Nat.mul_one, *]); (try exact rfl); done)) | ((with_reducible refine w_last ?_ ?_ ?_); (focus kernel_rfl); (focus rfl)) | ((with_reducible apply w_stepG); (focus rfl)) | ((with_reducible apply lk_mem); (focus ((repeat (first | exact List.Mem.head _ | apply List.Mem.tail)); done))) | with_reducible (first | refine w_step0 ?_ | refine w_nil ?_ | refine gd_tt ?_ | refine gd_ff ?_ | refine gd_tf ?_ | refine gd_ft ?_ | refine gd_un ?_ | refine s_move ?_ | refine s_assign ?_ | refine s_bin ?_ | refine s_un ?_ | refine s_conv ?_ | refine s_field ?_ | refine s_fieldAddr ?_ | refine s_ext ?_ | refine s_pick ?_ | refine s_nil ?_ | refine s_load ?_ | refine lk_ip ?_ | refine lk_ptr ?_ | refine s_index ?_ | refine s_indexAddr ?_ | refine s_slice ?_ | refine s_build ?_ | refine s_buildSlice ?_ | refine s_mk ?_ | refine s_store ?_ | refine s_alloc ?_ | refine s_call ?_ | refine s_ip ?_ | refine s_app ?_ | refine ak_go ?_ | refine s_aps ?_ | refine ap_go ?_ | refine p2_true ?_ | refine tr_seq ?_ | refine tr_block ?_ | refine tr_skip ?_ | refine tr_ret ?_ | refine tr_exit ?_ | refine tr_label ?_ | refine strip_norm ?_ | refine strip_ret ?_ | refine strip_exit ?_ | refine blk_norm ?_ | refine blk_ret ?_ | refine blk_same ?_ | refine tr_condT ?_ | refine tr_condCt ?_ | refine tr_condCf ?_) | ((with_reducible apply sto_go); (focus (intro cs'; repeat (first | exact ResAt.here | apply ResAt.there)))) | ((with_reducible refine al_go ?_); intro b) | ((with_reducible refine And.intro ?_ ?_); (focus ((repeat (first | exact keep_none | exact keep_nil | exact keep_ro | refine keep_cons ?_)); done))) | ((with_reducible apply (ck_le Try.call23)); (focus exact LEL.refl _); (focus exact hB.out _)) | ((with_reducible apply (ck_le Try.call64)); (focus exact LEL.refl _); (focus exact hC.out _ _)) | ((with_reducible refine s_bi ?_ ?_); (focus rfl)) | ((with_reducible apply a2_go); (focus (first | assumption | (intro h; cases h))); (focus (intro o'; repeat (first | exact ResAt.here | apply ResAt.there))); (focus (first | assumption | exact len_nil | exact len_one rfl | (intro a ha; obtain ⟨x, -, rfl⟩ := List.mem_map.1 ha; first | rfl | simp) | (intro a ha; simp at ha; simp [ha]))); (focus (first | assumption | exact len_nil | exact len_one rfl | (intro a ha; obtain ⟨x, -, rfl⟩ := List.mem_map.1 ha; first | rfl | simp) | (intro a ha; simp at ha; simp [ha]))); (focus (first | omega | (simp only [List.length_map, List.length_cons, List.length_nil, List.length_append]; omega))); (focus (first | omega | (simp only [List.length_map, List.length_cons, List.length_nil, List.length_append]; omega))); intro o' ho') | ((with_reducible apply p2_go); (focus (first | assumption | (intro h; cases h))); (focus (intro o'; repeat (first | exact ResAt.here | apply ResAt.there))); (focus (first | assumption | exact len_nil | exact len_one rfl | (intro a ha; obtain ⟨x, -, rfl⟩ := List.mem_map.1 ha; first | rfl | simp) | (intro a ha; simp at ha; simp [ha]))); (focus (first | omega | (simp only [List.length_map, List.length_cons, List.length_nil, List.length_append]; omega))); (focus (first | omega | (simp only [List.length_map, List.length_cons, List.length_nil, List.length_append]; omega))); intro o' ho') | with_reducible refine blk_ne rfl ?_ | ((with_reducible refine w_region ?_ ?_); (focus kernel_rfl)) | ((with_reducible refine w_draw [] ?_ ?_ ?_ ?_ ?_); (iterate 3 (focus kernel_rfl)); (focus exact keeps_nil)) | ((with_reducible first | refine gd_d1 ?_ ?_ | refine gd_d0 ?_ ?_); all_goals (intro hb; (first | with_reducible replace hb := nt_t hb | with_reducible replace hb := nt_f hb | skip); (first | replace hb := of_decide_eq_true hb | replace hb := of_decide_eq_false hb | have hb1 := eq_of_beq hb | have hb1 := ne_of_beq_false hb | have hb1 := bne_t hb | have hb1 := bne_f hb | skip); (try (exfalso; first | contradiction | omega)))))
  all_goals (refine ret_eq (by first | exact .inl rfl | exact .inr rfl) (by first | rfl | assumption) (by (repeat (first | exact List.Sublist.refl _ | apply List.Sublist.cons))) ?_; (try simp (disch := omega) only [push_cast, Nat.reduceEqDiff, reduceCtorEq, ↓reduceIte, Nat.reduceAdd, Nat.reduceMul, Nat.reduceSub, Nat.reduceLT, Nat.reduceLeDiff, Int.reduceToNat, Int.reduceLT, Int.reduceLE, Int.reduceAdd, Int.reduceSub, Int.reduceMul, Int.reduceBEq, Int.reduceBNe, encB, encI, RS.cells, RS.fail, RS.cut, Nat.mul_one, *]); try (first | exact LE.refl _ | exact LE.sl _ _ | (refine LE.tup ?_; (repeat' (first | exact LEL.nil | refine LEL.cons ?_ ?_ | exact LE.refl _ | exact LE.sl _ _ | refine LE.agg ?_)); done) | (refine LE.agg ?_; (repeat' (first | exact LEL.nil | refine LEL.cons ?_ ?_ | exact LE.refl _ | exact LE.sl _ _)); done) | refine LE.of_eq ?_))

theorem takeNum0F (b : Nat) (s : RS) (h : s.bad = true ∨ (s.l.length : Int) < 4) (st : St) : TrF Try.prog 57 [.ptr b 0, .i 4, .fn (.func 59) [] []] (rdR b s :: st) fun x st' => x = .i 0 ∧ st' = rdR b .fail :: st := by
  obtain ⟨o, l, bad⟩ := s
  have hB := Lib.hid (rdBadF b ⟨o, l, bad⟩)
  have hF := Lib.hid (rdFailF b ⟨o, l, bad⟩)
  cases bad with
  | true =>
    clear h
    refine trF_enter (ts := [6]) Try.func57 rfl (by rw [Try.ntmps57]; exact Nat.le_of_ble_eq_true rfl) (fun tmps w => by simp [results, Try.results57, go_sem, resVal]) ?_
    simp only [Try.ntmps57]
    repeat' (first | ((with_reducible apply ev_go); (focus (try simp (disch := omega) only [push_cast, Nat.reduceEqDiff, reduceCtorEq, ↓reduceIte, Nat.reduceAdd, Nat.reduceMul, Nat.reduceSub, Nat.reduceLT, Nat.reduceLeDiff, Int.reduceToNat, Int.reduceLT, Int.reduceLE, Int.reduceAdd, Int.reduceSub, Int.reduceMul, Int.reduceBEq, Int.reduceBNe, encB, encI, RS.cells, RS.fail, RS.cut, Nat.mul_one, *]); (try exact rfl); done)) | ((with_reducible refine w_last ?_ ?_ ?_); (focus kernel_rfl); (focus rfl)) | ((with_reducible apply w_stepG); (focus rfl)) | ((with_reducible apply lk_mem); (focus ((repeat (first | exact List.Mem.head _ | apply List.Mem.tail)); done))) | with_reducible (first | refine w_step0 ?_ | refine w_nil ?_ | refine gd_tt ?_ | refine gd_ff ?_ | refine gd_tf ?_ | refine gd_ft ?_ | refine gd_un ?_ | refine s_move ?_ | refine s_assign ?_ | refine s_bin ?_ | refine s_un ?_ | refine s_conv ?_ | refine s_field ?_ | refine s_fieldAddr ?_ | refine s_ext ?_ | refine s_pick ?_ | refine s_nil ?_ | refine s_load ?_ | refine lk_ip ?_ | refine lk_ptr ?_ | refine s_index ?_ | refine s_indexAddr ?_ | refine s_slice ?_ | refine s_build ?_ | refine s_buildSlice ?_ | refine s_mk ?_ | refine s_store ?_ | refine s_alloc ?_ | refine s_call ?_ | refine s_ip ?_ | refine tr_seq ?_ | refine tr_block ?_ | refine tr_skip ?_ | refine tr_ret ?_ | refine tr_exit ?_ | refine tr_label ?_ | refine strip_norm ?_ | refine strip_ret ?_ | refine strip_exit ?_ | refine blk_norm ?_ | refine blk_ret ?_ | refine blk_same ?_ | refine tr_condT ?_ | refine tr_condCt ?_ | refine tr_condCf ?_) | ((with_reducible apply sto_go); (focus (intro cs'; repeat (first | exact ResAt.here | apply ResAt.there)))) | ((with_reducible refine al_go ?_); intro b) | ((with_reducible refine And.intro ?_ ?_); (focus ((repeat (first | exact keep_none | exact keep_nil | exact keep_ro | refine keep_cons ?_)); done))) | ((with_reducible apply (ck_le Try.call23)); (focus exact LEL.refl _); (focus exact hB.out _)) | ((with_reducible apply (ck_le Try.call66)); (focus exact LEL.refl _); (focus exact hF.out _)) | ((with_reducible refine s_bi ?_ ?_); (focus rfl)) | with_reducible refine blk_ne rfl ?_ | ((with_reducible refine w_region ?_ ?_); (focus kernel_rfl)) | ((with_reducible refine w_draw [] ?_ ?_ ?_ ?_ ?_); (iterate 3 (focus kernel_rfl)); (focus exact keeps_nil)) | ((with_reducible first | refine gd_d1 ?_ ?_ | refine gd_d0 ?_ ?_); all_goals (intro hb; (first | with_reducible replace hb := nt_t hb | with_reducible replace hb := nt_f hb | skip); (first | replace hb := of_decide_eq_true hb | replace hb := of_decide_eq_false hb | have hb1 := eq_of_beq hb | have hb1 := ne_of_beq_false hb | have hb1 := bne_t hb | have hb1 := bne_f hb | skip); (try (exfalso; first | contradiction | omega)))))
    all_goals (refine ret_eq (by first | exact .inl rfl | exact .inr rfl) (by first | rfl | assumption) (by (repeat (first | exact List.Sublist.refl _ | apply List.Sublist.cons))) ?_; (try simp (disch := omega) only [push_cast, Nat.reduceEqDiff, reduceCtorEq, ↓reduceIte, Nat.reduceAdd, Nat.reduceMul, Nat.reduceSub, Nat.reduceLT, Nat.reduceLeDiff, Int.reduceToNat, Int.reduceLT, Int.reduceLE, Int.reduceAdd, Int.reduceSub, Int.reduceMul, Int.reduceBEq, Int.reduceBNe, encB, encI, RS.cells, RS.fail, RS.cut, Nat.mul_one, *]); try (first | exact LE.refl _ | exact LE.sl _ _ | (refine LE.tup ?_; (repeat' (first | exact LEL.nil | refine LEL.cons ?_ ?_ | exact LE.refl _ | exact LE.sl _ _ | refine LE.agg ?_)); done) | (refine LE.agg ?_; (repeat' (first | exact LEL.nil | refine LEL.cons ?_ ?_ | exact LE.refl _ | exact LE.sl _ _)); done) | refine LE.of_eq ?_))
  | false =>
    have h := h.resolve_left Bool.false_ne_true
    dsimp only at h
    refine trF_enter (ts := [6]) Try.func57 rfl (by rw [Try.ntmps57]; exact Nat.le_of_ble_eq_true rfl) (fun tmps w => by simp [results, Try.results57, go_sem, resVal]) ?_
    simp only [Try.ntmps57]
    repeat' (first | ((with_reducible apply ev_go); (focus (try simp (disch := omega) only [push_cast, Nat.reduceEqDiff, reduceCtorEq, ↓reduceIte, Nat.reduceAdd, Nat.reduceMul, Nat.reduceSub, Nat.reduceLT, Nat.reduceLeDiff, Int.reduceToNat, Int.reduceLT, Int.reduceLE, Int.reduceAdd, Int.reduceSub, Int.reduceMul, Int.reduceBEq, Int.reduceBNe, encB, encI, RS.cells, RS.fail, RS.cut, Nat.mul_one, *]); (try exact rfl); done)) | ((with_reducible refine w_last ?_ ?_ ?_); (focus kernel_rfl); (focus rfl)) | ((with_reducible apply w_stepG); (focus rfl)) | ((with_reducible apply lk_mem); (focus ((repeat (first | exact List.Mem.head _ | apply List.Mem.tail)); done))) | with_reducible (first | refine w_step0 ?_ | refine w_nil ?_ | refine gd_tt ?_ | refine gd_ff ?_ | refine gd_tf ?_ | refine gd_ft ?_ | refine gd_un ?_ | refine s_move ?_ | refine s_assign ?_ | refine s_bin ?_ | refine s_un ?_ | refine s_conv ?_ | refine s_field ?_ | refine s_fieldAddr ?_ | refine s_ext ?_ | refine s_pick ?_ | refine s_nil ?_ | refine s_load ?_ | refine lk_ip ?_ | refine lk_ptr ?_ | refine s_index ?_ | refine s_indexAddr ?_ | refine s_slice ?_ | refine s_build ?_ | refine s_buildSlice ?_ | refine s_mk ?_ | refine s_store ?_ | refine s_alloc ?_ | refine s_call ?_ | refine s_ip ?_ | refine tr_seq ?_ | refine tr_block ?_ | refine tr_skip ?_ | refine tr_ret ?_ | refine tr_exit ?_ | refine tr_label ?_ | refine strip_norm ?_ | refine strip_ret ?_ | refine strip_exit ?_ | refine blk_norm ?_ | refine blk_ret ?_ | refine blk_same ?_ | refine tr_condT ?_ | refine tr_condCt ?_ | refine tr_condCf ?_) | ((with_reducible apply sto_go); (focus (intro cs'; repeat (first | exact ResAt.here | apply ResAt.there)))) | ((with_reducible refine al_go ?_); intro b) | ((with_reducible refine And.intro ?_ ?_); (focus ((repeat (first | exact keep_none | exact keep_nil | exact keep_ro | refine keep_cons ?_)); done))) | ((with_reducible apply (ck_le Try.call23)); (focus exact LEL.refl _); (focus exact hB.out _)) | ((with_reducible apply (ck_le Try.call66)); (focus exact LEL.refl _); (focus exact hF.out _)) | ((with_reducible refine s_bi ?_ ?_); (focus rfl)) | with_reducible refine blk_ne rfl ?_ | ((with_reducible refine w_region ?_ ?_); (focus kernel_rfl)) | ((with_reducible refine w_draw [] ?_ ?_ ?_ ?_ ?_); (iterate 3 (focus kernel_rfl)); (focus exact keeps_nil)) | ((with_reducible first | refine gd_d1 ?_ ?_ | refine gd_d0 ?_ ?_); all_goals (intro hb; (first | with_reducible replace hb := nt_t hb | with_reducible replace hb := nt_f hb | skip); (first | replace hb := of_decide_eq_true hb | replace hb := of_decide_eq_false hb | have hb1 := eq_of_beq hb | have hb1 := ne_of_beq_false hb | have hb1 := bne_t hb | have hb1 := bne_f hb | skip); (try (exfalso; first | contradiction | omega)))))
    all_goals (refine ret_eq (by first | exact .inl rfl | exact .inr rfl) (by first | rfl | assumption) (by (repeat (first | exact List.Sublist.refl _ | apply List.Sublist.cons))) ?_; (try simp (disch := omega) only [push_cast, Nat.reduceEqDiff, reduceCtorEq, ↓reduceIte, Nat.reduceAdd, Nat.reduceMul, Nat.reduceSub, Nat.reduceLT, Nat.reduceLeDiff, Int.reduceToNat, Int.reduceLT, Int.reduceLE, Int.reduceAdd, Int.reduceSub, Int.reduceMul, Int.reduceBEq, Int.reduceBNe, encB, encI, RS.cells, RS.fail, RS.cut, Nat.mul_one, *]); try (first | exact LE.refl _ | exact LE.sl _ _ | (refine LE.tup ?_; (repeat' (first | exact LEL.nil | refine LEL.cons ?_ ?_ | exact LE.refl _ | exact LE.sl _ _ | refine LE.agg ?_)); done) | (refine LE.agg ?_; (repeat' (first | exact LEL.nil | refine LEL.cons ?_ ?_ | exact LE.refl _ | exact LE.sl _ _)); done) | refine LE.of_eq ?_))

theorem takeLong0F (b : Nat) (s : RS) (h : s.bad = true ∨ (s.l.length : Int) < 8) (st : St) : TrF Try.prog 61 [.ptr b 0, .i 8, .fn (.func 62) [] []] (rdR b s :: st) fun x st' => x = .i 0 ∧ st' = rdR b .fail :: st := by
  obtain ⟨o, l, bad⟩ := s
  have hB := Lib.hid (rdBadF b ⟨o, l, bad⟩)
  have hF := Lib.hid (rdFailF b ⟨o, l, bad⟩)
  cases bad with
  | true =>
    clear h
    refine trF_enter (ts := [6]) Try.func61 rfl (by rw [Try.ntmps61]; exact Nat.le_of_ble_eq_true rfl) (fun tmps w => by simp [results, Try.results61, go_sem, resVal]) ?_
    simp only [Try.ntmps61]
    repeat' (first | ((with_reducible apply ev_go); (focus (try simp (disch := omega) only [push_cast, Nat.reduceEqDiff, reduceCtorEq, ↓reduceIte, Nat.reduceAdd, Nat.reduceMul, Nat.reduceSub, Nat.reduceLT, Nat.reduceLeDiff, Int.reduceToNat, Int.reduceLT, Int.reduceLE, Int.reduceAdd, Int.reduceSub, Int.reduceMul, Int.reduceBEq, Int.reduceBNe, encB, encI, RS.cells, RS.fail, RS.cut, Nat.mul_one, *]); (try exact rfl); done)) | ((with_reducible refine w_last ?_ ?_ ?_); (focus kernel_rfl); (focus rfl)) | ((with_reducible apply w_stepG); (focus rfl)) | ((with_reducible apply lk_mem); (focus ((repeat (first | exact List.Mem.head _ | apply List.Mem.tail)); done))) | with_reducible (first | refine w_step0 ?_ | refine w_nil ?_ | refine gd_tt ?_ | refine gd_ff ?_ | refine gd_tf ?_ | refine gd_ft ?_ | refine gd_un ?_ | refine s_move ?_ | refine s_assign ?_ | refine s_bin ?_ | refine s_un ?_ | refine s_conv ?_ | refine s_field ?_ | refine s_fieldAddr ?_ | refine s_ext ?_ | refine s_pick ?_ | refine s_nil ?_ | refine s_load ?_ | refine lk_ip ?_ | refine lk_ptr ?_ | refine s_index ?_ | refine s_indexAddr ?_ | refine s_slice ?_ | refine s_build ?_ | refine s_buildSlice ?_ | refine s_mk ?_ | refine s_store ?_ | refine s_alloc ?_ | refine s_call ?_ | refine s_ip ?_ | refine tr_seq ?_ | refine tr_block ?_ | refine tr_skip ?_ | refine tr_ret ?_ | refine tr_exit ?_ | refine tr_label ?_ | refine strip_norm ?_ | refine strip_ret ?_ | refine strip_exit ?_ | refine blk_norm ?_ | refine blk_ret ?_ | refine blk_same ?_ | refine tr_condT ?_ | refine tr_condCt ?_ | refine tr_condCf ?_) | ((with_reducible apply sto_go); (focus (intro cs'; repeat (first | exact ResAt.here | apply ResAt.there)))) | ((with_reducible refine al_go ?_); intro b) | ((with_reducible refine And.intro ?_ ?_); (focus ((repeat (first | exact keep_none | exact keep_nil | exact keep_ro | refine keep_cons ?_)); done))) | ((with_reducible apply (ck_le Try.call23)); (focus exact LEL.refl _); (focus exact hB.out _)) | ((with_reducible apply (ck_le Try.call66)); (focus exact LEL.refl _); (focus exact hF.out _)) | ((with_reducible refine s_bi ?_ ?_); (focus rfl)) | with_reducible refine blk_ne rfl ?_ | ((with_reducible refine w_region ?_ ?_); (focus kernel_rfl)) | ((with_reducible refine w_draw [] ?_ ?_ ?_ ?_ ?_); (iterate 3 (focus kernel_rfl)); (focus exact keeps_nil)) | ((with_reducible first | refine gd_d1 ?_ ?_ | refine gd_d0 ?_ ?_); all_goals (intro hb; (first | with_reducible replace hb := nt_t hb | with_reducible replace hb := nt_f hb | skip); (first | replace hb := of_decide_eq_true hb | replace hb := of_decide_eq_false hb | have hb1 := eq_of_beq hb | have hb1 := ne_of_beq_false hb | have hb1 := bne_t hb | have hb1 := bne_f hb | skip); (try (exfalso; first | contradiction | omega)))))
    all_goals (refine ret_eq (by first | exact .inl rfl | exact .inr rfl) (by first | rfl | assumption) (by (repeat (first | exact List.Sublist.refl _ | apply List.Sublist.cons))) ?_; (try simp (disch := omega) only [push_cast, Nat.reduceEqDiff, reduceCtorEq, ↓reduceIte, Nat.reduceAdd, Nat.reduceMul, Nat.reduceSub, Nat.reduceLT, Nat.reduceLeDiff, Int.reduceToNat, Int.reduceLT, Int.reduceLE, Int.reduceAdd, Int.reduceSub, Int.reduceMul, Int.reduceBEq, Int.reduceBNe, encB, encI, RS.cells, RS.fail, RS.cut, Nat.mul_one, *]); try (first | exact LE.refl _ | exact LE.sl _ _ | (refine LE.tup ?_; (repeat' (first | exact LEL.nil | refine LEL.cons ?_ ?_ | exact LE.refl _ | exact LE.sl _ _ | refine LE.agg ?_)); done) | (refine LE.agg ?_; (repeat' (first | exact LEL.nil | refine LEL.cons ?_ ?_ | exact LE.refl _ | exact LE.sl _ _)); done) | refine LE.of_eq ?_))
  | false =>
    have h := h.resolve_left Bool.false_ne_true
    dsimp only at h
    refine trF_enter (ts := [6]) Try.func61 rfl (by rw [Try.ntmps61]; exact Nat.le_of_ble_eq_true rfl) (fun tmps w => by simp [results, Try.results61, go_sem, resVal]) ?_
    simp only [Try.ntmps61]
    repeat' (first | ((with_reducible apply ev_go); (focus (try simp (disch := omega) only [push_cast, Nat.reduceEqDiff, reduceCtorEq, ↓reduceIte, Nat.reduceAdd, Nat.reduceMul, Nat.reduceSub, Nat.reduceLT, Nat.reduceLeDiff, Int.reduceToNat, Int.reduceLT, Int.reduceLE, Int.reduceAdd, Int.reduceSub, Int.reduceMul, Int.reduceBEq, Int.reduceBNe, encB, encI, RS.cells, RS.fail, RS.cut, Nat.mul_one, *]); (try exact rfl); done)) | ((with_reducible refine w_last ?_ ?_ ?_); (focus kernel_rfl); (focus rfl)) | ((with_reducible apply w_stepG); (focus rfl)) | ((with_reducible apply lk_mem); (focus ((repeat (first | exact List.Mem.head _ | apply List.Mem.tail)); done))) | with_reducible (first | refine w_step0 ?_ | refine w_nil ?_ | refine gd_tt ?_ | refine gd_ff ?_ | refine gd_tf ?_ | refine gd_ft ?_ | refine gd_un ?_ | refine s_move ?_ | refine s_assign ?_ | refine s_bin ?_ | refine s_un ?_ | refine s_conv ?_ | refine s_field ?_ | refine s_fieldAddr ?_ | refine s_ext ?_ | refine s_pick ?_ | refine s_nil ?_ | refine s_load ?_ | refine lk_ip ?_ | refine lk_ptr ?_ | refine s_index ?_ | refine s_indexAddr ?_ | refine s_slice ?_ | refine s_build ?_ | refine s_buildSlice ?_ | refine s_mk ?_ | refine s_store ?_ | refine s_alloc ?_ | refine s_call ?_ | refine s_ip ?_ | refine tr_seq ?_ | refine tr_block ?_ | refine tr_skip ?_ | refine tr_ret ?_ | refine tr_exit ?_ | refine tr_label ?_ | refine strip_norm ?_ | refine strip_ret ?_ | refine strip_exit ?_ | refine blk_norm ?_ | refine blk_ret ?_ | refine blk_same ?_ | refine tr_condT ?_ | refine tr_condCt ?_ | refine tr_condCf ?_) | ((with_reducible apply sto_go); (focus (intro cs'; repeat (first | exact ResAt.here | apply ResAt.there)))) | ((with_reducible refine al_go ?_); intro b) | ((with_reducible refine And.intro ?_ ?_); (focus ((repeat (first | exact keep_none | exact keep_nil | exact keep_ro | refine keep_cons ?_)); done))) | ((with_reducible apply (ck_le Try.call23)); (focus exact LEL.refl _); (focus exact hB.out _)) | ((with_reducible apply (ck_le Try.call66)); (focus exact LEL.refl _); (focus exact hF.out _)) | ((with_reducible refine s_bi ?_ ?_); (focus rfl)) | with_reducible refine blk_ne rfl ?_ | ((with_reducible refine w_region ?_ ?_); (focus kernel_rfl)) | ((with_reducible refine w_draw [] ?_ ?_ ?_ ?_ ?_); (iterate 3 (focus kernel_rfl)); (focus exact keeps_nil)) | ((with_reducible first | refine gd_d1 ?_ ?_ | refine gd_d0 ?_ ?_); all_goals (intro hb; (first | with_reducible replace hb := nt_t hb | with_reducible replace hb := nt_f hb | skip); (first | replace hb := of_decide_eq_true hb | replace hb := of_decide_eq_false hb | have hb1 := eq_of_beq hb | have hb1 := ne_of_beq_false hb | have hb1 := bne_t hb | have hb1 := bne_f hb | skip); (try (exfalso; first | contradiction | omega)))))
    all_goals (refine ret_eq (by first | exact .inl rfl | exact .inr rfl) (by first | rfl | assumption) (by (repeat (first | exact List.Sublist.refl _ | apply List.Sublist.cons))) ?_; (try simp (disch := omega) only [push_cast, Nat.reduceEqDiff, reduceCtorEq, ↓reduceIte, Nat.reduceAdd, Nat.reduceMul, Nat.reduceSub, Nat.reduceLT, Nat.reduceLeDiff, Int.reduceToNat, Int.reduceLT, Int.reduceLE, Int.reduceAdd, Int.reduceSub, Int.reduceMul, Int.reduceBEq, Int.reduceBNe, encB, encI, RS.cells, RS.fail, RS.cut, Nat.mul_one, *]); try (first | exact LE.refl _ | exact LE.sl _ _ | (refine LE.tup ?_; (repeat' (first | exact LEL.nil | refine LEL.cons ?_ ?_ | exact LE.refl _ | exact LE.sl _ _ | refine LE.agg ?_)); done) | (refine LE.agg ?_; (repeat' (first | exact LEL.nil | refine LEL.cons ?_ ?_ | exact LE.refl _ | exact LE.sl _ _)); done) | refine LE.of_eq ?_))

theorem takeText0F (b : Nat) (s : RS) (n : Int) (h : s.bad = true ∨ n < 0 ∨ (s.l.length : Int) < n) (st : St) : TrF Try.prog 63 [.ptr b 0, .i n, .fn (.func 64) [] []] (rdR b s :: st) fun x st' => x = .str ⟨#[]⟩ ∧ st' = rdR b .fail :: st := by
  obtain ⟨o, l, bad⟩ := s
  have hB := Lib.hid (rdBadF b ⟨o, l, bad⟩)
  have hF := Lib.hid (rdFailF b ⟨o, l, bad⟩)
  cases bad with
  | true =>
    clear h
    refine trF_enter (ts := [6]) Try.func63 rfl (by rw [Try.ntmps63]; exact Nat.le_of_ble_eq_true rfl) (fun tmps w => by simp [results, Try.results63, go_sem, resVal]) ?_
    simp only [Try.ntmps63]
    repeat' (first | ((with_reducible apply ev_go); (focus (try simp (disch := omega) only [push_cast, Nat.reduceEqDiff, reduceCtorEq, ↓reduceIte, Nat.reduceAdd, Nat.reduceMul, Nat.reduceSub, Nat.reduceLT, Nat.reduceLeDiff, Int.reduceToNat, Int.reduceLT, Int.reduceLE, Int.reduceAdd, Int.reduceSub, Int.reduceMul, Int.reduceBEq, Int.reduceBNe, encB, encI, RS.cells, RS.fail, RS.cut, Nat.mul_one, *]); (try exact rfl); done)) | ((with_reducible refine w_last ?_ ?_ ?_); (focus kernel_rfl); (focus rfl)) | ((with_reducible apply w_stepG); (focus rfl)) | ((with_reducible apply lk_mem); (focus ((repeat (first | exact List.Mem.head _ | apply List.Mem.tail)); done))) | with_reducible (first | refine w_step0 ?_ | refine w_nil ?_ | refine gd_tt ?_ | refine gd_ff ?_ | refine gd_tf ?_ | refine gd_ft ?_ | refine gd_un ?_ | refine s_move ?_ | refine s_assign ?_ | refine s_bin ?_ | refine s_un ?_ | refine s_conv ?_ | refine s_field ?_ | refine s_fieldAddr ?_ | refine s_ext ?_ | refine s_pick ?_ | refine s_nil ?_ | refine s_load ?_ | refine lk_ip ?_ | refine lk_ptr ?_ | refine s_index ?_ | refine s_indexAddr ?_ | refine s_slice ?_ | refine s_build ?_ | refine s_buildSlice ?_ | refine s_mk ?_ | refine s_store ?_ | refine s_alloc ?_ | refine s_call ?_ | refine s_ip ?_ | refine tr_seq ?_ | refine tr_block ?_ | refine tr_skip ?_ | refine tr_ret ?_ | refine tr_exit ?_ | refine tr_label ?_ | refine strip_norm ?_ | refine strip_ret ?_ | refine strip_exit ?_ | refine blk_norm ?_ | refine blk_ret ?_ | refine blk_same ?_ | refine tr_condT ?_ | refine tr_condCt ?_ | refine tr_condCf ?_) | ((with_reducible apply sto_go); (focus (intro cs'; repeat (first | exact ResAt.here | apply ResAt.there)))) | ((with_reducible refine al_go ?_); intro b) | ((with_reducible refine And.intro ?_ ?_); (focus ((repeat (first | exact keep_none | exact keep_nil | exact keep_ro | refine keep_cons ?_)); done))) | ((with_reducible apply (ck_le Try.call23)); (focus exact LEL.refl _); (focus exact hB.out _)) | ((with_reducible apply (ck_le Try.call66)); (focus exact LEL.refl _); (focus exact hF.out _)) | ((with_reducible refine s_bi ?_ ?_); (focus rfl)) | with_reducible refine blk_ne rfl ?_ | ((with_reducible refine w_region ?_ ?_); (focus kernel_rfl)) | ((with_reducible refine w_draw [] ?_ ?_ ?_ ?_ ?_); (iterate 3 (focus kernel_rfl)); (focus exact keeps_nil)) | ((with_reducible first | refine gd_d1 ?_ ?_ | refine gd_d0 ?_ ?_); all_goals (intro hb; (first | with_reducible replace hb := nt_t hb | with_reducible replace hb := nt_f hb | skip); (first | replace hb := of_decide_eq_true hb | replace hb := of_decide_eq_false hb | have hb1 := eq_of_beq hb | have hb1 := ne_of_beq_false hb | have hb1 := bne_t hb | have hb1 := bne_f hb | skip); (try (exfalso; first | contradiction | omega)))))
    all_goals (refine ret_eq (by first | exact .inl rfl | exact .inr rfl) (by first | rfl | assumption) (by (repeat (first | exact List.Sublist.refl _ | apply List.Sublist.cons))) ?_; (try simp (disch := omega) only [push_cast, Nat.reduceEqDiff, reduceCtorEq, ↓reduceIte, Nat.reduceAdd, Nat.reduceMul, Nat.reduceSub, Nat.reduceLT, Nat.reduceLeDiff, Int.reduceToNat, Int.reduceLT, Int.reduceLE, Int.reduceAdd, Int.reduceSub, Int.reduceMul, Int.reduceBEq, Int.reduceBNe, encB, encI, RS.cells, RS.fail, RS.cut, Nat.mul_one, *]); try (first | exact LE.refl _ | exact LE.sl _ _ | (refine LE.tup ?_; (repeat' (first | exact LEL.nil | refine LEL.cons ?_ ?_ | exact LE.refl _ | exact LE.sl _ _ | refine LE.agg ?_)); done) | (refine LE.agg ?_; (repeat' (first | exact LEL.nil | refine LEL.cons ?_ ?_ | exact LE.refl _ | exact LE.sl _ _)); done) | refine LE.of_eq ?_))
  | false =>
    have h := h.resolve_left Bool.false_ne_true
    dsimp only at h
    refine trF_enter (ts := [6]) Try.func63 rfl (by rw [Try.ntmps63]; exact Nat.le_of_ble_eq_true rfl) (fun tmps w => by simp [results, Try.results63, go_sem, resVal]) ?_
    simp only [Try.ntmps63]
    repeat' (first | ((with_reducible apply ev_go); (focus (try simp (disch := omega) only [push_cast, Nat.reduceEqDiff, reduceCtorEq, ↓reduceIte, Nat.reduceAdd, Nat.reduceMul, Nat.reduceSub, Nat.reduceLT, Nat.reduceLeDiff, Int.reduceToNat, Int.reduceLT, Int.reduceLE, Int.reduceAdd, Int.reduceSub, Int.reduceMul, Int.reduceBEq, Int.reduceBNe, encB, encI, RS.cells, RS.fail, RS.cut, Nat.mul_one, *]); (try exact rfl); done)) | ((with_reducible refine w_last ?_ ?_ ?_); (focus kernel_rfl); (focus rfl)) | ((with_reducible apply w_stepG); (focus rfl)) | ((with_reducible apply lk_mem); (focus ((repeat (first | exact List.Mem.head _ | apply List.Mem.tail)); done))) | with_reducible (first | refine w_step0 ?_ | refine w_nil ?_ | refine gd_tt ?_ | refine gd_ff ?_ | refine gd_tf ?_ | refine gd_ft ?_ | refine gd_un ?_ | refine s_move ?_ | refine s_assign ?_ | refine s_bin ?_ | refine s_un ?_ | refine s_conv ?_ | refine s_field ?_ | refine s_fieldAddr ?_ | refine s_ext ?_ | refine s_pick ?_ | refine s_nil ?_ | refine s_load ?_ | refine lk_ip ?_ | refine lk_ptr ?_ | refine s_index ?_ | refine s_indexAddr ?_ | refine s_slice ?_ | refine s_build ?_ | refine s_buildSlice ?_ | refine s_mk ?_ | refine s_store ?_ | refine s_alloc ?_ | refine s_call ?_ | refine s_ip ?_ | refine tr_seq ?_ | refine tr_block ?_ | refine tr_skip ?_ | refine tr_ret ?_ | refine tr_exit ?_ | refine tr_label ?_ | refine strip_norm ?_ | refine strip_ret ?_ | refine strip_exit ?_ | refine blk_norm ?_ | refine blk_ret ?_ | refine blk_same ?_ | refine tr_condT ?_ | refine tr_condCt ?_ | refine tr_condCf ?_) | ((with_reducible apply sto_go); (focus (intro cs'; repeat (first | exact ResAt.here | apply ResAt.there)))) | ((with_reducible refine al_go ?_); intro b) | ((with_reducible refine And.intro ?_ ?_); (focus ((repeat (first | exact keep_none | exact keep_nil | exact keep_ro | refine keep_cons ?_)); done))) | ((with_reducible apply (ck_le Try.call23)); (focus exact LEL.refl _); (focus exact hB.out _)) | ((with_reducible apply (ck_le Try.call66)); (focus exact LEL.refl _); (focus exact hF.out _)) | ((with_reducible refine s_bi ?_ ?_); (focus rfl)) | with_reducible refine blk_ne rfl ?_ | ((with_reducible refine w_region ?_ ?_); (focus kernel_rfl)) | ((with_reducible refine w_draw [] ?_ ?_ ?_ ?_ ?_); (iterate 3 (focus kernel_rfl)); (focus exact keeps_nil)) | ((with_reducible first | refine gd_d1 ?_ ?_ | refine gd_d0 ?_ ?_); all_goals (intro hb; (first | with_reducible replace hb := nt_t hb | with_reducible replace hb := nt_f hb | skip); (first | replace hb := of_decide_eq_true hb | replace hb := of_decide_eq_false hb | have hb1 := eq_of_beq hb | have hb1 := ne_of_beq_false hb | have hb1 := bne_t hb | have hb1 := bne_f hb | skip); (try (exfalso; first | contradiction | omega)))))
    all_goals (refine ret_eq (by first | exact .inl rfl | exact .inr rfl) (by first | rfl | assumption) (by (repeat (first | exact List.Sublist.refl _ | apply List.Sublist.cons))) ?_; (try simp (disch := omega) only [push_cast, Nat.reduceEqDiff, reduceCtorEq, ↓reduceIte, Nat.reduceAdd, Nat.reduceMul, Nat.reduceSub, Nat.reduceLT, Nat.reduceLeDiff, Int.reduceToNat, Int.reduceLT, Int.reduceLE, Int.reduceAdd, Int.reduceSub, Int.reduceMul, Int.reduceBEq, Int.reduceBNe, encB, encI, RS.cells, RS.fail, RS.cut, Nat.mul_one, *]); try (first | exact LE.refl _ | exact LE.sl _ _ | (refine LE.tup ?_; (repeat' (first | exact LEL.nil | refine LEL.cons ?_ ?_ | exact LE.refl _ | exact LE.sl _ _ | refine LE.agg ?_)); done) | (refine LE.agg ?_; (repeat' (first | exact LEL.nil | refine LEL.cons ?_ ?_ | exact LE.refl _ | exact LE.sl _ _)); done) | refine LE.of_eq ?_))

theorem takeNum1F (b : Nat) (o : Own) (l p t : List UInt8) (hl : p ++ t = l) (hp : p.length = 4) (hx : ¬ num p ≤ 2147483647) (st : St) : TrF Try.prog 57 [.ptr b 0, .i 4, .fn (.func 59) [] []] (rdR b ⟨o, l, false⟩ :: st) fun x st' => x = .i 0 ∧ st' = rdR b .fail :: st := by
  have hB := Lib.hid (rdBadF b ⟨o, l, false⟩)
  have hF := Lib.hid (rdFailF b ⟨o, l, false⟩)
  have hC := Lib.hid fun o => rdNum1F o p hp
  have hx : ¬ ((num p : Nat) : Int) ≤ 2147483647 := by omega
  have hln : l.length = 4 + t.length := by rw [← hl, List.length_append, hp]
  have hT : List.take 4 (List.map encB l) = List.map encB p := by rw [← List.map_take, ← hl, ← hp, List.take_left]
  clear hl
  generalize num p = q at *
  refine trF_enter (ts := [6]) Try.func57 rfl (by rw [Try.ntmps57]; exact Nat.le_of_ble_eq_true rfl) (fun tmps w => by simp [results, Try.results57, go_sem, resVal]) ?_
  simp only [Try.ntmps57]
  repeat' (first | ((with_reducible apply ev_go); (focus (try simp (disch := omega) only [push_cast, Nat.reduceEqDiff, reduceCtorEq, ↓reduceIte, Nat.reduceAdd, Nat.reduceMul, Nat.reduceSub, Nat.reduceLT, Nat.reduceLeDiff, Int.reduceToNat, Int.reduceLT, Int.reduceLE, Int.reduceAdd, Int.reduceSub, Int.reduceMul, Int.reduceBEq, Int.reduceBNe, encB, encI, RS.cells, RS.fail, RS.cut, Nat.mul_one, *]); (try exact rfl); done)) | ((with_reducible refine w_last ?_ ?_ ?_); (focus kernel_rfl); (focus rfl)) | ((with_reducible apply w_stepG); (focus rfl)) | ((with_reducible apply lk_mem); (focus ((repeat (first | exact List.Mem.head _ | apply List.Mem.tail)); done))) | with_reducible (first | refine w_step0 ?_ | refine w_nil ?_ | refine gd_tt ?_ | refine gd_ff ?_ | refine gd_tf ?_ | refine gd_ft ?_ | refine gd_un ?_ | refine s_move ?_ | refine s_assign ?_ | refine s_bin ?_ | refine s_un ?_ | refine s_conv ?_ | refine s_field ?_ | refine s_fieldAddr ?_ | refine s_ext ?_ | refine s_pick ?_ | refine s_nil ?_ | refine s_load ?_ | refine lk_ip ?_ | refine lk_ptr ?_ | refine s_index ?_ | refine s_indexAddr ?_ | refine s_slice ?_ | refine s_build ?_ | refine s_buildSlice ?_ | refine s_mk ?_ | refine s_store ?_ | refine s_alloc ?_ | refine s_call ?_ | refine s_ip ?_ | refine s_app ?_ | refine ak_go ?_ | refine s_aps ?_ | refine ap_go ?_ | refine p2_true ?_ | refine tr_seq ?_ | refine tr_block ?_ | refine tr_skip ?_ | refine tr_ret ?_ | refine tr_exit ?_ | refine tr_label ?_ | refine strip_norm ?_ | refine strip_ret ?_ | refine strip_exit ?_ | refine blk_norm ?_ | refine blk_ret ?_ | refine blk_same ?_ | refine tr_condT ?_ | refine tr_condCt ?_ | refine tr_condCf ?_) | ((with_reducible apply sto_go); (focus (intro cs'; repeat (first | exact ResAt.here | apply ResAt.there)))) | ((with_reducible refine al_go ?_); intro b) | ((with_reducible refine And.intro ?_ ?_); (focus ((repeat (first | exact keep_none | exact keep_nil | exact keep_ro | refine keep_cons ?_)); done))) | ((with_reducible apply (ck_le Try.call23)); (focus exact LEL.refl _); (focus exact hB.out _)) | ((with_reducible apply (ck_le Try.call66)); (focus exact LEL.refl _); (focus exact hF.out _)) | ((with_reducible apply (ck_le Try.call59)); (focus exact LEL.refl _); (focus exact hC.out _ _)) | ((with_reducible refine s_bi ?_ ?_); (focus rfl)) | ((with_reducible apply a2_go); (focus (first | assumption | (intro h; cases h))); (focus (intro o'; repeat (first | exact ResAt.here | apply ResAt.there))); (focus (first | assumption | exact len_nil | exact len_one rfl | (intro a ha; obtain ⟨x, -, rfl⟩ := List.mem_map.1 ha; first | rfl | simp) | (intro a ha; simp at ha; simp [ha]))); (focus (first | assumption | exact len_nil | exact len_one rfl | (intro a ha; obtain ⟨x, -, rfl⟩ := List.mem_map.1 ha; first | rfl | simp) | (intro a ha; simp at ha; simp [ha]))); (focus (first | omega | (simp only [List.length_map, List.length_cons, List.length_nil, List.length_append]; omega))); (focus (first | omega | (simp only [List.length_map, List.length_cons, List.length_nil, List.length_append]; omega))); intro o' ho') | ((with_reducible apply p2_go); (focus (first | assumption | (intro h; cases h))); (focus (intro o'; repeat (first | exact ResAt.here | apply ResAt.there))); (focus (first | assumption | exact len_nil | exact len_one rfl | (intro a ha; obtain ⟨x, -, rfl⟩ := List.mem_map.1 ha; first | rfl | simp) | (intro a ha; simp at ha; simp [ha]))); (focus (first | omega | (simp only [List.length_map, List.length_cons, List.length_nil, List.length_append]; omega))); (focus (first | omega | (simp only [List.length_map, List.length_cons, List.length_nil, List.length_append]; omega))); intro o' ho') | with_reducible refine blk_ne rfl ?_ | ((with_reducible refine w_region ?_ ?_); (focus kernel_rfl)) | ((with_reducible refine w_draw [] ?_ ?_ ?_ ?_ ?_); (iterate 3 (focus kernel_rfl)); (focus exact keeps_nil)) | ((with_reducible first | refine gd_d1 ?_ ?_ | refine gd_d0 ?_ ?_); all_goals (intro hb; (first | with_reducible replace hb := nt_t hb | with_reducible replace hb := nt_f hb | skip); (first | replace hb := of_decide_eq_true hb | replace hb := of_decide_eq_false hb | have hb1 := eq_of_beq hb | have hb1 := ne_of_beq_false hb | have hb1 := bne_t hb | have hb1 := bne_f hb | skip); (try (exfalso; first | contradiction | omega)))))
  all_goals (refine ret_eq (by first | exact .inl rfl | exact .inr rfl) (by first | rfl | assumption) (by (repeat (first | exact List.Sublist.refl _ | apply List.Sublist.cons))) ?_; (try simp (disch := omega) only [push_cast, Nat.reduceEqDiff, reduceCtorEq, ↓reduceIte, Nat.reduceAdd, Nat.reduceMul, Nat.reduceSub, Nat.reduceLT, Nat.reduceLeDiff, Int.reduceToNat, Int.reduceLT, Int.reduceLE, Int.reduceAdd, Int.reduceSub, Int.reduceMul, Int.reduceBEq, Int.reduceBNe, encB, encI, RS.cells, RS.fail, RS.cut, Nat.mul_one, *]); try (first | exact LE.refl _ | exact LE.sl _ _ | (refine LE.tup ?_; (repeat' (first | exact LEL.nil | refine LEL.cons ?_ ?_ | exact LE.refl _ | exact LE.sl _ _ | refine LE.agg ?_)); done) | (refine LE.agg ?_; (repeat' (first | exact LEL.nil | refine LEL.cons ?_ ?_ | exact LE.refl _ | exact LE.sl _ _)); done) | refine LE.of_eq ?_))
end Go.Proofs.Ytgofckmlgkniaaa
end

/- Layer 3 over data: the reference's count, depth, nodes. No statement is proved here. -/
section
namespace Go.Proofs.Ytgofckmlgkniaaa
set_option linter.unusedSimpArgs false
open Go.RowKit
set_option maxRecDepth 10000
namespace V
mutual
def cnt : V → Int → Int → Int
  | .mk _ _ _ l, n, d => if n - 1 < 0 ∨ d < 0 then -1 else cntL l (n - 1) (d - 1)
def cntL : List V → Int → Int → Int
  | [], n, _ => n
  | x :: l, n, d => if x.cnt n d < 0 then -1 else cntL l (x.cnt n d) d
end
mutual
theorem cnt_le : ∀ (v : V) (n d : Int), -1 ≤ n → -1 ≤ v.cnt n d ∧ v.cnt n d ≤ n
  | .mk k m s l, n, d, h => by
    rw [cnt]
    split
    · omega
    · have := cntL_le l (n - 1) (d - 1) (by omega)
      omega
theorem cntL_le : ∀ (l : List V) (n d : Int), -1 ≤ n → -1 ≤ cntL l n d ∧ cntL l n d ≤ n
  | [], n, d, h => by rw [cntL]; omega
  | x :: l, n, d, h => by
    rw [cntL]
    have h1 := cnt_le x n d h
    split
    · omega
    · have := cntL_le l (x.cnt n d) d (by omega)
      omega
end
end V
open V in
theorem refCountF : ∀ (N : Nat) (v : V), v.nodes ≤ N → v.Ok → ∀ (n d : Int), -1 ≤ n → n ≤ 4611686018427387904 → -1 ≤ d → d ≤ 4611686018427387904 → ∀ st, TrF Try.prog 52 [.agg v.cells, .i n, .i d] st fun x st' => x = .i (v.cnt n d) ∧ st' = st
  | 0, v, h, _ => by have := v.nodes_pos; omega
  | N + 1, .mk k n0 s l, hN, hok => by
    intro n d h1 h2 h3 h4 st
    obtain ⟨hk, hn, hs, hl, hall⟩ := hok
    unfold maxLen at hl
    have IH := fun x (hx : x ∈ l) => refCountF N x (by have := nodes_lt (k := k) (n := n0) (s := s) hx; omega) (hall x hx)
    clear hall hN
    rw [V.cells_mk]
    refine trF_enter (ts := [6]) Try.func52 rfl (by rw [Try.ntmps52]; exact Nat.le_of_ble_eq_true rfl) (fun tmps w => by simp [results, Try.results52, go_sem, resVal]) ?_
    simp only [Try.ntmps52]
    by_cases c1 : n - 1 < 0
    · rw [cnt, if_pos (.inl c1)]
      clear IH
      repeat' (first | ((with_reducible apply ev_go); (focus (try simp (disch := omega) only [push_cast, Nat.reduceEqDiff, reduceCtorEq, ↓reduceIte, Nat.reduceAdd, Nat.reduceMul, Nat.reduceSub, Nat.reduceLT, Nat.reduceLeDiff, Int.reduceToNat, Int.reduceLT, Int.reduceLE, Int.reduceAdd, Int.reduceSub, Int.reduceMul, Int.reduceBEq, Int.reduceBNe, encB, encI, V.cells_mk, V.cells_take, V.cells_len, *]); (try exact rfl); done)) | ((with_reducible refine w_last ?_ ?_ ?_); (focus kernel_rfl); (focus rfl)) | ((with_reducible apply w_stepG); (focus rfl)) | ((with_reducible apply lk_mem); (focus ((repeat (first | exact List.Mem.head _ | apply List.Mem.tail)); done))) | with_reducible (first | refine w_step0 ?_ | refine w_nil ?_ | refine gd_tt ?_ | refine gd_ff ?_ | refine gd_tf ?_ | refine gd_ft ?_ | refine gd_un ?_ | refine s_move ?_ | refine s_assign ?_ | refine s_bin ?_ | refine s_un ?_ | refine s_conv ?_ | refine s_field ?_ | refine s_fieldAddr ?_ | refine s_ext ?_ | refine s_pick ?_ | refine s_nil ?_ | refine s_load ?_ | refine lk_ip ?_ | refine lk_ptr ?_ | refine s_index ?_ | refine s_indexAddr ?_ | refine s_slice ?_ | refine s_build ?_ | refine s_buildSlice ?_ | refine s_mk ?_ | refine s_store ?_ | refine s_alloc ?_ | refine s_call ?_ | refine s_ip ?_ | refine tr_seq ?_ | refine tr_block ?_ | refine tr_skip ?_ | refine tr_ret ?_ | refine tr_exit ?_ | refine tr_label ?_ | refine strip_norm ?_ | refine strip_ret ?_ | refine strip_exit ?_ | refine blk_norm ?_ | refine blk_ret ?_ | refine blk_same ?_ | refine tr_condT ?_ | refine tr_condCt ?_ | refine tr_condCf ?_) | ((with_reducible apply sto_go); (focus (intro cs'; repeat (first | exact ResAt.here | apply ResAt.there)))) | ((with_reducible refine al_go ?_); intro b) | ((with_reducible refine And.intro ?_ ?_); (focus ((repeat (first | exact keep_none | exact keep_nil | exact keep_ro | refine keep_cons ?_)); done))) | ((with_reducible refine s_bi ?_ ?_); (focus rfl)) | with_reducible refine blk_ne rfl ?_ | ((with_reducible refine w_region ?_ ?_); (focus kernel_rfl)) | ((with_reducible refine w_draw [] ?_ ?_ ?_ ?_ ?_); (iterate 3 (focus kernel_rfl)); (focus exact keeps_nil)) | ((with_reducible first | refine gd_d1 ?_ ?_ | refine gd_d0 ?_ ?_); all_goals (intro hb; (first | with_reducible replace hb := nt_t hb | with_reducible replace hb := nt_f hb | skip); (first | replace hb := of_decide_eq_true hb | replace hb := of_decide_eq_false hb | have hb1 := eq_of_beq hb | have hb1 := ne_of_beq_false hb | have hb1 := bne_t hb | have hb1 := bne_f hb | skip); (try (exfalso; first | contradiction | omega)))))
      all_goals (refine ret_eq (by first | exact .inl rfl | exact .inr rfl) (by first | rfl | assumption) (by (repeat (first | exact List.Sublist.refl _ | apply List.Sublist.cons))) ?_; (try simp (disch := omega) only [push_cast, Nat.reduceEqDiff, reduceCtorEq, ↓reduceIte, Nat.reduceAdd, Nat.reduceMul, Nat.reduceSub, Nat.reduceLT, Nat.reduceLeDiff, Int.reduceToNat, Int.reduceLT, Int.reduceLE, Int.reduceAdd, Int.reduceSub, Int.reduceMul, Int.reduceBEq, Int.reduceBNe, encB, encI, V.cells_mk, V.cells_take, V.cells_len, *]); try (first | exact LE.refl _ | exact LE.sl _ _ | (refine LE.tup ?_; (repeat' (first | exact LEL.nil | refine LEL.cons ?_ ?_ | exact LE.refl _ | exact LE.sl _ _ | refine LE.agg ?_)); done) | (refine LE.agg ?_; (repeat' (first | exact LEL.nil | refine LEL.cons ?_ ?_ | exact LE.refl _ | exact LE.sl _ _)); done) | refine LE.of_eq ?_))
    by_cases c2 : d < 0
    · rw [cnt, if_pos (.inr c2)]
      clear IH
      repeat' (first | ((with_reducible apply ev_go); (focus (try simp (disch := omega) only [push_cast, Nat.reduceEqDiff, reduceCtorEq, ↓reduceIte, Nat.reduceAdd, Nat.reduceMul, Nat.reduceSub, Nat.reduceLT, Nat.reduceLeDiff, Int.reduceToNat, Int.reduceLT, Int.reduceLE, Int.reduceAdd, Int.reduceSub, Int.reduceMul, Int.reduceBEq, Int.reduceBNe, encB, encI, V.cells_mk, V.cells_take, V.cells_len, *]); (try exact rfl); done)) | ((with_reducible refine w_last ?_ ?_ ?_); (focus kernel_rfl); (focus rfl)) | ((with_reducible apply w_stepG); (focus rfl)) | ((with_reducible apply lk_mem); (focus ((repeat (first | exact List.Mem.head _ | apply List.Mem.tail)); done))) | with_reducible (first | refine w_step0 ?_ | refine w_nil ?_ | refine gd_tt ?_ | refine gd_ff ?_ | refine gd_tf ?_ | refine gd_ft ?_ | refine gd_un ?_ | refine s_move ?_ | refine s_assign ?_ | refine s_bin ?_ | refine s_un ?_ | refine s_conv ?_ | refine s_field ?_ | refine s_fieldAddr ?_ | refine s_ext ?_ | refine s_pick ?_ | refine s_nil ?_ | refine s_load ?_ | refine lk_ip ?_ | refine lk_ptr ?_ | refine s_index ?_ | refine s_indexAddr ?_ | refine s_slice ?_ | refine s_build ?_ | refine s_buildSlice ?_ | refine s_mk ?_ | refine s_store ?_ | refine s_alloc ?_ | refine s_call ?_ | refine s_ip ?_ | refine tr_seq ?_ | refine tr_block ?_ | refine tr_skip ?_ | refine tr_ret ?_ | refine tr_exit ?_ | refine tr_label ?_ | refine strip_norm ?_ | refine strip_ret ?_ | refine strip_exit ?_ | refine blk_norm ?_ | refine blk_ret ?_ | refine blk_same ?_ | refine tr_condT ?_ | refine tr_condCt ?_ | refine tr_condCf ?_) | ((with_reducible apply sto_go); (focus (intro cs'; repeat (first | exact ResAt.here | apply ResAt.there)))) | ((with_reducible refine al_go ?_); intro b) | ((with_reducible refine And.intro ?_ ?_); (focus ((repeat (first | exact keep_none | exact keep_nil | exact keep_ro | refine keep_cons ?_)); done))) | ((with_reducible refine s_bi ?_ ?_); (focus rfl)) | with_reducible refine blk_ne rfl ?_ | ((with_reducible refine w_region ?_ ?_); (focus kernel_rfl)) | ((with_reducible refine w_draw [] ?_ ?_ ?_ ?_ ?_); (iterate 3 (focus kernel_rfl)); (focus exact keeps_nil)) | ((with_reducible first | refine gd_d1 ?_ ?_ | refine gd_d0 ?_ ?_); all_goals (intro hb; (first | with_reducible replace hb := nt_t hb | with_reducible replace hb := nt_f hb | skip); (first | replace hb := of_decide_eq_true hb | replace hb := of_decide_eq_false hb | have hb1 := eq_of_beq hb | have hb1 := ne_of_beq_false hb | have hb1 := bne_t hb | have hb1 := bne_f hb | skip); (try (exfalso; first | contradiction | omega)))))
      all_goals (refine ret_eq (by first | exact .inl rfl | exact .inr rfl) (by first | rfl | assumption) (by (repeat (first | exact List.Sublist.refl _ | apply List.Sublist.cons))) ?_; (try simp (disch := omega) only [push_cast, Nat.reduceEqDiff, reduceCtorEq, ↓reduceIte, Nat.reduceAdd, Nat.reduceMul, Nat.reduceSub, Nat.reduceLT, Nat.reduceLeDiff, Int.reduceToNat, Int.reduceLT, Int.reduceLE, Int.reduceAdd, Int.reduceSub, Int.reduceMul, Int.reduceBEq, Int.reduceBNe, encB, encI, V.cells_mk, V.cells_take, V.cells_len, *]); try (first | exact LE.refl _ | exact LE.sl _ _ | (refine LE.tup ?_; (repeat' (first | exact LEL.nil | refine LEL.cons ?_ ?_ | exact LE.refl _ | exact LE.sl _ _ | refine LE.agg ?_)); done) | (refine LE.agg ?_; (repeat' (first | exact LEL.nil | refine LEL.cons ?_ ?_ | exact LE.refl _ | exact LE.sl _ _)); done) | refine LE.of_eq ?_))
    rw [cnt, if_neg (by omega)]
    repeat' (first | ((with_reducible apply ev_go); (focus (try simp (disch := omega) only [push_cast, Nat.reduceEqDiff, reduceCtorEq, ↓reduceIte, Nat.reduceAdd, Nat.reduceMul, Nat.reduceSub, Nat.reduceLT, Nat.reduceLeDiff, Int.reduceToNat, Int.reduceLT, Int.reduceLE, Int.reduceAdd, Int.reduceSub, Int.reduceMul, Int.reduceBEq, Int.reduceBNe, encB, encI, V.cells_mk, V.cells_take, V.cells_len, *]); (try exact rfl); done)) | ((with_reducible refine w_last ?_ ?_ ?_); (focus kernel_rfl); (focus rfl)) | ((with_reducible apply w_stepG); (focus rfl)) | ((with_reducible apply lk_mem); (focus ((repeat (first | exact List.Mem.head _ | apply List.Mem.tail)); done))) | with_reducible (first | refine w_step0 ?_ | refine w_nil ?_ | refine gd_tt ?_ | refine gd_ff ?_ | refine gd_tf ?_ | refine gd_ft ?_ | refine gd_un ?_ | refine s_move ?_ | refine s_assign ?_ | refine s_bin ?_ | refine s_un ?_ | refine s_conv ?_ | refine s_field ?_ | refine s_fieldAddr ?_ | refine s_ext ?_ | refine s_pick ?_ | refine s_nil ?_ | refine s_load ?_ | refine lk_ip ?_ | refine lk_ptr ?_ | refine s_index ?_ | refine s_indexAddr ?_ | refine s_slice ?_ | refine s_build ?_ | refine s_buildSlice ?_ | refine s_mk ?_ | refine s_store ?_ | refine s_alloc ?_ | refine s_call ?_ | refine s_ip ?_ | refine tr_seq ?_ | refine tr_block ?_ | refine tr_skip ?_ | refine tr_ret ?_ | refine tr_exit ?_ | refine tr_label ?_ | refine strip_norm ?_ | refine strip_ret ?_ | refine strip_exit ?_ | refine blk_norm ?_ | refine blk_ret ?_ | refine blk_same ?_ | refine tr_condT ?_ | refine tr_condCt ?_ | refine tr_condCf ?_) | ((with_reducible apply sto_go); (focus (intro cs'; repeat (first | exact ResAt.here | apply ResAt.there)))) | ((with_reducible refine al_go ?_); intro b) | ((with_reducible refine And.intro ?_ ?_); (focus ((repeat (first | exact keep_none | exact keep_nil | exact keep_ro | refine keep_cons ?_)); done))) | ((with_reducible refine s_bi ?_ ?_); (focus rfl)) | with_reducible refine blk_ne rfl ?_ | ((with_reducible refine w_region ?_ ?_); (focus kernel_rfl)) | ((with_reducible refine w_draw [] ?_ ?_ ?_ ?_ ?_); (iterate 3 (focus kernel_rfl)); (focus exact keeps_nil)) | ((with_reducible first | refine gd_d1 ?_ ?_ | refine gd_d0 ?_ ?_); all_goals (intro hb; (first | with_reducible replace hb := nt_t hb | with_reducible replace hb := nt_f hb | skip); (first | replace hb := of_decide_eq_true hb | replace hb := of_decide_eq_false hb | have hb1 := eq_of_beq hb | have hb1 := ne_of_beq_false hb | have hb1 := bne_t hb | have hb1 := bne_f hb | skip); (try (exfalso; first | contradiction | omega)))))
    refine tr_loop (ι := Nat × Int) (fun i A st' => i.1 ≤ l.length ∧ 0 ≤ i.2 ∧ i.2 ≤ n ∧ Hid (cntL (l.drop i.1) i.2 (d - 1) = cntL l (n - 1) (d - 1)) ∧ A.df = [] ∧ A.e 1 = .i i.2 ∧ A.e 2 = .i d ∧ A.e 3 = .ip [.i k, .i n0, .str s, .sl .shared (l.map V.cells)] ∧ A.e 7 = .i i.1 ∧ st' = st) (fun i => l.length - i.1) (0, n - 1) ⟨Nat.zero_le _, by omega, by omega, rfl, rfl, ?_, ?_, ?_, ?_, rfl⟩ ?_
    iterate 4 (focus (first | rfl | assumption | omega | (simp (disch := omega) only [push_cast, Nat.reduceEqDiff, reduceCtorEq, ↓reduceIte, Nat.reduceAdd, Nat.reduceMul, Nat.reduceSub, Nat.reduceLT, Nat.reduceLeDiff, Int.reduceToNat, Int.reduceLT, Int.reduceLE, Int.reduceAdd, Int.reduceSub, Int.reduceMul, Int.reduceBEq, Int.reduceBNe, encB, encI, V.cells_mk, V.cells_take, V.cells_len, *]; try omega; done)))
    rintro ⟨i, m⟩ A st' ⟨hi, hm0, hmn, HT, hdf, h1', h2', h3', h7, rfl⟩
    dsimp only at hi hm0 hmn HT h1' h7 ⊢
    by_cases hlt : i < l.length
    · obtain ⟨x, hx⟩ : ∃ x, l[i]? = some x := ⟨_, List.getElem?_eq_getElem hlt⟩
      have ih := IH x (mem_of hx) m (d - 1) (by omega) (by omega) (by omega) (by omega)
      have hb := cnt_le x m (d - 1) (by omega)
      have hlx := V.cells_len x
      have HD := HT.out
      rw [drop_cons hx, cntL] at HD
      generalize x.cnt m (d - 1) = m' at *
      clear IH
      by_cases hm' : m' < 0
      · rw [if_pos hm'] at HD
        rw [← HD]
        clear HD HT
        repeat' (first | ((with_reducible apply ev_go); (focus (try simp (disch := omega) only [push_cast, Nat.reduceEqDiff, reduceCtorEq, ↓reduceIte, Nat.reduceAdd, Nat.reduceMul, Nat.reduceSub, Nat.reduceLT, Nat.reduceLeDiff, Int.reduceToNat, Int.reduceLT, Int.reduceLE, Int.reduceAdd, Int.reduceSub, Int.reduceMul, Int.reduceBEq, Int.reduceBNe, encB, encI, V.cells_mk, V.cells_take, V.cells_len, *]); (try exact rfl); done)) | ((with_reducible refine w_last ?_ ?_ ?_); (focus kernel_rfl); (focus rfl)) | ((with_reducible apply w_stepG); (focus rfl)) | ((with_reducible apply lk_mem); (focus ((repeat (first | exact List.Mem.head _ | apply List.Mem.tail)); done))) | with_reducible (first | refine w_step0 ?_ | refine w_nil ?_ | refine gd_tt ?_ | refine gd_ff ?_ | refine gd_tf ?_ | refine gd_ft ?_ | refine gd_un ?_ | refine s_move ?_ | refine s_assign ?_ | refine s_bin ?_ | refine s_un ?_ | refine s_conv ?_ | refine s_field ?_ | refine s_fieldAddr ?_ | refine s_ext ?_ | refine s_pick ?_ | refine s_nil ?_ | refine s_load ?_ | refine lk_ip ?_ | refine lk_ptr ?_ | refine s_index ?_ | refine s_indexAddr ?_ | refine s_slice ?_ | refine s_build ?_ | refine s_buildSlice ?_ | refine s_mk ?_ | refine s_store ?_ | refine s_alloc ?_ | refine s_call ?_ | refine s_ip ?_ | refine tr_seq ?_ | refine tr_block ?_ | refine tr_skip ?_ | refine tr_ret ?_ | refine tr_exit ?_ | refine tr_label ?_ | refine strip_norm ?_ | refine strip_ret ?_ | refine strip_exit ?_ | refine blk_norm ?_ | refine blk_ret ?_ | refine blk_same ?_ | refine tr_condT ?_ | refine tr_condCt ?_ | refine tr_condCf ?_) | ((with_reducible apply sto_go); (focus (intro cs'; repeat (first | exact ResAt.here | apply ResAt.there)))) | ((with_reducible refine al_go ?_); intro b) | ((with_reducible refine And.intro ?_ ?_); (focus ((repeat (first | exact keep_none | exact keep_nil | exact keep_ro | refine keep_cons ?_)); done))) | ((with_reducible apply (ck_le Try.call52)); (focus exact LEL.refl _); (focus exact ih _)) | ((with_reducible refine s_bi ?_ ?_); (focus rfl)) | with_reducible refine blk_ne rfl ?_ | ((with_reducible refine w_region ?_ ?_); (focus kernel_rfl)) | ((with_reducible refine w_draw [] ?_ ?_ ?_ ?_ ?_); (iterate 3 (focus kernel_rfl)); (focus exact keeps_nil)) | ((with_reducible first | refine gd_d1 ?_ ?_ | refine gd_d0 ?_ ?_); all_goals (intro hb; (first | with_reducible replace hb := nt_t hb | with_reducible replace hb := nt_f hb | skip); (first | replace hb := of_decide_eq_true hb | replace hb := of_decide_eq_false hb | have hb1 := eq_of_beq hb | have hb1 := ne_of_beq_false hb | have hb1 := bne_t hb | have hb1 := bne_f hb | skip); (try (exfalso; first | contradiction | omega)))))
        all_goals (refine ret_eq (by first | exact .inl rfl | exact .inr rfl) (by first | rfl | assumption) (by (repeat (first | exact List.Sublist.refl _ | apply List.Sublist.cons))) ?_; (try simp (disch := omega) only [push_cast, Nat.reduceEqDiff, reduceCtorEq, ↓reduceIte, Nat.reduceAdd, Nat.reduceMul, Nat.reduceSub, Nat.reduceLT, Nat.reduceLeDiff, Int.reduceToNat, Int.reduceLT, Int.reduceLE, Int.reduceAdd, Int.reduceSub, Int.reduceMul, Int.reduceBEq, Int.reduceBNe, encB, encI, V.cells_mk, V.cells_take, V.cells_len, *]); try (first | exact LE.refl _ | exact LE.sl _ _ | (refine LE.tup ?_; (repeat' (first | exact LEL.nil | refine LEL.cons ?_ ?_ | exact LE.refl _ | exact LE.sl _ _ | refine LE.agg ?_)); done) | (refine LE.agg ?_; (repeat' (first | exact LEL.nil | refine LEL.cons ?_ ?_ | exact LE.refl _ | exact LE.sl _ _)); done) | refine LE.of_eq ?_))
      · rw [if_neg hm'] at HD
        have HE := Lib.hid HD
        clear HD HT
        repeat' (first | ((with_reducible apply ev_go); (focus (try simp (disch := omega) only [push_cast, Nat.reduceEqDiff, reduceCtorEq, ↓reduceIte, Nat.reduceAdd, Nat.reduceMul, Nat.reduceSub, Nat.reduceLT, Nat.reduceLeDiff, Int.reduceToNat, Int.reduceLT, Int.reduceLE, Int.reduceAdd, Int.reduceSub, Int.reduceMul, Int.reduceBEq, Int.reduceBNe, encB, encI, V.cells_mk, V.cells_take, V.cells_len, *]); (try exact rfl); done)) | ((with_reducible refine w_last ?_ ?_ ?_); (focus kernel_rfl); (focus rfl)) | ((with_reducible apply w_stepG); (focus rfl)) | ((with_reducible apply lk_mem); (focus ((repeat (first | exact List.Mem.head _ | apply List.Mem.tail)); done))) | with_reducible (first | refine w_step0 ?_ | refine w_nil ?_ | refine gd_tt ?_ | refine gd_ff ?_ | refine gd_tf ?_ | refine gd_ft ?_ | refine gd_un ?_ | refine s_move ?_ | refine s_assign ?_ | refine s_bin ?_ | refine s_un ?_ | refine s_conv ?_ | refine s_field ?_ | refine s_fieldAddr ?_ | refine s_ext ?_ | refine s_pick ?_ | refine s_nil ?_ | refine s_load ?_ | refine lk_ip ?_ | refine lk_ptr ?_ | refine s_index ?_ | refine s_indexAddr ?_ | refine s_slice ?_ | refine s_build ?_ | refine s_buildSlice ?_ | refine s_mk ?_ | refine s_store ?_ | refine s_alloc ?_ | refine s_call ?_ | refine s_ip ?_ | refine tr_seq ?_ | refine tr_block ?_ | refine tr_skip ?_ | refine tr_ret ?_ | refine tr_exit ?_ | refine tr_label ?_ | refine strip_norm ?_ | refine strip_ret ?_ | refine strip_exit ?_ | refine blk_norm ?_ | refine blk_ret ?_ | refine blk_same ?_ | refine tr_condT ?_ | refine tr_condCt ?_ | refine tr_condCf ?_) | ((with_reducible apply sto_go); (focus (intro cs'; repeat (first | exact ResAt.here | apply ResAt.there)))) | ((with_reducible refine al_go ?_); intro b) | ((with_reducible refine And.intro ?_ ?_); (focus ((repeat (first | exact keep_none | exact keep_nil | exact keep_ro | refine keep_cons ?_)); done))) | ((with_reducible apply (ck_le Try.call52)); (focus exact LEL.refl _); (focus exact ih _)) | ((with_reducible refine s_bi ?_ ?_); (focus rfl)) | with_reducible refine blk_ne rfl ?_ | ((with_reducible refine w_region ?_ ?_); (focus kernel_rfl)) | ((with_reducible refine w_draw [] ?_ ?_ ?_ ?_ ?_); (iterate 3 (focus kernel_rfl)); (focus exact keeps_nil)) | ((with_reducible first | refine gd_d1 ?_ ?_ | refine gd_d0 ?_ ?_); all_goals (intro hb; (first | with_reducible replace hb := nt_t hb | with_reducible replace hb := nt_f hb | skip); (first | replace hb := of_decide_eq_true hb | replace hb := of_decide_eq_false hb | have hb1 := eq_of_beq hb | have hb1 := ne_of_beq_false hb | have hb1 := bne_t hb | have hb1 := bne_f hb | skip); (try (exfalso; first | contradiction | omega)))))
        refine ⟨(i + 1, m'), ⟨hlt, by omega, by dsimp only; omega, HE, ?_, ?_, ?_, ?_, ?_, rfl⟩, ?_⟩
        all_goals (first | rfl | assumption | omega | (simp (disch := omega) only [push_cast, Nat.reduceEqDiff, reduceCtorEq, ↓reduceIte, Nat.reduceAdd, Nat.reduceMul, Nat.reduceSub, Nat.reduceLT, Nat.reduceLeDiff, Int.reduceToNat, Int.reduceLT, Int.reduceLE, Int.reduceAdd, Int.reduceSub, Int.reduceMul, Int.reduceBEq, Int.reduceBNe, encB, encI, V.cells_mk, V.cells_take, V.cells_len, *]; try omega; done))
    · have HD := HT.out
      rw [List.drop_eq_nil_of_le (by omega), cntL] at HD
      rw [← HD]
      clear HD HT IH
      repeat' (first | ((with_reducible apply ev_go); (focus (try simp (disch := omega) only [push_cast, Nat.reduceEqDiff, reduceCtorEq, ↓reduceIte, Nat.reduceAdd, Nat.reduceMul, Nat.reduceSub, Nat.reduceLT, Nat.reduceLeDiff, Int.reduceToNat, Int.reduceLT, Int.reduceLE, Int.reduceAdd, Int.reduceSub, Int.reduceMul, Int.reduceBEq, Int.reduceBNe, encB, encI, V.cells_mk, V.cells_take, V.cells_len, *]); (try exact rfl); done)) | ((with_reducible refine w_last ?_ ?_ ?_); (focus kernel_rfl); (focus rfl)) | ((with_reducible apply w_stepG); (focus rfl)) | ((with_reducible apply lk_mem); (focus ((repeat (first | exact List.Mem.head _ | apply List.Mem.tail)); done))) | with_reducible (first | refine w_step0 ?_ | refine w_nil ?_ | refine gd_tt ?_ | refine gd_ff ?_ | refine gd_tf ?_ | refine gd_ft ?_ | refine gd_un ?_ | refine s_move ?_ | refine s_assign ?_ | refine s_bin ?_ | refine s_un ?_ | refine s_conv ?_ | refine s_field ?_ | refine s_fieldAddr ?_ | refine s_ext ?_ | refine s_pick ?_ | refine s_nil ?_ | refine s_load ?_ | refine lk_ip ?_ | refine lk_ptr ?_ | refine s_index ?_ | refine s_indexAddr ?_ | refine s_slice ?_ | refine s_build ?_ | refine s_buildSlice ?_ | refine s_mk ?_ | refine s_store ?_ | refine s_alloc ?_ | refine s_call ?_ | refine s_ip ?_ | refine tr_seq ?_ | refine tr_block ?_ | refine tr_skip ?_ | refine tr_ret ?_ | refine tr_exit ?_ | refine tr_label ?_ | refine strip_norm ?_ | refine strip_ret ?_ | refine strip_exit ?_ | refine blk_norm ?_ | refine blk_ret ?_ | refine blk_same ?_ | refine tr_condT ?_ | refine tr_condCt ?_ | refine tr_condCf ?_) | ((with_reducible apply sto_go); (focus (intro cs'; repeat (first | exact ResAt.here | apply ResAt.there)))) | ((with_reducible refine al_go ?_); intro b) | ((with_reducible refine And.intro ?_ ?_); (focus ((repeat (first | exact keep_none | exact keep_nil | exact keep_ro | refine keep_cons ?_)); done))) | ((with_reducible refine s_bi ?_ ?_); (focus rfl)) | with_reducible refine blk_ne rfl ?_ | ((with_reducible refine w_region ?_ ?_); (focus kernel_rfl)) | ((with_reducible refine w_draw [] ?_ ?_ ?_ ?_ ?_); (iterate 3 (focus kernel_rfl)); (focus exact keeps_nil)) | ((with_reducible first | refine gd_d1 ?_ ?_ | refine gd_d0 ?_ ?_); all_goals (intro hb; (first | with_reducible replace hb := nt_t hb | with_reducible replace hb := nt_f hb | skip); (first | replace hb := of_decide_eq_true hb | replace hb := of_decide_eq_false hb | have hb1 := eq_of_beq hb | have hb1 := ne_of_beq_false hb | have hb1 := bne_t hb | have hb1 := bne_f hb | skip); (try (exfalso; first | contradiction | omega)))))
      all_goals (refine ret_eq (by first | exact .inl rfl | exact .inr rfl) (by first | rfl | assumption) (by (repeat (first | exact List.Sublist.refl _ | apply List.Sublist.cons))) ?_; (try simp (disch := omega) only [push_cast, Nat.reduceEqDiff, reduceCtorEq, ↓reduceIte, Nat.reduceAdd, Nat.reduceMul, Nat.reduceSub, Nat.reduceLT, Nat.reduceLeDiff, Int.reduceToNat, Int.reduceLT, Int.reduceLE, Int.reduceAdd, Int.reduceSub, Int.reduceMul, Int.reduceBEq, Int.reduceBNe, encB, encI, V.cells_mk, V.cells_take, V.cells_len, *]); try (first | exact LE.refl _ | exact LE.sl _ _ | (refine LE.tup ?_; (repeat' (first | exact LEL.nil | refine LEL.cons ?_ ?_ | exact LE.refl _ | exact LE.sl _ _ | refine LE.agg ?_)); done) | (refine LE.agg ?_; (repeat' (first | exact LEL.nil | refine LEL.cons ?_ ?_ | exact LE.refl _ | exact LE.sl _ _)); done) | refine LE.of_eq ?_))
end Go.Proofs.Ytgofckmlgkniaaa
end

/- Layer 3 over data: depth and nodes, of the reference and of the program. No statement is proved here. -/
section
namespace Go.Proofs.Ytgofckmlgkniaaa
set_option linter.unusedSimpArgs false
open Go.RowKit
set_option maxRecDepth 10000
namespace V
mutual
theorem cnt_eq : ∀ (v : V) (n d : Int), 0 ≤ v.cnt n d → v.cnt n d = n - v.nodes
  | .mk k m s l, n, d, h => by
    rw [cnt] at h ⊢
    split at h
    · omega
    · rename_i hc
      rw [if_neg hc, nodes]
      have := cntL_eq l (n - 1) (d - 1) h
      omega
theorem cntL_eq : ∀ (l : List V) (n d : Int), 0 ≤ cntL l n d → cntL l n d = n - nodesL l
  | [], n, d, h => by rw [cntL, nodesL]; omega
  | x :: l, n, d, h => by
    rw [cntL] at h ⊢
    split at h
    · omega
    · rename_i hc
      rw [if_neg hc, nodesL, cntL_eq l _ d h]
      have := cnt_eq x n d (by omega)
      omega
end
mutual
theorem cnt_all : ∀ (v : V) (n d : Int), (v.nodes : Int) ≤ n → (v.deep : Int) ≤ d → v.cnt n d = n - v.nodes
  | .mk k m s l, n, d, h, hd => by
    have hp := (V.mk k m s l).nodes_pos
    rw [cnt, if_neg (by omega), nodes] at *
    rw [deep] at hd
    have := cntL_all l (n - 1) (d - 1) (by omega) (by
      cases l with
      | nil => exact .inl rfl
      | cons x l => rw [if_pos (.inr (by simp))] at hd; exact .inr (by omega))
    omega
theorem cntL_all : ∀ (l : List V) (n d : Int), (nodesL l : Int) ≤ n → (l = [] ∨ (deepL l : Int) ≤ d) → cntL l n d = n - nodesL l
  | [], n, d, h, _ => by rw [cntL, nodesL]; omega
  | x :: l, n, d, h, hd => by
    rw [nodesL] at h
    rcases hd with hd | hd
    · cases hd
    rw [deepL] at hd
    have h1 := cnt_all x n d (by omega) (by omega)
    rw [cntL, if_neg (by omega), h1, cntL_all l _ d (by omega) (.inr (by omega)), nodesL]
    omega
end
/-- The deepest so far. -/
def accI : Int → List V → Int
  | n, [] => n
  | n, x :: l => accI (if (x.deep : Int) > n then x.deep else n) l
theorem max_if (a b : Nat) : ((max a b : Nat) : Int) = if (a : Int) ≤ b then (b : Int) else a := by
  rw [Nat.max_def]; split <;> split <;> omega
theorem accI_eq : ∀ (l : List V) (n : Int), accI n l = match l with | [] => n | x :: l => max n (deepL (x :: l))
  | [], n => rfl
  | [x], n => by
    show (if (x.deep : Int) > n then (x.deep : Int) else n) = max n ((max x.deep 0 : Nat) : Int)
    rw [max_if]; split <;> split <;> omega
  | x :: y :: l, n => by
    have h := accI_eq (y :: l) (if (x.deep : Int) > n then x.deep else n)
    show accI _ (y :: l) = max n ((max x.deep (deepL (y :: l)) : Nat) : Int)
    rw [h, max_if]
    dsimp only
    split <;> split <;> omega
theorem accI_le : ∀ (l : List V) (n : Int) (b : Nat), n ≤ b → nodesL l ≤ b → accI n l ≤ b ∧ n ≤ accI n l := fun l n b h1 h2 => by
  have := deepL_le l
  rw [accI_eq]; cases l <;> dsimp only <;> omega
theorem accI_deep (k n : Int) (s : ByteArray) (l : List V) : accI (if k = 5 then 0 else -1) l + 1 = (V.mk k n s l).deep := by
  rw [accI_eq, deep]
  cases l with
  | nil =>
    by_cases h : k = 5
    · simp [h, deepL]
    · simp [h]
  | cons x l =>
    rw [if_pos (show k = 5 ∨ x :: l ≠ [] from .inr (by simp))]
    dsimp only
    split <;> omega
theorem accI_deep' (k n : Int) (s : ByteArray) (l : List V) : (if k = 5 ∨ 0 < l.length then accI 0 l + 1 else accI 0 l) = (V.mk k n s l).deep := by
  rw [accI_eq, deep]
  cases l with
  | nil =>
    by_cases h : k = 5
    · simp [h, deepL]
    · simp [h]
  | cons x l =>
    rw [if_pos (show k = 5 ∨ x :: l ≠ [] from .inr (by simp)), if_pos (show k = 5 ∨ 0 < (x :: l).length from .inr (by simp))]
    dsimp only
    omega
end V
open V in
theorem refDeepF : ∀ (N : Nat) (v : V), v.nodes ≤ N → v.nodes ≤ 4611686018427387904 → ∀ st, TrF Try.prog 53 [.agg v.cells] st fun x st' => x = .i v.deep ∧ st' = st
  | 0, v, h, _ => by have := v.nodes_pos; omega
  | N + 1, .mk k n0 s l, hN, hB => by
    intro st
    have IH := fun x (hx : x ∈ l) => refDeepF N x (by have := nodes_lt (k := k) (n := n0) (s := s) hx; omega) (by have := nodes_lt (k := k) (n := n0) (s := s) hx; omega)
    have hll := nodesL_len l
    have hdl := deepL_le l
    rw [nodes] at hN hB
    have hD := accI_deep k n0 s l
    generalize (V.mk k n0 s l).deep = dd at *
    rw [V.cells_mk]
    clear hN
    refine trF_enter (ts := [2]) Try.func53 rfl (by rw [Try.ntmps53]; exact Nat.le_of_ble_eq_true rfl) (fun tmps w => by simp [results, Try.results53, go_sem, resVal]) ?_
    simp only [Try.ntmps53]
    obtain ⟨a0, ha0⟩ : ∃ a0 : Int, (if k = 5 then (0 : Int) else -1) = a0 := ⟨_, rfl⟩
    have hab : -1 ≤ a0 ∧ a0 ≤ 0 := by rw [← ha0]; split <;> omega
    have HD := Lib.hid hD
    rw [ha0] at HD
    clear hD
    by_cases hk : k = 5
    all_goals
      simp only [hk, if_true, if_false] at ha0
      first | have hkb : (k == 5) = true := by rw [hk]; rfl
            | have hkb : (k == 5) = false := by rw [beq_eq_false_iff_ne]; exact hk
      clear hk
      subst ha0
      have IH := Lib.hid IH
      repeat' (first | ((with_reducible apply ev_go); (focus (try simp (disch := omega) only [push_cast, Nat.reduceEqDiff, reduceCtorEq, ↓reduceIte, Nat.reduceAdd, Nat.reduceMul, Nat.reduceSub, Nat.reduceLT, Nat.reduceLeDiff, Int.reduceToNat, Int.reduceLT, Int.reduceLE, Int.reduceAdd, Int.reduceSub, Int.reduceMul, Int.reduceBEq, Int.reduceBNe, encB, encI, V.cells_mk, V.cells_take, V.cells_len, *]); (try exact rfl); done)) | ((with_reducible refine w_last ?_ ?_ ?_); (focus kernel_rfl); (focus rfl)) | ((with_reducible apply w_stepG); (focus rfl)) | ((with_reducible apply lk_mem); (focus ((repeat (first | exact List.Mem.head _ | apply List.Mem.tail)); done))) | with_reducible (first | refine w_step0 ?_ | refine w_nil ?_ | refine gd_tt ?_ | refine gd_ff ?_ | refine gd_tf ?_ | refine gd_ft ?_ | refine gd_un ?_ | refine s_move ?_ | refine s_assign ?_ | refine s_bin ?_ | refine s_un ?_ | refine s_conv ?_ | refine s_field ?_ | refine s_fieldAddr ?_ | refine s_ext ?_ | refine s_pick ?_ | refine s_nil ?_ | refine s_load ?_ | refine lk_ip ?_ | refine lk_ptr ?_ | refine s_index ?_ | refine s_indexAddr ?_ | refine s_slice ?_ | refine s_build ?_ | refine s_buildSlice ?_ | refine s_mk ?_ | refine s_store ?_ | refine s_alloc ?_ | refine s_call ?_ | refine s_ip ?_ | refine tr_seq ?_ | refine tr_block ?_ | refine tr_skip ?_ | refine tr_ret ?_ | refine tr_exit ?_ | refine tr_label ?_ | refine strip_norm ?_ | refine strip_ret ?_ | refine strip_exit ?_ | refine blk_norm ?_ | refine blk_ret ?_ | refine blk_same ?_ | refine tr_condT ?_ | refine tr_condCt ?_ | refine tr_condCf ?_) | ((with_reducible apply sto_go); (focus (intro cs'; repeat (first | exact ResAt.here | apply ResAt.there)))) | ((with_reducible refine al_go ?_); intro b) | ((with_reducible refine And.intro ?_ ?_); (focus ((repeat (first | exact keep_none | exact keep_nil | exact keep_ro | refine keep_cons ?_)); done))) | ((with_reducible refine s_bi ?_ ?_); (focus rfl)) | with_reducible refine blk_ne rfl ?_ | ((with_reducible refine w_region ?_ ?_); (focus kernel_rfl)) | ((with_reducible refine w_draw [] ?_ ?_ ?_ ?_ ?_); (iterate 3 (focus kernel_rfl)); (focus exact keeps_nil)) | ((with_reducible first | refine gd_d1 ?_ ?_ | refine gd_d0 ?_ ?_); all_goals (intro hb; (first | with_reducible replace hb := nt_t hb | with_reducible replace hb := nt_f hb | skip); (first | replace hb := of_decide_eq_true hb | replace hb := of_decide_eq_false hb | have hb1 := eq_of_beq hb | have hb1 := ne_of_beq_false hb | have hb1 := bne_t hb | have hb1 := bne_f hb | skip); (try (exfalso; first | contradiction | omega)))))
      refine tr_loop (ι := Nat × Int) (fun i A st' => i.1 ≤ l.length ∧ -1 ≤ i.2 ∧ i.2 ≤ nodesL l ∧ Hid (accI i.2 (l.drop i.1) + 1 = dd) ∧ A.df = [] ∧ A.e 1 = .ip [.i k, .i n0, .str s, .sl .shared (l.map V.cells)] ∧ A.e 3 = .i i.2 ∧ A.e 4 = .i i.1 ∧ st' = st) (fun i => l.length - i.1) (0, _) ⟨Nat.zero_le _, hab.1, by dsimp only; omega, HD.out, ?_, ?_, ?_, ?_, rfl⟩ ?_
      iterate 4 (focus (first | rfl | assumption | omega | (simp (disch := omega) only [push_cast, Nat.reduceEqDiff, reduceCtorEq, ↓reduceIte, Nat.reduceAdd, Nat.reduceMul, Nat.reduceSub, Nat.reduceLT, Nat.reduceLeDiff, Int.reduceToNat, Int.reduceLT, Int.reduceLE, Int.reduceAdd, Int.reduceSub, Int.reduceMul, Int.reduceBEq, Int.reduceBNe, encB, encI, V.cells_mk, V.cells_take, V.cells_len, *]; try omega; done)))
      rintro ⟨i, m⟩ A st' ⟨hi, hm0, hmn, HT, hdf, h1', h3', h4', rfl⟩
      dsimp only at hi hm0 hmn HT h3' h4' ⊢
      by_cases hlt : i < l.length
      · obtain ⟨x, hx⟩ : ∃ x, l[i]? = some x := ⟨_, List.getElem?_eq_getElem hlt⟩
        have ih := IH.out x (mem_of hx)
        have hdx := deep_le x
        have hnx := nodesL_mem (mem_of hx)
        have HE := HT.out
        rw [drop_cons hx, accI] at HE
        have HE := Lib.hid HE
        generalize x.deep = dx at *
        by_cases hm' : (dx : Int) > m
        · have he := HE.out
          rw [if_pos hm'] at he
          have HE := Lib.hid he
          clear he HT IH
          repeat' (first | ((with_reducible apply ev_go); (focus (try simp (disch := omega) only [push_cast, Nat.reduceEqDiff, reduceCtorEq, ↓reduceIte, Nat.reduceAdd, Nat.reduceMul, Nat.reduceSub, Nat.reduceLT, Nat.reduceLeDiff, Int.reduceToNat, Int.reduceLT, Int.reduceLE, Int.reduceAdd, Int.reduceSub, Int.reduceMul, Int.reduceBEq, Int.reduceBNe, encB, encI, V.cells_mk, V.cells_take, V.cells_len, *]); (try exact rfl); done)) | ((with_reducible refine w_last ?_ ?_ ?_); (focus kernel_rfl); (focus rfl)) | ((with_reducible apply w_stepG); (focus rfl)) | ((with_reducible apply lk_mem); (focus ((repeat (first | exact List.Mem.head _ | apply List.Mem.tail)); done))) | with_reducible (first | refine w_step0 ?_ | refine w_nil ?_ | refine gd_tt ?_ | refine gd_ff ?_ | refine gd_tf ?_ | refine gd_ft ?_ | refine gd_un ?_ | refine s_move ?_ | refine s_assign ?_ | refine s_bin ?_ | refine s_un ?_ | refine s_conv ?_ | refine s_field ?_ | refine s_fieldAddr ?_ | refine s_ext ?_ | refine s_pick ?_ | refine s_nil ?_ | refine s_load ?_ | refine lk_ip ?_ | refine lk_ptr ?_ | refine s_index ?_ | refine s_indexAddr ?_ | refine s_slice ?_ | refine s_build ?_ | refine s_buildSlice ?_ | refine s_mk ?_ | refine s_store ?_ | refine s_alloc ?_ | refine s_call ?_ | refine s_ip ?_ | refine tr_seq ?_ | refine tr_block ?_ | refine tr_skip ?_ | refine tr_ret ?_ | refine tr_exit ?_ | refine tr_label ?_ | refine strip_norm ?_ | refine strip_ret ?_ | refine strip_exit ?_ | refine blk_norm ?_ | refine blk_ret ?_ | refine blk_same ?_ | refine tr_condT ?_ | refine tr_condCt ?_ | refine tr_condCf ?_) | ((with_reducible apply sto_go); (focus (intro cs'; repeat (first | exact ResAt.here | apply ResAt.there)))) | ((with_reducible refine al_go ?_); intro b) | ((with_reducible refine And.intro ?_ ?_); (focus ((repeat (first | exact keep_none | exact keep_nil | exact keep_ro | refine keep_cons ?_)); done))) | ((with_reducible apply (ck_le Try.call53)); (focus exact LEL.refl _); (focus exact ih _)) | ((with_reducible refine s_bi ?_ ?_); (focus rfl)) | with_reducible refine blk_ne rfl ?_ | ((with_reducible refine w_region ?_ ?_); (focus kernel_rfl)) | ((with_reducible refine w_draw [] ?_ ?_ ?_ ?_ ?_); (iterate 3 (focus kernel_rfl)); (focus exact keeps_nil)) | ((with_reducible first | refine gd_d1 ?_ ?_ | refine gd_d0 ?_ ?_); all_goals (intro hb; (first | with_reducible replace hb := nt_t hb | with_reducible replace hb := nt_f hb | skip); (first | replace hb := of_decide_eq_true hb | replace hb := of_decide_eq_false hb | have hb1 := eq_of_beq hb | have hb1 := ne_of_beq_false hb | have hb1 := bne_t hb | have hb1 := bne_f hb | skip); (try (exfalso; first | contradiction | omega)))))
          refine ⟨(i + 1, dx), ⟨hlt, by dsimp only; omega, by dsimp only; omega, HE, ?_, ?_, ?_, ?_, rfl⟩, ?_⟩
          all_goals (first | rfl | assumption | omega | (simp (disch := omega) only [push_cast, Nat.reduceEqDiff, reduceCtorEq, ↓reduceIte, Nat.reduceAdd, Nat.reduceMul, Nat.reduceSub, Nat.reduceLT, Nat.reduceLeDiff, Int.reduceToNat, Int.reduceLT, Int.reduceLE, Int.reduceAdd, Int.reduceSub, Int.reduceMul, Int.reduceBEq, Int.reduceBNe, encB, encI, V.cells_mk, V.cells_take, V.cells_len, *]; try omega; done))
        · have he := HE.out
          rw [if_neg hm'] at he
          have HE := Lib.hid he
          clear he HT IH
          repeat' (first | ((with_reducible apply ev_go); (focus (try simp (disch := omega) only [push_cast, Nat.reduceEqDiff, reduceCtorEq, ↓reduceIte, Nat.reduceAdd, Nat.reduceMul, Nat.reduceSub, Nat.reduceLT, Nat.reduceLeDiff, Int.reduceToNat, Int.reduceLT, Int.reduceLE, Int.reduceAdd, Int.reduceSub, Int.reduceMul, Int.reduceBEq, Int.reduceBNe, encB, encI, V.cells_mk, V.cells_take, V.cells_len, *]); (try exact rfl); done)) | ((with_reducible refine w_last ?_ ?_ ?_); (focus kernel_rfl); (focus rfl)) | ((with_reducible apply w_stepG); (focus rfl)) | ((with_reducible apply lk_mem); (focus ((repeat (first | exact List.Mem.head _ | apply List.Mem.tail)); done))) | with_reducible (first | refine w_step0 ?_ | refine w_nil ?_ | refine gd_tt ?_ | refine gd_ff ?_ | refine gd_tf ?_ | refine gd_ft ?_ | refine gd_un ?_ | refine s_move ?_ | refine s_assign ?_ | refine s_bin ?_ | refine s_un ?_ | refine s_conv ?_ | refine s_field ?_ | refine s_fieldAddr ?_ | refine s_ext ?_ | refine s_pick ?_ | refine s_nil ?_ | refine s_load ?_ | refine lk_ip ?_ | refine lk_ptr ?_ | refine s_index ?_ | refine s_indexAddr ?_ | refine s_slice ?_ | refine s_build ?_ | refine s_buildSlice ?_ | refine s_mk ?_ | refine s_store ?_ | refine s_alloc ?_ | refine s_call ?_ | refine s_ip ?_ | refine tr_seq ?_ | refine tr_block ?_ | refine tr_skip ?_ | refine tr_ret ?_ | refine tr_exit ?_ | refine tr_label ?_ | refine strip_norm ?_ | refine strip_ret ?_ | refine strip_exit ?_ | refine blk_norm ?_ | refine blk_ret ?_ | refine blk_same ?_ | refine tr_condT ?_ | refine tr_condCt ?_ | refine tr_condCf ?_) | ((with_reducible apply sto_go); (focus (intro cs'; repeat (first | exact ResAt.here | apply ResAt.there)))) | ((with_reducible refine al_go ?_); intro b) | ((with_reducible refine And.intro ?_ ?_); (focus ((repeat (first | exact keep_none | exact keep_nil | exact keep_ro | refine keep_cons ?_)); done))) | ((with_reducible apply (ck_le Try.call53)); (focus exact LEL.refl _); (focus exact ih _)) | ((with_reducible refine s_bi ?_ ?_); (focus rfl)) | with_reducible refine blk_ne rfl ?_ | ((with_reducible refine w_region ?_ ?_); (focus kernel_rfl)) | ((with_reducible refine w_draw [] ?_ ?_ ?_ ?_ ?_); (iterate 3 (focus kernel_rfl)); (focus exact keeps_nil)) | ((with_reducible first | refine gd_d1 ?_ ?_ | refine gd_d0 ?_ ?_); all_goals (intro hb; (first | with_reducible replace hb := nt_t hb | with_reducible replace hb := nt_f hb | skip); (first | replace hb := of_decide_eq_true hb | replace hb := of_decide_eq_false hb | have hb1 := eq_of_beq hb | have hb1 := ne_of_beq_false hb | have hb1 := bne_t hb | have hb1 := bne_f hb | skip); (try (exfalso; first | contradiction | omega)))))
          refine ⟨(i + 1, m), ⟨hlt, by dsimp only; omega, by dsimp only; omega, HE, ?_, ?_, ?_, ?_, rfl⟩, ?_⟩
          all_goals (first | rfl | assumption | omega | (simp (disch := omega) only [push_cast, Nat.reduceEqDiff, reduceCtorEq, ↓reduceIte, Nat.reduceAdd, Nat.reduceMul, Nat.reduceSub, Nat.reduceLT, Nat.reduceLeDiff, Int.reduceToNat, Int.reduceLT, Int.reduceLE, Int.reduceAdd, Int.reduceSub, Int.reduceMul, Int.reduceBEq, Int.reduceBNe, encB, encI, V.cells_mk, V.cells_take, V.cells_len, *]; try omega; done))
      · have he := HT.out
        rw [List.drop_eq_nil_of_le (by omega), accI] at he
        clear IH HT HD
        repeat' (first | ((with_reducible apply ev_go); (focus (try simp (disch := omega) only [push_cast, Nat.reduceEqDiff, reduceCtorEq, ↓reduceIte, Nat.reduceAdd, Nat.reduceMul, Nat.reduceSub, Nat.reduceLT, Nat.reduceLeDiff, Int.reduceToNat, Int.reduceLT, Int.reduceLE, Int.reduceAdd, Int.reduceSub, Int.reduceMul, Int.reduceBEq, Int.reduceBNe, encB, encI, V.cells_mk, V.cells_take, V.cells_len, *]); (try exact rfl); done)) | ((with_reducible refine w_last ?_ ?_ ?_); (focus kernel_rfl); (focus rfl)) | ((with_reducible apply w_stepG); (focus rfl)) | ((with_reducible apply lk_mem); (focus ((repeat (first | exact List.Mem.head _ | apply List.Mem.tail)); done))) | with_reducible (first | refine w_step0 ?_ | refine w_nil ?_ | refine gd_tt ?_ | refine gd_ff ?_ | refine gd_tf ?_ | refine gd_ft ?_ | refine gd_un ?_ | refine s_move ?_ | refine s_assign ?_ | refine s_bin ?_ | refine s_un ?_ | refine s_conv ?_ | refine s_field ?_ | refine s_fieldAddr ?_ | refine s_ext ?_ | refine s_pick ?_ | refine s_nil ?_ | refine s_load ?_ | refine lk_ip ?_ | refine lk_ptr ?_ | refine s_index ?_ | refine s_indexAddr ?_ | refine s_slice ?_ | refine s_build ?_ | refine s_buildSlice ?_ | refine s_mk ?_ | refine s_store ?_ | refine s_alloc ?_ | refine s_call ?_ | refine s_ip ?_ | refine tr_seq ?_ | refine tr_block ?_ | refine tr_skip ?_ | refine tr_ret ?_ | refine tr_exit ?_ | refine tr_label ?_ | refine strip_norm ?_ | refine strip_ret ?_ | refine strip_exit ?_ | refine blk_norm ?_ | refine blk_ret ?_ | refine blk_same ?_ | refine tr_condT ?_ | refine tr_condCt ?_ | refine tr_condCf ?_) | ((with_reducible apply sto_go); (focus (intro cs'; repeat (first | exact ResAt.here | apply ResAt.there)))) | ((with_reducible refine al_go ?_); intro b) | ((with_reducible refine And.intro ?_ ?_); (focus ((repeat (first | exact keep_none | exact keep_nil | exact keep_ro | refine keep_cons ?_)); done))) | ((with_reducible refine s_bi ?_ ?_); (focus rfl)) | with_reducible refine blk_ne rfl ?_ | ((with_reducible refine w_region ?_ ?_); (focus kernel_rfl)) | ((with_reducible refine w_draw [] ?_ ?_ ?_ ?_ ?_); (iterate 3 (focus kernel_rfl)); (focus exact keeps_nil)) | ((with_reducible first | refine gd_d1 ?_ ?_ | refine gd_d0 ?_ ?_); all_goals (intro hb; (first | with_reducible replace hb := nt_t hb | with_reducible replace hb := nt_f hb | skip); (first | replace hb := of_decide_eq_true hb | replace hb := of_decide_eq_false hb | have hb1 := eq_of_beq hb | have hb1 := ne_of_beq_false hb | have hb1 := bne_t hb | have hb1 := bne_f hb | skip); (try (exfalso; first | contradiction | omega)))))
        all_goals (refine ret_eq (by first | exact .inl rfl | exact .inr rfl) (by first | rfl | assumption) (by (repeat (first | exact List.Sublist.refl _ | apply List.Sublist.cons))) ?_; (try simp (disch := omega) only [push_cast, Nat.reduceEqDiff, reduceCtorEq, ↓reduceIte, Nat.reduceAdd, Nat.reduceMul, Nat.reduceSub, Nat.reduceLT, Nat.reduceLeDiff, Int.reduceToNat, Int.reduceLT, Int.reduceLE, Int.reduceAdd, Int.reduceSub, Int.reduceMul, Int.reduceBEq, Int.reduceBNe, encB, encI, V.cells_mk, V.cells_take, V.cells_len, *]); try (first | exact LE.refl _ | exact LE.sl _ _ | (refine LE.tup ?_; (repeat' (first | exact LEL.nil | refine LEL.cons ?_ ?_ | exact LE.refl _ | exact LE.sl _ _ | refine LE.agg ?_)); done) | (refine LE.agg ?_; (repeat' (first | exact LEL.nil | refine LEL.cons ?_ ?_ | exact LE.refl _ | exact LE.sl _ _)); done) | refine LE.of_eq ?_))
end Go.Proofs.Ytgofckmlgkniaaa
end
