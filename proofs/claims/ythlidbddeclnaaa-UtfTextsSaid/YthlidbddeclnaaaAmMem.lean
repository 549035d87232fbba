/- Memory, seen as data: reading and writing it. No statement is proved here. -/
import Derived.Test.YthlidbddeclnaaaAmCore
import Derived.Laws.CopyRow
namespace Go.Proofs.Ythlidbddeclnaaa
open Go.RowKit

/-! ### what is known of a type -/
inductive TK where
  | other | bool | int (k : IntKind) | string
  | slice (e : TypeId) (sz bytes : Nat) (z : List Value)
  | struct (fs : List (Nat × Nat × Bool))
  | array (n sz : Nat) (agg : Bool)
  | pointer
structure TI where
  agg : Bool
  sz : Nat
  zero : List Value
  k : TK
def aggD : TypeDesc → Bool
  | .struct _ | .array _ _ => true
  | _ => false
def aggT (P : Program) (t : TypeId) : Bool := ((P.underlying t).map aggD).getD false
def szT (P : Program) (t : TypeId) : Nat := ((P.info? t).map (·.size)).getD 0
def kindT (P : Program) (t : TypeId) : TK :=
  match P.underlying t with
  | some .bool => .bool
  | some (.int k) => .int k
  | some .string => .string
  | some (.pointer _) => .pointer
  | some (.slice e) => match P.info? e with
    | some i => match i.zero with
      | some z => if z.cells.size = i.size ∧ 0 < i.size then .slice e i.size i.bytes z.cells.toList else .other
      | none => .other
    | none => .other
  | some (.struct fs) => if fs.all (fun f => (P.info? f.type).isSome && (P.underlying f.type).isSome) then .struct (fs.toList.map fun f => (f.offset, szT P f.type, aggT P f.type)) else .other
  | some (.array n e) => if (P.info? e).isSome ∧ (P.underlying e).isSome then .array n (szT P e) (aggT P e) else .other
  | _ => .other
def tinfo (P : Program) (t : TypeId) : Option TI :=
  match P.info? t, P.underlying t with
  | some i, some d => match i.zero with
    | some z => if z.cells.size = i.size then some ⟨aggD d, i.size, z.cells.toList, kindT P t⟩ else none
    | none => none
  | _, _ => none
section
variable {P : Program} {t : TypeId} {ti : TI}
theorem tinfo_spec (h : tinfo P t = some ti) : ∃ i d z, P.info? t = some i ∧ P.underlying t = some d ∧ i.zero = some z ∧ z.cells.size = i.size ∧ ti = ⟨aggD d, i.size, z.cells.toList, kindT P t⟩ := by
  unfold tinfo at h
  cases hi : P.info? t with
  | none => simp [hi] at h
  | some i =>
    cases hd : P.underlying t with
    | none => simp [hi, hd] at h
    | some d =>
      simp only [hi, hd] at h
      cases hz : i.zero with
      | none => simp [hz] at h
      | some z =>
        simp only [hz] at h
        split at h
        · rename_i hs
          exact ⟨i, d, z, rfl, rfl, hz, hs, (Option.some.inj h).symm⟩
        · cases h
theorem run_isAgg (h : tinfo P t = some ti) (w : World) : (isAgg t).run P w = .ok ti.agg w := by
  obtain ⟨i, d, z, h1, h2, h3, h4, rfl⟩ := tinfo_spec h
  simp only [isAgg, Sem.run_bind, run_underlying h2, Result.andThen_ok]
  cases d <;> rfl
theorem run_sizeOf (h : tinfo P t = some ti) (w : World) : (sizeOf t).run P w = .ok ti.sz w := by
  obtain ⟨i, d, z, h1, h2, h3, h4, rfl⟩ := tinfo_spec h
  simp [sizeOf, typeInfo, h1]
theorem run_zeroValue (h : tinfo P t = some ti) (w : World) : ∃ z, z.cells.toList = ti.zero ∧ (zeroValue t).run P w = .ok z w := by
  obtain ⟨i, d, z, h1, h2, h3, h4, rfl⟩ := tinfo_spec h
  exact ⟨z, rfl, by simp [zeroValue, typeInfo, h1, h3]⟩
theorem run_und_of (h : tinfo P t = some ti) : ∃ d, P.underlying t = some d ∧ (∀ w, (underlying t).run P w = .ok d w) ∧ ti.k = kindT P t := by
  obtain ⟨i, d, z, h1, h2, h3, h4, rfl⟩ := tinfo_spec h
  exact ⟨d, h2, run_underlying h2, rfl⟩
end

/-! ### reading -/
section
variable {P : Program} {t : TypeId} {ti : TI} {O : Nat → Nat → Prop} {w : World}
/-- What a variable of a type reads as, by its cells' data. -/
def readD (ti : TI) (cs : List D) : Option D :=
  if ti.agg then (if ti.sz ≤ cs.length then some (.agg (cs.take ti.sz)) else none) else cs.head?
theorem run_load_cells (h : tinfo P t = some ti) {b off : Nat} {us : List Value} {cs : List D} {d : D} (hc : ∀ (i : Nat) (hi : i < us.length), w.cell? ⟨b, off + i, none⟩ = some us[i]) (hr : RepL O w us cs) (hd : readD ti cs = some d) :
    ∃ v, (Instr.loadAt t (.pointer (some ⟨b, off, none⟩))).run P w = .ok v w ∧ Rep O w v d := by
  unfold readD at hd
  simp only [Instr.loadAt, Instr.sureAddr, loadVar, Sem.run_bind, Sem.run_pure, Result.andThen_ok, run_isAgg h]
  by_cases ha : ti.agg = true
  · rw [if_pos ha] at hd
    split at hd
    · rename_i hs
      cases hd
      have hl : (loadCells ⟨b, off, none⟩ (us.take ti.sz).length).run P w = .ok (us.take ti.sz).toArray w := run_loadCells_list w _ _ fun j v hv => by
        rw [add_lit]
        rw [List.getElem?_take] at hv
        split at hv
        · obtain ⟨h1, rfl⟩ := List.getElem?_eq_some_iff.1 hv
          exact hc j h1
        · cases hv
      have hlen : (us.take ti.sz).length = ti.sz := by rw [List.length_take, hr.1]; omega
      rw [hlen] at hl
      simp only [ha, if_true, Sem.run_bind, run_sizeOf h, Result.andThen_ok, hl, Sem.run_pure]
      exact ⟨_, rfl, .agg _ _ (hr.take _).1 (hr.take _).2⟩
    · cases hd
  · rw [if_neg ha] at hd
    cases cs with
    | nil => cases hd
    | cons c cs =>
      cases hd
      obtain ⟨u, ut, rfl, h1, h2⟩ := hr.inv_cons
      have := hc 0 (by simp)
      simp only [Nat.add_zero, List.getElem_cons_zero] at this
      simp only [ha, Bool.false_eq_true, if_false]
      refine ⟨u, ?_, h1⟩
      simp [load, Sem.run, this]
end

/-! ### writing -/
inductive ResAt (r r' : Res) : St → St → Prop
  | here {st : St} : ResAt r r' (r :: st) (r' :: st)
  | there {x : Res} {st st' : St} (h : ResAt r r' st st') : ResAt r r' (x :: st) (x :: st')
theorem ResAt.perm {r r' : Res} {st st' : St} (h : ResAt r r' st st') : ∃ s0, st.Perm (r :: s0) ∧ st'.Perm (r' :: s0) := by
  induction h with
  | here => exact ⟨_, .refl _, .refl _⟩
  | there h ih =>
    obtain ⟨s0, h1, h2⟩ := ih
    exact ⟨_, (h1.cons _).trans (.swap _ _ _), (h2.cons _).trans (.swap _ _ _)⟩
theorem Ext.perm {st st' s s' : St} {w w' : World} (h1 : st.Perm s) (h2 : st'.Perm s') (h : Ext (OwnS s) w (OwnS s') w') : Ext (OwnS st) w (OwnS st') w' := by
  rw [OwnS.perm h1, OwnS.perm h2]; exact h
section
variable {P : Program} {t : TypeId} {ti : TI} {st st' : St} {w : World}
/-- A block that one owns whole is set. -/
theorem set_row {b : Nat} {ty : TypeId} {cs cs' : List D} {us us' : Array Value} (h : Holds (.box b ty cs :: st) w) (hb : w.heap[b]? = some (.cells us ty (0, 0))) (hs : us'.size = us.size)
    (hr : RepL (OwnS (.box b ty cs :: st)) w us'.toList cs') (hl : ∀ d ∈ cs', d.leaf = true) :
    Holds (.box b ty cs' :: st) (w.setRow b us') ∧ Ext (OwnS (.box b ty cs :: st)) w (OwnS (.box b ty cs' :: st)) (w.setRow b us') := by
  have hown : ∀ k off, OwnS (.box b ty cs' :: st) k off → OwnS (.box b ty cs :: st) k off := fun k off ho => by
    rw [OwnS.cons_iff] at ho ⊢
    exact ho
  have he : Ext (OwnS (.box b ty cs :: st)) w (OwnS (.box b ty cs' :: st)) (w.setRow b us') := by
    refine ⟨rfl, rfl, rfl, by simp, fun k off _ ho => hown k off ho, fun k hk hn => ?_, fun k c E fr hk => ?_⟩
    · refine setRow_other w b k us' fun e => ?_
      subst e
      exact hn 0 (OwnS.cons_iff.2 (.inl ⟨rfl, Nat.le_refl _⟩))
    · by_cases e : k = b
      · subst e
        rw [hb] at hk
        cases hk
        exact ⟨us', _, setRow_heap w k us us' ty (0, 0) hb, hs, fun off hn => absurd (OwnS.cons_iff.2 (.inl ⟨rfl, Nat.zero_le _⟩)) hn⟩
      · exact ⟨c, fr, (setRow_other w b k us' e).trans hk, rfl, fun _ _ => rfl⟩
  refine ⟨h.put he (fun x hx k hk => setRow_other w b k us' fun e => ?_) ⟨⟨us', setRow_heap w b us us' ty (0, 0) hb, hr.ext he⟩, hl⟩ (fun x hx => ?_), he⟩
  · subst e
    exact (List.pairwise_cons.1 h.1).1 x hx k rfl hk
  · exact (List.pairwise_cons.1 h.1).1 x hx
def splice (cs : List D) (off : Nat) (ds : List D) : List D := cs.take off ++ ds ++ cs.drop (off + ds.length)
theorem run_store {b off : Nat} {ty : TypeId} {cs : List D} {v : Value} {d : D} (h : Holds st w) (hat : ResAt (.box b ty cs) (.box b ty (splice cs off d.cells)) st st') (ht : tinfo P t = some ti)
    (hv : Rep (OwnS st) w v d) (hsz : d.cells.length = ti.sz) (hl : d.cells.all D.leaf = true) (hoff : off + d.cells.length ≤ cs.length) :
    ∃ w', (Instr.storeAt t (.pointer (some ⟨b, off, none⟩)) v).run P w = .ok () w' ∧ Holds st' w' ∧ Ext (OwnS st) w (OwnS st') w' := by
  obtain ⟨s0, p1, p2⟩ := hat.perm
  have h' := h.perm p1
  obtain ⟨⟨us, hb, hr⟩, hlc⟩ := h'.2 _ (List.mem_cons_self ..)
  have hc := hv.cells
  have hcl := hc.1
  have hul := hr.1
  have hlv : ∀ x ∈ d.cells, x.leaf = true := List.all_eq_true.1 hl
  have h1 : ∀ u ∈ v.cells.toList, u.oneCell' = true := hc.leafOne hlv
  have hlen : v.cells.toList.length = ti.sz := by omega
  have hrun := run_storeCells_at (P := P) b off ty v.cells.toList 0 us w hb (by simp only [Nat.add_zero]; rw [hcl, ← Array.length_toList, hul]; exact hoff) h1
  rw [Nat.add_zero] at hrun
  rw [OwnS.perm p1] at hc
  have hrep : RepL (OwnS (.box b ty cs :: s0)) w (us.toList.take off ++ v.cells.toList ++ us.toList.drop (off + v.cells.toList.length)) (splice cs off d.cells) := by
    unfold splice
    rw [hcl]
    exact ((hr.take off).append hc).append (hr.drop _)
  have hset := set_row (us' := (us.toList.take off ++ v.cells.toList ++ us.toList.drop (off + v.cells.toList.length)).toArray) h' hb (by
    simp only [List.size_toArray, List.length_append, List.length_take, List.length_drop, Array.length_toList] at *
    omega) hrep (fun x hx => by
      unfold splice at hx
      rw [List.mem_append, List.mem_append] at hx
      rcases hx with (hx | hx) | hx
      · exact hlc x (List.mem_of_mem_take hx)
      · exact hlv x hx
      · exact hlc x (List.mem_of_mem_drop hx))
  refine ⟨_, ?_, hset.1.perm p2.symm, hset.2.perm p1 p2⟩
  have hne : ¬ (v.cells.size ≠ ti.sz) := by rw [← Array.length_toList]; simp [hlen]
  simp only [Instr.storeAt, Instr.sureAddr, storeVar, Sem.run_bind, Sem.run_pure, Result.andThen_ok, run_sizeOf ht, if_neg hne, hrun]
theorem run_loadBox {b off : Nat} {ty : TypeId} {cs : List D} {d : D} (h : Holds st w) (hm : Res.box b ty cs ∈ st) (ht : tinfo P t = some ti) (hd : readD ti (cs.drop off) = some d) :
    ∃ v, (Instr.loadAt t (.pointer (some ⟨b, off, none⟩))).run P w = .ok v w ∧ Rep (OwnS st) w v d := by
  obtain ⟨⟨us, hb, hr⟩, hlc⟩ := h.2 _ hm
  refine run_load_cells ht (us := us.toList.drop off) (fun i hi => ?_) (hr.drop off) hd
  rw [cell_of_row w b (off + i) us ty (0, 0) hb]
  rw [List.getElem_drop]
  simp at hi
  rw [Array.getElem?_eq_getElem (by omega)]
  simp
end

/-! ### append -/
theorem flat_len {sz : Nat} : ∀ {es : List (List D)}, (∀ e ∈ es, e.length = sz) → es.flatten.length = es.length * sz
  | [], _ => by simp
  | e :: es, h => by rw [List.flatten_cons, List.length_append, h e (List.mem_cons_self ..), flat_len fun x hx => h x (List.mem_cons_of_mem _ hx), List.length_cons, Nat.succ_mul, Nat.add_comm]
section
variable {P : Program} {st st' : St} {w : World}
theorem calm_src {O : Nat → Nat → Prop} {v : Value} {o : Own} {es : List (List D)} (h : Rep O w v (.sl o es)) : ∃ a cap us sz, v = .slice a es.length cap ∧ es.length ≤ cap ∧ cap ≤ maxLen ∧ 0 < sz ∧ (∀ e ∈ es, e.length = sz) ∧ us.length = es.length * sz ∧ RepL O w us es.flatten ∧ (∀ d ∈ es.flatten, d.leaf = true) ∧
    (a = none → cap = 0) ∧ (∀ (i : Nat) (hi : i < us.length), ∃ b off, a = some ⟨b, off, none⟩ ∧ Calm O w b (off + i) us[i]) ∧ OwnOk a es.length cap o := by
  cases h with
  | sl _ _ a cap us sz h1 h2 h3 hsz he hl hleaf hc hr ho =>
    exact ⟨a, cap, us, sz, rfl, h1, h2, hsz, he, hl.trans (flat_len he), ⟨hl, hr⟩, hleaf, h3, hc, ho⟩
theorem run_append_zero (T ty e : TypeId) (i : TypeInfo) (ht : P.underlying T = some (.slice e)) (hi : P.info? e = some i) (a : Option Addr) (n cap : Nat) (hn : n ≤ cap) (x : Option Addr) (c : Nat) :
    (Builtin.append_ #[T, T] ty #[.slice a n cap, .slice x 0 c]).run P w = .ok (.slice a n cap) w := by
  cases x <;> cases a <;> simp [Builtin.append_, run_underlying ht, sizeOf, typeInfo, hi, Builtin.lenOf, Builtin.firstCells, loadCells, loadCellsFrom, hn, storeCells]
theorem calm_own {O : Nat → Nat → Prop} {a : Option Addr} {us : List Value} (hc : ∀ (i : Nat) (hi : i < us.length), ∃ b off, a = some ⟨b, off, none⟩ ∧ Calm O w b (off + i) us[i]) {ad : Addr} (ha : a = some ad) : ∀ j u, us[j]? = some u → w.cell? (ad.add j) = some u := by
  intro j u hu
  obtain ⟨h1, rfl⟩ := List.getElem?_eq_some_iff.1 hu
  obtain ⟨b, off, e, _, _, h3⟩ := hc j h1
  rw [ha] at e
  cases e
  rw [add_lit]; exact h3
/-- What a grown slice comes to. -/
theorem grown_rep {o : Own} {e : TypeId} {sz n cap : Nat} {s0 : St} (h : Holds (.room o e sz n :: s0) w) {us : List Value} {fs : List (List D)} (hr : RepL (OwnS (.room o e sz n :: s0)) w us fs.flatten) (hleaf : ∀ d ∈ fs.flatten, d.leaf = true)
    (hsz : 0 < sz) (hes : ∀ x ∈ fs, x.length = sz) (hul : us.length = fs.length * sz) (hcap : fs.length ≤ cap) (hmax : cap ≤ maxLen) (rest : List Value) (hrest : rest.length = (cap - fs.length) * sz) :
    let w' := w.drew.alloc (.cells (us ++ rest).toArray e)
    Rep (OwnS (.room (.row w.heap.size cap) e sz fs.length :: s0)) w' (.slice (some ⟨w.heap.size, 0, none⟩) fs.length cap) (.sl (.row w.heap.size cap) fs) ∧ Holds (.room (.row w.heap.size cap) e sz fs.length :: s0) w' ∧ Ext (OwnS (.room o e sz n :: s0)) w (OwnS (.room (.row w.heap.size cap) e sz fs.length :: s0)) w' := by
  intro w'
  have hown : ∀ b off, b < w.heap.size → OwnS (.room (.row w.heap.size cap) e sz fs.length :: s0) b off → OwnS (.room o e sz n :: s0) b off := fun b off hb ho => by
    rcases OwnS.cons_iff.1 ho with ⟨h1, _⟩ | h1
    · cases h1; omega
    · exact OwnS.cons_iff.2 (.inr h1)
  have hnew : w'.heap[w.heap.size]? = some (.cells (us ++ rest).toArray e) := heap_alloc_new w.drew _
  have hold : ∀ b, b < w.heap.size → w'.heap[b]? = w.heap[b]? := fun b hb => heap_alloc_old w.drew _ b hb
  have he : Ext (OwnS (.room o e sz n :: s0)) w (OwnS (.room (.row w.heap.size cap) e sz fs.length :: s0)) w' :=
    ⟨rfl, rfl, rfl, by show w.heap.size ≤ (w.drew.alloc _).heap.size; rw [World.size_alloc]; exact Nat.le_succ _, hown, fun b hb _ => hold b hb, fun b c E fr hb => ⟨c, fr, (hold b (Array.getElem?_eq_some_iff.1 hb).1).trans hb, rfl, fun _ _ => rfl⟩⟩
  have hsize : ((us ++ rest).toArray : Array Value).size = cap * sz := by
    simp only [List.size_toArray, List.length_append, hul, hrest]
    rw [← Nat.add_mul]; congr 1; omega
  have hnot : ∀ i, i < us.length → ¬ OwnS (.room (.row w.heap.size cap) e sz fs.length :: s0) w.heap.size i := fun i hi ho => by
    rcases OwnS.cons_iff.1 ho with ⟨_, h1⟩ | h1
    · simp only [Res.from] at h1; omega
    · have := (h.sub (List.sublist_cons_self _ _)).lt h1; omega
  refine ⟨?_, h.put he (fun x hx b hb => hold b ((h.2 x (List.mem_cons_of_mem _ hx)).lt hb)) ⟨_, hnew, hsize, hcap⟩ (fun x hx b hb hb' => ?_), he⟩
  · refine .sl _ fs _ cap us sz (by omega) hmax (fun e => by cases e) hsz hes hr.1 hleaf (fun i hi => ⟨w.heap.size, 0, rfl, ?_⟩) (hr.ext he).2 ⟨rfl, rfl⟩
    rw [Nat.zero_add]
    refine ⟨(Array.getElem?_eq_some_iff.1 hnew).1, hnot i hi, ?_⟩
    rw [cell_of_row w' w.heap.size i _ e (0, 0) hnew]
    simp [List.getElem?_append_left hi]
  · cases hb
    have := (h.2 x (List.mem_cons_of_mem _ hx)).lt hb'
    omega
theorem run_append (T ty : TypeId) {ti : TI} {e : TypeId} {sz bytes : Nat} {z : List Value} (ht : tinfo P T = some ti) (hk : ti.k = .slice e sz bytes z) {o ox : Own} {es ys : List (List D)} {v x : Value} {s0 : St}
    (h : Holds (.room o e sz es.length :: s0) w) (hv : Rep (OwnS (.room o e sz es.length :: s0)) w v (.sl o es)) (hx : Rep (OwnS (.room o e sz es.length :: s0)) w x (.sl ox ys)) (ho : o ≠ .shared)
    (hes : ∀ a ∈ es, a.length = sz) (hys : ∀ a ∈ ys, a.length = sz) (hb : (es.length + ys.length) * bytes ≤ 140737488355328) (hm : es.length + ys.length ≤ 140737488355328) :
    ∃ v' w' o', o' ≠ .shared ∧ (Builtin.append_ #[T, T] ty #[v, x]).run P w = .ok v' w' ∧ Rep (OwnS (.room o' e sz (es ++ ys).length :: s0)) w' v' (.sl o' (es ++ ys)) ∧ Holds (.room o' e sz (es ++ ys).length :: s0) w' ∧ Ext (OwnS (.room o e sz es.length :: s0)) w (OwnS (.room o' e sz (es ++ ys).length :: s0)) w' := by
  obtain ⟨d, hd, -, hkk⟩ := run_und_of ht
  rw [hk] at hkk
  obtain ⟨i, hi, zv, hz, hzs, hsz0, hd', rfl, rfl, rfl⟩ : ∃ i, P.info? e = some i ∧ ∃ zv, i.zero = some zv ∧ zv.cells.size = i.size ∧ 0 < i.size ∧ d = .slice e ∧ i.size = sz ∧ i.bytes = bytes ∧ zv.cells.toList = z := by
    unfold kindT at hkk
    rw [hd] at hkk
    cases d <;> simp only at hkk <;> try (cases hkk; done)
    · rename_i e'
      cases hi : P.info? e' with
      | none => simp [hi] at hkk
      | some i =>
        simp only [hi] at hkk
        cases hz : i.zero with
        | none => simp [hz] at hkk
        | some zv =>
          simp only [hz] at hkk
          split at hkk
          · rename_i hq
            cases hkk
            exact ⟨i, hi, zv, hz, hq.1, hq.2, rfl, rfl, rfl, rfl⟩
          · cases hkk
    · split at hkk <;> cases hkk
    · split at hkk <;> cases hkk
  subst hd'
  obtain ⟨a, cap, us, sz1, rfl, c1, c2, c3, c4, c5, c6, c7, c8, c9, c10⟩ := calm_src hv
  obtain ⟨xa, xcap, xus, xsz, rfl, x1, x2, x3, x4, x5, x6, x7, x8, x9, -⟩ := calm_src hx
  have hul : us.length = es.length * i.size := by
    rw [c6.1]; exact flat_len hes
  have hxl : xus.length = ys.length * i.size := by
    rw [x6.1]; exact flat_len hys
  by_cases hy : ys = []
  · subst hy
    refine ⟨_, w, o, ho, run_append_zero T ty e i hd hi a es.length cap c1 xa xcap, ?_, ?_, ?_⟩
    · simpa using hv
    · simpa using h
    · simpa using Ext.refl _ _
  · have hpos : 0 < ys.length := List.length_pos_iff.2 hy
    obtain ⟨xad, rfl⟩ : ∃ ad, xa = some ad := by
      cases xa with
      | none => have := x8 rfl; omega
      | some ad => exact ⟨ad, rfl⟩
    have hnews := calm_own x9 rfl
    have hfl : RepL (OwnS (.room o e i.size es.length :: s0)) w (us ++ xus) (es ++ ys).flatten := by rw [List.flatten_append]; exact c6.append x6
    have hfleaf : ∀ d ∈ (es ++ ys).flatten, d.leaf = true := fun d hd => by
      rw [List.flatten_append, List.mem_append] at hd
      exact hd.elim (c7 d) (x7 d)
    have hfes : ∀ x ∈ es ++ ys, x.length = i.size := fun x hx => (List.mem_append.1 hx).elim (hes x) (hys x)
    have hful : (us ++ xus).length = (es.length + ys.length) * i.size := by rw [List.length_append, hul, hxl, Nat.add_mul]
    have hmaxl : es.length + ys.length ≤ maxLen := by unfold maxLen; omega
    have grow : ∀ old, (hlt : old < es.length + ys.length) → (hrun : (Builtin.append_ #[T, T] ty #[.slice a es.length cap, .slice (some xad) ys.length xcap]).run P w =
        .ok (.slice (some ⟨w.heap.size, 0, none⟩) (es.length + ys.length) (grownCap w (es.length + ys.length) old e)) (w.drew.alloc (.cells (us.toArray ++ xus.toArray ++ Builtin.zeroCells zv.cells (grownCap w (es.length + ys.length) old e - (es.length + ys.length))) e))) →
        ∃ v' w' o', o' ≠ .shared ∧ (Builtin.append_ #[T, T] ty #[.slice a es.length cap, .slice (some xad) ys.length xcap]).run P w = .ok v' w' ∧ Rep (OwnS (.room o' e i.size (es ++ ys).length :: s0)) w' v' (.sl o' (es ++ ys)) ∧ Holds (.room o' e i.size (es ++ ys).length :: s0) w' ∧
          Ext (OwnS (.room o e i.size es.length :: s0)) w (OwnS (.room o' e i.size (es ++ ys).length :: s0)) w' := by
      intro old hlt hrun
      have hge := grownCap_ge w (es.length + ys.length) old e
      have hcm := grownCap_le_maxLen w (es.length + ys.length) old e hmaxl
      generalize grownCap w (es.length + ys.length) old e = nc at *
      have hl2 : (es ++ ys).length = es.length + ys.length := List.length_append
      have hg := grown_rep (cap := nc) h hfl hfleaf hsz0 hfes (by rw [hl2]; exact hful) (by rw [hl2]; exact hge) hcm (Builtin.zeroCells zv.cells (nc - (es.length + ys.length))).toList (by rw [Array.length_toList, size_zeroCells, hzs, hl2])
      have heq : (us.toArray ++ xus.toArray ++ Builtin.zeroCells zv.cells (nc - (es.length + ys.length))) = ((us ++ xus) ++ (Builtin.zeroCells zv.cells (nc - (es.length + ys.length))).toList).toArray := by simp
      rw [heq] at hrun
      rw [← hl2] at hrun
      exact ⟨_, _, .row w.heap.size nc, by simp, by rw [hrun, hl2], hg.1, hg.2.1, hg.2.2⟩
    cases o with
    | shared => exact absurd rfl ho
    | tight =>
      have hcap : cap = es.length := c10
      subst hcap
      cases a with
      | none =>
        have h0 := c8 rfl
        have hes0 : es = [] := List.eq_nil_of_length_eq_zero h0
        have hus0 : us = [] := List.eq_nil_of_length_eq_zero (by rw [hul, h0, Nat.zero_mul])
        refine grow 0 (by omega) ?_
        rw [h0, hus0]
        have := run_append_nil (P := P) w T ty e i zv hd hi hz xad ys.length xcap xus hxl hnews hpos (by omega) (by have : ys.length * i.bytes ≤ (es.length + ys.length) * i.bytes := Nat.mul_le_mul_right _ (by omega); omega)
        simp only [Nat.zero_add]
        rw [this]
        simp
      | some ad =>
        have hold := calm_own c9 rfl
        exact grow es.length (by omega) (run_append_grow (P := P) w T ty e i zv hd hi hz ad es.length es.length us hul hold xad ys.length xcap xus hxl hnews (by omega) (by omega) (growslice_fits (by omega) hb))
    | row g c =>
      obtain ⟨ha, rfl⟩ : a = some ⟨g, 0, none⟩ ∧ cap = c := c10
      subst ha
      have hold := calm_own c9 rfl
      by_cases hroom : es.length + ys.length ≤ cap
      · obtain ⟨cur, hg, hcs, -⟩ := h.2 _ (List.mem_cons_self ..)
        have hfit : es.length * i.size + xus.length ≤ cur.size := by rw [hxl, hcs, ← Nat.add_mul]; exact Nat.mul_le_mul_right _ hroom
        have hrun := run_append_room (P := P) w T ty e i hd hi g es.length cap cur hg xad ys.length xcap xus hxl hnews (x6.leafOne x7) hroom hfit
        have htake : cur.toList.take (es.length * i.size) = us := by
          apply List.ext_getElem?
          intro j
          rw [List.getElem?_take]
          split
          · rename_i hj
            have hj' : j < us.length := by omega
            have hcj := hold j us[j] (List.getElem?_eq_getElem hj')
            rw [add_lit, Nat.zero_add, cell_of_row w g j cur e (0, 0) hg] at hcj
            rw [List.getElem?_eq_getElem hj', ← hcj]
            simp
          · rw [List.getElem?_eq_none (by omega)]
        rw [htake] at hrun
        generalize hnew : (us ++ xus ++ cur.toList.drop (es.length * i.size + xus.length)) = L at *
        have hLs : L.length = cur.size := by
          rw [← hnew]
          simp only [List.length_append, List.length_drop, Array.length_toList, hul]
          omega
        have hgn : (w.setRow g L.toArray).heap[g]? = some (.cells L.toArray e (0, 0)) := setRow_heap w g cur L.toArray e (0, 0) hg
        have hne : ∀ x ∈ s0, x.blk ≠ some g := fun x hx => (List.pairwise_cons.1 h.1).1 x hx g rfl
        have hown : ∀ b off, OwnS (.room (.row g cap) e i.size (es.length + ys.length) :: s0) b off → OwnS (.room (.row g cap) e i.size es.length :: s0) b off := fun b off ho => by
          rcases OwnS.cons_iff.1 ho with ⟨h1, h2⟩ | h1
          · refine OwnS.cons_iff.2 (.inl ⟨h1, ?_⟩)
            simp only [Res.from] at h2 ⊢
            exact Nat.le_trans (Nat.mul_le_mul_right _ (by omega)) h2
          · exact OwnS.cons_iff.2 (.inr h1)
        have he : Ext (OwnS (.room (.row g cap) e i.size es.length :: s0)) w (OwnS (.room (.row g cap) e i.size (es.length + ys.length) :: s0)) (w.setRow g L.toArray) := by
          refine ⟨rfl, rfl, rfl, by simp, fun b off _ ho => hown b off ho, fun b hb hn => setRow_other w g b _ fun eb => ?_, fun b cc E fr hb => ?_⟩
          · subst eb
            exact hn (es.length * i.size) (OwnS.cons_iff.2 (.inl ⟨rfl, Nat.le_refl _⟩))
          · by_cases eb : b = g
            · subst eb
              rw [hg] at hb
              cases hb
              refine ⟨_, _, hgn, by simpa using hLs, fun off hn => ?_⟩
              have hoff : off < us.length := by
                rcases Nat.lt_or_ge off us.length with h1 | h1
                · exact h1
                · exact absurd (OwnS.cons_iff.2 (.inl ⟨rfl, by simp only [Res.from]; omega⟩)) hn
              have hcj := hold off us[off] (List.getElem?_eq_getElem hoff)
              rw [add_lit, Nat.zero_add, cell_of_row w b off cur e (0, 0) hg] at hcj
              rw [hcj, ← hnew]
              simp [List.getElem?_append_left hoff, hoff]
            · exact ⟨cc, fr, (setRow_other w g b _ eb).trans hb, rfl, fun _ _ => rfl⟩
        refine ⟨_, _, .row g cap, by simp, hrun, ?_, ?_, ?_⟩
        · rw [List.length_append]
          have hl2 : (es ++ ys).length = es.length + ys.length := List.length_append
          rw [← hl2]
          refine .sl _ (es ++ ys) _ cap (us ++ xus) i.size (by omega) c2 (fun e => by cases e) hsz0 hfes hfl.1 hfleaf (fun j hj => ⟨g, 0, rfl, ?_⟩) (by rw [hl2]; exact (hfl.ext he).2) ⟨rfl, rfl⟩
          rw [Nat.zero_add]
          refine ⟨(Array.getElem?_eq_some_iff.1 hgn).1, fun ho => ?_, ?_⟩
          · rw [hl2] at ho
            rcases OwnS.cons_iff.1 ho with ⟨_, h2⟩ | ⟨r, hr, hrb, _⟩
            · simp only [Res.from] at h2; omega
            · exact hne r hr hrb
          · rw [cell_of_row _ g j L.toArray e (0, 0) hgn, ← hnew, List.getElem?_toArray, List.getElem?_append_left hj, List.getElem?_eq_getElem hj]
        · rw [List.length_append]
          exact h.put he (fun x hx b hb => setRow_other w g b _ fun eb => hne x hx (eb ▸ hb)) ⟨_, hgn, by simpa [hLs] using hcs, hroom⟩ fun x hx b hb => by cases hb; exact hne x hx
        · rw [List.length_append]; exact he
      · exact grow cap (by omega) (run_append_grow (P := P) w T ty e i zv hd hi hz ⟨g, 0, none⟩ es.length cap us hul hold xad ys.length xcap xus hxl hnews (by omega) (by omega) (growslice_fits (by omega) hb))
end
end Go.Proofs.Ythlidbddeclnaaa
