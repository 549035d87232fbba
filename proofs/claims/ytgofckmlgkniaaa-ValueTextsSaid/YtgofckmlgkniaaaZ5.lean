/- Texts put together: AmRow, CopyR, ValNames, TextInj. No statement is proved here. -/
import Derived.Sort.Walk0
import Derived.Test.YtgofckmlgkniaaaZ4
set_option linter.all false
section
namespace Go.Proofs.Ytgofckmlgkniaaa
set_option linter.unusedSimpArgs false
open Go.RowKit
section
variable {P : Program} {st : St} {w : World}
theorem zero_mem {z : Array Value} {n : Nat} (hz : 0 < z.size) : ∀ v ∈ (Builtin.zeroCells z n).toList, v ∈ z.toList := by
  intro v hv
  unfold Builtin.zeroCells at hv
  rw [Array.toList_map, List.mem_map] at hv
  obtain ⟨i, -, rfl⟩ := hv
  have hlt : i % z.size < z.size := Nat.mod_lt _ hz
  rw [getElem!_pos z _ hlt]
  exact Array.getElem_mem_toList hlt
def zOk (v : Value) : Bool := noAgg v && (leafD v).leaf
theorem zOk_rep {O : Nat → Nat → Prop} {us : List Value} (h : ∀ v ∈ us, zOk v = true) : RepL O w us (us.map leafD) ∧ ∀ d ∈ us.map leafD, d.leaf = true := by
  have h1 : ∀ v ∈ us, noAgg v = true ∧ (leafD v).leaf = true := fun v hv => by
    have := h v hv
    unfold zOk at this
    rwa [Bool.and_eq_true] at this
  refine ⟨?_, fun d hd => ?_⟩
  · have := RepL.map (O := O) (w := w) (l := us) (f := id) (g := leafD) (fun x hx => leafD_rep (h1 x hx).1)
    rwa [List.map_id] at this
  · obtain ⟨v, hv, rfl⟩ := List.mem_map.1 hd
    exact (h1 v hv).2
theorem new_for {g : Nat} {e : TypeId} {cs : List D} {s0 : St} (h : Holds (.box g e cs :: s0) w) {us : List Value} {cs' : List D} (hr : RepL (OwnS (.box g e cs :: s0)) w us cs') (hl : ∀ d ∈ cs', d.leaf = true) :
    Holds (.box w.heap.size e cs' :: s0) (w.drew.alloc (.cells us.toArray e)) ∧ Ext (OwnS (.box g e cs :: s0)) w (OwnS (.box w.heap.size e cs' :: s0)) (w.drew.alloc (.cells us.toArray e)) := by
  have he := Ext.drewN (OwnS (.box g e cs :: s0)) w 1
  have := new_box (h.drewN 1) e (hr.ext he) hl
  have hs : (Res.box w.heap.size e cs' :: s0).Sublist (.box w.heap.size e cs' :: .box g e cs :: s0) := (List.sublist_cons_self _ _).cons₂ _
  exact ⟨this.1.sub hs, (he.trans this.2).trans (Ext.drop (fun _ h => hs.subset h) _)⟩
theorem run_appendRow (T ty e : TypeId) {i : TypeInfo} {zv : Value} (hd : P.underlying T = some (.slice e)) (hi : P.info? e = some i) (hzv : i.zero = some zv) (hzs : zv.cells.size = i.size) (hsz : 0 < i.size) (hz : ∀ v ∈ zv.cells.toList, zOk v = true)
    {g n cap : Nat} {ds zs : List D} {s0 : St} (h : Holds (.box g e (ds ++ zs) :: s0) w) (hn : n ≤ cap) (hc : cap ≤ maxLen) (hds : ds.length = n * i.size) (hl : (ds ++ zs).length = cap * i.size)
    {xad : Addr} {m xcap : Nat} {news : List Value} {yd : List D} (hnl : news.length = m * i.size) (hnews : ∀ j u, news[j]? = some u → w.cell? (xad.add j) = some u) (hrep : RepL (OwnS (.box g e (ds ++ zs) :: s0)) w news yd) (hleaf : ∀ d ∈ yd, d.leaf = true)
    (hb : (n + m) * i.bytes ≤ 140737488355328) (hm : n + m ≤ 140737488355328) :
    ∃ w' g' cap' zs', (Builtin.append_ #[T, T] ty #[.slice (some ⟨g, 0, none⟩) n cap, .slice (some xad) m xcap]).run P w = .ok (.slice (some ⟨g', 0, none⟩) (n + m) cap') w' ∧ n + m ≤ cap' ∧ cap' ≤ maxLen ∧ (ds ++ yd ++ zs').length = cap' * i.size ∧
      Holds (.box g' e (ds ++ yd ++ zs') :: s0) w' ∧ Ext (OwnS (.box g e (ds ++ zs) :: s0)) w (OwnS (.box g' e (ds ++ yd ++ zs') :: s0)) w' := by
  obtain ⟨⟨cur, hg, hr⟩, hlc⟩ := h.2 _ (List.mem_cons_self ..)
  have hcs : cur.toList.length = cap * i.size := hr.1.trans hl
  have hyl : yd.length = m * i.size := hrep.1.symm.trans hnl
  have hmul : n * i.size + m * i.size = (n + m) * i.size := (Nat.add_mul ..).symm
  have htk : RepL (OwnS (.box g e (ds ++ zs) :: s0)) w (cur.toList.take (n * i.size)) ds := by
    have := hr.take (n * i.size)
    rwa [List.take_append_of_le_length (by omega), List.take_of_length_le (l := ds) (by omega)] at this
  have hdl : ∀ d ∈ ds, d.leaf = true := fun d hd => hlc d (List.mem_append_left _ hd)
  have hzl : ∀ d ∈ zs, d.leaf = true := fun d hd => hlc d (List.mem_append_right _ hd)
  by_cases hroom : n + m ≤ cap
  · have hle : (n + m) * i.size ≤ cap * i.size := Nat.mul_le_mul_right _ hroom
    have hrun := run_append_room (P := P) w T ty e i hd hi g n cap cur hg xad m xcap news hnl hnews (hrep.leafOne hleaf) hroom (by rw [← Array.length_toList]; omega)
    have hdr : RepL (OwnS (.box g e (ds ++ zs) :: s0)) w (cur.toList.drop (n * i.size + news.length)) (zs.drop (m * i.size)) := by
      have := hr.drop (n * i.size + news.length)
      rwa [List.drop_append, List.drop_of_length_le (l := ds) (by omega), List.nil_append, show n * i.size + news.length - ds.length = m * i.size by omega] at this
    obtain ⟨q1, q2⟩ := set_row (us' := (cur.toList.take (n * i.size) ++ news ++ cur.toList.drop (n * i.size + news.length)).toArray) h hg (by
      rw [← Array.length_toList, ← Array.length_toList]
      simp only [List.length_append, List.length_take, List.length_drop]
      omega) ((htk.append hrep).append hdr) (fun d hd => by
        rw [List.mem_append, List.mem_append] at hd
        rcases hd with (hd | hd) | hd
        · exact hdl d hd
        · exact hleaf d hd
        · exact hzl d (List.mem_of_mem_drop hd))
    refine ⟨_, g, cap, zs.drop (m * i.size), hrun, hroom, hc, ?_, q1, q2⟩
    simp only [List.length_append, List.length_drop] at hl ⊢
    omega
  · have hrun := run_append_grow (P := P) w T ty e i zv hd hi hzv ⟨g, 0, none⟩ n cap (cur.toList.take (n * i.size)) (by rw [List.length_take]; have : n * i.size ≤ cap * i.size := Nat.mul_le_mul_right _ hn; omega) (fun j v hv => by
      rw [add_lit, Nat.zero_add, cell_of_row w g j cur e (0, 0) hg]
      rw [List.getElem?_take] at hv
      split at hv
      · rw [← hv]; simp
      · cases hv) xad m xcap news hnl hnews (by omega) (by omega) (growslice_fits (by omega) hb)
    have hge := grownCap_ge w (n + m) cap e
    have hcm := grownCap_le_maxLen w (n + m) cap e (by unfold maxLen; omega)
    generalize grownCap w (n + m) cap e = nc at *
    have hzm := zOk_rep (O := OwnS (.box g e (ds ++ zs) :: s0)) (w := w) fun v hv => hz v (zero_mem (n := nc - (n + m)) (by omega) v hv)
    have hq := new_for h ((htk.append hrep).append hzm.1) (fun d hd => by
        rw [List.mem_append, List.mem_append] at hd
        rcases hd with (hd | hd) | hd
        · exact hdl d hd
        · exact hleaf d hd
        · exact hzm.2 d hd)
    have heq : ((cur.toList.take (n * i.size)).toArray ++ news.toArray ++ Builtin.zeroCells zv.cells (nc - (n + m))) = ((cur.toList.take (n * i.size) ++ news) ++ (Builtin.zeroCells zv.cells (nc - (n + m))).toList).toArray := by simp
    rw [heq] at hrun
    refine ⟨_, w.heap.size, nc, _, hrun, hge, hcm, ?_, hq.1, hq.2⟩
    simp only [List.length_append, List.length_map, Array.length_toList, size_zeroCells, hzs]
    rw [hds, hyl, ← Nat.add_mul, ← Nat.add_mul]
    congr 1
    omega
theorem run_appendFirst (T ty e : TypeId) {i : TypeInfo} {zv : Value} (hd : P.underlying T = some (.slice e)) (hi : P.info? e = some i) (hzv : i.zero = some zv) (hzs : zv.cells.size = i.size) (hsz : 0 < i.size) (hz : ∀ v ∈ zv.cells.toList, zOk v = true)
    (h : Holds st w) {x : Value} (hx : Rep (OwnS st) w x (.sl .tight []))
    {xad : Addr} {m xcap : Nat} {news : List Value} {yd : List D} (hnl : news.length = m * i.size) (hnews : ∀ j u, news[j]? = some u → w.cell? (xad.add j) = some u) (hrep : RepL (OwnS st) w news yd) (hleaf : ∀ d ∈ yd, d.leaf = true)
    (hpos : 0 < m) (hb : m * i.bytes ≤ 140737488355328) (hm : m ≤ 140737488355328) :
    ∃ w' g' cap' zs', (Builtin.append_ #[T, T] ty #[x, .slice (some xad) m xcap]).run P w = .ok (.slice (some ⟨g', 0, none⟩) m cap') w' ∧ m ≤ cap' ∧ cap' ≤ maxLen ∧ (yd ++ zs').length = cap' * i.size ∧
      Holds (.box g' e (yd ++ zs') :: st) w' ∧ Ext (OwnS st) w (OwnS (.box g' e (yd ++ zs') :: st)) w' := by
  obtain ⟨a, cap, us, sz, rfl, c1, c2, c3, c4, c5, c6, c7, c8, c9, c10⟩ := calm_src hx
  have hcap : cap = 0 := c10
  subst hcap
  have hyl : yd.length = m * i.size := hrep.1.symm.trans hnl
  have hrun : ∃ old, (Builtin.append_ #[T, T] ty #[.slice a ([] : List (List D)).length 0, .slice (some xad) m xcap]).run P w = .ok (.slice (some ⟨w.heap.size, 0, none⟩) m (grownCap w m old e)) (w.drew.alloc (.cells (news.toArray ++ Builtin.zeroCells zv.cells (grownCap w m old e - m)) e)) := by
    cases a with
    | none => exact ⟨0, run_append_nil (P := P) w T ty e i zv hd hi hzv xad m xcap news hnl hnews hpos (by omega) (by omega)⟩
    | some ad =>
      refine ⟨0, ?_⟩
      have := run_append_grow (P := P) w T ty e i zv hd hi hzv ad 0 0 [] (by simp) (fun j v hv => by simp at hv) xad m xcap news hnl hnews (by omega) (by omega) (growslice_fits (by omega) (by rw [Nat.zero_add]; exact hb))
      simpa using this
  obtain ⟨old, hrun⟩ := hrun
  have hge := grownCap_ge w m old e
  have hcm := grownCap_le_maxLen w m old e (by unfold maxLen; omega)
  generalize grownCap w m old e = nc at *
  have hzm := zOk_rep (O := OwnS st) (w := w) fun v hv => hz v (zero_mem (n := nc - m) (by omega) v hv)
  have he := Ext.drewN (OwnS st) w 1
  have hq := new_box (h.drewN 1) e ((hrep.append hzm.1).ext he) (fun d hd => by
    rw [List.mem_append] at hd
    exact hd.elim (hleaf d) (hzm.2 d))
  have heq : (news.toArray ++ Builtin.zeroCells zv.cells (nc - m)) = (news ++ (Builtin.zeroCells zv.cells (nc - m)).toList).toArray := by simp
  rw [heq] at hrun
  refine ⟨_, w.heap.size, nc, _, hrun, hge, hcm, ?_, hq.1, he.trans hq.2⟩
  simp only [List.length_append, List.length_map, Array.length_toList, size_zeroCells, hzs]
  rw [hyl, ← Nat.add_mul]
  congr 1
  omega
end
section
variable {P : Program} {N : Nat} {r : Option Nat} {A : AA} {st : St} {Q : Exit → AA → St → Prop} {m : Option Ro} {k : D → St → Prop} {dst : Option Tmp} {ty : TypeId} {pos : String} {aft : Array Edge} {gd : Option (Nat × Bool)} {o : Oper} {w : World}
def rowT (P : Program) (t : TypeId) : Option (TypeId × Nat × Nat) := (tinfo P t).bind fun ti => match ti.k with
  | .slice el sz bytes z => if z.all zOk = true then some (el, sz, bytes) else none
  | _ => none
theorem rowT_spec {t el : TypeId} {sz bytes : Nat} (h : rowT P t = some (el, sz, bytes)) : P.underlying t = some (.slice el) ∧ ∃ i zv, P.info? el = some i ∧ i.zero = some zv ∧ zv.cells.size = i.size ∧ 0 < i.size ∧ i.size = sz ∧ i.bytes = bytes ∧ ∀ v ∈ zv.cells.toList, zOk v = true := by
  unfold rowT at h
  cases ht : tinfo P t with
  | none => rw [ht] at h; cases h
  | some ti =>
    rw [ht, Option.bind_some] at h
    split at h
    · rename_i el' sz' bytes' z hk
      split at h
      · rename_i hz
        cases h
        obtain ⟨hu, ii, zv, q1, q2, q3, q4, q5, q6, q7⟩ := (und_of_k ht).2.2.2.2.1 _ _ _ _ hk
        subst q4
        exact ⟨hu, ii, zv, q1, q2, q7, q6, rfl, q5, by rw [q3]; exact List.all_eq_true.1 hz⟩
      · cases h
    · cases h
def RowK (P : Program) (m : Option Ro) (t : TypeId) (p : D × D) (st : St) (k : D → St → Prop) : Prop :=
  ∃ (el : TypeId) (sz bytes : Nat) (g n cap : Nat) (ds zs : List D) (oy : Own) (ys : List (List D)) (s1 : Nat → List D → St), p = (.ar g 0 n cap, .sl oy ys) ∧ rowT P t = some (el, sz, bytes) ∧ (∀ g' cs', ResAt (.box g el (ds ++ zs)) (.box g' el cs') st (s1 g' cs')) ∧ ds.length = n * sz ∧ (ds ++ zs).length = cap * sz ∧ (∀ a ∈ ys, a.length = sz) ∧ (n + ys.length) * bytes ≤ 140737488355328 ∧ n + ys.length ≤ 140737488355328 ∧
    ∀ g' cap' zs', n + ys.length ≤ cap' → (ds ++ ys.flatten ++ zs').length = cap' * sz → Keep m (s1 g' (ds ++ ys.flatten ++ zs')) ∧ k (.ar g' 0 (n + ys.length) cap') (s1 g' (ds ++ ys.flatten ++ zs'))
theorem s_appR {t : TypeId} {x y : Operand} (h : Ev (pairX (ev A.e x) (ev A.e y)) fun p => RowK P none t p st k) : S P r none ⟨dst, .call ⟨.builtin .append, #[x, y], #[t, t]⟩, ty, pos, aft, gd⟩ A st k := by
  obtain ⟨p, h1, el, sz, bytes, g, n, cap, ds, zs, oy, ys, s1, rfl, h2, h3, h4, h5, h6, h7, h8, h9⟩ := h
  unfold pairX at h1
  split at h1
  · rename_i d d' hx hy
    cases h1
    refine opC_val (by intro c hc; cases hc) fun ρ w hr hh => .inl ?_
    have v1 := hr _ (by simp [Op.operands, Call.operands]) _ hx
    have v2 := hr _ (by simp [Op.operands, Call.operands]) _ hy
    obtain ⟨q1, i, zv, q2, q3, q4, q5, rfl, rfl, q8⟩ := rowT_spec h2
    obtain ⟨s0, p1, -⟩ := (h3 g (ds ++ zs)).perm
    have hown := OwnS.perm p1
    have hh' := hh.perm p1
    unfold execOp
    simp only [resolve, invoke, builtin, Sem.run_bind, Sem.run_pure, Result.andThen_ok, List.map_toArray, List.map_cons, List.map_nil]
    generalize ρ x = xv at v1
    generalize ρ y = yv at v2
    cases v1 with
    | ar _ _ _ _ c1 c2 =>
    rw [hown] at v2
    obtain ⟨xa, xcap, xus, xsz, rfl, x1, x2, x3, x4, x5, x6, x7, x8, x9, -⟩ := calm_src v2
    by_cases hys : ys = []
    · subst hys
      have := run_append_zero (w := w) t ty el i q1 q2 (some ⟨g, 0, none⟩) n cap c1 xa xcap
      rw [show ([] : List (List D)).length = 0 from rfl]
      rw [this]
      have hk : k (.ar g 0 n cap) (s1 g (ds ++ zs)) := by
        have := (h9 g cap zs (by simpa using c1) (by simpa using h5)).2
        simpa using this
      obtain ⟨s0', p1', p2'⟩ := (h3 g (ds ++ zs)).perm
      refine ⟨_, w, rfl, _, s1 g (ds ++ zs), .ar g 0 n cap c1 c2, hh.perm (p1'.trans p2'.symm), ?_, hk⟩
      rw [OwnS.perm (p1'.trans p2'.symm)]
      exact Ext.refl _ _
    · obtain ⟨xad, rfl⟩ : ∃ ad, xa = some ad := by
        cases xa with
        | none => have := x8 rfl; have : 0 < ys.length := List.length_pos_iff.2 hys; omega
        | some ad => exact ⟨ad, rfl⟩
      obtain ⟨w', g', cap', zs', e1, e2, e3, e4, e5, e6⟩ := run_appendRow t ty el q1 q2 q3 q4 q5 q8 hh' c1 c2 h4 h5 (xcap := xcap) (by rw [x6.1]; exact flat_len h6) (calm_own x9 rfl) x6 x7 h7 h8
      have hk := h9 g' cap' zs' e2 e4
      obtain ⟨s0', p1', p2'⟩ := (h3 g' (ds ++ ys.flatten ++ zs')).perm
      have hs : s0.Perm s0' := (List.perm_cons _).1 (p1.symm.trans p1')
      have p3 : (Res.box g' el (ds ++ ys.flatten ++ zs') :: s0).Perm (s1 g' (ds ++ ys.flatten ++ zs')) := (hs.cons _).trans p2'.symm
      rw [e1]
      refine ⟨_, w', rfl, _, _, .ar g' 0 _ cap' e2 e3, e5.perm p3, ?_, hk.2⟩
      rw [hown, ← OwnS.perm p3]; exact e6
  · cases h1
def Row2 (m : Option Ro) (q : TypeId × Nat × Nat) (p : D × D) (st : St) (k : D → St → Prop) : Prop :=
  ∃ (g n cap : Nat) (ds zs : List D) (oy : Own) (ys : List (List D)) (s1 : Nat → List D → St), p = (.ar g 0 n cap, .sl oy ys) ∧ (∀ g' cs', ResAt (.box g q.1 (ds ++ zs)) (.box g' q.1 cs') st (s1 g' cs')) ∧ ds.length = n * q.2.1 ∧ (ds ++ zs).length = cap * q.2.1 ∧ (∀ a ∈ ys, a.length = q.2.1) ∧ (n + ys.length) * q.2.2 ≤ 140737488355328 ∧ n + ys.length ≤ 140737488355328 ∧
    ∀ g' cap' zs', n + ys.length ≤ cap' → (ds ++ ys.flatten ++ zs').length = cap' * q.2.1 → Keep m (s1 g' (ds ++ ys.flatten ++ zs')) ∧ k (.ar g' 0 (n + ys.length) cap') (s1 g' (ds ++ ys.flatten ++ zs'))
theorem rk_go {t : TypeId} {p : D × D} (h : Ev (rowT P t) fun q => Row2 m q p st k) : RowK P m t p st k := by
  obtain ⟨⟨el, sz, bytes⟩, h1, g, n, cap, ds, zs, oy, ys, s1, h2, h3, h4, h5, h6, h7, h8, h9⟩ := h
  exact ⟨el, sz, bytes, g, n, cap, ds, zs, oy, ys, s1, h2, h1, h3, h4, h5, h6, h7, h8, h9⟩
theorem r2_go {el : TypeId} {sz bytes g n cap : Nat} {ds zs : List D} {oy : Own} {ys : List (List D)} {s1 : Nat → List D → St} (h4 : ds.length = n * sz) (h5 : (ds ++ zs).length = cap * sz) (h3 : ∀ g' cs', ResAt (.box g el (ds ++ zs)) (.box g' el cs') st (s1 g' cs')) (h6 : ∀ a ∈ ys, a.length = sz) (h7 : (n + ys.length) * bytes ≤ 140737488355328) (h8 : n + ys.length ≤ 140737488355328)
    (h9 : ∀ g' cap' zs', n + ys.length ≤ cap' → (ds ++ ys.flatten ++ zs').length = cap' * sz → Keep m (s1 g' (ds ++ ys.flatten ++ zs')) ∧ k (.ar g' 0 (n + ys.length) cap') (s1 g' (ds ++ ys.flatten ++ zs'))) : Row2 m (el, sz, bytes) (.ar g 0 n cap, .sl oy ys) st k := ⟨g, n, cap, ds, zs, oy, ys, s1, rfl, h3, h4, h5, h6, h7, h8, h9⟩
def RowN (P : Program) (m : Option Ro) (t : TypeId) (p : D × D) (st : St) (k : D → St → Prop) : Prop :=
  ∃ (el : TypeId) (sz bytes : Nat) (oy : Own) (ys : List (List D)), p = (.sl .tight [], .sl oy ys) ∧ rowT P t = some (el, sz, bytes) ∧ 0 < ys.length ∧ (∀ a ∈ ys, a.length = sz) ∧ ys.length * bytes ≤ 140737488355328 ∧ ys.length ≤ 140737488355328 ∧
    ∀ g' cap' zs', ys.length ≤ cap' → (ys.flatten ++ zs').length = cap' * sz → Keep m (.box g' el (ys.flatten ++ zs') :: st) ∧ k (.ar g' 0 ys.length cap') (.box g' el (ys.flatten ++ zs') :: st)
theorem s_appN {t : TypeId} {x y : Operand} (h : Ev (pairX (ev A.e x) (ev A.e y)) fun p => RowN P none t p st k) : S P r none ⟨dst, .call ⟨.builtin .append, #[x, y], #[t, t]⟩, ty, pos, aft, gd⟩ A st k := by
  obtain ⟨p, h1, el, sz, bytes, oy, ys, rfl, h2, hpos, h6, h7, h8, h9⟩ := h
  unfold pairX at h1
  split at h1
  · rename_i d d' hx hy
    cases h1
    refine opC_val (by intro c hc; cases hc) fun ρ w hr hh => .inl ?_
    have v1 := hr _ (by simp [Op.operands, Call.operands]) _ hx
    have v2 := hr _ (by simp [Op.operands, Call.operands]) _ hy
    obtain ⟨q1, i, zv, q2, q3, q4, q5, rfl, rfl, q8⟩ := rowT_spec h2
    unfold execOp
    simp only [resolve, invoke, builtin, Sem.run_bind, Sem.run_pure, Result.andThen_ok, List.map_toArray, List.map_cons, List.map_nil]
    generalize ρ x = xv at v1
    generalize ρ y = yv at v2
    obtain ⟨xa, xcap, xus, xsz, rfl, x1, x2, x3, x4, x5, x6, x7, x8, x9, -⟩ := calm_src v2
    obtain ⟨xad, rfl⟩ : ∃ ad, xa = some ad := by
      cases xa with
      | none => have := x8 rfl; omega
      | some ad => exact ⟨ad, rfl⟩
    obtain ⟨w', g', cap', zs', e1, e2, e3, e4, e5, e6⟩ := run_appendFirst t ty el q1 q2 q3 q4 q5 q8 hh v1 (xcap := xcap) (by rw [x6.1]; exact flat_len h6) (calm_own x9 rfl) x6 x7 hpos h7 h8
    have hk := h9 g' cap' zs' e2 e4
    rw [e1]
    exact ⟨_, w', rfl, _, _, .ar g' 0 _ cap' e2 e3, e5, e6, hk.2⟩
  · cases h1
def RowN2 (m : Option Ro) (q : TypeId × Nat × Nat) (p : D × D) (st : St) (k : D → St → Prop) : Prop :=
  ∃ (oy : Own) (ys : List (List D)), p = (.sl .tight [], .sl oy ys) ∧ 0 < ys.length ∧ (∀ a ∈ ys, a.length = q.2.1) ∧ ys.length * q.2.2 ≤ 140737488355328 ∧ ys.length ≤ 140737488355328 ∧
    ∀ g' cap' zs', ys.length ≤ cap' → (ys.flatten ++ zs').length = cap' * q.2.1 → Keep m (.box g' q.1 (ys.flatten ++ zs') :: st) ∧ k (.ar g' 0 ys.length cap') (.box g' q.1 (ys.flatten ++ zs') :: st)
theorem rn_go {t : TypeId} {p : D × D} (h : Ev (rowT P t) fun q => RowN2 m q p st k) : RowN P m t p st k := by
  obtain ⟨⟨el, sz, bytes⟩, h1, oy, ys, h2, h3, h4, h5, h6, h7⟩ := h
  exact ⟨el, sz, bytes, oy, ys, h2, h1, h3, h4, h5, h6, h7⟩
theorem rn2_go {el : TypeId} {sz bytes : Nat} {oy : Own} {ys : List (List D)} (h4 : 0 < ys.length) (h6 : ∀ a ∈ ys, a.length = sz) (h7 : ys.length * bytes ≤ 140737488355328) (h8 : ys.length ≤ 140737488355328)
    (h9 : ∀ g' cap' zs', ys.length ≤ cap' → (ys.flatten ++ zs').length = cap' * sz → Keep m (.box g' el (ys.flatten ++ zs') :: st) ∧ k (.ar g' 0 ys.length cap') (.box g' el (ys.flatten ++ zs') :: st)) : RowN2 m (el, sz, bytes) (.sl .tight [], .sl oy ys) st k := ⟨oy, ys, rfl, h4, h6, h7, h8, h9⟩
end
def Lend (st : St) (d d' : D) : Prop := ∀ w v, Holds st w → Rep (OwnS st) w v d → Rep (OwnS []) w v d'
def LendL (st : St) : List D → List D → Prop
  | [], [] => True
  | d :: l, d' :: l' => Lend st d d' ∧ LendL st l l'
  | _, _ => False
section
variable {st : St} {w : World}
theorem ext_nil (O : Nat → Nat → Prop) (w : World) : Ext O w (OwnS []) w := (Ext.refl O w).less fun b off h => absurd h (OwnS.nil b off)
theorem Lend.refl (d : D) : Lend st d d := fun w _ _ h => h.ext (ext_nil _ w)
theorem Lend.sl (o : Own) (es : List (List D)) : Lend st (.sl o es) (.sl .shared es) := fun w _ _ h => (h.ext (ext_nil _ w)).share
theorem LendL.nil : LendL st [] [] := trivial
theorem LendL.cons {d d' : D} {l l' : List D} (h : Lend st d d') (k : LendL st l l') : LendL st (d :: l) (d' :: l') := ⟨h, k⟩
theorem LendL.repL : ∀ {l l' : List D}, LendL st l l' → Holds st w → ∀ {us : List Value}, RepL (OwnS st) w us l → RepL (OwnS []) w us l'
  | [], [], _, _, us, h => by obtain rfl := h.inv_nil; exact .nil
  | d :: l, d' :: l', ⟨h1, h2⟩, hh, us, h => by
    obtain ⟨u, t, rfl, k1, k2⟩ := h.inv_cons
    exact .cons (h1 w u hh k1) (h2.repL hh k2)
  | [], _ :: _, h, _, _, _ => h.elim
  | _ :: _, [], h, _, _, _ => h.elim
theorem Lend.agg {l l' : List D} (h : LendL st l l') : Lend st (.agg l) (.agg l') := fun w v hh x => by
  cases x with
  | agg us cs h1 h2 => obtain ⟨k1, k2⟩ := h.repL (us := us) hh ⟨h1, h2⟩; exact .agg us l' k1 k2
theorem Lend.row {g : Nat} {el : TypeId} {es : List (List D)} {zs : List D} {sz n cap : Nat} (hm : Res.box g el (es.flatten ++ zs) ∈ st) (hsz : 0 < sz) (hes : ∀ e ∈ es, e.length = sz) (hn : es.length = n) : Lend st (.ar g 0 n cap) (.sl .shared es) := by
  intro w v hh hv
  obtain ⟨⟨us, hb, hr⟩, hlc⟩ := hh.2 _ hm
  cases hv with
  | ar _ _ _ _ h1 h2 =>
  subst hn
  have hfl := flat_len hes
  have hrl : RepL (OwnS st) w (us.toList.take (es.length * sz)) es.flatten := by
    have := hr.take (es.length * sz)
    rwa [List.take_append_of_le_length (by omega), List.take_of_length_le (l := es.flatten) (by omega)] at this
  have hrl := hrl.ext (ext_nil _ w)
  refine .sl .shared es (some ⟨g, 0, none⟩) cap (us.toList.take (es.length * sz)) sz h1 h2 (fun e => by cases e) hsz hes hrl.1 (fun d hd => hlc d (List.mem_append_left _ hd)) (fun i hi => ⟨g, 0, rfl, (Array.getElem?_eq_some_iff.1 hb).1, OwnS.nil _ _, ?_⟩) hrl.2 trivial
  rw [Nat.zero_add, cell_of_row w g i us el (0, 0) hb]
  rw [List.getElem_take]
  simp at hi
  rw [Array.getElem?_eq_getElem (by omega)]
  simp
theorem Lend.ptr {b : Nat} {ty : TypeId} {cs cs' : List D} (hm : Res.box b ty cs ∈ st) (hl : LendL st cs cs') (hleaf : ∀ d ∈ cs', d.leaf = true) : Lend st (.ptr b 0) (.ip cs') := by
  intro w v hh hv
  obtain ⟨⟨us, hb, hr⟩, hlc⟩ := hh.2 _ hm
  have hrl := hl.repL hh hr
  generalize hz : (0 : Nat) = z at hv
  cases hv with
  | ptr _ _ =>
  subst hz
  refine .ip b 0 us.toList cs' hrl.1 hleaf (fun i hi => ⟨(Array.getElem?_eq_some_iff.1 hb).1, OwnS.nil _ _, ?_⟩) hrl.2
  rw [Nat.zero_add, cell_of_row w b i us ty (0, 0) hb]
  rw [Array.getElem?_eq_getElem (by simpa using hi)]
  simp
end
section
variable {P : Program} {f : FuncId} {args args' : List D} {st : St} {m : Option Ro} {k : D → St → Prop}
theorem TrF.lend {x : Value} (h : TrF P f args' [] fun d st' => d = .s x ∧ st' = []) (hl : LendL st args args') : TrF P f args st fun d st' => d = .s x ∧ st' = st := by
  intro vs w h1 h2
  have h3 := hl.repL h2 h1
  have h0 : Holds [] w := h2.sub (List.nil_sublist _)
  refine (h vs w h3 h0).mono fun _ w' ⟨v, e, d, s, k1, k2, k3, e1, e2⟩ => ?_
  subst e1 e2
  have he : Ext (OwnS st) w (OwnS st) w' := by
    refine ⟨k3.os, k3.tape, k3.output, k3.size, fun _ _ _ h => h, fun b hb _ => k3.block b hb fun off => OwnS.nil b off, fun b c E fr hc => ?_⟩
    exact ⟨c, fr, (k3.block b (Array.getElem?_eq_some_iff.1 hc).1 fun off => OwnS.nil b off).trans hc, rfl, fun _ _ => rfl⟩
  refine ⟨v, e, .s x, st, ?_, ?_, he, rfl, rfl⟩
  · have := rep_s k1
    subst this
    cases k1 with
    | s _ hx => exact .s _ hx
  · exact ⟨h2.1, fun r hr => (h2.2 r hr).ext he fun b hb => k3.block b ((h2.2 r hr).lt hb) fun off => OwnS.nil b off⟩
theorem ck_lend {ds ds' : List D} {x : Value} (henter : ∀ args w, (callFunc f args).run P w = .ok (.enter f args) w) (h : TrF P f ds' [] fun d st' => d = .s x ∧ st' = []) (hl : LendL st ds ds') (hk : Keep m st ∧ k (.s x) st) : CallK P m (f, ds) st k :=
  ck_eq henter (h.lend hl) hk
end
section
variable {P : Program} {f : FuncId} {ds ds' : List D} {st : St} {m : Option Ro} {k : D → St → Prop}
theorem ck_row {p : Nat → Nat → List D → Prop} {F : Nat → Nat → List D → D} {Sx : Nat → Nat → List D → St} (henter : ∀ args w, (callFunc f args).run P w = .ok (.enter f args) w) (h : TrF P f ds' st fun d st' => ∃ g cap zs, p g cap zs ∧ d = F g cap zs ∧ st' = Sx g cap zs) (hle : LEL ds ds') (hex : ∃ g cap zs, p g cap zs) (hk : ∀ g cap zs, p g cap zs → Keep m (Sx g cap zs) ∧ k (F g cap zs) (Sx g cap zs)) : CallK P m (f, ds) st k := by
  obtain ⟨g0, c0, z0, h0⟩ := hex
  exact ⟨_, henter, h.le hle, ⟨_, _, g0, c0, z0, h0, rfl, rfl⟩, fun d st' ⟨g, c, z, hi, e1, e2⟩ => by subst e1 e2; exact hk g c z hi⟩
end
attribute [push_cast] rowT zOk
end Go.Proofs.Ytgofckmlgkniaaa
end

section
namespace Go.Proofs.Ytgofckmlgkniaaa
set_option linter.unusedSimpArgs false
open Go.RowKit
set_option maxRecDepth 10000
set_option maxHeartbeats 4000000
def rowC (l : List V) : List D := (l.map V.cells).flatten
theorem rowC_len (l : List V) : (rowC l).length = l.length * 4 := by
  unfold rowC
  rw [flat_len (sz := 4) fun e he => by
    obtain ⟨x, -, rfl⟩ := List.mem_map.1 he
    exact V.cells_len x, List.length_map]
theorem rowC_succ {l : List V} {i : Nat} {x : V} (h : l[i]? = some x) : rowC (l.take (i + 1)) = rowC (l.take i) ++ [x.cells].flatten := by
  unfold rowC
  rw [List.take_succ, h]
  simp
theorem valCopyRowF (k n : Int) (s : ByteArray) (l : List V) (hl : l ≠ []) (hB : (V.mk k n s l).nodes ≤ 1000000000) (st : St) : TrF Try.prog 45 [.agg (V.mk k n s l).cells] st fun x st' => ∃ g cap zs, (rowC l ++ zs).length = cap * 4 ∧ x = .agg [.i k, .i n, .str s, .ar g 0 l.length cap] ∧ st' = .box g 24 (rowC l ++ zs) :: st := by
  have hll := V.nodesL_len l
  rw [V.nodes] at hB
  have IH := Lib.hid fun x (hx : x ∈ l) => valCopyF x.nodes x (Nat.le_refl _) (by have := V.nodesL_mem hx; omega)
  have hpos : 0 < l.length := List.length_pos_iff.2 hl
  rw [V.cells_mk]
  refine trF_enterC (G := cellA 2 24 Try.prog) Try.func45 rfl (by rw [Try.ntmps45]; exact Nat.le_of_ble_eq_true rfl) (fun h1 h2 h3 => res_cell rfl h1 h2 h3) ?_
  simp only [Try.ntmps45]
  repeat' (first | with_reducible refine s_boxP ?_ | ((with_reducible apply ev_go); (focus (try simp (disch := omega) only [push_cast, Nat.reduceEqDiff, reduceCtorEq, ↓reduceIte, Nat.reduceAdd, Nat.reduceMul, Nat.reduceSub, Nat.reduceLT, Nat.reduceLeDiff, Int.reduceToNat, Int.reduceLT, Int.reduceLE, Int.reduceAdd, Int.reduceSub, Int.reduceMul, Int.reduceBEq, Int.reduceBNe, encB, encI, V.cells_mk, V.cells_take, V.cells_len, Nat.mul_one, Int.sub_zero, *]); (try exact rfl); done)) | ((with_reducible refine w_last ?_ ?_ ?_); (focus kernel_rfl); (focus rfl)) | ((with_reducible apply w_stepG); (focus rfl)) | ((with_reducible apply lk_mem); (focus ((repeat (first | exact mm_h | apply mm_t)); done))) | with_reducible (first | refine w_step0 ?_ | refine w_nil ?_ | refine gd_tt ?_ | refine gd_ff ?_ | refine gd_tf ?_ | refine gd_ft ?_ | refine gd_un ?_ | refine s_move ?_ | refine s_assign ?_ | refine s_bin ?_ | refine s_un ?_ | refine s_conv ?_ | refine s_field ?_ | refine s_fieldAddr ?_ | refine s_ext ?_ | refine s_pick ?_ | refine s_nil ?_ | refine s_load ?_ | refine lk_ip ?_ | refine lk_ptr ?_ | refine s_index ?_ | refine s_indexAddr ?_ | refine s_slice ?_ | refine s_build ?_ | refine s_buildSlice ?_ | refine s_mk ?_ | refine s_store ?_ | refine s_alloc ?_ | refine s_call ?_ | refine s_ip ?_ | refine tr_seq ?_ | refine tr_block ?_ | refine tr_skip ?_ | refine tr_ret ?_ | refine tr_exit ?_ | refine tr_label ?_ | refine strip_norm ?_ | refine strip_ret ?_ | refine strip_exit ?_ | refine blk_norm ?_ | refine blk_ret ?_ | refine blk_same ?_ | refine tr_condT ?_ | refine tr_condCt ?_ | refine tr_condCf ?_) | ((with_reducible apply sto_go); (focus (intro cs'; repeat (first | exact ra_h | apply ra_t)))) | ((with_reducible refine al_go ?_); intro b) | ((with_reducible refine And.intro ?_ ?_); (focus ((repeat (first | exact keep_none | exact keep_nil | exact keep_ro | refine keep_cons ?_)); done))) | ((with_reducible refine s_bi ?_ ?_); (focus rfl)) | with_reducible refine blk_ne rfl ?_ | ((with_reducible refine w_region ?_ ?_); (focus kernel_rfl)) | ((with_reducible refine w_draw [] ?_ ?_ ?_ ?_ ?_); (iterate 3 (focus kernel_rfl)); (focus exact keeps_nil)) | ((with_reducible first | refine gd_d1 ?_ ?_ | refine gd_d0 ?_ ?_); all_goals (intro hb; (first | with_reducible replace hb := nt_t hb | with_reducible replace hb := nt_f hb | skip); (first | replace hb := dc_t hb | replace hb := dc_f hb | have hb1 := eq_b hb | have hb1 := ne_b hb | have hb1 := bne_t hb | have hb1 := bne_f hb | skip); (try (exfalso; first | contradiction | omega)))))
  rename_i b1
  revert b
  intro b2
  refine tr_loopd (ι := Nat) (fun i A st' => i ≤ l.length ∧ A.df = [] ∧ A.e 1 = .ptr b1 0 ∧ A.e 2 = .ptr b2 0 ∧ A.e 7 = .sl .shared (l.map V.cells) ∧ A.e 8 = .i l.length ∧ A.e 9 = .i i ∧ ∃ zb, zb.length = 4 ∧ ((i = 0 ∧ A.e 3 = .sl .tight [] ∧ st' = .box b2 24 zb :: .box b1 24 [.i k, .i n, .str s, .sl .shared (l.map V.cells)] :: st) ∨
    (0 < i ∧ ∃ g cap zs, A.e 3 = .ar g 0 i cap ∧ (rowC (l.take i) ++ zs).length = cap * 4 ∧ st' = .box g 24 (rowC (l.take i) ++ zs) :: .box b2 24 zb :: .box b1 24 [.i k, .i n, .str s, .sl .shared (l.map V.cells)] :: st))) (fun i => l.length - i) 0 ⟨Nat.zero_le _, by (first | rfl | assumption | omega | (simp (disch := omega) only [push_cast, Nat.reduceEqDiff, reduceCtorEq, ↓reduceIte, Nat.reduceAdd, Nat.reduceMul, Nat.reduceSub, Nat.reduceLT, Nat.reduceLeDiff, Int.reduceToNat, Int.reduceLT, Int.reduceLE, Int.reduceAdd, Int.reduceSub, Int.reduceMul, Int.reduceBEq, Int.reduceBNe, encB, encI, V.cells_mk, V.cells_take, V.cells_len, Nat.mul_one, Int.sub_zero, *]; try omega; done)), by (first | rfl | assumption | omega | (simp (disch := omega) only [push_cast, Nat.reduceEqDiff, reduceCtorEq, ↓reduceIte, Nat.reduceAdd, Nat.reduceMul, Nat.reduceSub, Nat.reduceLT, Nat.reduceLeDiff, Int.reduceToNat, Int.reduceLT, Int.reduceLE, Int.reduceAdd, Int.reduceSub, Int.reduceMul, Int.reduceBEq, Int.reduceBNe, encB, encI, V.cells_mk, V.cells_take, V.cells_len, Nat.mul_one, Int.sub_zero, *]; try omega; done)), by (first | rfl | assumption | omega | (simp (disch := omega) only [push_cast, Nat.reduceEqDiff, reduceCtorEq, ↓reduceIte, Nat.reduceAdd, Nat.reduceMul, Nat.reduceSub, Nat.reduceLT, Nat.reduceLeDiff, Int.reduceToNat, Int.reduceLT, Int.reduceLE, Int.reduceAdd, Int.reduceSub, Int.reduceMul, Int.reduceBEq, Int.reduceBNe, encB, encI, V.cells_mk, V.cells_take, V.cells_len, Nat.mul_one, Int.sub_zero, *]; try omega; done)), by (first | rfl | assumption | omega | (simp (disch := omega) only [push_cast, Nat.reduceEqDiff, reduceCtorEq, ↓reduceIte, Nat.reduceAdd, Nat.reduceMul, Nat.reduceSub, Nat.reduceLT, Nat.reduceLeDiff, Int.reduceToNat, Int.reduceLT, Int.reduceLE, Int.reduceAdd, Int.reduceSub, Int.reduceMul, Int.reduceBEq, Int.reduceBNe, encB, encI, V.cells_mk, V.cells_take, V.cells_len, Nat.mul_one, Int.sub_zero, *]; try omega; done)), by (first | rfl | assumption | omega | (simp (disch := omega) only [push_cast, Nat.reduceEqDiff, reduceCtorEq, ↓reduceIte, Nat.reduceAdd, Nat.reduceMul, Nat.reduceSub, Nat.reduceLT, Nat.reduceLeDiff, Int.reduceToNat, Int.reduceLT, Int.reduceLE, Int.reduceAdd, Int.reduceSub, Int.reduceMul, Int.reduceBEq, Int.reduceBNe, encB, encI, V.cells_mk, V.cells_take, V.cells_len, Nat.mul_one, Int.sub_zero, *]; try omega; done)), by (first | rfl | assumption | omega | (simp (disch := omega) only [push_cast, Nat.reduceEqDiff, reduceCtorEq, ↓reduceIte, Nat.reduceAdd, Nat.reduceMul, Nat.reduceSub, Nat.reduceLT, Nat.reduceLeDiff, Int.reduceToNat, Int.reduceLT, Int.reduceLE, Int.reduceAdd, Int.reduceSub, Int.reduceMul, Int.reduceBEq, Int.reduceBNe, encB, encI, V.cells_mk, V.cells_take, V.cells_len, Nat.mul_one, Int.sub_zero, *]; try omega; done)), _, by rfl, .inl ⟨rfl, by (first | rfl | assumption | omega | (simp (disch := omega) only [push_cast, Nat.reduceEqDiff, reduceCtorEq, ↓reduceIte, Nat.reduceAdd, Nat.reduceMul, Nat.reduceSub, Nat.reduceLT, Nat.reduceLeDiff, Int.reduceToNat, Int.reduceLT, Int.reduceLE, Int.reduceAdd, Int.reduceSub, Int.reduceMul, Int.reduceBEq, Int.reduceBNe, encB, encI, V.cells_mk, V.cells_take, V.cells_len, Nat.mul_one, Int.sub_zero, *]; try omega; done)), rfl⟩⟩ ?_
  rintro i A st' ⟨hi, hdf, e1, e2, e7, e8, e9, zb, hzb, ⟨rfl, e3, rfl⟩ | ⟨hi0, g, cap, zs, e3, hlen, rfl⟩⟩
  · obtain ⟨x, hx⟩ : ∃ x, l[0]? = some x := ⟨_, List.getElem?_eq_getElem hpos⟩
    have ih := IH.out x (V.mem_of hx)
    have htk := Lib.hid (rowC_succ hx)
    clear IH
    cases x with
    | mk k1 n1 s1 l1 =>
      rw [V.cells_mk] at ih
      replace ih := Lib.hid ih
      repeat' (first | with_reducible refine s_appN ?_ | with_reducible refine rn_go ?_ | ((with_reducible apply rn2_go); (focus (simp only [List.length_cons, List.length_nil]; omega)); (focus exact len_one rfl); (focus (simp only [List.length_cons, List.length_nil]; omega)); (focus (simp only [List.length_cons, List.length_nil]; omega)); intro g' cap' zs' hc hl') | ((with_reducible apply ev_go); (focus (try simp (disch := omega) only [push_cast, Nat.reduceEqDiff, reduceCtorEq, ↓reduceIte, Nat.reduceAdd, Nat.reduceMul, Nat.reduceSub, Nat.reduceLT, Nat.reduceLeDiff, Int.reduceToNat, Int.reduceLT, Int.reduceLE, Int.reduceAdd, Int.reduceSub, Int.reduceMul, Int.reduceBEq, Int.reduceBNe, encB, encI, V.cells_mk, V.cells_take, V.cells_len, Nat.mul_one, Int.sub_zero, *]); (try exact rfl); done)) | ((with_reducible refine w_last ?_ ?_ ?_); (focus kernel_rfl); (focus rfl)) | ((with_reducible apply w_stepG); (focus rfl)) | ((with_reducible apply lk_mem); (focus ((repeat (first | exact mm_h | apply mm_t)); done))) | with_reducible (first | refine w_step0 ?_ | refine w_nil ?_ | refine gd_tt ?_ | refine gd_ff ?_ | refine gd_tf ?_ | refine gd_ft ?_ | refine gd_un ?_ | refine s_move ?_ | refine s_assign ?_ | refine s_bin ?_ | refine s_un ?_ | refine s_conv ?_ | refine s_field ?_ | refine s_fieldAddr ?_ | refine s_ext ?_ | refine s_pick ?_ | refine s_nil ?_ | refine s_load ?_ | refine lk_ip ?_ | refine lk_ptr ?_ | refine s_index ?_ | refine s_indexAddr ?_ | refine s_slice ?_ | refine s_build ?_ | refine s_buildSlice ?_ | refine s_mk ?_ | refine s_store ?_ | refine s_alloc ?_ | refine s_call ?_ | refine s_ip ?_ | refine tr_seq ?_ | refine tr_block ?_ | refine tr_skip ?_ | refine tr_ret ?_ | refine tr_exit ?_ | refine tr_label ?_ | refine strip_norm ?_ | refine strip_ret ?_ | refine strip_exit ?_ | refine blk_norm ?_ | refine blk_ret ?_ | refine blk_same ?_ | refine tr_condT ?_ | refine tr_condCt ?_ | refine tr_condCf ?_) | ((with_reducible apply sto_go); (focus (intro cs'; repeat (first | exact ra_h | apply ra_t)))) | ((with_reducible refine al_go ?_); intro b) | ((with_reducible refine And.intro ?_ ?_); (focus ((repeat (first | exact keep_none | exact keep_nil | exact keep_ro | refine keep_cons ?_)); done))) | ((with_reducible apply (ck_le Try.call45)); (focus exact LEL.refl _); (focus exact ih.out _)) | ((with_reducible refine s_bi ?_ ?_); (focus rfl)) | with_reducible refine blk_ne rfl ?_ | ((with_reducible refine w_region ?_ ?_); (focus kernel_rfl)) | ((with_reducible refine w_draw [] ?_ ?_ ?_ ?_ ?_); (iterate 3 (focus kernel_rfl)); (focus exact keeps_nil)) | ((with_reducible first | refine gd_d1 ?_ ?_ | refine gd_d0 ?_ ?_); all_goals (intro hb; (first | with_reducible replace hb := nt_t hb | with_reducible replace hb := nt_f hb | skip); (first | replace hb := dc_t hb | replace hb := dc_f hb | have hb1 := eq_b hb | have hb1 := ne_b hb | have hb1 := bne_t hb | have hb1 := bne_f hb | skip); (try (exfalso; first | contradiction | omega)))))
      refine ⟨1, .box g' 24 ([[.i k1, .i n1, .str s1, .sl .shared (l1.map V.cells)]].flatten ++ zs') :: .box b2 24 zb :: .box b1 24 [.i k, .i n, .str s, .sl .shared (l.map V.cells)] :: st, (List.sublist_cons_self _ _).cons₂ _, ⟨hpos, ?_, ?_, ?_, ?_, ?_, ?_, zb, hzb, .inr ⟨Nat.zero_lt_one, g', cap', zs', ?_, ?_, ?_⟩⟩, ?_⟩
      · (first | rfl | assumption | omega | (simp (disch := omega) only [push_cast, Nat.reduceEqDiff, reduceCtorEq, ↓reduceIte, Nat.reduceAdd, Nat.reduceMul, Nat.reduceSub, Nat.reduceLT, Nat.reduceLeDiff, Int.reduceToNat, Int.reduceLT, Int.reduceLE, Int.reduceAdd, Int.reduceSub, Int.reduceMul, Int.reduceBEq, Int.reduceBNe, encB, encI, V.cells_mk, V.cells_take, V.cells_len, Nat.mul_one, Int.sub_zero, *]; try omega; done))
      · (first | rfl | assumption | omega | (simp (disch := omega) only [push_cast, Nat.reduceEqDiff, reduceCtorEq, ↓reduceIte, Nat.reduceAdd, Nat.reduceMul, Nat.reduceSub, Nat.reduceLT, Nat.reduceLeDiff, Int.reduceToNat, Int.reduceLT, Int.reduceLE, Int.reduceAdd, Int.reduceSub, Int.reduceMul, Int.reduceBEq, Int.reduceBNe, encB, encI, V.cells_mk, V.cells_take, V.cells_len, Nat.mul_one, Int.sub_zero, *]; try omega; done))
      · (first | rfl | assumption | omega | (simp (disch := omega) only [push_cast, Nat.reduceEqDiff, reduceCtorEq, ↓reduceIte, Nat.reduceAdd, Nat.reduceMul, Nat.reduceSub, Nat.reduceLT, Nat.reduceLeDiff, Int.reduceToNat, Int.reduceLT, Int.reduceLE, Int.reduceAdd, Int.reduceSub, Int.reduceMul, Int.reduceBEq, Int.reduceBNe, encB, encI, V.cells_mk, V.cells_take, V.cells_len, Nat.mul_one, Int.sub_zero, *]; try omega; done))
      · (first | rfl | assumption | omega | (simp (disch := omega) only [push_cast, Nat.reduceEqDiff, reduceCtorEq, ↓reduceIte, Nat.reduceAdd, Nat.reduceMul, Nat.reduceSub, Nat.reduceLT, Nat.reduceLeDiff, Int.reduceToNat, Int.reduceLT, Int.reduceLE, Int.reduceAdd, Int.reduceSub, Int.reduceMul, Int.reduceBEq, Int.reduceBNe, encB, encI, V.cells_mk, V.cells_take, V.cells_len, Nat.mul_one, Int.sub_zero, *]; try omega; done))
      · (first | rfl | assumption | omega | (simp (disch := omega) only [push_cast, Nat.reduceEqDiff, reduceCtorEq, ↓reduceIte, Nat.reduceAdd, Nat.reduceMul, Nat.reduceSub, Nat.reduceLT, Nat.reduceLeDiff, Int.reduceToNat, Int.reduceLT, Int.reduceLE, Int.reduceAdd, Int.reduceSub, Int.reduceMul, Int.reduceBEq, Int.reduceBNe, encB, encI, V.cells_mk, V.cells_take, V.cells_len, Nat.mul_one, Int.sub_zero, *]; try omega; done))
      · (first | rfl | assumption | omega | (simp (disch := omega) only [push_cast, Nat.reduceEqDiff, reduceCtorEq, ↓reduceIte, Nat.reduceAdd, Nat.reduceMul, Nat.reduceSub, Nat.reduceLT, Nat.reduceLeDiff, Int.reduceToNat, Int.reduceLT, Int.reduceLE, Int.reduceAdd, Int.reduceSub, Int.reduceMul, Int.reduceBEq, Int.reduceBNe, encB, encI, V.cells_mk, V.cells_take, V.cells_len, Nat.mul_one, Int.sub_zero, *]; try omega; done))
      · (first | rfl | assumption | omega | (simp (disch := omega) only [push_cast, Nat.reduceEqDiff, reduceCtorEq, ↓reduceIte, Nat.reduceAdd, Nat.reduceMul, Nat.reduceSub, Nat.reduceLT, Nat.reduceLeDiff, Int.reduceToNat, Int.reduceLT, Int.reduceLE, Int.reduceAdd, Int.reduceSub, Int.reduceMul, Int.reduceBEq, Int.reduceBNe, encB, encI, V.cells_mk, V.cells_take, V.cells_len, Nat.mul_one, Int.sub_zero, *]; try omega; done))
      · rw [htk.out, V.cells_mk]; simpa [rowC] using hl'
      · rw [htk.out, V.cells_mk]; simp [rowC]
      · omega
  by_cases hlt : i < l.length
  · obtain ⟨x, hx⟩ : ∃ x, l[i]? = some x := ⟨_, List.getElem?_eq_getElem hlt⟩
    have ih := IH.out x (V.mem_of hx)
    have htk := Lib.hid (rowC_succ hx)
    have hrl : (rowC (l.take i)).length = i * 4 := by rw [rowC_len, List.length_take, Nat.min_eq_left hi]
    generalize rowC (l.take i) = R at *
    clear IH
    cases x with
    | mk k1 n1 s1 l1 =>
      rw [V.cells_mk] at ih
      replace ih := Lib.hid ih
      repeat' (first | with_reducible refine s_appR ?_ | with_reducible refine rk_go ?_ | ((with_reducible apply (r2_go hrl hlen)); (focus (intro g' cs'; repeat (first | exact ra_h | apply ra_t))); (focus exact len_one rfl); (focus (simp only [List.length_cons, List.length_nil]; omega)); (focus (simp only [List.length_cons, List.length_nil]; omega)); intro g' cap' zs' hc hl') | ((with_reducible apply ev_go); (focus (try simp (disch := omega) only [push_cast, Nat.reduceEqDiff, reduceCtorEq, ↓reduceIte, Nat.reduceAdd, Nat.reduceMul, Nat.reduceSub, Nat.reduceLT, Nat.reduceLeDiff, Int.reduceToNat, Int.reduceLT, Int.reduceLE, Int.reduceAdd, Int.reduceSub, Int.reduceMul, Int.reduceBEq, Int.reduceBNe, encB, encI, V.cells_mk, V.cells_take, V.cells_len, Nat.mul_one, Int.sub_zero, *]); (try exact rfl); done)) | ((with_reducible refine w_last ?_ ?_ ?_); (focus kernel_rfl); (focus rfl)) | ((with_reducible apply w_stepG); (focus rfl)) | ((with_reducible apply lk_mem); (focus ((repeat (first | exact mm_h | apply mm_t)); done))) | with_reducible (first | refine w_step0 ?_ | refine w_nil ?_ | refine gd_tt ?_ | refine gd_ff ?_ | refine gd_tf ?_ | refine gd_ft ?_ | refine gd_un ?_ | refine s_move ?_ | refine s_assign ?_ | refine s_bin ?_ | refine s_un ?_ | refine s_conv ?_ | refine s_field ?_ | refine s_fieldAddr ?_ | refine s_ext ?_ | refine s_pick ?_ | refine s_nil ?_ | refine s_load ?_ | refine lk_ip ?_ | refine lk_ptr ?_ | refine s_index ?_ | refine s_indexAddr ?_ | refine s_slice ?_ | refine s_build ?_ | refine s_buildSlice ?_ | refine s_mk ?_ | refine s_store ?_ | refine s_alloc ?_ | refine s_call ?_ | refine s_ip ?_ | refine tr_seq ?_ | refine tr_block ?_ | refine tr_skip ?_ | refine tr_ret ?_ | refine tr_exit ?_ | refine tr_label ?_ | refine strip_norm ?_ | refine strip_ret ?_ | refine strip_exit ?_ | refine blk_norm ?_ | refine blk_ret ?_ | refine blk_same ?_ | refine tr_condT ?_ | refine tr_condCt ?_ | refine tr_condCf ?_) | ((with_reducible apply sto_go); (focus (intro cs'; repeat (first | exact ra_h | apply ra_t)))) | ((with_reducible refine al_go ?_); intro b) | ((with_reducible refine And.intro ?_ ?_); (focus ((repeat (first | exact keep_none | exact keep_nil | exact keep_ro | refine keep_cons ?_)); done))) | ((with_reducible apply (ck_le Try.call45)); (focus exact LEL.refl _); (focus exact ih.out _)) | ((with_reducible refine s_bi ?_ ?_); (focus rfl)) | with_reducible refine blk_ne rfl ?_ | ((with_reducible refine w_region ?_ ?_); (focus kernel_rfl)) | ((with_reducible refine w_draw [] ?_ ?_ ?_ ?_ ?_); (iterate 3 (focus kernel_rfl)); (focus exact keeps_nil)) | ((with_reducible first | refine gd_d1 ?_ ?_ | refine gd_d0 ?_ ?_); all_goals (intro hb; (first | with_reducible replace hb := nt_t hb | with_reducible replace hb := nt_f hb | skip); (first | replace hb := dc_t hb | replace hb := dc_f hb | have hb1 := eq_b hb | have hb1 := ne_b hb | have hb1 := bne_t hb | have hb1 := bne_f hb | skip); (try (exfalso; first | contradiction | omega)))))
      refine ⟨i + 1, .box g' 24 (R ++ [[.i k1, .i n1, .str s1, .sl .shared (l1.map V.cells)]].flatten ++ zs') :: .box b2 24 zb :: .box b1 24 [.i k, .i n, .str s, .sl .shared (l.map V.cells)] :: st, (by (repeat (first | exact List.Sublist.refl _ | apply List.Sublist.cons))), ⟨hlt, ?_, ?_, ?_, ?_, ?_, ?_, zb, hzb, .inr ⟨Nat.succ_pos _, g', cap', zs', ?_, ?_, ?_⟩⟩, ?_⟩
      · (first | rfl | assumption | omega | (simp (disch := omega) only [push_cast, Nat.reduceEqDiff, reduceCtorEq, ↓reduceIte, Nat.reduceAdd, Nat.reduceMul, Nat.reduceSub, Nat.reduceLT, Nat.reduceLeDiff, Int.reduceToNat, Int.reduceLT, Int.reduceLE, Int.reduceAdd, Int.reduceSub, Int.reduceMul, Int.reduceBEq, Int.reduceBNe, encB, encI, V.cells_mk, V.cells_take, V.cells_len, Nat.mul_one, Int.sub_zero, *]; try omega; done))
      · (first | rfl | assumption | omega | (simp (disch := omega) only [push_cast, Nat.reduceEqDiff, reduceCtorEq, ↓reduceIte, Nat.reduceAdd, Nat.reduceMul, Nat.reduceSub, Nat.reduceLT, Nat.reduceLeDiff, Int.reduceToNat, Int.reduceLT, Int.reduceLE, Int.reduceAdd, Int.reduceSub, Int.reduceMul, Int.reduceBEq, Int.reduceBNe, encB, encI, V.cells_mk, V.cells_take, V.cells_len, Nat.mul_one, Int.sub_zero, *]; try omega; done))
      · (first | rfl | assumption | omega | (simp (disch := omega) only [push_cast, Nat.reduceEqDiff, reduceCtorEq, ↓reduceIte, Nat.reduceAdd, Nat.reduceMul, Nat.reduceSub, Nat.reduceLT, Nat.reduceLeDiff, Int.reduceToNat, Int.reduceLT, Int.reduceLE, Int.reduceAdd, Int.reduceSub, Int.reduceMul, Int.reduceBEq, Int.reduceBNe, encB, encI, V.cells_mk, V.cells_take, V.cells_len, Nat.mul_one, Int.sub_zero, *]; try omega; done))
      · (first | rfl | assumption | omega | (simp (disch := omega) only [push_cast, Nat.reduceEqDiff, reduceCtorEq, ↓reduceIte, Nat.reduceAdd, Nat.reduceMul, Nat.reduceSub, Nat.reduceLT, Nat.reduceLeDiff, Int.reduceToNat, Int.reduceLT, Int.reduceLE, Int.reduceAdd, Int.reduceSub, Int.reduceMul, Int.reduceBEq, Int.reduceBNe, encB, encI, V.cells_mk, V.cells_take, V.cells_len, Nat.mul_one, Int.sub_zero, *]; try omega; done))
      · (first | rfl | assumption | omega | (simp (disch := omega) only [push_cast, Nat.reduceEqDiff, reduceCtorEq, ↓reduceIte, Nat.reduceAdd, Nat.reduceMul, Nat.reduceSub, Nat.reduceLT, Nat.reduceLeDiff, Int.reduceToNat, Int.reduceLT, Int.reduceLE, Int.reduceAdd, Int.reduceSub, Int.reduceMul, Int.reduceBEq, Int.reduceBNe, encB, encI, V.cells_mk, V.cells_take, V.cells_len, Nat.mul_one, Int.sub_zero, *]; try omega; done))
      · (first | rfl | assumption | omega | (simp (disch := omega) only [push_cast, Nat.reduceEqDiff, reduceCtorEq, ↓reduceIte, Nat.reduceAdd, Nat.reduceMul, Nat.reduceSub, Nat.reduceLT, Nat.reduceLeDiff, Int.reduceToNat, Int.reduceLT, Int.reduceLE, Int.reduceAdd, Int.reduceSub, Int.reduceMul, Int.reduceBEq, Int.reduceBNe, encB, encI, V.cells_mk, V.cells_take, V.cells_len, Nat.mul_one, Int.sub_zero, *]; try omega; done))
      · (first | rfl | assumption | omega | (simp (disch := omega) only [push_cast, Nat.reduceEqDiff, reduceCtorEq, ↓reduceIte, Nat.reduceAdd, Nat.reduceMul, Nat.reduceSub, Nat.reduceLT, Nat.reduceLeDiff, Int.reduceToNat, Int.reduceLT, Int.reduceLE, Int.reduceAdd, Int.reduceSub, Int.reduceMul, Int.reduceBEq, Int.reduceBNe, encB, encI, V.cells_mk, V.cells_take, V.cells_len, Nat.mul_one, Int.sub_zero, *]; try omega; done))
      · rw [htk.out, V.cells_mk]; exact hl'
      · rw [htk.out, V.cells_mk]
      · omega
  · have hil : i = l.length := by omega
    subst hil
    rw [List.take_length] at *
    clear IH
    repeat' (first | ((with_reducible apply ev_go); (focus (try simp (disch := omega) only [push_cast, Nat.reduceEqDiff, reduceCtorEq, ↓reduceIte, Nat.reduceAdd, Nat.reduceMul, Nat.reduceSub, Nat.reduceLT, Nat.reduceLeDiff, Int.reduceToNat, Int.reduceLT, Int.reduceLE, Int.reduceAdd, Int.reduceSub, Int.reduceMul, Int.reduceBEq, Int.reduceBNe, encB, encI, V.cells_mk, V.cells_take, V.cells_len, Nat.mul_one, Int.sub_zero, *]); (try exact rfl); done)) | ((with_reducible refine w_last ?_ ?_ ?_); (focus kernel_rfl); (focus rfl)) | ((with_reducible apply w_stepG); (focus rfl)) | ((with_reducible apply lk_mem); (focus ((repeat (first | exact mm_h | apply mm_t)); done))) | with_reducible (first | refine w_step0 ?_ | refine w_nil ?_ | refine gd_tt ?_ | refine gd_ff ?_ | refine gd_tf ?_ | refine gd_ft ?_ | refine gd_un ?_ | refine s_move ?_ | refine s_assign ?_ | refine s_bin ?_ | refine s_un ?_ | refine s_conv ?_ | refine s_field ?_ | refine s_fieldAddr ?_ | refine s_ext ?_ | refine s_pick ?_ | refine s_nil ?_ | refine s_load ?_ | refine lk_ip ?_ | refine lk_ptr ?_ | refine s_index ?_ | refine s_indexAddr ?_ | refine s_slice ?_ | refine s_build ?_ | refine s_buildSlice ?_ | refine s_mk ?_ | refine s_store ?_ | refine s_alloc ?_ | refine s_call ?_ | refine s_ip ?_ | refine tr_seq ?_ | refine tr_block ?_ | refine tr_skip ?_ | refine tr_ret ?_ | refine tr_exit ?_ | refine tr_label ?_ | refine strip_norm ?_ | refine strip_ret ?_ | refine strip_exit ?_ | refine blk_norm ?_ | refine blk_ret ?_ | refine blk_same ?_ | refine tr_condT ?_ | refine tr_condCt ?_ | refine tr_condCf ?_) | ((with_reducible apply sto_go); (focus (intro cs'; repeat (first | exact ra_h | apply ra_t)))) | ((with_reducible refine al_go ?_); intro b) | ((with_reducible refine And.intro ?_ ?_); (focus ((repeat (first | exact keep_none | exact keep_nil | exact keep_ro | refine keep_cons ?_)); done))) | ((with_reducible refine s_bi ?_ ?_); (focus rfl)) | with_reducible refine blk_ne rfl ?_ | ((with_reducible refine w_region ?_ ?_); (focus kernel_rfl)) | ((with_reducible refine w_draw [] ?_ ?_ ?_ ?_ ?_); (iterate 3 (focus kernel_rfl)); (focus exact keeps_nil)) | ((with_reducible first | refine gd_d1 ?_ ?_ | refine gd_d0 ?_ ?_); all_goals (intro hb; (first | with_reducible replace hb := nt_t hb | with_reducible replace hb := nt_f hb | skip); (first | replace hb := dc_t hb | replace hb := dc_f hb | have hb1 := eq_b hb | have hb1 := ne_b hb | have hb1 := bne_t hb | have hb1 := bne_f hb | skip); (try (exfalso; first | contradiction | omega)))))
    all_goals (refine retC_cell (by first | exact .inl rfl | exact .inr rfl) (by first | rfl | assumption) (by simp (disch := omega) only [push_cast, Nat.reduceEqDiff, reduceCtorEq, ↓reduceIte, Nat.reduceAdd, Nat.reduceMul, Nat.reduceSub, Nat.reduceLT, Nat.reduceLeDiff, Int.reduceToNat, Int.reduceLT, Int.reduceLE, Int.reduceAdd, Int.reduceSub, Int.reduceMul, Int.reduceBEq, Int.reduceBNe, encB, encI, V.cells_mk, V.cells_take, V.cells_len, Nat.mul_one, Int.sub_zero, *]; exact rfl) (by repeat (first | exact mm_h | apply mm_t)) (by simp (disch := omega) only [push_cast, Nat.reduceEqDiff, reduceCtorEq, ↓reduceIte, Nat.reduceAdd, Nat.reduceMul, Nat.reduceSub, Nat.reduceLT, Nat.reduceLeDiff, Int.reduceToNat, Int.reduceLT, Int.reduceLE, Int.reduceAdd, Int.reduceSub, Int.reduceMul, Int.reduceBEq, Int.reduceBNe, encB, encI, V.cells_mk, V.cells_take, V.cells_len, Nat.mul_one, Int.sub_zero, *]; exact rfl) (by (try simp (disch := omega) only [push_cast, Nat.reduceEqDiff, reduceCtorEq, ↓reduceIte, Nat.reduceAdd, Nat.reduceMul, Nat.reduceSub, Nat.reduceLT, Nat.reduceLeDiff, Int.reduceToNat, Int.reduceLT, Int.reduceLE, Int.reduceAdd, Int.reduceSub, Int.reduceMul, Int.reduceBEq, Int.reduceBNe, encB, encI, V.cells_mk, V.cells_take, V.cells_len, Nat.mul_one, Int.sub_zero, *]); (try exact rfl); done) (by exact (List.Sublist.cons _ (List.Sublist.cons _ (List.Sublist.refl _))).cons₂ _) ?_ ⟨g, cap, zs, hlen, rfl, rfl⟩; (try simp (disch := omega) only [push_cast, Nat.reduceEqDiff, reduceCtorEq, ↓reduceIte, Nat.reduceAdd, Nat.reduceMul, Nat.reduceSub, Nat.reduceLT, Nat.reduceLeDiff, Int.reduceToNat, Int.reduceLT, Int.reduceLE, Int.reduceAdd, Int.reduceSub, Int.reduceMul, Int.reduceBEq, Int.reduceBNe, encB, encI, V.cells_mk, V.cells_take, V.cells_len, Nat.mul_one, Int.sub_zero, *]); exact LE.refl _)
end Go.Proofs.Ytgofckmlgkniaaa
end

section
namespace Go.Proofs.Ytgofckmlgkniaaa
set_option linter.unusedSimpArgs false
open Go.RowKit
set_option maxRecDepth 10000
set_option maxHeartbeats 4000000
namespace V
end V
end Go.Proofs.Ytgofckmlgkniaaa
end

section
namespace Go.Proofs.Ytgofckmlgkniaaa
set_option linter.unusedSimpArgs false
open Go.RowKit
namespace V
def Stop (r : List UInt8) : Prop := ∀ c t, r = c :: t → c.toNat = 32 ∨ c.toNat = 93
def Word (l : List UInt8) : Prop := ∀ c ∈ l, c.toNat ≠ 32 ∧ c.toNat ≠ 93
theorem split_word : ∀ a b r r' : List UInt8, Word a → Word b → Stop r → Stop r' → a ++ r = b ++ r' → a = b ∧ r = r'
  | [], [], _, _, _, _, _, _, h => ⟨rfl, h⟩
  | [], c :: b, r, r', _, hb, hr, _, h => by
    have := hr c (b ++ r') h
    have := hb c (List.mem_cons_self ..)
    omega
  | c :: a, [], r, r', ha, _, _, hr', h => by
    have := hr' c (a ++ r) h.symm
    have := ha c (List.mem_cons_self ..)
    omega
  | c :: a, d :: b, r, r', ha, hb, hr, hr', h => by
    rw [List.cons_append, List.cons_append, List.cons.injEq] at h
    obtain ⟨h1, h2⟩ := split_word a b r r' (fun x hx => ha x (List.mem_cons_of_mem _ hx)) (fun x hx => hb x (List.mem_cons_of_mem _ hx)) hr hr' h.2
    exact ⟨by rw [h.1, h1], h2⟩
theorem digs_byte : ∀ n, ∀ c ∈ digs n, 48 ≤ c.toNat ∧ c.toNat ≤ 57 := by
  intro n
  induction n using Nat.strongRecOn with
  | _ n ih =>
    intro c hc
    rw [digs_cons, List.mem_cons] at hc
    rcases hc with rfl | hc
    · rw [dig_nat (Nat.mod_lt _ (by omega))]; omega
    · split at hc
      · cases hc
      · exact ih (n / 10) (by omega) c hc
def digV : List UInt8 → Nat
  | [] => 0
  | c :: l => (c.toNat - 48) + 10 * digV l
theorem digV_digs : ∀ n, digV (digs n) = n := by
  intro n
  induction n using Nat.strongRecOn with
  | _ n ih =>
    by_cases h : n < 10
    · rw [digs_lt h, digV, digV, dig_nat h]; omega
    · rw [digs_ge h, digV, dig_nat (Nat.mod_lt _ (by omega)), ih (n / 10) (by omega)]; omega
theorem digs_inj {m n : Nat} (h : digs m = digs n) : m = n := by rw [← digV_digs m, h, digV_digs]
theorem rev_byte {n : Nat} : ∀ c ∈ (digs n).reverse, 48 ≤ c.toNat ∧ c.toNat ≤ 57 := fun c hc => digs_byte n c (List.mem_reverse.1 hc)
theorem print_word (n : Int) : Word (printL n) := by
  intro c hc
  unfold printL at hc
  rcases List.mem_append.1 hc with h | h
  · split at h
    · rcases List.mem_cons.1 h with rfl | h
      · decide
      · cases h
    · cases h
  · have := rev_byte c h; omega
theorem print_inj {m n : Int} (h : printL m = printL n) : m = n := by
  unfold printL at h
  have h45 : ∀ k : Nat, (45 : UInt8) ∉ (digs k).reverse := fun k hk => by have := rev_byte _ hk; revert this; decide
  have hrev : ∀ {a b : Nat}, (digs a).reverse = (digs b).reverse → a = b := fun e => digs_inj (List.reverse_inj.1 e)
  split at h <;> split at h
  · have := hrev (List.append_cancel_left h)
    unfold magn at this
    (first | (rw [if_pos (by assumption), if_pos (by assumption)] at this) | (rw [if_neg (by assumption), if_neg (by assumption)] at this))
    omega
  · exact absurd (by rw [← List.nil_append (digs (magn n)).reverse, ← h]; simp) (h45 (magn n))
  · exact absurd (by rw [← List.nil_append (digs (magn m)).reverse, h]; simp) (h45 (magn m))
  · have := hrev (List.append_cancel_left h)
    unfold magn at this
    (first | (rw [if_pos (by assumption), if_pos (by assumption)] at this) | (rw [if_neg (by assumption), if_neg (by assumption)] at this))
    omega
theorem print_head (n : Int) : ∃ c t, printL n = c :: t ∧ (c.toNat = 45 ∨ 48 ≤ c.toNat ∧ c.toNat ≤ 57) := by
  unfold printL
  split
  · exact ⟨45, _, rfl, .inl (by decide)⟩
  · cases hd : (digs (magn n)).reverse with
    | nil =>
      have := digs_pos (magn n)
      rw [← List.length_reverse, hd] at this
      simp at this
    | cons c t => exact ⟨c, t, rfl, .inr (rev_byte c (by rw [hd]; exact List.mem_cons_self ..))⟩
theorem esc_inj : ∀ a b r r' : List UInt8, a.flatMap escB ++ 34 :: r = b.flatMap escB ++ 34 :: r' → a = b ∧ r = r'
  | [], [], _, _, h => ⟨rfl, by simpa using h⟩
  | [], c :: b, r, r', h => by
    exfalso
    unfold escB at h
    simp only [List.flatMap_nil, List.nil_append, List.flatMap_cons, List.append_assoc] at h
    split at h
    · rw [List.cons_append, List.cons.injEq] at h
      exact absurd h.1 (by decide)
    · rename_i hc
      rw [List.cons_append, List.cons.injEq] at h
      exact hc (.inl (by rw [← h.1]; decide))
  | c :: a, [], r, r', h => by
    exfalso
    unfold escB at h
    simp only [List.flatMap_nil, List.nil_append, List.flatMap_cons, List.append_assoc] at h
    split at h
    · rw [List.cons_append, List.cons.injEq] at h
      exact absurd h.1 (by decide)
    · rename_i hc
      rw [List.cons_append, List.cons.injEq] at h
      exact hc (.inl (by rw [h.1]; decide))
  | c :: a, d :: b, r, r', h => by
    have key : c = d ∧ a.flatMap escB ++ 34 :: r = b.flatMap escB ++ 34 :: r' := by
      rw [List.flatMap_cons, List.flatMap_cons, List.append_assoc, List.append_assoc] at h
      generalize a.flatMap escB ++ 34 :: r = X at h ⊢
      generalize b.flatMap escB ++ 34 :: r' = Y at h ⊢
      unfold escB at h
      split at h <;> split at h
      · simpa using h
      · rename_i hd
        simp only [List.cons_append, List.nil_append, List.cons.injEq] at h
        exact absurd (.inr (by rw [← h.1]; decide)) hd
      · rename_i hc _
        simp only [List.cons_append, List.nil_append, List.cons.injEq] at h
        exact absurd (.inr (by rw [h.1]; decide)) hc
      · simpa using h
    obtain ⟨h1, h2⟩ := esc_inj a b r r' key.2
    exact ⟨by rw [key.1, h1], h2⟩
def kindB (c : UInt8) : Int := if c.toNat = 110 then 0 else if c.toNat = 102 ∨ c.toNat = 116 then 1 else if c.toNat = 39 then 3 else if c.toNat = 34 then 4 else if c.toNat = 91 then 5 else 2
theorem text_head {k n : Int} {s : ByteArray} {l : List V} (h : (V.mk k n s l).parts = true) : ∃ c t, (V.mk k n s l).text = c :: t ∧ kindB c = k := by
  rw [parts, Bool.and_eq_true, Bool.and_eq_true] at h
  obtain ⟨⟨h, -⟩, -⟩ := h
  unfold sgl at h
  rw [text]
  by_cases k0 : k = 0
  · subst k0; exact ⟨_, _, rfl, by decide⟩
  rw [if_neg k0] at h ⊢
  by_cases k1 : k = 1
  · subst k1
    rw [if_pos rfl]
    split
    · exact ⟨_, _, rfl, by decide⟩
    · exact ⟨_, _, rfl, by decide⟩
  rw [if_neg k1] at h ⊢
  by_cases k2 : k = 2
  · subst k2
    rw [if_pos rfl]
    obtain ⟨c, t, e, hc⟩ := print_head n
    refine ⟨c, t, e, ?_⟩
    unfold kindB
    rw [if_neg (by omega), if_neg (by omega), if_neg (by omega), if_neg (by omega), if_neg (by omega)]
  rw [if_neg k2] at h ⊢
  by_cases k3 : k = 3
  · subst k3; exact ⟨_, _, rfl, by decide⟩
  rw [if_neg k3] at h ⊢
  by_cases k4 : k = 4
  · subst k4; exact ⟨_, _, rfl, by decide⟩
  rw [if_neg k4] at h ⊢
  by_cases k5 : k = 5
  · subst k5; exact ⟨_, _, rfl, by decide⟩
  rw [if_neg k5] at h
  exact Bool.noConfusion h
theorem bytes_eq {s s' : ByteArray} (h : s.data.toList = s'.data.toList) : s = s' := by
  apply ByteArray.ext
  apply Array.ext'
  exact h
theorem size0 {s s' : ByteArray} (h : s.size = 0) (h' : s'.size = 0) : s = s' := by
  refine bytes_eq ?_
  have e : ∀ {x : ByteArray}, x.size = 0 → x.data.toList = [] := fun {x} hx => List.eq_nil_of_length_eq_zero hx
  rw [e h, e h']
theorem name_word {s : ByteArray} (h : isName s.data.toList = true) : Word (39 :: s.data.toList) := by
  unfold isName at h
  rw [Bool.and_eq_true] at h
  intro c hc
  rcases List.mem_cons.1 hc with rfl | hc
  · decide
  have : ∀ (l : List UInt8) (i : Nat), nameFrom i l = true → ∀ c ∈ l, (isLetter c || isOther c) = true := by
    intro l
    induction l with
    | nil => intro _ _ c hc; cases hc
    | cons x l ih =>
      intro i h c hc
      rw [nameFrom, Bool.and_eq_true] at h
      rcases List.mem_cons.1 hc with rfl | hc
      · have := h.1
        simp only [Bool.or_eq_true, Bool.and_eq_true] at this ⊢
        exact this.imp id And.right
      · exact ih _ h.2 c hc
  have := this _ _ h.2 c hc
  unfold isLetter isOther at this
  simp only [Bool.or_eq_true, Bool.and_eq_true, decide_eq_true_eq, beq_iff_eq] at this
  omega
theorem joinTail_cons (y : List UInt8) (r : List (List UInt8)) : Lib.joinTail [32] (y :: r) = 32 :: (y ++ Lib.joinTail [32] r) := by simp [Lib.joinTail]
theorem stop_tail (l : List V) (r : List UInt8) : Stop (Lib.joinTail [32] (textL l) ++ 93 :: r) := by
  intro c t h
  cases l with
  | nil =>
    rw [textL] at h
    simp only [Lib.joinTail, List.map_nil, List.flatten_nil, List.nil_append, List.cons.injEq] at h
    rw [← h.1]; decide
  | cons x l =>
    rw [textL, joinTail_cons, List.cons_append, List.cons.injEq] at h
    rw [← h.1]; decide
mutual
theorem text_inj : ∀ a b : V, a.parts = true → b.parts = true → ∀ r r', Stop r → Stop r' → a.text ++ r = b.text ++ r' → a = b ∧ r = r'
  | .mk k n s l, .mk k' n' s' l', ha, hb, r, r', hr, hr', h => by
    obtain ⟨c, t, e1, e2⟩ := text_head ha
    obtain ⟨c', t', e1', e2'⟩ := text_head hb
    have hk : k = k' := by
      rw [e1, e1', List.cons_append, List.cons_append, List.cons.injEq] at h
      rw [← e2, ← e2', h.1]
    subst hk
    clear e1 e2 e1' e2'
    rw [parts, Bool.and_eq_true, Bool.and_eq_true, Bool.or_eq_true, decide_eq_true_eq, decide_eq_true_eq] at ha hb
    obtain ⟨⟨a1, a2⟩, a3⟩ := ha
    obtain ⟨⟨b1, b2⟩, b3⟩ := hb
    rw [text, text] at h
    unfold sgl at a1 b1
    have nil : k ≠ 5 → l = l' := fun hk => by
      rw [List.eq_nil_of_length_eq_zero (a2.resolve_left hk), List.eq_nil_of_length_eq_zero (b2.resolve_left hk)]
    by_cases k0 : k = 0
    · rw [if_pos k0, Bool.and_eq_true, beq_iff_eq, decide_eq_true_eq] at a1 b1
      rw [if_pos k0, if_pos k0] at h
      obtain rfl := nil (by omega)
      obtain rfl := size0 a1.2 b1.2
      rw [a1.1, b1.1]
      exact ⟨rfl, List.append_cancel_left h⟩
    rw [if_neg k0] at a1 b1
    rw [if_neg k0, if_neg k0] at h
    by_cases k1 : k = 1
    · rw [if_pos k1, Bool.and_eq_true, Bool.or_eq_true, beq_iff_eq, beq_iff_eq, decide_eq_true_eq] at a1 b1
      rw [if_pos k1, if_pos k1] at h
      obtain rfl := nil (by omega)
      obtain rfl := size0 a1.2 b1.2
      obtain ⟨h1, h2⟩ := split_word _ _ r r' (by intro c hc; split at hc <;> (revert c; decide)) (by intro c hc; split at hc <;> (revert c; decide)) hr hr' h
      refine ⟨?_, h2⟩
      rcases a1.1 with q | q <;> rcases b1.1 with q' | q' <;> rw [q, q'] at h1 ⊢ <;> exact absurd h1 (by decide)
    rw [if_neg k1] at a1 b1
    rw [if_neg k1, if_neg k1] at h
    by_cases k2 : k = 2
    · rw [if_pos k2, decide_eq_true_eq] at a1 b1
      rw [if_pos k2, if_pos k2] at h
      obtain rfl := nil (by omega)
      obtain rfl := size0 a1 b1
      obtain ⟨h1, h2⟩ := split_word _ _ r r' (print_word n) (print_word n') hr hr' h
      rw [print_inj h1]
      exact ⟨rfl, h2⟩
    rw [if_neg k2] at a1 b1
    rw [if_neg k2, if_neg k2] at h
    by_cases k3 : k = 3
    · rw [if_pos k3, Bool.and_eq_true, beq_iff_eq] at a1 b1
      rw [if_pos k3, if_pos k3] at h
      obtain rfl := nil (by omega)
      obtain ⟨h1, h2⟩ := split_word _ _ r r' (name_word a1.2) (name_word b1.2) hr hr' h
      rw [List.cons.injEq] at h1
      rw [bytes_eq h1.2, a1.1, b1.1]
      exact ⟨rfl, h2⟩
    rw [if_neg k3] at a1 b1
    rw [if_neg k3, if_neg k3] at h
    by_cases k4 : k = 4
    · rw [if_pos k4, Bool.and_eq_true, beq_iff_eq] at a1 b1
      rw [if_pos k4, if_pos k4] at h
      obtain rfl := nil (by omega)
      unfold quoteB at h
      rw [List.cons_append, List.cons_append, List.cons.injEq, List.append_assoc, List.append_assoc] at h
      obtain ⟨h1, h2⟩ := esc_inj _ _ r r' h.2
      rw [bytes_eq h1, a1.1, b1.1]
      exact ⟨rfl, h2⟩
    rw [if_neg k4] at a1 b1
    rw [if_neg k4, if_neg k4] at h
    by_cases k5 : k = 5
    · rw [if_pos k5, Bool.and_eq_true, beq_iff_eq, Bool.and_eq_true, decide_eq_true_eq] at a1 b1
      rw [if_pos k5, if_pos k5] at h
      obtain rfl := size0 a1.2.1 b1.2.1
      rw [List.cons_append, List.cons_append, List.cons.injEq, List.append_assoc, List.append_assoc] at h
      obtain ⟨h1, h2⟩ := join_inj l l' a3 b3 r r' h.2
      rw [h1, a1.1, b1.1]
      exact ⟨rfl, h2⟩
    rw [if_neg k5] at a1
    exact Bool.noConfusion a1
theorem join_inj : ∀ l l' : List V, partsL l = true → partsL l' = true → ∀ r r', Lib.join (textL l) [32] ++ ([93] ++ r) = Lib.join (textL l') [32] ++ ([93] ++ r') → l = l' ∧ r = r'
  | [], [], _, _, r, r', h => by
    rw [textL, Lib.join_nil] at h
    exact ⟨rfl, by simpa using h⟩
  | [], .mk k n s y :: l', _, hb, r, r', h => by
    exfalso
    rw [partsL, Bool.and_eq_true] at hb
    obtain ⟨c, t, e1, e2⟩ := text_head hb.1
    rw [textL, textL, Lib.join_nil, Lib.join_cons, e1] at h
    simp only [List.nil_append, List.cons_append, List.cons.injEq] at h
    rw [← h.1] at e2
    have hk : kindB 93 = 2 := by decide
    rw [hk] at e2
    subst e2
    rw [text] at e1
    rw [if_neg (by decide), if_neg (by decide), if_pos rfl] at e1
    obtain ⟨c', t', q1, q2⟩ := print_head n
    rw [e1, List.cons.injEq] at q1
    rw [← q1.1, ← h.1] at q2
    revert q2; decide
  | .mk k n s y :: l', [], hb, _, r, r', h => by
    exfalso
    rw [partsL, Bool.and_eq_true] at hb
    obtain ⟨c, t, e1, e2⟩ := text_head hb.1
    rw [textL, textL, Lib.join_nil, Lib.join_cons, e1] at h
    simp only [List.nil_append, List.cons_append, List.cons.injEq] at h
    rw [h.1] at e2
    have hk : kindB 93 = 2 := by decide
    rw [hk] at e2
    subst e2
    rw [text] at e1
    rw [if_neg (by decide), if_neg (by decide), if_pos rfl] at e1
    obtain ⟨c', t', q1, q2⟩ := print_head n
    rw [e1, List.cons.injEq] at q1
    rw [← q1.1, h.1] at q2
    revert q2; decide
  | x :: l, y :: l', ha, hb, r, r', h => by
    rw [partsL, Bool.and_eq_true] at ha hb
    rw [textL, textL, Lib.join_cons, Lib.join_cons, List.append_assoc, List.append_assoc] at h
    obtain ⟨h1, h2⟩ := text_inj x y ha.1 hb.1 _ _ (stop_tail l r) (stop_tail l' r') h
    obtain ⟨h3, h4⟩ := tail_inj l l' ha.2 hb.2 r r' h2
    exact ⟨by rw [h1, h3], h4⟩
theorem tail_inj : ∀ l l' : List V, partsL l = true → partsL l' = true → ∀ r r', Lib.joinTail [32] (textL l) ++ 93 :: r = Lib.joinTail [32] (textL l') ++ 93 :: r' → l = l' ∧ r = r'
  | [], [], _, _, r, r', h => by
    rw [textL] at h
    exact ⟨rfl, by simpa using h⟩
  | [], y :: l', _, hb, r, r', h => by
    exfalso
    rw [textL, textL, joinTail_cons] at h
    simp only [Lib.joinTail, List.map_nil, List.flatten_nil, List.nil_append, List.cons_append, List.cons.injEq] at h
    exact absurd h.1 (by decide)
  | x :: l, [], _, _, r, r', h => by
    exfalso
    rw [textL, textL, joinTail_cons] at h
    simp only [Lib.joinTail, List.map_nil, List.flatten_nil, List.nil_append, List.cons_append, List.cons.injEq] at h
    exact absurd h.1 (by decide)
  | x :: l, y :: l', ha, hb, r, r', h => by
    rw [partsL, Bool.and_eq_true] at ha hb
    rw [textL, textL, joinTail_cons, joinTail_cons, List.cons_append, List.cons_append, List.cons.injEq, List.append_assoc, List.append_assoc] at h
    obtain ⟨h1, h2⟩ := text_inj x y ha.1 hb.1 _ _ (stop_tail l r) (stop_tail l' r') h.2
    obtain ⟨h3, h4⟩ := tail_inj l l' ha.2 hb.2 r r' h2
    exact ⟨by rw [h1, h3], h4⟩
end
theorem text_one {a b : V} (ha : a.right = true) (hb : b.right = true) : (a.text = b.text) ↔ a = b := by
  constructor
  · intro h
    have stop : Stop [] := fun c t e => by cases e
    exact (text_inj a b (right_iff.1 ha).1 (right_iff.1 hb).1 [] [] stop stop (by rw [h])).1
  · rintro rfl; rfl
end V
end Go.Proofs.Ytgofckmlgkniaaa
end
