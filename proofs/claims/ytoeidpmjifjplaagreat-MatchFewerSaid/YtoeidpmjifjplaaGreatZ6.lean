/- Texts put together. No statement is proved here. -/
import Derived.Test.YtoeidpmjifjplaaGreatShelf
import Derived.Deep.QuietTactic
import Derived.BigQuiet
import Derived.Test.YtoeidpmjifjplaaGreatZ5
set_option linter.all false
set_option maxRecDepth 10000
set_option maxHeartbeats 8000000
namespace Go.Proofs.YtoeidpmjifjplaaGreat
open Go.RowKit
section
section
variable {P : Program} {st : St} {w : World}
theorem zero_mem {z : Array Value} {n : Nat} (hz : 0 < z.size) : ∀ v ∈ (Builtin.zeroCells z n).toList, v ∈ z.toList := by
 intro v hv
 unfold Builtin.zeroCells at hv
 rw [Array.toList_map, List.mem_map] at hv
 obtain ⟨i, -, rfl⟩ := hv
 have hlt : i % z.size < z.size := Nat.mod_lt _ hz
 rw [getElem!_pos z _ hlt]
 exact Array.getElem_mem_toList hlt
def zOk (v : Value) : Bool := noAgg v && (leafD v).leaf
theorem zOk_rep {O : Nat → Nat → Prop} {us : List Value} (h : ∀ v ∈ us, zOk v = true) : RepL O w us (us.map leafD) ∧ ∀ d ∈ us.map leafD, d.leaf = true := by
 have h1 : ∀ v ∈ us, noAgg v = true ∧ (leafD v).leaf = true := fun v hv => by
  have := h v hv
  unfold zOk at this
  rwa [Bool.and_eq_true] at this
 refine ⟨?_, fun d hd => ?_⟩
 · have := RepL.map (O := O) (w := w) (l := us) (f := id) (g := leafD) (fun x hx => leafD_rep (h1 x hx).1)
   rwa [List.map_id] at this
 · obtain ⟨v, hv, rfl⟩ := List.mem_map.1 hd
   exact (h1 v hv).2
theorem new_for {g : Nat} {e : TypeId} {cs : List D} {s0 : St} (h : Holds (.box g e cs :: s0) w) {us : List Value} {cs' : List D} (hr : RepL (OwnS (.box g e cs :: s0)) w us cs') (hl : ∀ d ∈ cs', d.leaf = true) :
 Holds (.box w.heap.size e cs' :: s0) (w.drew.alloc (.cells us.toArray e)) ∧ Ext (OwnS (.box g e cs :: s0)) w (OwnS (.box w.heap.size e cs' :: s0)) (w.drew.alloc (.cells us.toArray e)) := by
 have he := Ext.drewN (OwnS (.box g e cs :: s0)) w 1
 have := new_box (h.drewN 1) e (hr.ext he) hl
 have hs : (Res.box w.heap.size e cs' :: s0).Sublist (.box w.heap.size e cs' :: .box g e cs :: s0) := (List.sublist_cons_self _ _).cons₂ _
 exact ⟨this.1.sub hs, (he.trans this.2).trans (Ext.drop (fun _ h => hs.subset h) _)⟩
theorem run_appendRow (T ty e : TypeId) {i : TypeInfo} {zv : Value} (hd : P.underlying T = some (.slice e)) (hi : P.info? e = some i) (hzv : i.zero = some zv) (hzs : zv.cells.size = i.size) (hsz : 0 < i.size) (hz : ∀ v ∈ zv.cells.toList, zOk v = true)
 {g n cap : Nat} {ds zs : List D} {s0 : St} (h : Holds (.box g e (ds ++ zs) :: s0) w) (hn : n ≤ cap) (hc : cap ≤ maxLen) (hds : ds.length = n * i.size) (hl : (ds ++ zs).length = cap * i.size)
 {xad : Addr} {m xcap : Nat} {news : List Value} {yd : List D} (hnl : news.length = m * i.size) (hnews : ∀ j u, news[j]? = some u → w.cell? (xad.add j) = some u) (hrep : RepL (OwnS (.box g e (ds ++ zs) :: s0)) w news yd) (hleaf : ∀ d ∈ yd, d.leaf = true)
 (hb : (n + m) * i.bytes ≤ 140737488355328) (hm : n + m ≤ 140737488355328) :
 ∃ w' g' cap' zs', (Builtin.append_ #[T, T] ty #[.slice (some ⟨g, 0, none⟩) n cap, .slice (some xad) m xcap]).run P w = .ok (.slice (some ⟨g', 0, none⟩) (n + m) cap') w' ∧ n + m ≤ cap' ∧ cap' ≤ maxLen ∧ (ds ++ yd ++ zs').length = cap' * i.size ∧
  Holds (.box g' e (ds ++ yd ++ zs') :: s0) w' ∧ Ext (OwnS (.box g e (ds ++ zs) :: s0)) w (OwnS (.box g' e (ds ++ yd ++ zs') :: s0)) w' := by
 obtain ⟨⟨cur, hg, hr⟩, hlc⟩ := h.2 _ (List.mem_cons_self ..)
 have hcs : cur.toList.length = cap * i.size := hr.1.trans hl
 have hyl : yd.length = m * i.size := hrep.1.symm.trans hnl
 have hmul : n * i.size + m * i.size = (n + m) * i.size := (Nat.add_mul ..).symm
 have htk : RepL (OwnS (.box g e (ds ++ zs) :: s0)) w (cur.toList.take (n * i.size)) ds := by
  have := hr.take (n * i.size)
  rwa [List.take_append_of_le_length q_o, List.take_of_length_le (l := ds) q_o] at this
 have hdl : ∀ d ∈ ds, d.leaf = true := fun d hd => hlc d (List.mem_append_left _ hd)
 have hzl : ∀ d ∈ zs, d.leaf = true := fun d hd => hlc d (List.mem_append_right _ hd)
 by_cases hroom : n + m ≤ cap
 · have hle : (n + m) * i.size ≤ cap * i.size := Nat.mul_le_mul_right _ hroom
   have hrun := run_append_room (P := P) w T ty e i hd hi g n cap cur hg xad m xcap news hnl hnews (hrep.leafOne hleaf) hroom (by rw [← Array.length_toList]; omega)
   have hdr : RepL (OwnS (.box g e (ds ++ zs) :: s0)) w (cur.toList.drop (n * i.size + news.length)) (zs.drop (m * i.size)) := by
    have := hr.drop (n * i.size + news.length)
    rwa [List.drop_append, List.drop_of_length_le (l := ds) q_o, List.nil_append, show n * i.size + news.length - ds.length = m * i.size by omega] at this
   obtain ⟨q1, q2⟩ := set_row (us' := (cur.toList.take (n * i.size) ++ news ++ cur.toList.drop (n * i.size + news.length)).toArray) h hg (by
    rw [← Array.length_toList, ← Array.length_toList]
    simp only [List.length_append, List.length_take, List.length_drop]
    omega) ((htk.append hrep).append hdr) (fun d hd => by
     rw [List.mem_append, List.mem_append] at hd
     rcases hd with (hd | hd) | hd
     · exact hdl d hd
     · exact hleaf d hd
     · exact hzl d (List.mem_of_mem_drop hd))
   refine ⟨_, g, cap, zs.drop (m * i.size), hrun, hroom, hc, ?_, q1, q2⟩
   simp only [List.length_append, List.length_drop] at hl ⊢
   omega
 · have hrun := run_append_grow (P := P) w T ty e i zv hd hi hzv ⟨g, 0, none⟩ n cap (cur.toList.take (n * i.size)) (by rw [List.length_take]; have : n * i.size ≤ cap * i.size := Nat.mul_le_mul_right _ hn; omega) (fun j v hv => by
    rw [add_lit, Nat.zero_add, cell_of_row w g j cur e (0, 0) hg]
    rw [List.getElem?_take] at hv
    split at hv
    · rw [← hv]; simp
    · cases hv) xad m xcap news hnl hnews q_o q_o (growslice_fits q_o hb)
   have hge := grownCap_ge w (n + m) cap e
   have hcm := grownCap_le_maxLen w (n + m) cap e (by unfold maxLen; omega)
   generalize grownCap w (n + m) cap e = nc at *
   have hzm := zOk_rep (O := OwnS (.box g e (ds ++ zs) :: s0)) (w := w) fun v hv => hz v (zero_mem (n := nc - (n + m)) q_o v hv)
   have hq := new_for h ((htk.append hrep).append hzm.1) (fun d hd => by
    rw [List.mem_append, List.mem_append] at hd
    rcases hd with (hd | hd) | hd
    · exact hdl d hd
    · exact hleaf d hd
    · exact hzm.2 d hd)
   have heq : ((cur.toList.take (n * i.size)).toArray ++ news.toArray ++ Builtin.zeroCells zv.cells (nc - (n + m))) = ((cur.toList.take (n * i.size) ++ news) ++ (Builtin.zeroCells zv.cells (nc - (n + m))).toList).toArray := by simp
   rw [heq] at hrun
   refine ⟨_, w.heap.size, nc, _, hrun, hge, hcm, ?_, hq.1, hq.2⟩
   simp only [List.length_append, List.length_map, Array.length_toList, size_zeroCells, hzs]
   rw [hds, hyl, ← Nat.add_mul, ← Nat.add_mul]
   congr 1
   omega
theorem run_appendFirst (T ty e : TypeId) {i : TypeInfo} {zv : Value} (hd : P.underlying T = some (.slice e)) (hi : P.info? e = some i) (hzv : i.zero = some zv) (hzs : zv.cells.size = i.size) (hsz : 0 < i.size) (hz : ∀ v ∈ zv.cells.toList, zOk v = true)
 (h : Holds st w) {x : Value} (hx : Rep (OwnS st) w x (.sl .tight []))
 {xad : Addr} {m xcap : Nat} {news : List Value} {yd : List D} (hnl : news.length = m * i.size) (hnews : ∀ j u, news[j]? = some u → w.cell? (xad.add j) = some u) (hrep : RepL (OwnS st) w news yd) (hleaf : ∀ d ∈ yd, d.leaf = true)
 (hpos : 0 < m) (hb : m * i.bytes ≤ 140737488355328) (hm : m ≤ 140737488355328) :
 ∃ w' g' cap' zs', (Builtin.append_ #[T, T] ty #[x, .slice (some xad) m xcap]).run P w = .ok (.slice (some ⟨g', 0, none⟩) m cap') w' ∧ m ≤ cap' ∧ cap' ≤ maxLen ∧ (yd ++ zs').length = cap' * i.size ∧
  Holds (.box g' e (yd ++ zs') :: st) w' ∧ Ext (OwnS st) w (OwnS (.box g' e (yd ++ zs') :: st)) w' := by
 obtain ⟨a, cap, us, sz, rfl, c1, c2, c3, c4, c5, c6, c7, c8, c9, c10⟩ := calm_src hx
 have hcap : cap = 0 := c10
 subst hcap
 have hyl : yd.length = m * i.size := hrep.1.symm.trans hnl
 have hrun : ∃ old, (Builtin.append_ #[T, T] ty #[.slice a ([] : List (List D)).length 0, .slice (some xad) m xcap]).run P w = .ok (.slice (some ⟨w.heap.size, 0, none⟩) m (grownCap w m old e)) (w.drew.alloc (.cells (news.toArray ++ Builtin.zeroCells zv.cells (grownCap w m old e - m)) e)) := by
  cases a with
  | none => exact ⟨0, run_append_nil (P := P) w T ty e i zv hd hi hzv xad m xcap news hnl hnews hpos q_o q_o⟩
  | some ad =>
   refine ⟨0, ?_⟩
   have := run_append_grow (P := P) w T ty e i zv hd hi hzv ad 0 0 [] (by simp) (fun j v hv => by simp at hv) xad m xcap news hnl hnews q_o q_o (growslice_fits q_o (by rw [Nat.zero_add]; exact hb))
   simpa using this
 obtain ⟨old, hrun⟩ := hrun
 have hge := grownCap_ge w m old e
 have hcm := grownCap_le_maxLen w m old e (by unfold maxLen; omega)
 generalize grownCap w m old e = nc at *
 have hzm := zOk_rep (O := OwnS st) (w := w) fun v hv => hz v (zero_mem (n := nc - m) q_o v hv)
 have he := Ext.drewN (OwnS st) w 1
 have hq := new_box (h.drewN 1) e ((hrep.append hzm.1).ext he) (fun d hd => by
  rw [List.mem_append] at hd
  exact hd.elim (hleaf d) (hzm.2 d))
 have heq : (news.toArray ++ Builtin.zeroCells zv.cells (nc - m)) = (news ++ (Builtin.zeroCells zv.cells (nc - m)).toList).toArray := by simp
 rw [heq] at hrun
 refine ⟨_, w.heap.size, nc, _, hrun, hge, hcm, ?_, hq.1, he.trans hq.2⟩
 simp only [List.length_append, List.length_map, Array.length_toList, size_zeroCells, hzs]
 rw [hyl, ← Nat.add_mul]
 congr 1
 omega
end
section
variable {P : Program} {N : Nat} {r : Option Nat} {A : AA} {st : St} {Q : Exit → AA → St → Prop} {m : Option Ro} {k : D → St → Prop} {dst : Option Tmp} {ty : TypeId} {pos : String} {aft : Array Edge} {gd : Option (Nat × Bool)} {o : Oper} {w : World}
def rowT (P : Program) (t : TypeId) : Option (TypeId × Nat × Nat) := (tinfo P t).bind fun ti => match ti.k with
 | .slice el sz bytes z => if z.all zOk = true then some (el, sz, bytes) else none
 | _ => none
theorem rowT_spec {t el : TypeId} {sz bytes : Nat} (h : rowT P t = some (el, sz, bytes)) : P.underlying t = some (.slice el) ∧ ∃ i zv, P.info? el = some i ∧ i.zero = some zv ∧ zv.cells.size = i.size ∧ 0 < i.size ∧ i.size = sz ∧ i.bytes = bytes ∧ ∀ v ∈ zv.cells.toList, zOk v = true := by
 unfold rowT at h
 cases ht : tinfo P t with
 | none => rw [ht] at h; cases h
 | some ti =>
  rw [ht, Option.bind_some] at h
  split at h
  · rename_i el' sz' bytes' z hk
    split at h
    · rename_i hz
      cases h
      obtain ⟨hu, ii, zv, q1, q2, q3, q4, q5, q6, q7⟩ := (und_of_k ht).2.2.2.2.1 _ _ _ _ hk
      subst q4
      exact ⟨hu, ii, zv, q1, q2, q7, q6, rfl, q5, by rw [q3]; exact List.all_eq_true.1 hz⟩
    · cases h
  · cases h
def RowK (P : Program) (m : Option Ro) (t : TypeId) (p : D × D) (st : St) (k : D → St → Prop) : Prop :=
 ∃ (el : TypeId) (sz bytes : Nat) (g n cap : Nat) (ds zs : List D) (oy : Own) (ys : List (List D)) (s1 : Nat → List D → St), p = (.ar g 0 n cap, .sl oy ys) ∧ rowT P t = some (el, sz, bytes) ∧ (∀ g' cs', ResAt (.box g el (ds ++ zs)) (.box g' el cs') st (s1 g' cs')) ∧ ds.length = n * sz ∧ (ds ++ zs).length = cap * sz ∧ (∀ a ∈ ys, a.length = sz) ∧ (n + ys.length) * bytes ≤ 140737488355328 ∧ n + ys.length ≤ 140737488355328 ∧
  ∀ g' cap' zs', n + ys.length ≤ cap' → (ds ++ ys.flatten ++ zs').length = cap' * sz → Keep m (s1 g' (ds ++ ys.flatten ++ zs')) ∧ k (.ar g' 0 (n + ys.length) cap') (s1 g' (ds ++ ys.flatten ++ zs'))
theorem s_appR {t : TypeId} {x y : Operand} (h : Ev (pairX (ev A.e x) (ev A.e y)) fun p => RowK P m t p st k) : S P r m ⟨dst, .call ⟨.builtin .append, #[x, y], #[t, t]⟩, ty, pos, aft, gd⟩ A st k := by
 obtain ⟨p, h1, el, sz, bytes, g, n, cap, ds, zs, oy, ys, s1, rfl, h2, h3, h4, h5, h6, h7, h8, h9⟩ := h
 unfold pairX at h1
 split at h1
 · rename_i d d' hx hy
   cases h1
   refine s_chain (R := fun d st' => ∃ g' cap' zs', n + ys.length ≤ cap' ∧ (ds ++ ys.flatten ++ zs').length = cap' * sz ∧ d = .ar g' 0 (n + ys.length) cap' ∧ st' = s1 g' (ds ++ ys.flatten ++ zs')) rfl ?_ ⟨_, _, 0, n + ys.length, [], Nat.le_refl _, by rw [List.append_nil, List.length_append, flat_len h6, h4, Nat.add_mul], rfl, rfl⟩ fun d st' ⟨g', cap', zs', ha, hb, e1, e2⟩ => by subst e1 e2; exact h9 g' cap' zs' ha hb
   refine opC_val (by intro c hc; cases hc) fun ρ w hr hh => .inl ?_
   have v1 := hr _ (by simp [Op.operands, Call.operands]) _ hx
   have v2 := hr _ (by simp [Op.operands, Call.operands]) _ hy
   obtain ⟨q1, i, zv, q2, q3, q4, q5, rfl, rfl, q8⟩ := rowT_spec h2
   obtain ⟨s0, p1, -⟩ := (h3 g (ds ++ zs)).perm
   have hown := OwnS.perm p1
   have hh' := hh.perm p1
   unfold execOp
   simp only [resolve, invoke, builtin, Sem.run_bind, Sem.run_pure, Result.andThen_ok, List.map_toArray, List.map_cons, List.map_nil]
   generalize ρ x = xv at v1
   generalize ρ y = yv at v2
   cases v1 with
   | ar _ _ _ _ c1 c2 =>
   rw [hown] at v2
   obtain ⟨xa, xcap, xus, xsz, rfl, x1, x2, x3, x4, x5, x6, x7, x8, x9, -⟩ := calm_src v2
   by_cases hys : ys = []
   · subst hys
     have := run_append_zero (w := w) t ty el i q1 q2 (some ⟨g, 0, none⟩) n cap c1 xa xcap
     rw [show ([] : List (List D)).length = 0 from rfl]
     rw [this]
     obtain ⟨s0', p1', p2'⟩ := (h3 g (ds ++ zs)).perm
     refine ⟨_, w, rfl, _, s1 g (ds ++ zs), .ar g 0 n cap c1 c2, hh.perm (p1'.trans p2'.symm), ?_, g, cap, zs, by simpa using c1, by simpa using h5, by simp, by simp⟩
     rw [OwnS.perm (p1'.trans p2'.symm)]
     exact Ext.refl _ _
   · obtain ⟨xad, rfl⟩ : ∃ ad, xa = some ad := by
      cases xa with
      | none => have := x8 rfl; have : 0 < ys.length := List.length_pos_iff.2 hys; omega
      | some ad => exact ⟨ad, rfl⟩
     obtain ⟨w', g', cap', zs', e1, e2, e3, e4, e5, e6⟩ := run_appendRow t ty el q1 q2 q3 q4 q5 q8 hh' c1 c2 h4 h5 (xcap := xcap) (by rw [x6.1]; exact flat_len h6) (calm_own x9 rfl) x6 x7 h7 h8
     obtain ⟨s0', p1', p2'⟩ := (h3 g' (ds ++ ys.flatten ++ zs')).perm
     have hs : s0.Perm s0' := (List.perm_cons _).1 (p1.symm.trans p1')
     have p3 : (Res.box g' el (ds ++ ys.flatten ++ zs') :: s0).Perm (s1 g' (ds ++ ys.flatten ++ zs')) := (hs.cons _).trans p2'.symm
     rw [e1]
     refine ⟨_, w', rfl, _, _, .ar g' 0 _ cap' e2 e3, e5.perm p3, ?_, g', cap', zs', e2, e4, rfl, rfl⟩
     rw [hown, ← OwnS.perm p3]; exact e6
 · cases h1
def Row2 (m : Option Ro) (q : TypeId × Nat × Nat) (p : D × D) (st : St) (k : D → St → Prop) : Prop :=
 ∃ (g n cap : Nat) (ds zs : List D) (oy : Own) (ys : List (List D)) (s1 : Nat → List D → St), p = (.ar g 0 n cap, .sl oy ys) ∧ (∀ g' cs', ResAt (.box g q.1 (ds ++ zs)) (.box g' q.1 cs') st (s1 g' cs')) ∧ ds.length = n * q.2.1 ∧ (ds ++ zs).length = cap * q.2.1 ∧ (∀ a ∈ ys, a.length = q.2.1) ∧ (n + ys.length) * q.2.2 ≤ 140737488355328 ∧ n + ys.length ≤ 140737488355328 ∧
  ∀ g' cap' zs', n + ys.length ≤ cap' → (ds ++ ys.flatten ++ zs').length = cap' * q.2.1 → Keep m (s1 g' (ds ++ ys.flatten ++ zs')) ∧ k (.ar g' 0 (n + ys.length) cap') (s1 g' (ds ++ ys.flatten ++ zs'))
theorem rk_go {t : TypeId} {p : D × D} (h : Ev (rowT P t) fun q => Row2 m q p st k) : RowK P m t p st k := by
 obtain ⟨⟨el, sz, bytes⟩, h1, g, n, cap, ds, zs, oy, ys, s1, h2, h3, h4, h5, h6, h7, h8, h9⟩ := h
 exact ⟨el, sz, bytes, g, n, cap, ds, zs, oy, ys, s1, h2, h1, h3, h4, h5, h6, h7, h8, h9⟩
theorem r2_go {el : TypeId} {sz bytes g n cap : Nat} {ds zs : List D} {oy : Own} {ys : List (List D)} {s1 : Nat → List D → St} (h4 : ds.length = n * sz) (h5 : (ds ++ zs).length = cap * sz) (h3 : ∀ g' cs', ResAt (.box g el (ds ++ zs)) (.box g' el cs') st (s1 g' cs')) (h6 : ∀ a ∈ ys, a.length = sz) (h7 : (n + ys.length) * bytes ≤ 140737488355328) (h8 : n + ys.length ≤ 140737488355328)
 (h9 : ∀ g' cap' zs', n + ys.length ≤ cap' → (ds ++ ys.flatten ++ zs').length = cap' * sz → Keep m (s1 g' (ds ++ ys.flatten ++ zs')) ∧ k (.ar g' 0 (n + ys.length) cap') (s1 g' (ds ++ ys.flatten ++ zs'))) : Row2 m (el, sz, bytes) (.ar g 0 n cap, .sl oy ys) st k := ⟨g, n, cap, ds, zs, oy, ys, s1, rfl, h3, h4, h5, h6, h7, h8, h9⟩
def RowN (P : Program) (m : Option Ro) (t : TypeId) (p : D × D) (st : St) (k : D → St → Prop) : Prop :=
 ∃ (el : TypeId) (sz bytes : Nat) (oy : Own) (ys : List (List D)), p = (.sl .tight [], .sl oy ys) ∧ rowT P t = some (el, sz, bytes) ∧ 0 < ys.length ∧ (∀ a ∈ ys, a.length = sz) ∧ ys.length * bytes ≤ 140737488355328 ∧ ys.length ≤ 140737488355328 ∧
  ∀ g' cap' zs', ys.length ≤ cap' → (ys.flatten ++ zs').length = cap' * sz → Keep m (.box g' el (ys.flatten ++ zs') :: st) ∧ k (.ar g' 0 ys.length cap') (.box g' el (ys.flatten ++ zs') :: st)
theorem s_appN {t : TypeId} {x y : Operand} (h : Ev (pairX (ev A.e x) (ev A.e y)) fun p => RowN P m t p st k) : S P r m ⟨dst, .call ⟨.builtin .append, #[x, y], #[t, t]⟩, ty, pos, aft, gd⟩ A st k := by
 obtain ⟨p, h1, el, sz, bytes, oy, ys, rfl, h2, hpos, h6, h7, h8, h9⟩ := h
 unfold pairX at h1
 split at h1
 · rename_i d d' hx hy
   cases h1
   refine s_chain (R := fun d st' => ∃ g' cap' zs', ys.length ≤ cap' ∧ (ys.flatten ++ zs').length = cap' * sz ∧ d = .ar g' 0 ys.length cap' ∧ st' = .box g' el (ys.flatten ++ zs') :: st) rfl ?_ ⟨_, _, 0, ys.length, [], Nat.le_refl _, by rw [List.append_nil, flat_len h6], rfl, rfl⟩ fun d st' ⟨g', cap', zs', ha, hb, e1, e2⟩ => by subst e1 e2; exact h9 g' cap' zs' ha hb
   refine opC_val (by intro c hc; cases hc) fun ρ w hr hh => .inl ?_
   have v1 := hr _ (by simp [Op.operands, Call.operands]) _ hx
   have v2 := hr _ (by simp [Op.operands, Call.operands]) _ hy
   obtain ⟨q1, i, zv, q2, q3, q4, q5, rfl, rfl, q8⟩ := rowT_spec h2
   unfold execOp
   simp only [resolve, invoke, builtin, Sem.run_bind, Sem.run_pure, Result.andThen_ok, List.map_toArray, List.map_cons, List.map_nil]
   generalize ρ x = xv at v1
   generalize ρ y = yv at v2
   obtain ⟨xa, xcap, xus, xsz, rfl, x1, x2, x3, x4, x5, x6, x7, x8, x9, -⟩ := calm_src v2
   obtain ⟨xad, rfl⟩ : ∃ ad, xa = some ad := by
    cases xa with
    | none => have := x8 rfl; omega
    | some ad => exact ⟨ad, rfl⟩
   obtain ⟨w', g', cap', zs', e1, e2, e3, e4, e5, e6⟩ := run_appendFirst t ty el q1 q2 q3 q4 q5 q8 hh v1 (xcap := xcap) (by rw [x6.1]; exact flat_len h6) (calm_own x9 rfl) x6 x7 hpos h7 h8
   rw [e1]
   exact ⟨_, w', rfl, _, _, .ar g' 0 _ cap' e2 e3, e5, e6, g', cap', zs', e2, e4, rfl, rfl⟩
 · cases h1
def RowN2 (m : Option Ro) (q : TypeId × Nat × Nat) (p : D × D) (st : St) (k : D → St → Prop) : Prop :=
 ∃ (oy : Own) (ys : List (List D)), p = (.sl .tight [], .sl oy ys) ∧ 0 < ys.length ∧ (∀ a ∈ ys, a.length = q.2.1) ∧ ys.length * q.2.2 ≤ 140737488355328 ∧ ys.length ≤ 140737488355328 ∧
  ∀ g' cap' zs', ys.length ≤ cap' → (ys.flatten ++ zs').length = cap' * q.2.1 → Keep m (.box g' q.1 (ys.flatten ++ zs') :: st) ∧ k (.ar g' 0 ys.length cap') (.box g' q.1 (ys.flatten ++ zs') :: st)
theorem rn_go {t : TypeId} {p : D × D} (h : Ev (rowT P t) fun q => RowN2 m q p st k) : RowN P m t p st k := by
 obtain ⟨⟨el, sz, bytes⟩, h1, oy, ys, h2, h3, h4, h5, h6, h7⟩ := h
 exact ⟨el, sz, bytes, oy, ys, h2, h1, h3, h4, h5, h6, h7⟩
theorem rn2_go {el : TypeId} {sz bytes : Nat} {oy : Own} {ys : List (List D)} (h4 : 0 < ys.length) (h6 : ∀ a ∈ ys, a.length = sz) (h7 : ys.length * bytes ≤ 140737488355328) (h8 : ys.length ≤ 140737488355328)
 (h9 : ∀ g' cap' zs', ys.length ≤ cap' → (ys.flatten ++ zs').length = cap' * sz → Keep m (.box g' el (ys.flatten ++ zs') :: st) ∧ k (.ar g' 0 ys.length cap') (.box g' el (ys.flatten ++ zs') :: st)) : RowN2 m (el, sz, bytes) (.sl .tight [], .sl oy ys) st k := ⟨oy, ys, rfl, h4, h6, h7, h8, h9⟩
end
def Lend (st : St) (d d' : D) : Prop := ∀ w v, Holds st w → Rep (OwnS st) w v d → Rep (OwnS []) w v d'
def LendL (st : St) : List D → List D → Prop
 | [], [] => True
 | d :: l, d' :: l' => Lend st d d' ∧ LendL st l l'
 | _, _ => False
section
variable {st : St} {w : World}
theorem ext_nil (O : Nat → Nat → Prop) (w : World) : Ext O w (OwnS []) w := (Ext.refl O w).less fun b off h => absurd h (OwnS.nil b off)
theorem Lend.refl (d : D) : Lend st d d := fun w _ _ h => h.ext (ext_nil _ w)
theorem Lend.sl (o : Own) (es : List (List D)) : Lend st (.sl o es) (.sl .shared es) := fun w _ _ h => (h.ext (ext_nil _ w)).share
theorem LendL.nil : LendL st [] [] := trivial
theorem LendL.cons {d d' : D} {l l' : List D} (h : Lend st d d') (k : LendL st l l') : LendL st (d :: l) (d' :: l') := ⟨h, k⟩
theorem LendL.repL : ∀ {l l' : List D}, LendL st l l' → Holds st w → ∀ {us : List Value}, RepL (OwnS st) w us l → RepL (OwnS []) w us l'
 | [], [], _, _, us, h => by obtain rfl := h.inv_nil; exact .nil
 | d :: l, d' :: l', ⟨h1, h2⟩, hh, us, h => by
  obtain ⟨u, t, rfl, k1, k2⟩ := h.inv_cons
  exact .cons (h1 w u hh k1) (h2.repL hh k2)
 | [], _ :: _, h, _, _, _ => h.elim
 | _ :: _, [], h, _, _, _ => h.elim
theorem Lend.agg {l l' : List D} (h : LendL st l l') : Lend st (.agg l) (.agg l') := fun w v hh x => by
 cases x with
 | agg us cs h1 h2 => obtain ⟨k1, k2⟩ := h.repL (us := us) hh ⟨h1, h2⟩; exact .agg us l' k1 k2
theorem Lend.row {g : Nat} {el : TypeId} {es : List (List D)} {zs : List D} {sz n cap : Nat} (hm : Res.box g el (es.flatten ++ zs) ∈ st) (hsz : 0 < sz) (hes : ∀ e ∈ es, e.length = sz) (hn : es.length = n) : Lend st (.ar g 0 n cap) (.sl .shared es) := by
 intro w v hh hv
 obtain ⟨⟨us, hb, hr⟩, hlc⟩ := hh.2 _ hm
 cases hv with
 | ar _ _ _ _ h1 h2 =>
 subst hn
 have hfl := flat_len hes
 have hrl : RepL (OwnS st) w (us.toList.take (es.length * sz)) es.flatten := by
  have := hr.take (es.length * sz)
  rwa [List.take_append_of_le_length q_o, List.take_of_length_le (l := es.flatten) q_o] at this
 have hrl := hrl.ext (ext_nil _ w)
 refine .sl .shared es (some ⟨g, 0, none⟩) cap (us.toList.take (es.length * sz)) sz h1 h2 (fun e => by cases e) hsz hes hrl.1 (fun d hd => hlc d (List.mem_append_left _ hd)) (fun i hi => ⟨g, 0, rfl, (Array.getElem?_eq_some_iff.1 hb).1, OwnS.nil _ _, ?_⟩) hrl.2 trivial
 rw [Nat.zero_add, cell_of_row w g i us el (0, 0) hb]
 rw [List.getElem_take]
 simp at hi
 rw [Array.getElem?_eq_getElem q_o]
 simp
theorem Lend.rowE {st : St} {g : Nat} {el : TypeId} {es : List (List D)} {R zs : List D} {sz n cap : Nat} (hm : Res.box g el (R ++ zs) ∈ st) (hR : es.flatten = R) (hsz : 0 < sz) (hes : ∀ e ∈ es, e.length = sz) (hn : es.length = n) : Lend st (.ar g 0 n cap) (.sl .shared es) := by
 subst hR
 exact Lend.row hm hsz hes hn
theorem Lend.ptr {b : Nat} {ty : TypeId} {cs cs' : List D} (hm : Res.box b ty cs ∈ st) (hl : LendL st cs cs') (hleaf : ∀ d ∈ cs', d.leaf = true) : Lend st (.ptr b 0) (.ip cs') := by
 intro w v hh hv
 obtain ⟨⟨us, hb, hr⟩, hlc⟩ := hh.2 _ hm
 have hrl := hl.repL hh hr
 generalize hz : (0 : Nat) = z at hv
 cases hv with
 | ptr _ _ =>
 subst hz
 refine .ip b 0 us.toList cs' hrl.1 hleaf (fun i hi => ⟨(Array.getElem?_eq_some_iff.1 hb).1, OwnS.nil _ _, ?_⟩) hrl.2
 rw [Nat.zero_add, cell_of_row w b i us ty (0, 0) hb]
 rw [Array.getElem?_eq_getElem (by simpa using hi)]
 simp
end
section
variable {P : Program} {f : FuncId} {args args' : List D} {st : St} {m : Option Ro} {k : D → St → Prop}
theorem TrF.lend {x : Value} (h : TrF P f args' [] fun d st' => d = .s x ∧ st' = []) (hl : LendL st args args') : TrF P f args st fun d st' => d = .s x ∧ st' = st := by
 intro vs w h1 h2
 have h3 := hl.repL h2 h1
 have h0 : Holds [] w := h2.sub (List.nil_sublist _)
 refine (h vs w h3 h0).mono fun _ w' ⟨v, e, d, s, k1, k2, k3, e1, e2⟩ => ?_
 subst e1 e2
 have he : Ext (OwnS st) w (OwnS st) w' := by
  refine ⟨k3.dr, k3.os, k3.tape, k3.output, k3.size, fun _ _ _ h => h, fun b hb _ => k3.block b hb fun off => OwnS.nil b off, fun b c E fr hc => ?_⟩
  exact ⟨c, fr, (k3.block b (Array.getElem?_eq_some_iff.1 hc).1 fun off => OwnS.nil b off).trans hc, rfl, fun _ _ => rfl⟩
 refine ⟨v, e, .s x, st, ?_, ?_, he, rfl, rfl⟩
 · have := rep_s k1
   subst this
   cases k1 with
   | s _ hx => exact .s _ hx
 · exact ⟨h2.1, fun r hr => (h2.2 r hr).ext he fun b hb => k3.block b ((h2.2 r hr).lt hb) fun off => OwnS.nil b off⟩
theorem ck_lend {ds ds' : List D} {x : Value} (henter : ∀ args w, (callFunc f args).run P w = .ok (.enter f args) w) (h : TrF P f ds' [] fun d st' => d = .s x ∧ st' = []) (hl : LendL st ds ds') (hk : Keep m st ∧ k (.s x) st) : CallK P m (f, ds) st k :=
 ck_eq henter (h.lend hl) hk
end
section
variable {P : Program} {f : FuncId} {ds ds' : List D} {st : St} {m : Option Ro} {k : D → St → Prop}
end
attribute [push_cast] rowT zOk
end
section
section
variable {P : Program} {st : St} {w w' : World}
theorem set_any {b : Nat} {ty : TypeId} {cs cs' : List D} {us us' : Array Value} (h : Holds (.box b ty cs :: st) w) (hb : w.heap[b]? = some (.cells us ty (0, 0))) (hs : us'.size = us.size)
 (hdr : w.drawn ≤ w'.drawn) (ho : w'.os = w.os) (ht : w'.tape = w.tape) (hout : w'.output = w.output) (hsz : w'.heap.size = w.heap.size) (hb' : w'.heap[b]? = some (.cells us' ty (0, 0))) (hoth : ∀ k, k ≠ b → w'.heap[k]? = w.heap[k]?)
 (hr : RepL (OwnS (.box b ty cs :: st)) w us'.toList cs') (hl : ∀ d ∈ cs', d.leaf = true) :
 Holds (.box b ty cs' :: st) w' ∧ Ext (OwnS (.box b ty cs :: st)) w (OwnS (.box b ty cs' :: st)) w' := by
 have hown : ∀ k off, OwnS (.box b ty cs' :: st) k off → OwnS (.box b ty cs :: st) k off := fun k off ho => by
  rw [OwnS.cons_iff] at ho ⊢
  exact ho
 have he : Ext (OwnS (.box b ty cs :: st)) w (OwnS (.box b ty cs' :: st)) w' := by
  refine ⟨hdr, ho, ht, hout, by omega, fun k off _ ho => hown k off ho, fun k hk hn => ?_, fun k c E fr hk => ?_⟩
  · refine hoth k fun e => ?_
    subst e
    exact hn 0 (OwnS.cons_iff.2 (.inl ⟨rfl, Nat.le_refl _⟩))
  · by_cases e : k = b
    · subst e
      rw [hb] at hk
      cases hk
      exact ⟨us', _, hb', hs, fun off hn => absurd (OwnS.cons_iff.2 (.inl ⟨rfl, Nat.zero_le _⟩)) hn⟩
    · exact ⟨c, fr, (hoth k e).trans hk, rfl, fun _ _ => rfl⟩
 refine ⟨h.put he (fun x hx k hk => hoth k fun e => ?_) ⟨⟨us', hb', hr.ext he⟩, hl⟩ (fun x hx => ?_), he⟩
 · subst e
   exact (List.pairwise_cons.1 h.1).1 x hx k rfl hk
 · exact (List.pairwise_cons.1 h.1).1 x hx
theorem chop_row {sz : Nat} (zs : List D) : ∀ es : List (List D), (∀ e ∈ es, e.length = sz) → chop sz es.length (es.flatten ++ zs) = es
 | [], _ => rfl
 | e :: es, h => by
  have he := h e (List.mem_cons_self ..)
  rw [List.length_cons, chop, List.flatten_cons, List.append_assoc, List.take_left' he, List.drop_left' he, chop_row zs es fun x hx => h x (List.mem_cons_of_mem _ hx)]
theorem TrF.freeze {f : FuncId} {args : List D} {el : TypeId} {es : List (List D)} {sz n : Nat} {s0 : St} (h : TrF P f args st fun d st' => ∃ g cap zs, d = .ar g 0 n cap ∧ st' = .box g el (es.flatten ++ zs) :: s0) (hsz : 0 < sz) (hes : ∀ e ∈ es, e.length = sz) (hn : es.length = n) : TrF P f args st fun d st' => d = .sl .shared es ∧ st' = s0 := by
 intro vs w h1 h2
 refine (h vs w h1 h2).mono fun _ w' ⟨v, ev, d, s, k1, k2, k3, g, cap, zs, e1, e2⟩ => ?_
 subst e1 e2
 have hch : chop sz n ((es.flatten ++ zs).drop 0) = es := by
  rw [List.drop_zero, ← hn]
  exact chop_row zs es hes
 have hr := frozen .shared (.inl rfl) (sz := sz) k2 k1 hsz (by rw [List.length_append, flat_len hes, hn]; omega) (by intro h; cases h)
 rw [hch] at hr
 have he := Ext.drop (st := .box g el (es.flatten ++ zs) :: s0) (st' := s0) (fun _ h => List.mem_cons_of_mem _ h) w'
 exact ⟨v, ev, _, s0, hr, k2.sub (List.sublist_cons_self _ _), k3.trans he, rfl, rfl⟩
end
section
variable {P : Program} {N : Nat} {r : Option Nat} {A : AA} {st : St} {Q : Exit → AA → St → Prop} {m : Option Ro} {k : D → St → Prop} {dst : Option Tmp} {ty : TypeId} {pos : String} {aft : Array Edge} {gd : Option (Nat × Bool)} {o : Oper} {w : World}
theorem s_isNilA {t t' : TypeId} {x : Operand} {g off n cap : Nat} {q : TypeId × Nat × Nat} (ht : sliceT P t = some q) (hx : ev A.e x = some (.ar g off n cap)) (hk : k (.b false) st) : S P r none ⟨dst, .binOp .eql t x (.const (.slice none 0 0)) t', ty, pos, aft, gd⟩ A st k := by
 refine opC_val (by intro c hc; cases hc) fun ρ w hr hh => .inl ?_
 have hv1 := hr _ (by simp [Op.operands]) _ hx
 have hv2 := hr.cst (.slice none 0 0)
 obtain ⟨el, sz, bytes⟩ := q
 obtain ⟨ti, z, h10, h11⟩ := sliceT_spec ht
 obtain ⟨hu, -⟩ := (und_of_k h10).2.2.2.2.1 _ _ _ _ h11
 generalize hxv : ρ x = xv at hv1
 cases hv1 with
 | ar _ _ _ _ c1 c2 =>
 refine ⟨.bool false, w, ?_, _, _, .s (.bool false) rfl, hh, Ext.refl _ _, hk⟩
 unfold execOp
 have hrun : (binOp .eql t (.slice (some ⟨g, off, none⟩) n cap) (.slice none 0 0)).run P w = .ok (.bool false) w := by
  simp only [binOp]
  simp [run_equal_slice_nil w t el (some ⟨g, off, none⟩) n cap hu]
 simp only [hxv, hv2, Sem.run_bind, guard_plain .eql t x (.const (.slice none 0 0)) (.slice (some ⟨g, off, none⟩) n cap) (.slice none 0 0) (fun u => by simp) (fun u v => by simp), hrun, Result.andThen_ok, Sem.run_pure]
def RowC (P : Program) (m : Option Ro) (t : TypeId) (p : D × D) (st : St) (k : D → St → Prop) : Prop :=
 ∃ (el : TypeId) (sz bytes : Nat) (g n cap : Nat) (ds zs : List D), p = (.sl .tight [], .ar g 0 n cap) ∧ rowT P t = some (el, sz, bytes) ∧ Res.box g el (ds ++ zs) ∈ st ∧ ds.length = n * sz ∧ 0 < n ∧ n * bytes ≤ 140737488355328 ∧ n ≤ 140737488355328 ∧
  ∀ g' cap' zs', n ≤ cap' → (ds ++ zs').length = cap' * sz → Keep m (.box g' el (ds ++ zs') :: st) ∧ k (.ar g' 0 n cap') (.box g' el (ds ++ zs') :: st)
theorem s_appC {t : TypeId} {x y : Operand} (h : Ev (pairX (ev A.e x) (ev A.e y)) fun p => RowC P m t p st k) : S P r m ⟨dst, .call ⟨.builtin .append, #[x, y], #[t, t]⟩, ty, pos, aft, gd⟩ A st k := by
 obtain ⟨p, h1, el, sz, bytes, g, n, cap, ds, zs, rfl, h2, hm, hds, hpos, h7, h8, h9⟩ := h
 unfold pairX at h1
 split at h1
 · rename_i d d' hx hy
   cases h1
   refine s_chain (R := fun d st' => ∃ g' cap' zs', n ≤ cap' ∧ (ds ++ zs').length = cap' * sz ∧ d = .ar g' 0 n cap' ∧ st' = .box g' el (ds ++ zs') :: st) rfl ?_ ⟨_, _, 0, n, [], Nat.le_refl _, by rw [List.append_nil, hds], rfl, rfl⟩ fun d st' ⟨g', cap', zs', ha, hb, e1, e2⟩ => by subst e1 e2; exact h9 g' cap' zs' ha hb
   refine opC_val (by intro c hc; cases hc) fun ρ w hr hh => .inl ?_
   have v1 := hr _ (by simp [Op.operands, Call.operands]) _ hx
   have v2 := hr _ (by simp [Op.operands, Call.operands]) _ hy
   obtain ⟨q1, i, zv, q2, q3, q4, q5, rfl, rfl, q8⟩ := rowT_spec h2
   unfold execOp
   simp only [resolve, invoke, builtin, Sem.run_bind, Sem.run_pure, Result.andThen_ok, List.map_toArray, List.map_cons, List.map_nil]
   generalize ρ x = xv at v1
   generalize ρ y = yv at v2
   cases v2 with
   | ar _ _ _ _ c1 c2 =>
   obtain ⟨⟨us, hb, hrr⟩, hlc⟩ := hh.2 _ hm
   have hul := hrr.1
   rw [List.length_append] at hul
   have hrep : RepL (OwnS st) w (us.toList.take (n * i.size)) ds := by
    have := hrr.take (n * i.size)
    rwa [List.take_append_of_le_length q_o, List.take_of_length_le (l := ds) q_o] at this
   obtain ⟨w', g', cap', zs', e1, e2, e3, e4, e5, e6⟩ := run_appendFirst (P := P) t ty el q1 q2 q3 q4 q5 q8 hh v1 (xad := ⟨g, 0, none⟩) (m := n) (xcap := cap) (by rw [List.length_take]; omega) (fun j u hu => by
    rw [add_lit, Nat.zero_add, cell_of_row w g j us el (0, 0) hb]
    rw [List.getElem?_take] at hu
    split at hu
    · rw [← hu]; simp
    · cases hu) hrep (fun d hd => hlc d (List.mem_append_left _ hd)) hpos h7 h8
   rw [e1]
   exact ⟨_, w', rfl, _, _, .ar g' 0 _ cap' e2 e3, e5, e6, g', cap', zs', e2, e4, rfl, rfl⟩
 · cases h1
def RowC2 (m : Option Ro) (q : TypeId × Nat × Nat) (p : D × D) (st : St) (k : D → St → Prop) : Prop :=
 ∃ (g n cap : Nat) (ds zs : List D), p = (.sl .tight [], .ar g 0 n cap) ∧ Res.box g q.1 (ds ++ zs) ∈ st ∧ ds.length = n * q.2.1 ∧ 0 < n ∧ n * q.2.2 ≤ 140737488355328 ∧ n ≤ 140737488355328 ∧
  ∀ g' cap' zs', n ≤ cap' → (ds ++ zs').length = cap' * q.2.1 → Keep m (.box g' q.1 (ds ++ zs') :: st) ∧ k (.ar g' 0 n cap') (.box g' q.1 (ds ++ zs') :: st)
theorem rc_go {t : TypeId} {p : D × D} (h : Ev (rowT P t) fun q => RowC2 m q p st k) : RowC P m t p st k := by
 obtain ⟨⟨el, sz, bytes⟩, h1, g, n, cap, ds, zs, h2, h3, h4, h5, h6, h7, h8⟩ := h
 exact ⟨el, sz, bytes, g, n, cap, ds, zs, h2, h1, h3, h4, h5, h6, h7, h8⟩
theorem rc2_go {el : TypeId} {sz bytes g n cap : Nat} {ds zs : List D} (h3 : Res.box g el (ds ++ zs) ∈ st) (h4 : ds.length = n * sz) (h5 : 0 < n) (h6 : n * bytes ≤ 140737488355328) (h7 : n ≤ 140737488355328)
 (h8 : ∀ g' cap' zs', n ≤ cap' → (ds ++ zs').length = cap' * sz → Keep m (.box g' el (ds ++ zs') :: st) ∧ k (.ar g' 0 n cap') (.box g' el (ds ++ zs') :: st)) : RowC2 m (el, sz, bytes) (.sl .tight [], .ar g 0 n cap) st k := ⟨g, n, cap, ds, zs, rfl, h3, h4, h5, h6, h7, h8⟩
end
section
variable {P : Program} {f : FuncId} {ds ds' : List D} {st s1 : St} {m : Option Ro} {k : D → St → Prop}
theorem ck_gen {R : D → St → Prop} (henter : ∀ args w, (callFunc f args).run P w = .ok (.enter f args) w) (hp : st.Perm s1) (h : TrF P f ds' s1 R) (hle : LEL ds ds') (hex : ∃ d st', R d st') (hk : ∀ d st', R d st' → Keep m st' ∧ k d st') : CallK P m (f, ds) st k :=
 ⟨R, henter, (TrF.perm hp h).le hle, hex, hk⟩
end
end
section
attribute [local push_cast] encB encI encC V.cells_mk V.cells_len Nat.mul_one Int.sub_zero List.map_nil beq_self_eq_true
def colC (l : List Nat) : List D := (l.map encC).flatten
theorem colC_len (l : List Nat) : (colC l).length = l.length * 1 := by
 unfold colC
 rw [flat_len (sz := 1) fun e he => by
  obtain ⟨x, -, rfl⟩ := List.mem_map.1 he
  rfl, List.length_map]
def slotC (l : List Sl) : List D := (l.map Sl.cells).flatten
theorem slotC_len (l : List Sl) : (slotC l).length = l.length * 7 := by
 unfold slotC
 rw [flat_len (sz := 7) fun e he => by
  obtain ⟨x, -, rfl⟩ := List.mem_map.1 he
  exact Sl.cells_len x, List.length_map]
theorem cloneIF (g cap : Nat) (l : List Nat) (zs : List D) (hl : l ≠ []) (h8 : l.length ≤ 1000000) (st : St) (hm : Res.box g 3 (colC l ++ zs) ∈ st) : TrF Tryz.prog 89 [.ar g 0 l.length cap] st fun d st' => d = .sl .shared (l.map encC) ∧ st' = st := by
 have hcl := colC_len l
 have hpos : 0 < l.length := List.length_pos_iff.2 hl
 refine TrF.freeze (el := 3) (sz := 1) (n := l.length) ?_ (by decide) (fun e he => by
  obtain ⟨x, -, rfl⟩ := List.mem_map.1 he
  rfl) (List.length_map ..)
 show TrF _ _ _ _ fun d st' => ∃ g' cap' zs', d = .ar g' 0 l.length cap' ∧ st' = .box g' _ (colC l ++ zs') :: st
 generalize colC l = R at *
 generalize l.length = n at *
 refine Qin [2] Tryz.func89 Tryz.results89 Tryz.ntmps89 ?_
 repeat' (first | refine QV ?_ | ((with_reducible apply s_isNilA); (focus simp (disch := omega) only [push_cast, simprocAttr, *]; exact rfl); (focus simp (disch := omega) only [push_cast, simprocAttr, *]; exact rfl)) | with_reducible refine s_appC ?_ | with_reducible refine rc_go ?_ | ((with_reducible apply (rc2_go hm)); (focus assumption); (focus assumption); (focus omega); (focus omega); intro g' cap' zs' hc hl') | refine QY ?_ | (refine QB ?_; intro b) | (with_reducible refine QZ ?_ <;> (try constructor) <;> intro hb <;> try intro hb1) | fail)
 all_goals (refine retA_mk q_x rfl (List.Sublist.refl _) (LE.of_eq ?_) ⟨g', cap', zs', rfl, rfl⟩; simp (disch := omega) only [push_cast, simprocAttr, *])
theorem cloneSF (g cap : Nat) (l : List Sl) (zs : List D) (hl : l ≠ []) (h8 : l.length ≤ 1000000) (st : St) (hm : Res.box g 184 (slotC l ++ zs) ∈ st) : TrF Tryz.prog 185 [.ar g 0 l.length cap] st fun d st' => d = .sl .shared (l.map Sl.cells) ∧ st' = st := by
 have hcl := slotC_len l
 have hpos : 0 < l.length := List.length_pos_iff.2 hl
 refine TrF.freeze (el := 184) (sz := 7) (n := l.length) ?_ (by decide) (fun e he => by
  obtain ⟨x, -, rfl⟩ := List.mem_map.1 he
  exact Sl.cells_len x) (List.length_map ..)
 show TrF _ _ _ _ fun d st' => ∃ g' cap' zs', d = .ar g' 0 l.length cap' ∧ st' = .box g' _ (slotC l ++ zs') :: st
 generalize slotC l = R at *
 generalize l.length = n at *
 refine Qin [2] Tryz.func185 Tryz.results185 Tryz.ntmps185 ?_
 repeat' (first | refine QV ?_ | ((with_reducible apply s_isNilA); (focus simp (disch := omega) only [push_cast, simprocAttr, *]; exact rfl); (focus simp (disch := omega) only [push_cast, simprocAttr, *]; exact rfl)) | with_reducible refine s_appC ?_ | with_reducible refine rc_go ?_ | ((with_reducible apply (rc2_go hm)); (focus assumption); (focus assumption); (focus omega); (focus omega); intro g' cap' zs' hc hl') | refine QY ?_ | (refine QB ?_; intro b) | (with_reducible refine QZ ?_ <;> (try constructor) <;> intro hb <;> try intro hb1) | fail)
 all_goals (refine retA_mk q_x rfl (List.Sublist.refl _) (LE.of_eq ?_) ⟨g', cap', zs', rfl, rfl⟩; simp (disch := omega) only [push_cast, simprocAttr, *])
theorem containsF (o : Own) (l : List Nat) (x : Nat) (st : St) : TrF Tryz.prog 205 [.sl o (l.map encC), .i x] st fun d st' => d = .b (decide (x ∈ l)) ∧ st' = st :=
 trF_pure fun vs w hv => by
  obtain ⟨v, v', rfl, h1, h2⟩ := args2 hv
  cases rep_s h2
  have hs : Sees (fun n : Nat => Value.int .i64 n) w v l := sees_of_rep (f := fun n : Nat => Value.int .i64 n) h1
  refine ⟨_, fun _ _ => .s _ rfl, ?_⟩
  obtain ⟨a, cap, rfl, q1, q2, q3, q4⟩ := hs
  cases l with
  | nil =>
   refine (Tryz.slices_Contains_int_empty a cap x w).mono ?_
   rintro e w' ⟨he, rfl⟩
   exact ⟨he, Below.refl _ _, Nat.le_refl _⟩
  | cons y r =>
   obtain ⟨b, rfl⟩ : ∃ b, a = some b := by
    cases a with
    | none => have := q3 rfl; simp at q1; omega
    | some b => exact ⟨b, rfl⟩
   obtain ⟨e1, e2, e3⟩ := q4 b rfl (by simp)
   obtain ⟨bk, off, sp⟩ := b
   dsimp only at e1 e2 e3
   subst e1
   have hc := Tryz.slices_Contains_int bk off (y :: r).length cap ((y :: r).map Int.ofNat) x w (by simp) (by unfold maxLen at q2; omega) (fun j hj => by
    rw [List.length_map] at hj
    rw [e3 j hj, List.getD_eq_getElem?_getD, List.getElem?_map, List.getElem?_eq_getElem hj]; rfl)
   refine hc.mono ?_
   rintro e w' ⟨he, rfl⟩
   refine ⟨?_, Below.refl _ _, Nat.le_refl _⟩
   rw [he]
   congr 2
   rw [List.take_of_length_le (by simp), Bool.eq_iff_iff, List.contains_iff_mem, decide_eq_true_eq, List.mem_map]
   constructor
   · rintro ⟨a, h1, h2⟩
     have : a = x := Int.ofNat.inj h2
     exact this ▸ h1
   · intro h; exact ⟨x, h, rfl⟩
theorem deleteF (g cap i : Nat) (l : List Nat) (zs : List D) (hi : i < l.length) (hzs : (colC l ++ zs).length = cap * 1) (st : St) : TrF Tryz.prog 204 [.ar g 0 l.length cap, .i i, .i ((i : Int) + 1)] (.box g 3 (colC l ++ zs) :: st) fun d st' => d = .ar g 0 (l.eraseIdx i).length cap ∧ st' = .box g 3 (colC (l.eraseIdx i) ++ (.i 0 :: zs)) :: st := by
 intro vs w hv hh
 obtain ⟨lv⟩ := vs
 obtain ⟨v0, t0, e0, h1, hv⟩ := hv.inv_cons
 obtain ⟨v1, t1, e1, h2, hv⟩ := hv.inv_cons
 obtain ⟨v2, t2, e2, h3, hv⟩ := hv.inv_cons
 have e3 := hv.inv_nil
 dsimp only at e0
 subst e3 e2 e1 e0
 cases rep_s h2
 cases rep_s h3
 have hh1 := h1
 cases h1 with
 | ar _ _ _ _ c1 c2 =>
 obtain ⟨⟨us, hb, hr⟩, hlc⟩ := hh.2 _ (List.mem_cons_self ..)
 have hul := hr.1
 have hcl := colC_len l
 rw [List.length_append] at hul
 have hcm : ∀ l : List Nat, colC l = l.map fun c : Nat => D.i c := by
  intro l
  unfold colC
  induction l with
  | nil => rfl
  | cons x l ih => rw [List.map_cons, List.flatten_cons, ih]; rfl
 have hat : ∀ j (hj : j < l.length), us[j]? = some (.int .i64 (l[j] : Nat)) := fun j hj => by
  have hd : (colC l ++ zs)[j]? = some (.i (l[j] : Nat)) := by
   rw [List.getElem?_append_left q_o, hcm, List.getElem?_map, List.getElem?_eq_getElem hj]; rfl
  obtain ⟨u, hu, hru⟩ := hr.get? hd
  rw [rep_s hru] at hu
  rw [← hu]; simp
 have hH : Sort.Holds (Value.int .i64) w g 0 ((l.map Int.ofNat).toArray) := fun j hj => by
  have hj' : j < l.length := by simpa using hj
  refine ⟨?_, ?_⟩
  · rw [Nat.zero_add, cell_of_row w g j us _ (0, 0) hb, hat j hj', getElem!_pos _ j hj]
    simp
  · unfold World.frozen?
    dsimp only
    rw [hb]; simp
 have hc := Tryz.slices_Delete_int g 0 cap i (i + 1) (l.map Int.ofNat) w hH (by simpa using c1) (by unfold maxLen at c2; omega) q_o (by rw [List.length_map]; omega)
 rw [List.length_map] at hc
 have hcast : ((i + 1 : Nat) : Int) = (i : Int) + 1 := by omega
 rw [hcast] at hc
 refine hc.mono ?_
 rintro e w' ⟨rfl, q, hw⟩
 refine ⟨_, rfl, ?_⟩
 obtain ⟨d', hd'⟩ : ∃ d', ((l.map Int.ofNat).take i ++ (l.map Int.ofNat).drop (i + 1) ++ List.replicate (i + 1 - i) 0) = d' := ⟨_, rfl⟩
 rw [hd'] at hw
 have hdl : d'.length = l.length := by
  rw [← hd']
  simp only [List.length_append, List.length_take, List.length_drop, List.length_map, List.length_replicate]
  omega
 have hus : (Sort.putCells (Value.int .i64) 0 d'.toArray us).toList = d'.map (Value.int .i64) ++ us.toList.drop l.length := by
  apply List.ext_getElem?
  intro k
  unfold Sort.putCells
  rw [Array.getElem?_toList, Array.getElem?_mapIdx]
  by_cases hk : k < l.length
  · have hk2 : k < us.size := by rw [← Array.length_toList]; omega
    rw [List.getElem?_append_left (by rw [List.length_map]; omega), Array.getElem?_eq_getElem hk2, List.getElem?_map, List.getElem?_eq_getElem (by omega : k < d'.length)]
    simp only [Option.map_some, Nat.zero_le, Nat.zero_add, List.size_toArray, hdl, hk, and_self, if_true, Nat.sub_zero, true_and]
    rw [getElem!_pos _ k (by simp; omega)]
    simp
  · rw [List.getElem?_append_right (by rw [List.length_map]; omega), List.length_map, hdl, List.getElem?_drop, show l.length + (k - l.length) = k by omega, Array.getElem?_toList]
    cases us[k]? with
    | none => rfl
    | some u => simp [hdl, hk]
 have hrep : RepL (OwnS (.box g 3 (colC l ++ zs) :: st)) w (Sort.putCells (Value.int .i64) 0 d'.toArray us).toList (colC (l.eraseIdx i) ++ (.i 0 :: zs)) := by
  rw [hus, show colC (l.eraseIdx i) ++ (.i 0 :: zs) = (d'.map fun n => D.i n) ++ zs by
   rw [← hd', hcm, List.eraseIdx_eq_take_drop_succ, show i + 1 - i = 1 by omega]
   simp only [List.map_append, List.map_take, List.map_drop, List.map_map, List.append_assoc, List.replicate, List.map_cons, List.map_nil, List.cons_append, List.nil_append]
   rfl]
  refine RepL.append (RepL.map fun x _ => .s _ rfl) ?_
  have := hr.drop l.length
  rwa [List.drop_append, List.drop_of_length_le (l := colC l) q_o, List.nil_append, show l.length - (colC l).length = 0 by omega, List.drop_zero] at this
 have hw' : w'.heap[g]? = some (.cells (Sort.putCells (Value.int .i64) 0 d'.toArray us) 3 (0, 0)) := by
  rw [hw]
  simp only [Sort.putRow, Sort.mapBlock, Sort.ahead]
  rw [Array.getElem?_modify]
  simp [hb, Sort.onCells]
 have hs := set_any (w' := w') hh hb (by simp [Sort.putCells]) (by rw [hw]; first | exact Nat.le_add_right _ _ | simp [Sort.putRow, Sort.mapBlock, Sort.ahead]) (by rw [hw]; rfl) (by rw [hw]; rfl) (by rw [hw]; rfl) (by rw [hw]; simp [Sort.putRow, Sort.mapBlock, Sort.ahead]) hw' (fun k hk => by
  rw [hw]
  simp only [Sort.putRow, Sort.mapBlock, Sort.ahead]
  rw [Array.getElem?_modify, if_neg (Ne.symm hk)]) hrep (fun d hd => by
   rw [hcm, List.mem_append] at hd
   rcases hd with hd | hd
   · obtain ⟨c, -, rfl⟩ := List.mem_map.1 hd; rfl
   · rcases List.mem_cons.1 hd with rfl | hd
     · rfl
     · exact hlc d (List.mem_append_right _ hd))
 have hel : (l.eraseIdx i).length = l.length - (i + 1 - i) := by rw [List.length_eraseIdx_of_lt hi]; omega
 refine ⟨.ar g 0 (l.eraseIdx i).length cap, _, ?_, hs.1, hs.2, rfl, rfl⟩
 rw [hel]
 exact .ar g 0 _ cap q_o c2
theorem schTakesF (t : Int) (st : St) : TrF Tryz.prog 201 [.i t] st fun x st' => x = .b (Sch.takes t) ∧ st' = st := by
 unfold Sch.takes
 refine Qin [2] Tryz.func201 Tryz.results201 Tryz.ntmps201 ?_
 repeat' (first | refine QX ?_ | (refine QB ?_; intro b) | (with_reducible refine QZ ?_ <;> (try constructor) <;> intro hb <;> try intro hb1) | fail)
 all_goals (refine Qret (hd := ?_); (try simp (disch := omega) only [push_cast, simprocAttr, *]); try (first | exact q_e | refine LE.of_eq ?_))
 all_goals (first | rfl | (refine congrArg D.b ?_; rw [Bool.eq_iff_iff]; simp only [Bool.true_and, Bool.false_and, Bool.and_true, Bool.and_false, Bool.or_false, Bool.or_true, Bool.true_or, Bool.false_or, true_and, and_true, Bool.not_eq_true', Bool.not_eq_false', decide_eq_true_eq, decide_eq_false_iff_not, beq_iff_eq, beq_eq_false_iff_ne, bne_iff_ne, ne_eq, reduceCtorEq, iff_true, true_iff, iff_false, false_iff, Bool.and_eq_true, Bool.or_eq_true, Bool.false_eq_true, Bool.true_eq_false]; first | done | omega))
theorem schFitsF (nm : ByteArray) (ty : Int) (rq : Bool) (dv v : V) (hB : v.nodes ≤ 4611686018427387904) (st : St) : TrF Tryz.prog 182 [.agg (Sl.mk nm ty rq dv).cells, .agg v.cells] st fun x st' => x = .b (Sch.fits (Sl.mk nm ty rq dv) v) ∧ st' = st := by
 have hR := valRightF v hB
 unfold Sch.fits
 cases hr : v.right with
 | false =>
  rw [hr] at hR
  cases v with
  | mk k n s l =>
  cases dv with
  | mk dk dn ds dl =>
  rw [V.cells_mk] at hR
  rw [Sl.cells_mk, V.cells_mk]
  replace hR := Lib.hid hR
  refine Qin [4] Tryz.func182 Tryz.results182 Tryz.ntmps182 ?_
  exact WR
 | true =>
  rw [hr] at hR
  cases v with
  | mk k n s l =>
  cases dv with
  | mk dk dn ds dl =>
  have hk : 0 ≤ k ∧ k ≤ 5 := by
   have := (V.right_iff.1 hr).1
   rw [V.parts, Bool.and_eq_true, Bool.and_eq_true] at this
   have := this.1.1
   unfold V.sgl at this
   repeat' split at this
   all_goals (first | omega | exact absurd this (by decide))
  obtain ⟨hk1, hk2⟩ := hk
  rw [V.cells_mk] at hR
  rw [Sl.cells_mk, V.cells_mk]
  replace hR := Lib.hid hR
  unfold Sch.bit
  clear hr
  refine Qin [4] Tryz.func182 Tryz.results182 Tryz.ntmps182 ?_
  exact WR
theorem schSoundF (s : Sl) (hB : s.dv.nodes ≤ 4611686018427387904) (st : St) : TrF Tryz.prog 183 [.agg s.cells] st fun x st' => x = .b (Sch.sound s) ∧ st' = st := by
 have hN := Lib.hid (valIsNameF s.name)
 have hT := Lib.hid (schTakesF s.types)
 have hF := schFitsF s.name s.types s.req s.dv s.dv hB
 unfold Sch.sound
 cases s with
 | mk nm ty rq dv =>
 dsimp only at hN hT hF ⊢
 generalize V.isName nm.data.toList = q1 at *
 generalize Sch.takes ty = q2 at *
 generalize Sch.fits (Sl.mk nm ty rq dv) dv = q3 at *
 cases dv with
 | mk k n s l =>
 rw [Sl.cells_mk, V.cells_mk] at hF
 rw [Sl.cells_mk]
 replace hF := Lib.hid hF
 cases q1 <;> cases q2 <;> cases q3
 all_goals skip
 all_goals (
  refine Qin [2] Tryz.func183 Tryz.results183 Tryz.ntmps183 ?_
  exact WR)
theorem schBareF (s : Sl) (b1 b2 : Bool) (hB : s.dv.Bg) (st : St) : TrF Tryz.prog 203 [.agg s.cells, .b b1, .b b2] st fun x st' => x = .b (Sch.bare s b1 b2) ∧ st' = st := by
 have hS := valSameB s.dv Sch.zeroV hB (.mk (Nat.zero_le _) (Nat.zero_le _) fun x h => by cases h)
 unfold Sch.bare
 cases s with
 | mk nm ty rq dv =>
 dsimp only at hS ⊢
 have hE := isE_eq nm
 generalize decide (nm.size = 0) = q1 at *
 generalize (dv.cmp Sch.zeroV == 0) = q3 at *
 unfold Sch.zeroV at hS
 cases dv with
 | mk k n s l =>
 rw [V.cells_mk, V.cells_mk, List.map_nil] at hS
 rw [Sl.cells_mk]
 replace hS := Lib.hid hS
 obtain ⟨q2, h2⟩ : ∃ q2, (ty == 0) = q2 := ⟨_, rfl⟩
 rw [h2]
 refine Qin [6] Tryz.func203 Tryz.results203 Tryz.ntmps203 ?_
 cases b1 <;> cases b2 <;> cases q1 <;> cases q2 <;> cases rq
 all_goals skip
 all_goals (
  repeat' (first | refine QX ?_ | (refine QB ?_; intro b) | (with_reducible refine QZ ?_ <;> (try constructor) <;> intro hb <;> try intro hb1) | refine QL Tryz.call126 (hS.out _) ?_ | fail)
  all_goals exact Qret)
theorem colL_drop {slots : List Sl} {name : ByteArray} {cols : List Nat} {i c : Nat} (h : cols[i]? = some c) : Sch.colL slots name (cols.drop i) = if Sch.named slots name c then (c : Int) else Sch.colL slots name (cols.drop (i + 1)) := by
 obtain ⟨h1, rfl⟩ := List.getElem?_eq_some_iff.1 h
 rw [List.drop_eq_getElem_cons h1, Sch.colL]
theorem schColF (slots : List Sl) (cols : List Nat) (name : ByteArray) (hl : slots.length ≤ 1000000) (hc : cols.length ≤ 1000000) (st : St) : TrF Tryz.prog 184 [.agg [.sl .shared (slots.map Sl.cells), .sl .shared (cols.map encC)], .str name] st fun x st' => x = .i (Sch.colL slots name cols) ∧ st' = st := by
 obtain ⟨B, hB⟩ : ∃ B, Sch.colL slots name cols = B := ⟨_, rfl⟩
 have HB : Hid (Sch.colL slots name (cols.drop 0) = B) := hB
 rw [hB]
 clear hB
 refine Qin [4] Tryz.func184 Tryz.results184 Tryz.ntmps184 ?_
 repeat' (first | refine QX ?_ | (refine QB ?_; intro b) | (with_reducible refine QZ ?_ <;> (try constructor) <;> intro hb <;> try intro hb1) | fail)
 refine tr_loop (ι := Nat) (fun i A st' => i ≤ cols.length ∧ Hid (Sch.colL slots name (cols.drop i) = B) ∧ A.df = [] ∧ A.e 1 = .str name ∧ A.e 2 = .ip [.sl .shared (slots.map Sl.cells), .sl .shared (cols.map encC)] ∧ A.e 8 = .sl .shared (cols.map encC) ∧ A.e 9 = .i cols.length ∧ A.e 10 = .i i ∧ st = st') (fun i => cols.length - i) 0 ⟨Nat.zero_le _, HB, Qf, Qf, Qf, Qf, Qf, Qf, rfl⟩ ?_
 rintro i A st' ⟨hi, HT, hdf, e1, e2, e8, e9, e10, rfl⟩
 by_cases hlt : i < cols.length
 · obtain ⟨c, hx⟩ := gEx hlt
   have HE := HT.out
   rw [colL_drop hx] at HE
   clear HT HB
   by_cases hcs : c < slots.length
   · obtain ⟨s, hs⟩ := gEx hcs
     cases s with
     | mk nm ty rq dv =>
     cases dv with
     | mk k n sv l =>
     obtain ⟨q, hq⟩ : ∃ q, (nm.toList == name.toList) = q := ⟨_, rfl⟩
     have hnm : Sch.named slots name c = q := by
      unfold Sch.named
      rw [hs, ← hq]; rfl
     rw [hnm] at HE
     clear hnm
     have hcell : (slots.map Sl.cells)[c]? = some [.str nm, .i ty, .b rq, .i k, .i n, .str sv, .sl .shared (l.map V.cells)] := by
      rw [List.getElem?_map, hs, ← Sl.cells_mk]; rfl
     clear hs
     have hsl : (slots.map Sl.cells).length = slots.length := List.length_map ..
     generalize slots.map Sl.cells = SL at *
     cases q with
     | true =>
      rw [if_pos rfl] at HE
      rw [← HE]
      clear HE
      exact WR
     | false =>
      rw [if_neg (by decide)] at HE
      replace HE := Lib.hid HE
      repeat' (first | refine QX ?_ | (refine QB ?_; intro b) | (with_reducible refine QZ ?_ <;> (try constructor) <;> intro hb <;> try intro hb1) | fail)
      refine ⟨i + 1, ⟨hlt, HE, ?_, ?_, ?_, ?_, ?_, ?_, rfl⟩, ?_⟩
      all_goals exact Qf
   · have hnm : Sch.named slots name c = false := by
      unfold Sch.named
      rw [List.getElem?_eq_none q_o]; rfl
     rw [hnm, if_neg (by decide)] at HE
     replace HE := Lib.hid HE
     clear hnm
     repeat' (first | refine QX ?_ | (refine QB ?_; intro b) | (with_reducible refine QZ ?_ <;> (try constructor) <;> intro hb <;> try intro hb1) | fail)
     refine ⟨i + 1, ⟨hlt, HE, ?_, ?_, ?_, ?_, ?_, ?_, rfl⟩, ?_⟩
     all_goals exact Qf
 · have HE := HT.out
   rw [List.drop_of_length_le q_o, Sch.colL] at HE
   rw [← HE]
   clear HE HT HB
   exact WR
theorem schColumnF (x : Vr) (s : Stp) (st : St) (ho : s.order.length ≤ 9223372036854775807) (hc : x.cols.length ≤ 1000000) : TrF Tryz.prog 202 [.ip x.cells, .agg s.cells] st fun d st' => d = .b (Sch.column x s) ∧ st' = st := by
 unfold Sch.column Vr.cells Stp.cells
 cases s with
 | mk kd col slot order =>
 cases slot with
 | mk nm ty rq dv =>
 cases dv with
 | mk k n sv l =>
 rw [Sl.cells_mk]
 dsimp only [List.cons_append, List.nil_append] at ho ⊢
 refine Qin [4] Tryz.func202 Tryz.results202 Tryz.ntmps202 ?_
 repeat' (first | refine QX ?_ | (refine QB ?_; intro b) | (with_reducible refine QZ ?_ <;> (try constructor) <;> intro hb <;> try intro hb1) | fail)
 all_goals (refine Qret (hd := ?_); (try simp (disch := omega) only [push_cast, simprocAttr, *]); try (first | exact q_e | refine LE.of_eq ?_))
 all_goals (first | rfl | (refine congrArg D.b ?_; rw [Bool.eq_iff_iff]; simp only [Bool.true_and, Bool.false_and, Bool.and_true, Bool.and_false, Bool.or_false, Bool.or_true, Bool.true_or, Bool.false_or, true_and, and_true, Bool.not_eq_true', Bool.not_eq_false', decide_eq_true_eq, decide_eq_false_iff_not, beq_iff_eq, beq_eq_false_iff_ne, bne_iff_ne, ne_eq, reduceCtorEq, iff_true, true_iff, iff_false, false_iff, Bool.and_eq_true, Bool.or_eq_true, Bool.false_eq_true, Bool.true_eq_false]; first | done | omega))
abbrev VB (bx gs cS : Nat) (zS : List D) (gc cC : Nat) (zC : List D) (x : Vr) (s : St) : St :=
 .box bx 146 [.ar gs 0 x.slots.length cS, .ar gc 0 x.cols.length cC] :: .box gs 184 (slotC x.slots ++ zS) :: .box gc 3 (colC x.cols ++ zC) :: s
def VL (cS : Nat) (zS : List D) (cC : Nat) (zC : List D) (x : Vr) : Prop := (slotC x.slots ++ zS).length = cS * 7 ∧ (colC x.cols ++ zC).length = cC * 1
structure VW (x : Vr) : Prop where
 ls : x.slots.length ≤ 1000
 lc : x.cols.length ≤ 8
 cs : ∀ c ∈ x.cols, c < x.slots.length
def Stp.Ok (s : Stp) : Prop := s.slot.dv.nodes ≤ 1000 ∧ s.slot.dv.Bg ∧ s.order.length ≤ 1000
theorem slotC_flat (x : Vr) : (x.slots.map Sl.cells).flatten = slotC x.slots := rfl
theorem colC_flat (x : Vr) : (x.cols.map encC).flatten = colC x.cols := rfl
theorem slots_each (l : List Sl) : ∀ e ∈ l.map Sl.cells, e.length = 7 := fun e he => by
 obtain ⟨x, -, rfl⟩ := List.mem_map.1 he
 exact Sl.cells_len x
theorem cols_each (l : List Nat) : ∀ e ∈ l.map encC, e.length = 1 := fun e he => by
 obtain ⟨x, -, rfl⟩ := List.mem_map.1 he
 rfl
def StepR (F : Vr → Stp → Option Vr) (x : Vr) (stp : Stp) (bx : Nat) (s : St) (d : D) (st' : St) : Prop :=
 (F x stp = none ∧ d = .b false ∧ st' = s) ∨ ∃ x' gs cS zS gc cC zC, F x stp = some x' ∧ VL cS zS cC zC x' ∧ d = .b true ∧ st' = VB bx gs cS zS gc cC zC x' s
theorem slotC_add (l : List Sl) (s : Sl) : slotC (l ++ [s]) = slotC l ++ [s.cells].flatten := by
 unfold slotC; simp
theorem colC_add (l : List Nat) (c : Nat) : colC (l ++ [c]) = colC l ++ [[D.i c]].flatten := by
 unfold colC; simp [encC]
theorem schAddF (bx gs cS gc cC : Nat) (zS zC : List D) (x : Vr) (stp : Stp) (hx : VW x) (hs : stp.Ok) (hz : VL cS zS cC zC x) (s : St) : TrF Tryz.prog 186 [.ptr bx 0, .agg stp.cells] (VB bx gs cS zS gc cC zC x s) (StepR Sch.addS x stp bx s) := by
 obtain ⟨ls, lc, -⟩ := hx
 obtain ⟨hn, -, ho⟩ := hs
 obtain ⟨hz1, hz2⟩ := hz
 have hS := schSoundF stp.slot q_o
 have hC := schColF x.slots x.cols stp.slot.name q_o q_o []
 have hr1 := slotC_len x.slots
 have hr2 := colC_len x.cols
 have e1 := Lib.hid (slots_each x.slots)
 have e2 := Lib.hid (cols_each x.cols)
 have f1 := Lib.hid (slotC_flat x)
 have f2 := Lib.hid (colC_flat x)
 have l1 : Hid ((x.slots.map Sl.cells).length = x.slots.length) := List.length_map ..
 have l2 : Hid ((x.cols.map encC).length = x.cols.length) := List.length_map ..
 have g1 := Lib.hid (slotC_add x.slots stp.slot)
 have g2 := Lib.hid (colC_add x.cols x.slots.length)
 have g3 : Hid ((x.slots ++ [stp.slot]).length = x.slots.length + 1) := List.length_append
 have g4 : Hid ((x.cols ++ [x.slots.length]).length = x.cols.length + 1) := List.length_append
 obtain ⟨x', hx'⟩ : ∃ x' : Vr, x' = ⟨x.slots ++ [stp.slot], x.cols ++ [x.slots.length]⟩ := ⟨_, rfl⟩
 have hF : Hid (Sch.addS x stp = if stp.col = 0 ∧ stp.order.length = 0 ∧ x.cols.length < 8 ∧ Sch.sound stp.slot = true ∧ stp.slot.req = false ∧ Sch.colL x.slots stp.slot.name x.cols < 0 then some x' else none) := by rw [hx']; rfl
 have s1 : Hid (x'.slots = x.slots ++ [stp.slot]) := by rw [hx']; rfl
 have s2 : Hid (x'.cols = x.cols ++ [x.slots.length]) := by rw [hx']; rfl
 clear hx'
 unfold StepR VL VB Stp.cells
 generalize Sch.addS x stp = F at *
 cases stp with
 | mk kd col slot order =>
 cases slot with
 | mk nm ty rq dv =>
 cases dv with
 | mk k n sv l =>
 dsimp only at hS hC ho hF ⊢
 generalize Sch.sound _ = q at *
 generalize Sch.colL _ _ _ = cv at *
 generalize slotC x.slots = R1 at *
 generalize colC x.cols = R2 at *
 generalize x.slots.map Sl.cells = L1 at *
 generalize x.cols.map encC = L2 at *
 rw [Sl.cells_mk] at *
 dsimp only [List.cons_append, List.nil_append] at ho ⊢
 generalize x.slots.length = m1 at *
 generalize x.cols.length = m2 at *
 replace hS := Lib.hid hS
 replace hC := Lib.hid hC
 refine Qin [4] Tryz.func186 Tryz.results186 Tryz.ntmps186 ?_
 repeat' (first | refine QV ?_ | ((with_reducible refine w_draw [(bx, [.ar gs 0 m1 cS, .ar gc 0 m2 cC])] ?_ ?_ ?_ ?_ ?_); (iterate 3 (focus kernel_rfl)); (focus ((repeat (first | exact keep_nil | refine keep_more q_m ?_)); done))) | ((with_reducible refine And.intro ?_ ?_); (focus exact q_k)) | ((with_reducible refine w_draw [(bx, [.ar gs 0 m1 cS, .ar gc' 0 (m2 + 1) cC'])] ?_ ?_ ?_ ?_ ?_); (iterate 3 (focus kernel_rfl)); (focus ((repeat (first | exact keep_nil | refine keep_more q_m ?_)); done))) | ((with_reducible refine And.intro ?_ ?_); (focus exact q_k)) | with_reducible refine s_appR ?_ | with_reducible refine rk_go ?_ | ((with_reducible apply (r2_go hr1 hz1)); (focus (intro g' cs'; repeat (first | exact ra_h | apply ra_t))); (focus exact len_one rfl); (focus exact q_n); (focus exact q_n); intro gs' cS' zS' hcs hls) | ((with_reducible apply (r2_go hr2 hz2)); (focus (intro g' cs'; repeat (first | exact ra_h | apply ra_t))); (focus exact len_one rfl); (focus exact q_n); (focus exact q_n); intro gc' cC' zC' hcc hlc) | refine QY ?_ | (refine QB ?_; intro b) | (with_reducible refine QZ ?_ <;> (try constructor) <;> intro hb <;> try intro hb1) | ((with_reducible apply (ck_lend Tryz.call184)); (focus exact hC.out); (focus exact ⟨Lend.agg ⟨Lend.rowE q_m f1.out (by decide) e1.out l1.out, Lend.rowE q_m f2.out (by decide) e2.out l2.out, trivial⟩, Lend.refl _, trivial⟩)) | fail)
 all_goals first
  | ((refine retA_mk q_x q_y q_u (LE.of_eq ?_) (.inl ⟨?_, rfl, rfl⟩)); (focus simp (disch := omega) only [push_cast, simprocAttr, *]); (focus (rw [hF.out]; refine if_neg ?_; rintro ⟨h1, h2, h3, h4, h5, h6⟩; (first | omega | exact Bool.noConfusion (h4.symm.trans (by assumption) : true = false) | exact Bool.noConfusion (h5.symm.trans (by assumption) : false = true)))))
  | ((refine retA_mk q_x q_y (List.Sublist.refl _) (LE.of_eq ?_) (.inr ⟨x', gs', cS', zS', gc', cC', zC', ?_, ⟨?_, ?_⟩, rfl, ?_⟩)); (focus simp (disch := omega) only [push_cast, simprocAttr, *]); (focus (rw [hF.out]; refine if_pos ⟨?_, ?_, ?_, ?_, ?_, ?_⟩ <;> first | assumption | omega)); (focus (rw [s1.out, g1.out, (by assumption : rq = false)]; exact hls)); (focus (rw [s2.out, g2.out]; exact hlc)); (focus (rw [s1.out, s2.out, g1.out, g2.out, g3.out, g4.out, (by assumption : rq = false)])))
end
section
attribute [local push_cast] encB encI encC V.cells_mk V.cells_len Nat.mul_one Int.sub_zero List.map_nil beq_self_eq_true List.head?_cons
theorem row_drop {sz o : Nat} {e : List D} (zs : List D) : ∀ (es : List (List D)) (c : Nat), (∀ x ∈ es, x.length = sz) → es[c]? = some e → o ≤ sz → ∃ tl, (es.flatten ++ zs).drop (c * sz + o) = e.drop o ++ tl
 | [], c, _, h, _ => by simp at h
 | x :: es, 0, hs, h, ho => by
  simp only [List.getElem?_cons_zero, Option.some.injEq] at h
  subst h
  have hx := hs x (List.mem_cons_self ..)
  refine ⟨es.flatten ++ zs, ?_⟩
  rw [List.flatten_cons, List.append_assoc, Nat.zero_mul, Nat.zero_add, List.drop_append_of_le_length q_o]
 | x :: es, c + 1, hs, h, ho => by
  rw [List.getElem?_cons_succ] at h
  obtain ⟨tl, ht⟩ := row_drop zs es c (fun y hy => hs y (List.mem_cons_of_mem _ hy)) h ho
  have hx := hs x (List.mem_cons_self ..)
  refine ⟨tl, ?_⟩
  rw [List.flatten_cons, List.append_assoc, show (c + 1) * sz + o = sz + (c * sz + o) by rw [Nat.succ_mul]; omega, ← List.drop_drop, List.drop_left' hx, ht]
theorem splice_app {e R ds : List D} {sz o : Nat} (he : e.length = sz) : splice (e ++ R) (sz + o) ds = e ++ splice R o ds := by
 unfold splice
 rw [List.take_append, List.take_of_length_le (l := e) q_o, show sz + o - e.length = o by omega, show sz + o + ds.length = sz + (o + ds.length) by omega, ← List.drop_drop, List.drop_left' he]
 simp only [List.append_assoc]
theorem row_splice {sz o : Nat} {e ds : List D} (zs : List D) : ∀ (es : List (List D)) (c : Nat), (∀ x ∈ es, x.length = sz) → es[c]? = some e → o + ds.length ≤ sz → splice (es.flatten ++ zs) (c * sz + o) ds = (es.set c (splice e o ds)).flatten ++ zs
 | [], c, _, h, _ => by simp at h
 | x :: es, 0, hs, h, ho => by
  simp only [List.getElem?_cons_zero, Option.some.injEq] at h
  subst h
  have hx := hs x (List.mem_cons_self ..)
  rw [List.set_cons_zero, List.flatten_cons, List.flatten_cons, Nat.zero_mul, Nat.zero_add]
  unfold splice
  rw [show x ++ es.flatten ++ zs = x ++ (es.flatten ++ zs) from List.append_assoc .., List.take_append_of_le_length q_o, List.drop_append_of_le_length q_o]
  simp only [List.append_assoc]
 | x :: es, c + 1, hs, h, ho => by
  rw [List.getElem?_cons_succ] at h
  have := row_splice zs es c (fun y hy => hs y (List.mem_cons_of_mem _ hy)) h ho
  have hx := hs x (List.mem_cons_self ..)
  rw [List.set_cons_succ, List.flatten_cons, List.flatten_cons, List.append_assoc, List.append_assoc, show (c + 1) * sz + o = sz + (c * sz + o) by rw [Nat.succ_mul]; omega, splice_app hx, this]
theorem w_draw_ne3 {P : Program} {N : Nat} {r : Option Nat} {A : AA} {b b' b'' : Nat} {ty ty' ty'' : TypeId} {cs cs' cs'' : List D} {s : St} {Q : Exit → AA → St → Prop} {l : List Oper} {id : Nat} (hm : P.follows .mixedOrders = true) (hB : mixBA .any l.toArray = true) (hok : opsOk N l = true)
 (h : (b' == b) = false → (b'' == b) = false → (b'' == b') = false → W P r (some (roOf (.box b ty cs :: .box b' ty' cs' :: .box b'' ty'' cs'' :: s))) l.toArray (Q .normal) l A (.box b ty cs :: .box b' ty' cs' :: .box b'' ty'' cs'' :: s)) : Tr P N r (.region id l.toArray true) A (.box b ty cs :: .box b' ty' cs' :: .box b'' ty'' cs'' :: s) Q := by
 intro a w ha hh
 have h1 := List.pairwise_cons.1 hh.1
 have h2 := List.pairwise_cons.1 h1.2
 have n1 : b' ≠ b := fun e => h1.1 (.box b' ty' cs') (List.Mem.head _) b rfl (by rw [← e]; rfl)
 have n2 : b'' ≠ b := fun e => h1.1 (.box b'' ty'' cs'') (List.Mem.tail _ (List.Mem.head _)) b rfl (by rw [← e]; rfl)
 have n3 : b'' ≠ b' := fun e => h2.1 (.box b'' ty'' cs'') (List.Mem.head _) b' rfl (by rw [← e]; rfl)
 exact w_draw _ hm hB hok (keeps_roOf _) (h (beq_eq_false_iff_ne.2 n1) (beq_eq_false_iff_ne.2 n2) (beq_eq_false_iff_ne.2 n3)) a w ha hh
theorem lendP {st : St} {bx gs gc m1 m2 cS cC : Nat} {T T1 T2 : TypeId} {R1 R2 zS zC : List D} {L1 L2 : List (List D)} (h1 : Res.box bx T [.ar gs 0 m1 cS, .ar gc 0 m2 cC] ∈ st) (h2 : Res.box gs T1 (R1 ++ zS) ∈ st) (h3 : Res.box gc T2 (R2 ++ zC) ∈ st)
 (f1 : L1.flatten = R1) (e1 : ∀ e ∈ L1, e.length = 7) (l1 : L1.length = m1) (f2 : L2.flatten = R2) (e2 : ∀ e ∈ L2, e.length = 1) (l2 : L2.length = m2) : Lend st (.ptr bx 0) (.ip [.sl .shared L1, .sl .shared L2]) :=
 Lend.ptr h1 ⟨Lend.rowE h2 f1 (by decide) e1 l1, Lend.rowE h3 f2 (by decide) e2 l2, trivial⟩ (by
  intro d hd
  simp only [List.mem_cons, List.not_mem_nil, or_false] at hd
  rcases hd with rfl | rfl <;> rfl)
theorem schLoseF (bx gs cS gc cC : Nat) (zS zC : List D) (x : Vr) (stp : Stp) (hx : VW x) (hs : stp.Ok) (hz : VL cS zS cC zC x) (s : St) : TrF Tryz.prog 187 [.ptr bx 0, .agg stp.cells] (VB bx gs cS zS gc cC zC x s) (StepR Sch.loseS x stp bx s) := by
 obtain ⟨ls, lc, hcs⟩ := hx
 obtain ⟨hn, hbg, ho⟩ := hs
 obtain ⟨hz1, hz2⟩ := hz
 have hK := schColumnF x stp [] q_o q_o
 have hB := schBareF stp.slot false false hbg
 have hF : Hid (Sch.loseS x stp = if Sch.column x stp = true ∧ Sch.bare stp.slot false false = true ∧ x.cols.length ≠ 1 then some ⟨x.slots, x.cols.eraseIdx stp.col.toNat⟩ else none) := rfl
 have e1 := Lib.hid (slots_each x.slots)
 have e2 := Lib.hid (cols_each x.cols)
 have f1 := Lib.hid (slotC_flat x)
 have f2 := Lib.hid (colC_flat x)
 have l1 : Hid ((x.slots.map Sl.cells).length = x.slots.length) := List.length_map ..
 have l2 : Hid ((x.cols.map encC).length = x.cols.length) := List.length_map ..
 unfold StepR VL VB Stp.cells
 generalize Sch.loseS x stp = F at *
 cases hcl : Sch.column x stp with
 | false =>
  rw [hcl] at hK hF
  unfold Vr.cells Stp.cells at hK
  clear hcl
  cases stp with
  | mk kd col slot order =>
  cases slot with
  | mk nm ty rq dv =>
  cases dv with
  | mk k n sv l =>
  dsimp only at ho ⊢
  generalize slotC x.slots = R1 at *
  generalize colC x.cols = R2 at *
  generalize x.slots.map Sl.cells = L1 at *
  generalize x.cols.map encC = L2 at *
  rw [Sl.cells_mk] at *
  dsimp only [List.cons_append, List.nil_append] at hK ⊢
  generalize x.slots.length = m1 at *
  generalize x.cols.length = m2 at *
  replace hK := Lib.hid hK
  refine Qin [4] Tryz.func187 Tryz.results187 Tryz.ntmps187 ?_
  repeat' (first | refine QX ?_ | (refine QB ?_; intro b) | (with_reducible refine QZ ?_ <;> (try constructor) <;> intro hb <;> try intro hb1) | ((with_reducible apply (ck_lend Tryz.call202)); (focus exact hK.out); (focus exact ⟨lendP q_m q_m q_m f1.out e1.out l1.out f2.out e2.out l2.out, Lend.refl _, trivial⟩)) | fail)
  all_goals ((refine retA_mk q_x q_y q_u (LE.of_eq ?_) (.inl ⟨?_, rfl, rfl⟩)); (focus simp (disch := omega) only [push_cast, simprocAttr, *]); (focus (rw [hF.out]; refine if_neg ?_; rintro ⟨h1, h2, h3⟩; (first | omega | exact Bool.noConfusion (h1.symm.trans (by assumption) : true = false) | exact Bool.noConfusion (h2.symm.trans (by assumption) : true = false) | exact Bool.noConfusion (h3.symm.trans (by assumption) : true = false) | (exact Bool.noConfusion (h1 : false = true))))))
 | true =>
  obtain ⟨hk1, hk2, hk3⟩ : 0 ≤ stp.col ∧ stp.col < x.cols.length ∧ stp.order.length = 0 := by
   unfold Sch.column at hcl
   simpa [and_assoc] using hcl
  obtain ⟨i, hi⟩ := Int.eq_ofNat_of_zero_le hk1
  have hlt : i < x.cols.length := by omega
  rw [hcl] at hK hF
  unfold Vr.cells Stp.cells at hK
  clear hcl hk1 hk2
  have hD := fun s => deleteF gc cC i x.cols zC hlt hz2 s
  have hcl2 := colC_len (x.cols.eraseIdx i)
  have hcl := colC_len x.cols
  have hel : (x.cols.eraseIdx i).length + 1 = x.cols.length := by rw [List.length_eraseIdx_of_lt hlt]; omega
  obtain ⟨x', hx'⟩ : ∃ x' : Vr, x' = ⟨x.slots, x.cols.eraseIdx stp.col.toNat⟩ := ⟨_, rfl⟩
  rw [← hx'] at hF
  rw [hi, Int.toNat_natCast] at hx'
  have s1 : Hid (x'.slots = x.slots) := Lib.hid (by rw [hx'])
  have s2 : Hid (x'.cols = x.cols.eraseIdx i) := Lib.hid (by rw [hx'])
  clear hx'
  generalize hE : x.cols.eraseIdx i = ec at *
  generalize Sch.bare stp.slot false false = q at *
  generalize hRE : colC ec = RE at *
  generalize hme : ec.length = me at *
  replace hE := Lib.hid hE
  replace hRE := Lib.hid hRE
  replace hme := Lib.hid hme
  replace hel := Lib.hid hel
  replace hcl2 := Lib.hid hcl2
  replace hcl := Lib.hid hcl
  cases stp with
  | mk kd col slot order =>
  cases slot with
  | mk nm ty rq dv =>
  cases dv with
  | mk k n sv l =>
  dsimp only at hB ho hi hF ⊢
  subst hi
  generalize hR1 : slotC x.slots = R1 at *
  generalize hR2 : colC x.cols = R2 at *
  generalize x.slots.map Sl.cells = L1 at *
  generalize x.cols.map encC = L2 at *
  rw [Sl.cells_mk] at *
  dsimp only [List.cons_append, List.nil_append] at hK ⊢
  generalize hm1 : x.slots.length = m1 at *
  generalize hm2 : x.cols.length = m2 at *
  replace hR1 := Lib.hid hR1
  replace hR2 := Lib.hid hR2
  replace hm1 := Lib.hid hm1
  replace hm2 := Lib.hid hm2
  replace hK := Lib.hid hK
  replace hB := Lib.hid hB
  replace hD := Lib.hid hD
  refine Qin [4] Tryz.func187 Tryz.results187 Tryz.ntmps187 ?_
  repeat' (first | refine QV ?_ | ((with_reducible refine w_draw [(bx, [.ar gs 0 m1 cS, .ar gc 0 m2 cC])] ?_ ?_ ?_ ?_ ?_); (iterate 3 (focus kernel_rfl)); (focus ((repeat (first | exact keep_nil | refine keep_more q_m ?_)); done))) | ((with_reducible refine And.intro ?_ ?_); (focus exact q_k)) | refine QY ?_ | (refine QB ?_; intro b) | (with_reducible refine QZ ?_ <;> (try constructor) <;> intro hb <;> try intro hb1) | ((with_reducible apply (ck_lend Tryz.call202)); (focus exact hK.out); (focus exact ⟨lendP q_m q_m q_m f1.out e1.out l1.out f2.out e2.out l2.out, Lend.refl _, trivial⟩)) | fail)
  all_goals first
   | ((refine retA_mk q_x q_y q_u (LE.of_eq ?_) (.inl ⟨?_, rfl, rfl⟩)); (focus simp (disch := omega) only [push_cast, simprocAttr, *]); (focus (rw [hF.out]; refine if_neg ?_; rintro ⟨h1, h2, h3⟩; (first | omega | exact Bool.noConfusion (h1.symm.trans (by assumption) : true = false) | exact Bool.noConfusion (h2.symm.trans (by assumption) : true = false) | exact Bool.noConfusion (h3.symm.trans (by assumption) : true = false) | (exact Bool.noConfusion (h1 : false = true))))))
   | ((refine retA_mk q_x q_y (List.Sublist.refl _) (LE.of_eq ?_) (.inr ⟨x', gs, cS, zS, gc, cC, D.i 0 :: zC, ?_, ⟨?_, ?_⟩, rfl, ?_⟩)); (focus simp (disch := omega) only [push_cast, simprocAttr, *]); (focus (rw [hF.out]; refine if_pos ⟨rfl, ?_, ?_⟩ <;> first | assumption | omega)); (focus (rw [s1.out, hR1.out]; exact hz1)); (focus (rw [s2.out, hRE.out]; have h1 := hel.out; have h2 := hcl2.out; have h3 := hcl.out; rw [List.length_append] at hz2 ⊢; rw [List.length_cons]; omega)); (focus (rw [s1.out, s2.out, hR1.out, hRE.out, hm1.out, hme.out])))
theorem modify_set {α : Type} {l : List α} {f : α → α} {i : Nat} {y : α} (h : l[i]? = some y) : l.modify i f = l.set i (f y) := by
 apply List.ext_getElem?
 intro j
 rw [List.getElem?_modify, List.getElem?_set]
 by_cases hj : i = j
 · subst hj
   obtain ⟨hlt, rfl⟩ := List.getElem?_eq_some_iff.1 h
   simp [hlt]
 · simp [hj]
theorem schRenameF (bx gs cS gc cC : Nat) (zS zC : List D) (x : Vr) (stp : Stp) (hx : VW x) (hs : stp.Ok) (hz : VL cS zS cC zC x) (s : St) : TrF Tryz.prog 188 [.ptr bx 0, .agg stp.cells] (VB bx gs cS zS gc cC zC x s) (StepR Sch.renameS x stp bx s) := by
 obtain ⟨ls, lc, hcs⟩ := hx
 obtain ⟨hn, hbg, ho⟩ := hs
 obtain ⟨hz1, hz2⟩ := hz
 have hK := schColumnF x stp [] q_o q_o
 have hB := schBareF stp.slot true false hbg
 have hN := valIsNameF stp.slot.name
 have hC := schColF x.slots x.cols stp.slot.name q_o q_o []
 have hF : Hid (Sch.renameS x stp = if Sch.column x stp = true ∧ Sch.bare stp.slot true false = true ∧ V.isName stp.slot.name.data.toList = true ∧ Sch.colL x.slots stp.slot.name x.cols < 0 then some ⟨x.slots.modify (Sch.at_ x stp) fun y => { y with name := stp.slot.name }, x.cols⟩ else none) := rfl
 have e1 := Lib.hid (slots_each x.slots)
 have e2 := Lib.hid (cols_each x.cols)
 have f1 := Lib.hid (slotC_flat x)
 have f2 := Lib.hid (colC_flat x)
 have l1 : Hid ((x.slots.map Sl.cells).length = x.slots.length) := List.length_map ..
 have l2 : Hid ((x.cols.map encC).length = x.cols.length) := List.length_map ..
 unfold StepR VL VB Stp.cells
 generalize Sch.renameS x stp = F at *
 cases hcl : Sch.column x stp with
 | false =>
  rw [hcl] at hK hF
  unfold Vr.cells Stp.cells at hK
  clear hcl
  cases stp with
  | mk kd col slot order =>
  cases slot with
  | mk nm ty rq dv =>
  cases dv with
  | mk k n sv l =>
  dsimp only at ho ⊢
  generalize slotC x.slots = R1 at *
  generalize colC x.cols = R2 at *
  generalize x.slots.map Sl.cells = L1 at *
  generalize x.cols.map encC = L2 at *
  rw [Sl.cells_mk] at *
  dsimp only [List.cons_append, List.nil_append] at hK ⊢
  generalize x.slots.length = m1 at *
  generalize x.cols.length = m2 at *
  replace hK := Lib.hid hK
  refine Qin [4] Tryz.func188 Tryz.results188 Tryz.ntmps188 ?_
  repeat' (first | refine QX ?_ | (refine QB ?_; intro b) | (with_reducible refine QZ ?_ <;> (try constructor) <;> intro hb <;> try intro hb1) | ((with_reducible apply (ck_lend Tryz.call202)); (focus exact hK.out); (focus exact ⟨lendP q_m q_m q_m f1.out e1.out l1.out f2.out e2.out l2.out, Lend.refl _, trivial⟩)) | fail)
  all_goals ((refine retA_mk q_x q_y q_u (LE.of_eq ?_) (.inl ⟨?_, rfl, rfl⟩)); (focus simp (disch := omega) only [push_cast, simprocAttr, *]); (focus (rw [hF.out]; refine if_neg ?_; rintro ⟨h1, h2, h3, h4⟩; (first | omega | exact Bool.noConfusion (h1.symm.trans (by assumption) : true = false) | exact Bool.noConfusion (h2.symm.trans (by assumption) : true = false) | exact Bool.noConfusion (h3.symm.trans (by assumption) : true = false) | exact Bool.noConfusion (h4.symm.trans (by assumption) : true = false) | (exact Bool.noConfusion (h1 : false = true))))))
 | true =>
  obtain ⟨hk1, hk2, hk3⟩ : 0 ≤ stp.col ∧ stp.col < x.cols.length ∧ stp.order.length = 0 := by
   unfold Sch.column at hcl
   simpa [and_assoc] using hcl
  obtain ⟨i, hi⟩ := Int.eq_ofNat_of_zero_le hk1
  have hlt : i < x.cols.length := by omega
  rw [hcl] at hK hF
  unfold Vr.cells Stp.cells at hK
  clear hcl hk1 hk2
  obtain ⟨c, hc⟩ := gEx hlt
  have hcm : c < x.slots.length := hcs c (List.mem_of_getElem? hc)
  obtain ⟨y, hy⟩ := gEx hcm
  have hat : Sch.at_ x stp = c := by
   unfold Sch.at_
   rw [hi, Int.toNat_natCast, List.getD_eq_getElem?_getD, hc]; rfl
  have hL2 : (x.cols.map encC)[i]? = some [D.i c] := by rw [List.getElem?_map, hc]; rfl
  have hL1 : (x.slots.map Sl.cells)[c]? = some y.cells := by rw [List.getElem?_map, hy]; rfl
  obtain ⟨t1, hld⟩ : ∃ tl, List.drop i (colC x.cols ++ zC) = D.i c :: tl := by
   obtain ⟨tl, h⟩ := row_drop (sz := 1) (o := 0) zC _ i (cols_each x.cols) hL2 q_o
   rw [Nat.mul_one, Nat.add_zero] at h
   exact ⟨tl, h⟩
  obtain ⟨x', hx'⟩ : ∃ x' : Vr, x' = ⟨x.slots.modify (Sch.at_ x stp) fun y => { y with name := stp.slot.name }, x.cols⟩ := ⟨_, rfl⟩
  rw [← hx'] at hF
  rw [hat, modify_set hy] at hx'
  have s1 : Hid (x'.slots = x.slots.set c { y with name := stp.slot.name }) := Lib.hid (by rw [hx'])
  have s2 : Hid (x'.cols = x.cols) := Lib.hid (by rw [hx'])
  have s3 : Hid ((x.slots.set c { y with name := stp.slot.name }).length = x.slots.length) := List.length_set
  have hsp : List.take (c * 7) (slotC x.slots ++ zS) ++ [D.str stp.slot.name] ++ List.drop (c * 7 + 1) (slotC x.slots ++ zS) = slotC (x.slots.set c { y with name := stp.slot.name }) ++ zS := by
   have h := row_splice (o := 0) (ds := [D.str stp.slot.name]) zS _ c (slots_each x.slots) hL1 (by simp)
   rw [show splice y.cells 0 [D.str stp.slot.name] = Sl.cells { y with name := stp.slot.name } from rfl, show (x.slots.map Sl.cells).set c (Sl.cells { y with name := stp.slot.name }) = (x.slots.set c { y with name := stp.slot.name }).map Sl.cells from (List.map_set ..).symm] at h
   exact h
  have hle : c * 7 + 1 ≤ cS * 7 := by
   have := slotC_len x.slots
   rw [List.length_append] at hz1
   omega
  have hl3 : (slotC (x.slots.set c { y with name := stp.slot.name }) ++ zS).length = cS * 7 := by
   rw [List.length_append] at hz1 ⊢
   rw [slotC_len, List.length_set, ← slotC_len]; exact hz1
  clear hx' hat hL1 hL2 hy hc
  generalize Sch.bare stp.slot true false = q at *
  generalize V.isName stp.slot.name.data.toList = qn at *
  generalize Sch.colL x.slots stp.slot.name x.cols = cv at *
  generalize hRE : slotC (x.slots.set c { y with name := stp.slot.name }) = RE at *
  replace hRE := Lib.hid hRE
  replace hl3 := Lib.hid hl3
  cases stp with
  | mk kd col slot order =>
  cases slot with
  | mk nm ty rq dv =>
  cases dv with
  | mk k n sv l =>
  dsimp only at hB hN hC ho hi hF ⊢
  subst hi
  generalize hR1 : slotC x.slots = R1 at *
  generalize hR2 : colC x.cols = R2 at *
  generalize x.slots.map Sl.cells = L1 at *
  generalize x.cols.map encC = L2 at *
  rw [Sl.cells_mk] at *
  dsimp only [List.cons_append, List.nil_append] at hK ⊢
  generalize hm1 : x.slots.length = m1 at *
  generalize hm2 : x.cols.length = m2 at *
  replace hR1 := Lib.hid hR1
  replace hR2 := Lib.hid hR2
  replace hm1 := Lib.hid hm1
  replace hm2 := Lib.hid hm2
  replace hK := Lib.hid hK
  replace hB := Lib.hid hB
  replace hN := Lib.hid hN
  replace hC := Lib.hid hC
  refine Qin [4] Tryz.func188 Tryz.results188 Tryz.ntmps188 ?_
  repeat' (first | refine QV ?_ | ((with_reducible refine w_draw_ne3 ?_ ?_ ?_ ?_); (iterate 3 (focus kernel_rfl)); intro hne1 hne2 hne3) | refine QY ?_ | (refine QB ?_; intro b) | (with_reducible refine QZ ?_ <;> (try constructor) <;> intro hb <;> try intro hb1) | ((with_reducible apply (ck_lend Tryz.call202)); (focus exact hK.out); (focus exact ⟨lendP q_m q_m q_m f1.out e1.out l1.out f2.out e2.out l2.out, Lend.refl _, trivial⟩)) | ((with_reducible apply (ck_lend Tryz.call184)); (focus exact hC.out); (focus exact ⟨Lend.agg ⟨Lend.rowE q_m f1.out (by decide) e1.out l1.out, Lend.rowE q_m f2.out (by decide) e2.out l2.out, trivial⟩, Lend.refl _, trivial⟩)) | fail)
  all_goals first
   | ((refine retA_mk q_x q_y q_u (LE.of_eq ?_) (.inl ⟨?_, rfl, rfl⟩)); (focus simp (disch := omega) only [push_cast, simprocAttr, *]); (focus (rw [hF.out]; refine if_neg ?_; rintro ⟨h1, h2, h3, h4⟩; (first | omega | exact Bool.noConfusion (h1.symm.trans (by assumption) : true = false) | exact Bool.noConfusion (h2.symm.trans (by assumption) : true = false) | exact Bool.noConfusion (h3.symm.trans (by assumption) : true = false) | exact Bool.noConfusion (h4.symm.trans (by assumption) : true = false) | (exact Bool.noConfusion (h1 : false = true))))))
   | ((refine retA_mk q_x q_y (List.Sublist.refl _) (LE.of_eq ?_) (.inr ⟨x', gs, cS, zS, gc, cC, zC, ?_, ⟨?_, ?_⟩, rfl, ?_⟩)); (focus simp (disch := omega) only [push_cast, simprocAttr, *]); (focus (rw [hF.out]; refine if_pos ⟨rfl, ?_, ?_, ?_⟩ <;> first | assumption | omega)); (focus (rw [s1.out, hRE.out]; exact hl3.out)); (focus (rw [s2.out, hR2.out]; exact hz2)); (focus (rw [s1.out, s2.out, s3.out, hRE.out, hR2.out, hm2.out])))
theorem schWidenF (bx gs cS gc cC : Nat) (zS zC : List D) (x : Vr) (stp : Stp) (hx : VW x) (hs : stp.Ok) (hz : VL cS zS cC zC x) (s : St) : TrF Tryz.prog 189 [.ptr bx 0, .agg stp.cells] (VB bx gs cS zS gc cC zC x s) (StepR Sch.widenS x stp bx s) := by
 obtain ⟨ls, lc, hcs⟩ := hx
 obtain ⟨hn, hbg, ho⟩ := hs
 obtain ⟨hz1, hz2⟩ := hz
 have hK := schColumnF x stp [] q_o q_o
 have hB := schBareF stp.slot false true hbg
 have hT := schTakesF stp.slot.types
 have hF : Hid (Sch.widenS x stp = if Sch.column x stp = true ∧ Sch.bare stp.slot false true = true ∧ Sch.takes stp.slot.types = true ∧ (x.slots[Sch.at_ x stp]?).any (fun y => bits .or .i64 y.types stp.slot.types != y.types) = true then some ⟨x.slots.modify (Sch.at_ x stp) fun y => { y with types := bits .or .i64 y.types stp.slot.types }, x.cols⟩ else none) := rfl
 have e1 := Lib.hid (slots_each x.slots)
 have e2 := Lib.hid (cols_each x.cols)
 have f1 := Lib.hid (slotC_flat x)
 have f2 := Lib.hid (colC_flat x)
 have l1 : Hid ((x.slots.map Sl.cells).length = x.slots.length) := List.length_map ..
 have l2 : Hid ((x.cols.map encC).length = x.cols.length) := List.length_map ..
 unfold StepR VL VB Stp.cells
 generalize Sch.widenS x stp = F at *
 cases hcl : Sch.column x stp with
 | false =>
  rw [hcl] at hK hF
  unfold Vr.cells Stp.cells at hK
  clear hcl
  cases stp with
  | mk kd col slot order =>
  cases slot with
  | mk nm ty rq dv =>
  cases dv with
  | mk k n sv l =>
  dsimp only at ho ⊢
  generalize slotC x.slots = R1 at *
  generalize colC x.cols = R2 at *
  generalize x.slots.map Sl.cells = L1 at *
  generalize x.cols.map encC = L2 at *
  rw [Sl.cells_mk] at *
  dsimp only [List.cons_append, List.nil_append] at hK ⊢
  generalize x.slots.length = m1 at *
  generalize x.cols.length = m2 at *
  replace hK := Lib.hid hK
  refine Qin [4] Tryz.func189 Tryz.results189 Tryz.ntmps189 ?_
  repeat' (first | refine QX ?_ | (refine QB ?_; intro b) | (with_reducible refine QZ ?_ <;> (try constructor) <;> intro hb <;> try intro hb1) | ((with_reducible apply (ck_lend Tryz.call202)); (focus exact hK.out); (focus exact ⟨lendP q_m q_m q_m f1.out e1.out l1.out f2.out e2.out l2.out, Lend.refl _, trivial⟩)) | fail)
  all_goals ((refine retA_mk q_x q_y q_u (LE.of_eq ?_) (.inl ⟨?_, rfl, rfl⟩)); (focus simp (disch := omega) only [push_cast, simprocAttr, *]); (focus (rw [hF.out]; refine if_neg ?_; rintro ⟨h1, h2, h3, h4⟩; (first | omega | exact Bool.noConfusion (h1.symm.trans (by assumption) : true = false) | exact Bool.noConfusion (h2.symm.trans (by assumption) : true = false) | exact Bool.noConfusion (h3.symm.trans (by assumption) : true = false) | exact Bool.noConfusion (h4.symm.trans (by assumption) : true = false) | (exact Bool.noConfusion (h1 : false = true))))))
 | true =>
  obtain ⟨hk1, hk2, hk3⟩ : 0 ≤ stp.col ∧ stp.col < x.cols.length ∧ stp.order.length = 0 := by
   unfold Sch.column at hcl
   simpa [and_assoc] using hcl
  obtain ⟨i, hi⟩ := Int.eq_ofNat_of_zero_le hk1
  have hlt : i < x.cols.length := by omega
  rw [hcl] at hK hF
  unfold Vr.cells Stp.cells at hK
  clear hcl hk1 hk2
  obtain ⟨c, hc⟩ := gEx hlt
  have hcm : c < x.slots.length := hcs c (List.mem_of_getElem? hc)
  obtain ⟨y, hy⟩ := gEx hcm
  have hat : Sch.at_ x stp = c := by
   unfold Sch.at_
   rw [hi, Int.toNat_natCast, List.getD_eq_getElem?_getD, hc]; rfl
  have hL2 : (x.cols.map encC)[i]? = some [D.i c] := by rw [List.getElem?_map, hc]; rfl
  have hL1 : (x.slots.map Sl.cells)[c]? = some y.cells := by rw [List.getElem?_map, hy]; rfl
  obtain ⟨t1, hld⟩ : ∃ tl, List.drop i (colC x.cols ++ zC) = D.i c :: tl := by
   obtain ⟨tl, h⟩ := row_drop (sz := 1) (o := 0) zC _ i (cols_each x.cols) hL2 q_o
   rw [Nat.mul_one, Nat.add_zero] at h
   exact ⟨tl, h⟩
  obtain ⟨w, hw⟩ : ∃ w, bits .or .i64 y.types stp.slot.types = w := ⟨_, rfl⟩
  obtain ⟨wb, hwb⟩ : ∃ wb, (w != y.types) = wb := ⟨_, rfl⟩
  obtain ⟨x', hx'⟩ : ∃ x' : Vr, x' = ⟨x.slots.modify (Sch.at_ x stp) fun y => { y with types := bits .or .i64 y.types stp.slot.types }, x.cols⟩ := ⟨_, rfl⟩
  rw [← hx'] at hF
  rw [hat, hy, Option.any_some, hw, hwb] at hF
  rw [hat, modify_set hy] at hx'
  rw [hw] at hx'
  have s1 : Hid (x'.slots = x.slots.set c { y with types := w }) := Lib.hid (by rw [hx'])
  have s2 : Hid (x'.cols = x.cols) := Lib.hid (by rw [hx'])
  have s3 : Hid ((x.slots.set c { y with types := w }).length = x.slots.length) := List.length_set
  have hsp : List.take (c * 7 + 1) (slotC x.slots ++ zS) ++ [D.i w] ++ List.drop (c * 7 + 1 + 1) (slotC x.slots ++ zS) = slotC (x.slots.set c { y with types := w }) ++ zS := by
   have h := row_splice (o := 1) (ds := [D.i w]) zS _ c (slots_each x.slots) hL1 (by simp)
   rw [show splice y.cells 1 [D.i w] = Sl.cells { y with types := w } from rfl, show (x.slots.map Sl.cells).set c (Sl.cells { y with types := w }) = (x.slots.set c { y with types := w }).map Sl.cells from (List.map_set ..).symm] at h
   exact h
  obtain ⟨t2, hld2⟩ : ∃ tl, List.drop (c * 7 + 1) (slotC x.slots ++ zS) = D.i y.types :: tl := by
   obtain ⟨tl, h⟩ := row_drop (sz := 7) (o := 1) zS _ c (slots_each x.slots) hL1 q_o
   exact ⟨_, h⟩
  obtain ⟨t3, hld3⟩ : ∃ tl, List.drop (c * 7 + 1) (slotC (x.slots.set c { y with types := w }) ++ zS) = D.i w :: tl := by
   obtain ⟨tl, h⟩ := row_drop (sz := 7) (o := 1) (e := Sl.cells { y with types := w }) zS _ c (slots_each (x.slots.set c { y with types := w })) (by rw [List.getElem?_map, List.getElem?_set_self hcm]; rfl) q_o
   exact ⟨_, h⟩
  have hle : c * 7 + 1 + 1 ≤ cS * 7 := by
   have := slotC_len x.slots
   rw [List.length_append] at hz1
   omega
  have hl3 : (slotC (x.slots.set c { y with types := w }) ++ zS).length = cS * 7 := by
   rw [List.length_append] at hz1 ⊢
   rw [slotC_len, List.length_set, ← slotC_len]; exact hz1
  clear hx' hat hL1 hL2 hy hc
  generalize Sch.bare stp.slot false true = q at *
  generalize Sch.takes stp.slot.types = qt at *
  generalize hRE : slotC (x.slots.set c { y with types := w }) = RE at *
  replace hRE := Lib.hid hRE
  replace hl3 := Lib.hid hl3
  generalize y.types = yt at *
  cases stp with
  | mk kd col slot order =>
  cases slot with
  | mk nm ty rq dv =>
  cases dv with
  | mk k n sv l =>
  dsimp only at hB hT ho hi hF ⊢
  subst hi
  generalize hR1 : slotC x.slots = R1 at *
  generalize hR2 : colC x.cols = R2 at *
  generalize x.slots.map Sl.cells = L1 at *
  generalize x.cols.map encC = L2 at *
  rw [Sl.cells_mk] at *
  dsimp only [List.cons_append, List.nil_append] at hK ⊢
  generalize hm1 : x.slots.length = m1 at *
  generalize hm2 : x.cols.length = m2 at *
  replace hR1 := Lib.hid hR1
  replace hR2 := Lib.hid hR2
  replace hm1 := Lib.hid hm1
  replace hm2 := Lib.hid hm2
  replace hK := Lib.hid hK
  replace hB := Lib.hid hB
  replace hT := Lib.hid hT
  cases wb
  all_goals skip
  all_goals (
   refine Qin [4] Tryz.func189 Tryz.results189 Tryz.ntmps189 ?_
   repeat' (first | refine QV ?_ | ((with_reducible refine w_draw_ne3 ?_ ?_ ?_ ?_); (iterate 3 (focus kernel_rfl)); intro hne1 hne2 hne3) | refine QY ?_ | (refine QB ?_; intro b) | (with_reducible refine QZ ?_ <;> (try constructor) <;> intro hb <;> try intro hb1) | ((with_reducible apply (ck_lend Tryz.call202)); (focus exact hK.out); (focus exact ⟨lendP q_m q_m q_m f1.out e1.out l1.out f2.out e2.out l2.out, Lend.refl _, trivial⟩)) | fail)
   all_goals first
    | ((refine retA_mk q_x q_y q_u (LE.of_eq ?_) (.inl ⟨?_, rfl, rfl⟩)); (focus simp (disch := omega) only [push_cast, simprocAttr, *]); (focus (rw [hF.out]; refine if_neg ?_; rintro ⟨h1, h2, h3, h4⟩; (first | omega | exact Bool.noConfusion (h1.symm.trans (by assumption) : true = false) | exact Bool.noConfusion (h2.symm.trans (by assumption) : true = false) | exact Bool.noConfusion (h3.symm.trans (by assumption) : true = false) | exact Bool.noConfusion (h4.symm.trans (by assumption) : true = false) | (exact Bool.noConfusion (h1 : false = true))))))
    | ((refine retA_mk q_x q_y q_u (LE.of_eq ?_) (.inl ⟨?_, rfl, rfl⟩)); (focus (simp (disch := omega) only [push_cast, simprocAttr, *]; done)); (focus (rw [hF.out]; refine if_neg ?_; rintro ⟨h1, h2, h3, h4⟩; exact Bool.noConfusion h4)))
    | ((refine retA_mk q_x q_y (List.Sublist.refl _) (LE.of_eq ?_) (.inr ⟨x', gs, cS, zS, gc, cC, zC, ?_, ⟨?_, ?_⟩, rfl, ?_⟩)); (focus simp (disch := omega) only [push_cast, simprocAttr, *]); (focus (rw [hF.out]; refine if_pos ⟨rfl, ?_, ?_, ?_⟩ <;> first | assumption | omega | rfl)); (focus (rw [s1.out, hRE.out]; exact hl3.out)); (focus (rw [s2.out, hR2.out]; exact hz2)); (focus (rw [s1.out, s2.out, s3.out, hRE.out, hR2.out, hm2.out]))))
theorem retA_perm {ts : List Tmp} {R : D → St → Prop} {ex : Exit} {A : AA} {X : D} {st st0 s2 : St} (hex : ex = .normal ∨ ex = .ret) (hdf : A.df = []) (hp : st.Perm s2) (hs : st0.Sublist s2) (hd : LE (resD ts A.e) X) (hR : R X st0) : retA ts R ex A st := by
 rcases hex with rfl | rfl <;> exact ⟨[], X, s2, st0, hdf, hp, hs, hd, hR⟩
theorem reo_drop {cols : List Nat} {order : List Int} {j : Nat} {k : Int} {out : List Nat} (h : order[j]? = some k) : Sch.reo cols (order.drop j) out = if 0 ≤ k ∧ k < cols.length ∧ cols.getD k.toNat 0 ∉ out then Sch.reo cols (order.drop (j + 1)) (out ++ [cols.getD k.toNat 0]) else none := by
 obtain ⟨h1, rfl⟩ := List.getElem?_eq_some_iff.1 h
 rw [List.drop_eq_getElem_cons h1, Sch.reo]
theorem schReorderF (bx gs cS gc cC : Nat) (zS zC : List D) (x : Vr) (stp : Stp) (hx : VW x) (hc1 : 1 ≤ x.cols.length) (hs : stp.Ok) (hz : VL cS zS cC zC x) (s : St) : TrF Tryz.prog 190 [.ptr bx 0, .agg stp.cells] (VB bx gs cS zS gc cC zC x s) (StepR Sch.reorderS x stp bx s) := by
 obtain ⟨ls, lc, hcs⟩ := hx
 obtain ⟨hn, hbg, ho⟩ := hs
 obtain ⟨hz1, hz2⟩ := hz
 have hB := schBareF stp.slot false false hbg
 have e2 := Lib.hid (cols_each x.cols)
 have f2 := Lib.hid (colC_flat x)
 have l2 : Hid ((x.cols.map encC).length = x.cols.length) := List.length_map ..
 have hF : Hid (Sch.reorderS x stp = if stp.col = 0 ∧ Sch.bare stp.slot false false = true ∧ stp.order.length = x.cols.length then (Sch.reo x.cols stp.order []).map fun c => ⟨x.slots, c⟩ else none) := rfl
 by_cases hno : ¬ (stp.col = 0 ∧ Sch.bare stp.slot false false = true ∧ stp.order.length = x.cols.length)
 · have hF2 : Hid (Sch.reorderS x stp = none) := Lib.hid (by rw [hF.out, if_neg hno])
   unfold StepR VL VB Stp.cells
   generalize Sch.reorderS x stp = F at *
   clear hF
   cases stp with
   | mk kd col slot order =>
   cases slot with
   | mk nm ty rq dv =>
   cases dv with
   | mk k n sv l =>
   dsimp only at hB ho hno ⊢
   generalize Sch.bare _ false false = q at *
   generalize slotC x.slots = R1 at *
   generalize colC x.cols = R2 at *
   rw [Sl.cells_mk] at *
   dsimp only [List.cons_append, List.nil_append] at ⊢
   generalize x.slots.length = m1 at *
   generalize x.cols.length = m2 at *
   replace hB := Lib.hid hB
   have hno' : col ≠ 0 ∨ (col = 0 ∧ q = false) ∨ (col = 0 ∧ q = true ∧ (order.length : Int) ≠ m2) := by
    by_cases h1 : col = 0
    · cases q
      · exact .inr (.inl ⟨h1, rfl⟩)
      · refine .inr (.inr ⟨h1, rfl, fun h => hno ⟨h1, rfl, by omega⟩⟩)
    · exact .inl h1
   clear hno
   rcases hno' with h0 | ⟨rfl, rfl⟩ | ⟨rfl, rfl, h0⟩
   all_goals skip
   all_goals (
    refine Qin [4] Tryz.func190 Tryz.results190 Tryz.ntmps190 ?_
    repeat' (first | refine QV ?_ | ((with_reducible refine w_draw [(bx, [.ar gs 0 m1 cS, .ar gc 0 m2 cC])] ?_ ?_ ?_ ?_ ?_); (iterate 3 (focus kernel_rfl)); (focus ((repeat (first | exact keep_nil | refine keep_more q_m ?_)); done))) | ((with_reducible refine And.intro ?_ ?_); (focus exact q_k)) | refine QY ?_ | (refine QB ?_; intro b) | (with_reducible refine QZ ?_ <;> (try constructor) <;> intro hb <;> try intro hb1) | fail)
    all_goals ((refine retA_mk q_x q_y q_u (LE.of_eq ?_) (.inl ⟨hF2.out, rfl, rfl⟩)); simp (disch := omega) only [push_cast, simprocAttr, *]))
 have hyes := Decidable.of_not_not hno
 obtain ⟨h1, h2, h3⟩ := hyes
 have hF2 : Hid (Sch.reorderS x stp = (Sch.reo x.cols stp.order []).map fun c => ⟨x.slots, c⟩) := Lib.hid (by rw [hF.out, if_pos ⟨h1, h2, h3⟩])
 clear hF hno
 rw [h2] at hB
 clear h2
 have hcl := colC_len x.cols
 have hle2 : x.cols.length ≤ cC := by rw [List.length_append] at hz2; omega
 have hcell : Hid (∀ (i c : Nat), x.cols[i]? = some c → ∃ tl, List.drop i (colC x.cols ++ zC) = D.i c :: tl) := fun i c hc => by
  have hL2 : (x.cols.map encC)[i]? = some [D.i c] := by rw [List.getElem?_map, hc]; rfl
  obtain ⟨tl, h⟩ := row_drop (sz := 1) (o := 0) zC _ i (cols_each x.cols) hL2 q_o
  rw [Nat.mul_one, Nat.add_zero] at h
  exact ⟨tl, h⟩
 unfold StepR VL VB Stp.cells
 generalize Sch.reorderS x stp = F at *
 cases stp with
 | mk kd col slot order =>
 cases slot with
 | mk nm ty rq dv =>
 cases dv with
 | mk k n sv l =>
 dsimp only at hB ho h1 h3 hF2 ⊢
 subst h1
 rw [Sl.cells_mk] at *
 dsimp only [List.cons_append, List.nil_append] at ⊢
 obtain ⟨R1, hR1⟩ : ∃ R1, slotC x.slots = R1 := ⟨_, rfl⟩
 obtain ⟨R2, hR2⟩ : ∃ R2, colC x.cols = R2 := ⟨_, rfl⟩
 obtain ⟨m1, hm1⟩ : ∃ m1, x.slots.length = m1 := ⟨_, rfl⟩
 obtain ⟨m2, hm2⟩ : ∃ m2, x.cols.length = m2 := ⟨_, rfl⟩
 simp only [hR1, hR2, hm1, hm2] at hz1 hz2 hcl hle2 h3 hc1 hcell lc ls ⊢
 replace hR1 := Lib.hid hR1
 replace hR2 := Lib.hid hR2
 replace hm1 := Lib.hid hm1
 replace hm2 := Lib.hid hm2
 replace hB := Lib.hid hB
 obtain ⟨B, hBr⟩ : ∃ B, Sch.reo x.cols order [] = B := ⟨_, rfl⟩
 have HB : Hid (Sch.reo x.cols (order.drop 0) [] = B) := hBr
 rw [hBr] at hF2
 clear hBr
 refine Qin [4] Tryz.func190 Tryz.results190 Tryz.ntmps190 ?_
 repeat' (first | refine QV ?_ | ((with_reducible refine w_draw [(bx, [.ar gs 0 m1 cS, .ar gc 0 m2 cC])] ?_ ?_ ?_ ?_ ?_); (iterate 3 (focus kernel_rfl)); (focus ((repeat (first | exact keep_nil | refine keep_more q_m ?_)); done))) | ((with_reducible refine And.intro ?_ ?_); (focus exact q_k)) | refine QY ?_ | (refine QB ?_; intro b) | (with_reducible refine QZ ?_ <;> (try constructor) <;> intro hb <;> try intro hb1) | fail)
 refine tr_loopd (ι := Nat) (fun j A st' => j ≤ order.length ∧ A.df = [] ∧ A.e 0 = .ptr bx 0 ∧ A.e 29 = .sl .shared (order.map encI) ∧ A.e 30 = .i order.length ∧ A.e 31 = .i j ∧ ∃ out : List Nat, out.length = j ∧ Hid (Sch.reo x.cols (order.drop j) out = B) ∧ ((j = 0 ∧ A.e 5 = .sl .tight [] ∧ st' = .box bx 146 [.ar gs 0 m1 cS, .ar gc 0 m2 cC] :: .box gs 184 (R1 ++ zS) :: .box gc 3 (R2 ++ zC) :: s) ∨
  (0 < j ∧ ∃ go co zo, A.e 5 = .ar go 0 j co ∧ (colC out ++ zo).length = co * 1 ∧ st' = .box go 3 (colC out ++ zo) :: .box bx 146 [.ar gs 0 m1 cS, .ar gc 0 m2 cC] :: .box gs 184 (R1 ++ zS) :: .box gc 3 (R2 ++ zC) :: s))) (fun j => order.length - j) 0 ⟨Nat.zero_le _, Qf, Qf, Qf, Qf, Qf, [], rfl, HB, .inl ⟨rfl, Qf, rfl⟩⟩ ?_
 rintro j A st' ⟨hj, hdf, e0, e29, e30, e31, out, hol, HT, hcase⟩
 clear HB
 by_cases hlt : j < order.length
 · obtain ⟨k, hk⟩ := gEx hlt
   have HE := HT.out
   rw [reo_drop hk, hm2.out] at HE
   clear HT
   by_cases hkr : 0 ≤ k ∧ k < (m2 : Int)
   · obtain ⟨hk0, hk1⟩ := hkr
     obtain ⟨kn, rfl⟩ := Int.eq_ofNat_of_zero_le hk0
     obtain ⟨c, hc⟩ : ∃ c, x.cols[kn]? = some c := ⟨_, List.getElem?_eq_getElem (by rw [hm2.out]; omega)⟩
     obtain ⟨t1, hld⟩ := hcell.out kn c hc
     have hgd : x.cols.getD kn 0 = c := by rw [List.getD_eq_getElem?_getD, hc]; rfl
     rw [Int.toNat_natCast, hgd] at HE
     have hCt := containsF .shared out c []
     have f3 : Hid ((out.map encC).flatten = colC out) := rfl
     have e3 := Lib.hid (cols_each out)
     have l3 : Hid ((out.map encC).length = j) := Lib.hid (by rw [List.length_map, hol])
     have g3 := Lib.hid (colC_add out c)
     have hro : (colC out).length = j * 1 := by rw [colC_len, hol]
     clear hgd hc
     by_cases hmem : c ∈ out
     · rw [if_neg (fun h => h.2.2 hmem)] at HE
       replace HE := Lib.hid HE
       rw [decide_eq_true hmem] at hCt
       replace hCt := Lib.hid hCt
       rcases hcase with ⟨rfl, e5, rfl⟩ | ⟨hj0, go, co, zo, e5, hlo, rfl⟩
       · rw [List.eq_nil_of_length_eq_zero hol] at hmem; cases hmem
       · generalize colC out = Ro at *
         generalize out.map encC = Lo at *
         repeat' (first | refine QX ?_ | (refine QB ?_; intro b) | (with_reducible refine QZ ?_ <;> (try constructor) <;> intro hb <;> try intro hb1) | ((with_reducible apply (ck_lend Tryz.call205)); (focus exact hCt.out); (focus exact ⟨Lend.rowE q_m f3.out (by decide) e3.out l3.out, Lend.refl _, trivial⟩)) | fail)
         all_goals ((refine retA_mk q_x q_y q_u (LE.of_eq ?_) (.inl ⟨by rw [hF2.out, ← HE.out]; rfl, rfl, rfl⟩)); simp (disch := omega) only [push_cast, simprocAttr, *])
     · rw [if_pos ⟨hk0, hk1, hmem⟩] at HE
       replace HE := Lib.hid HE
       rw [decide_eq_false hmem] at hCt
       replace hCt := Lib.hid hCt
       rcases hcase with ⟨rfl, e5, rfl⟩ | ⟨hj0, go, co, zo, e5, hlo, rfl⟩
       · have hno := List.eq_nil_of_length_eq_zero hol
         subst hno
         rw [List.map_nil] at hCt
         repeat' (first | refine QV ?_ | with_reducible refine s_appN ?_ | with_reducible refine rn_go ?_ | ((with_reducible apply rn2_go); (focus exact q_n); (focus exact len_one rfl); (focus exact q_n); (focus exact q_n); intro go' co' zo' hco hlo') | refine QY ?_ | (refine QB ?_; intro b) | (with_reducible refine QZ ?_ <;> (try constructor) <;> intro hb <;> try intro hb1) | ((with_reducible apply (ck_lend Tryz.call205)); (focus exact hCt.out); (focus exact ⟨Lend.sl _ _, Lend.refl _, trivial⟩)) | fail)
         refine ⟨1, .box go' 3 ([[.i c]].flatten ++ zo') :: .box bx 146 [.ar gs 0 m1 cS, .ar gc 0 m2 cC] :: .box gs 184 (R1 ++ zS) :: .box gc 3 (R2 ++ zC) :: s, q_u, ⟨hlt, ?_, ?_, ?_, ?_, ?_, [c], rfl, HE, .inr ⟨Nat.zero_lt_one, go', co', zo', ?_, ?_, ?_⟩⟩, ?_⟩
         · exact Qf
         · exact Qf
         · exact Qf
         · exact Qf
         · exact Qf
         · exact Qf
         · exact hlo'
         · rfl
         · omega
       · generalize colC out = Ro at *
         generalize out.map encC = Lo at *
         repeat' (first | refine QV ?_ | with_reducible refine s_appR ?_ | with_reducible refine rk_go ?_ | ((with_reducible apply (r2_go hro hlo)); (focus (intro g' cs'; repeat (first | exact ra_h | apply ra_t))); (focus exact len_one rfl); (focus exact q_n); (focus exact q_n); intro go' co' zo' hco hlo') | refine QY ?_ | (refine QB ?_; intro b) | (with_reducible refine QZ ?_ <;> (try constructor) <;> intro hb <;> try intro hb1) | ((with_reducible apply (ck_lend Tryz.call205)); (focus exact hCt.out); (focus exact ⟨Lend.rowE q_m f3.out (by decide) e3.out l3.out, Lend.refl _, trivial⟩)) | fail)
         refine ⟨j + 1, .box go' 3 (Ro ++ [[.i c]].flatten ++ zo') :: .box bx 146 [.ar gs 0 m1 cS, .ar gc 0 m2 cC] :: .box gs 184 (R1 ++ zS) :: .box gc 3 (R2 ++ zC) :: s, q_u, ⟨hlt, ?_, ?_, ?_, ?_, ?_, out ++ [c], by rw [List.length_append, hol]; rfl, HE, .inr ⟨Nat.succ_pos _, go', co', zo', ?_, ?_, ?_⟩⟩, ?_⟩
         · exact Qf
         · exact Qf
         · exact Qf
         · exact Qf
         · exact Qf
         · exact Qf
         · rw [g3.out]; exact hlo'
         · rw [g3.out]
         · omega
   · rw [if_neg (fun h => hkr ⟨h.1, h.2.1⟩)] at HE
     replace HE := Lib.hid HE
     have hkr' : k < 0 ∨ (0 ≤ k ∧ (m2 : Int) ≤ k) := by omega
     clear hkr
     rcases hkr' with hk0 | ⟨hk0, hk1⟩ <;> rcases hcase with ⟨rfl, e5, rfl⟩ | ⟨hj0, go, co, zo, e5, hlo, rfl⟩
     all_goals skip
     all_goals (
      repeat' (first | refine QX ?_ | (refine QB ?_; intro b) | (with_reducible refine QZ ?_ <;> (try constructor) <;> intro hb <;> try intro hb1) | fail)
      all_goals ((refine retA_mk q_x q_y q_u (LE.of_eq ?_) (.inl ⟨by rw [hF2.out, ← HE.out]; rfl, rfl, rfl⟩)); simp (disch := omega) only [push_cast, simprocAttr, *]))
 · have HE := HT.out
   rw [List.drop_of_length_le q_o, Sch.reo] at HE
   have hjm : j = m2 := by omega
   subst hjm
   rcases hcase with ⟨rfl, e5, rfl⟩ | ⟨hj0, go, co, zo, e5, hlo, rfl⟩
   · omega
   · have hco : Hid (colC out = colC out) := rfl
     generalize hRo : colC out = Ro at *
     replace hRo := Lib.hid hRo
     replace HE := Lib.hid HE
     clear HT
     repeat' (first | refine QX ?_ | (refine QB ?_; intro b) | (with_reducible refine QZ ?_ <;> (try constructor) <;> intro hb <;> try intro hb1) | fail)
     all_goals ((refine retA_perm (s2 := .box bx 146 [.ar gs 0 m1 cS, .ar go 0 j co] :: .box gs 184 (R1 ++ zS) :: .box go 3 (Ro ++ zo) :: .box gc 3 (R2 ++ zC) :: s) (st0 := .box bx 146 [.ar gs 0 m1 cS, .ar go 0 j co] :: .box gs 184 (R1 ++ zS) :: .box go 3 (Ro ++ zo) :: s) q_x q_y ?_ (((List.sublist_cons_self _ _).cons₂ _).cons₂ _ |>.cons₂ _) (LE.of_eq ?_) (.inr ⟨⟨x.slots, out⟩, gs, cS, zS, go, co, zo, ?_, ⟨?_, ?_⟩, rfl, ?_⟩)); (focus exact (List.Perm.swap _ _ _).trans (.cons _ (.swap _ _ _))); (focus simp (disch := omega) only [push_cast, simprocAttr, *]); (focus (rw [hF2.out, ← HE.out]; rfl)); (focus (rw [hR1.out]; exact hz1)); (focus (rw [hRo.out]; exact hlo)); (focus (rw [hR1.out, hRo.out, hm1.out, hol])))
theorem schCopiedF (gs cS gc cC : Nat) (zS zC : List D) (x : Vr) (h1 : x.slots ≠ []) (h2 : x.cols ≠ []) (hx : VW x) (st : St) (m1 : Res.box gs 184 (slotC x.slots ++ zS) ∈ st) (m2 : Res.box gc 3 (colC x.cols ++ zC) ∈ st) : TrF Tryz.prog 158 [.agg [.ar gs 0 x.slots.length cS, .ar gc 0 x.cols.length cC]] st fun d st' => d = .agg x.cells ∧ st' = st := by
 have hA := Lib.hid fun b cs => cloneSF gs cS x.slots zS h1 (by have := hx.ls; omega) (.box b 146 cs :: st) (List.mem_cons_of_mem _ m1)
 have hB := Lib.hid fun b cs => cloneIF gc cC x.cols zC h2 (by have := hx.lc; omega) (.box b 146 cs :: st) (List.mem_cons_of_mem _ m2)
 unfold Vr.cells
 refine QinC 2 146 Tryz.func158 Tryz.ntmps158 ?_
 repeat' (first | refine QX ?_ | (refine QB ?_; intro b) | (with_reducible refine QZ ?_ <;> (try constructor) <;> intro hb <;> try intro hb1) | refine Qc Tryz.call185 (hA.out _ _) ?_ | refine Qc Tryz.call89 (hB.out _ _) ?_ | fail)
 all_goals exact QretC
theorem schDoersF (st : St) : TrF Tryz.prog 159 [] st fun d st' => d = .agg [.s .nilFunc, .fn (.func 186) [] [], .fn (.func 187) [] [], .fn (.func 188) [] [], .fn (.func 189) [] [], .fn (.func 190) [] []] ∧ st' = st := by
 refine trF_enterC (G := cellA 0 232 Tryz.prog) Tryz.func159 rfl (by rw [Tryz.ntmps159]; exact Nat.le_of_ble_eq_true rfl) (fun h1 h2 h3 => res_cell rfl h1 h2 h3) ?_
 simp only [Tryz.ntmps159]
 repeat' (first | refine QX ?_ | (refine QB ?_; intro b) | (with_reducible refine QZ ?_ <;> (try constructor) <;> intro hb <;> try intro hb1) | fail)
 all_goals exact QretC
end
section
section
variable {P : Program} {f : FuncId} {args : List D} {st : St} {R : D → St → Prop} {w : World} {A : AA}
def oneA (P : Program) (r : ResultVar) (A : AA) (st : St) (d : D) : Prop :=
 match r with
 | .tmp t => A.e t = d
 | .cell t T => cellA t T P A st d
def twoA (P : Program) (r1 r2 : ResultVar) (A : AA) (st : St) (d : D) : Prop := ∃ d1 d2, d = .tup [d1, d2] ∧ oneA P r1 A st d1 ∧ oneA P r2 A st d2
def readOne (tmps : Array Value) : ResultVar → Sem Value
 | .tmp t => pure (tmps.getD t undef)
 | .cell a t => do loadVar t (← asAddr (tmps.getD a undef))
theorem res_one {r : ResultVar} {a : Act} {N : Nat} {d : D} (h1 : RelA N (OwnS st) w a A) (h2 : Holds st w) (h3 : oneA P r A st d) : ∃ v, (readOne a.tmps r).run P w = .ok v w ∧ Rep (OwnS st) w v d := by
 cases r with
 | tmp t =>
  have : A.e t = d := h3
  exact ⟨_, rfl, this ▸ h1.2.2 t⟩
 | cell t T =>
  obtain ⟨b, off, ty, cs, ti, k1, k2, k3, k4⟩ := h3
  have hp := h1.2.2 t
  rw [k1] at hp
  have hv : a.tmps.getD t undef = .pointer (some ⟨b, off, none⟩) := by
   generalize a.tmps.getD t undef = v at hp
   cases hp; rfl
  obtain ⟨v, q1, q2⟩ := run_loadBox h2 k2 k3 k4
  refine ⟨v, ?_, q2⟩
  have q3 : (loadVar T ⟨b, off, none⟩).run P w = .ok v w := by
   simpa [Instr.loadAt, Instr.sureAddr] using q1
  show ((do loadVar T (← asAddr (a.tmps.getD t undef))) : Sem Value).run P w = _
  rw [hv]
  simp [asAddr, q3]
theorem res_two {fn : Func} {r1 r2 : ResultVar} (hr : fn.results = #[r1, r2]) {a : Act} {N : Nat} {d : D} (h1 : RelA N (OwnS st) w a A) (h2 : Holds st w) (h3 : twoA P r1 r2 A st d) : ∃ v, (results fn a.tmps).run P w = .ok v w ∧ Rep (OwnS st) w v d := by
 obtain ⟨d1, d2, rfl, k1, k2⟩ := h3
 obtain ⟨v1, q1, p1⟩ := res_one h1 h2 k1
 obtain ⟨v2, q2, p2⟩ := res_one h1 h2 k2
 refine ⟨.tuple #[v1, v2], ?_, ?_⟩
 · have hm : results fn a.tmps = (do
    let vs ← fn.results.mapM (readOne a.tmps)
    pure (if h : vs.size = 1 then vs[0] else .tuple vs)) := by
    unfold results
    congr 2
   rw [hm, hr]
   simp only [Array.mapM_eq_mapM_toList, List.mapM_cons, List.mapM_nil, Sem.run_bind, q1, q2, Result.andThen_ok, Sem.run_pure, map_eq_pure_bind]
   rfl
 · exact .tup [v1, v2] [d1, d2] rfl (RepL.cons p1 (RepL.cons p2 .nil)).2
def retG (G : AA → St → D → Prop) (R : D → St → Prop) : Exit → AA → St → Prop
 | .normal, A, st | .ret, A, st => ∃ (rs : List Nat) (d0 d : D) (s2 st' : St), A.df = rs.map mark ∧ st.Perm (rs.map markR ++ s2) ∧ G A s2 d0 ∧ st'.Sublist s2 ∧ LE d0 d ∧ R d st'
 | _, _, _ => False
theorem leaves_marksG {fn : Func} {tmps : Array Value} {Rw : Ending → World → Prop} : ∀ (rs : List Nat) (w : World), rs.Nodup → (∀ r ∈ rs, w.heap[r]? = some (.deferred (some []))) →
 (∀ w', w'.os = w.os → w'.tape = w.tape → w'.output = w.output → w'.drawn = w.drawn → w'.heap.size = w.heap.size → (∀ b, b ∉ rs → w'.heap[b]? = w.heap[b]?) → ∃ v, (results fn tmps).run P w' = .ok v w' ∧ Rw (.returned v) w') → LeavesInM Fence.wide 0 P fn tmps Rw (rs.map mark) .returning w
 | [], w, _, _, hw => by
  obtain ⟨v, h1, h2⟩ := hw w rfl rfl rfl rfl rfl fun _ _ => rfl
  show LeavesIn Fence.wide 0 P fn tmps Rw [] .returning w
  exact ⟨v, h1, h2⟩
 | r :: rs, w, hn, hb, hw => by
  have hr := hb r (List.mem_cons_self ..)
  have hlt := (Array.getElem?_eq_some_iff.1 hr).1
  refine ⟨(by intro h; cases h), .inl ⟨r, _, rfl, run_takeDeferred hr, leaves_marksG rs _ (List.nodup_cons.1 hn).2 (fun x hx => ?_) fun w' h1 h2 h3 h0 h4 h5 => ?_⟩⟩
  · rw [World.putObj_heap_other (by intro e; subst e; exact (List.nodup_cons.1 hn).1 hx)]
    exact hb x (List.mem_cons_of_mem _ hx)
  · refine hw w' h1 h2 h3 h0 (by rw [h4]; simp) fun b hb => ?_
    rw [h5 b fun h => hb (List.mem_cons_of_mem _ h)]
    exact World.putObj_heap_other fun e => hb (e ▸ List.mem_cons_self ..)
theorem trF_enterG {fn : Func} {c : Code} {G : AA → St → D → Prop} (hf : P.funcs[f]? = some fn) (hb : fn.body = some c) (hn : args.length ≤ fn.ntmps) (hres : ∀ {a A w st d}, RelA fn.ntmps (OwnS st) w a A → Holds st w → G A st d → ∃ v, (results fn a.tmps).run P w = .ok v w ∧ Rep (OwnS st) w v d)
 (h : Tr P fn.ntmps none c ⟨initE args, []⟩ st (retG G R)) : TrF P f args st R := by
 intro vs w hv hw
 refine (callsIn_wide (n := 0)).1 (callsIn_of_wp_marks hf hb trivial ?_ rfl)
 have hvl : vs.size = args.length := by rw [← Array.length_toList]; exact hv.1
 have hrel : RelA fn.ntmps (OwnS st) w { tmps := vs ++ Array.replicate (fn.ntmps - vs.size) undef, defers := [] } ⟨initE args, []⟩ := by
  refine ⟨by simp [hvl]; omega, rfl, fun t => ?_⟩
  show Rep _ _ _ (args.getD t D.un)
  simp only [Array.getD_eq_getD_getElem?, List.getD_eq_getElem?_getD]
  rcases Nat.lt_or_ge t args.length with ht | ht
  · have h1 : t < vs.toList.length := by simp; omega
    have := hv.2 t h1 ht
    rw [Array.getElem?_append_left q_o, List.getElem?_eq_getElem ht, Array.getElem?_eq_getElem q_o]
    simpa using this
  · rw [Array.getElem?_append_right q_o, List.getElem?_eq_none ht]
    simp only [Option.getD_none]
    by_cases h2 : t - vs.size < fn.ntmps - vs.size
    · rw [Array.getElem?_replicate, if_pos h2]
      exact .s undef rfl
    · rw [Array.getElem?_replicate, if_neg h2]
      exact .s undef rfl
 refine wpIn_mono (h _ w hrel hw) fun ex a' w' ⟨A', st', k1, k2, k3, k4⟩ => ?_
 have main : (∃ (rs : List Nat) (d0 d : D) (s2 st'' : St), A'.df = rs.map mark ∧ st'.Perm (rs.map markR ++ s2) ∧ G A' s2 d0 ∧ st''.Sublist s2 ∧ LE d0 d ∧ R d st'') → LeavesInM (FR none) 0 P fn a'.tmps (fun e w' => ∃ v, e = .returned v ∧ PostV st w R v w') a'.defers .returning w' := by
  rintro ⟨rs, d0, d, s2, st'', q1, q2, qg, qs, q3, q4⟩
  rw [k1.2.1, q1]
  have hh := k2.perm q2
  have hnd : rs.Nodup := by
   have := List.Pairwise.sublist (List.sublist_append_left _ _) hh.1
   rw [List.pairwise_map] at this
   exact this.imp fun {a b} hab e => hab a rfl (by rw [e]; rfl)
  have hblk : ∀ r ∈ rs, w'.heap[r]? = some (.deferred (some [])) := fun r hr => hh.2 (markR r) (List.mem_append_left _ (List.mem_map_of_mem hr))
  refine leaves_marksG rs w' hnd hblk fun w'' e1 e2 e3 e0 e4 e5 => ?_
  have hown : ∀ b off, OwnS s2 b off → OwnS st' b off := fun b off ⟨x, hx, ho⟩ => ⟨x, q2.mem_iff.2 (List.mem_append_right _ hx), ho⟩
  have hmk : ∀ r ∈ rs, ∀ off, OwnS st' r off := fun r hr off => ⟨markR r, q2.mem_iff.2 (List.mem_append_left _ (List.mem_map_of_mem hr)), rfl, Nat.zero_le _⟩
  have he : Ext (OwnS st') w' (OwnS s2) w'' := by
   refine ⟨Nat.le_of_eq e0.symm, e1, e2, e3, by omega, fun b off _ ho => hown b off ho, fun b hb hno => e5 b fun hr => hno 0 (hmk b hr 0), fun b c E fr hc => ⟨c, fr, ?_, rfl, fun _ _ => rfl⟩⟩
   rw [e5 b fun hr => by rw [hblk b hr] at hc; cases hc]
   exact hc
  have hh2 : Holds s2 w'' := by
   refine ⟨(List.pairwise_append.1 hh.1).2.1, fun x hx => (k2.2 x (q2.mem_iff.2 (List.mem_append_right _ hx))).ext he fun b hb => e5 b fun hr => ?_⟩
   exact (List.pairwise_append.1 hh.1).2.2 (markR b) (List.mem_map_of_mem hr) x hx b rfl hb
  obtain ⟨v, r1, r2⟩ := hres (a := a') (A := A') ⟨k1.1, k1.2.1, fun t => (k1.2.2 t).ext he⟩ hh2 qg
  have hd := Ext.drop (st := s2) (st' := st'') (fun _ h => qs.subset h) w''
  exact ⟨v, r1, v, rfl, d, st'', q3 _ _ _ (r2.ext hd), hh2.sub qs, (k3.trans he).trans hd, q4⟩
 cases ex with
 | normal => exact main k4
 | ret => exact main k4
 | exit id => exact k4.elim
 | goto l => exact k4.elim
 | panic c => exact k4.elim
 | outgrown => exact k4.elim
theorem cell_mk {t : Tmp} {T : TypeId} {ti : TI} {b off : Nat} {ty : TypeId} {cs : List D} {d : D} (hp : A.e t = .ptr b off) (hm : Res.box b ty cs ∈ st) (ht : tinfo P T = some ti) (hd : readD ti (cs.drop off) = some d) : cellA t T P A st d := ⟨b, off, ty, cs, ti, hp, hm, ht, hd⟩
theorem retG_mk {G : AA → St → D → Prop} {ex : Exit} {A : AA} {d X : D} {st st0 s2 : St} {rs : List Nat} (hex : ex = .normal ∨ ex = .ret) (hdf : A.df = rs.map mark) (hp : st.Perm (rs.map markR ++ s2)) (hG : G A s2 d) (hs : st0.Sublist s2) (hl : LE d X) (hR : R X st0) : retG G R ex A st := by
 rcases hex with rfl | rfl <;> exact ⟨rs, d, X, s2, st0, hdf, hp, hG, hs, hl, hR⟩
end
end
section
attribute [local push_cast] encB encI encC V.cells_mk V.cells_len Nat.mul_one Int.sub_zero List.map_nil beq_self_eq_true List.head?_cons
def FirstR (t : Tm) (st : St) (d : D) (st' : St) : Prop :=
 (Sch.firstV t = none ∧ (d = .tup [.agg [.sl .tight [], .sl .tight []], .b false] ∨ ∃ gs n cS gc m cC, d = .tup [.agg [.ar gs 0 n cS, .ar gc 0 m cC], .b false]) ∧ st' = st) ∨
  ∃ x gs cS zS gc cC zC, Sch.firstV t = some x ∧ VL cS zS cC zC x ∧ d = .tup [.agg [.ar gs 0 x.slots.length cS, .ar gc 0 x.cols.length cC], .b true] ∧ st' = .box gs 184 (slotC x.slots ++ zS) :: .box gc 3 (colC x.cols ++ zC) :: st
theorem firstL_drop {slots : List Sl} {i : Nat} {s : Sl} {x : Vr} (h : slots[i]? = some s) : Sch.firstL (slots.drop i) x = if Sch.sound s = true ∧ Sch.col x s.name < 0 then Sch.firstL (slots.drop (i + 1)) ⟨x.slots ++ [s], x.cols ++ [x.slots.length]⟩ else none := by
 obtain ⟨h1, rfl⟩ := List.getElem?_eq_some_iff.1 h
 rw [List.drop_eq_getElem_cons h1, Sch.firstL]
theorem schFirstF (t : Tm) (hs : ∀ s ∈ t.slots, s.dv.nodes ≤ 1000) (hl : t.slots.length ≤ 1000) (ht : t.steps.length ≤ 1000) (st : St) : TrF Tryz.prog 157 [.agg t.cells] st (FirstR t st) := by
 have hN := Lib.hid (valIsNameF t.name)
 have hF : Hid (Sch.firstV t = if V.isName t.name.data.toList = true ∧ 1 ≤ t.slots.length ∧ t.slots.length ≤ 8 ∧ t.steps.length ≤ 8 then Sch.firstL t.slots ⟨[], []⟩ else none) := rfl
 unfold FirstR VL
 generalize Sch.firstV t = F at *
 cases t with
 | mk nm slots steps =>
 unfold Tm.cells
 dsimp only at hN hF hs hl ht ⊢
 generalize V.isName nm.data.toList = qn at *
 generalize hTS : steps.map Stp.cells = TS at *
 have hTSl : TS.length = steps.length := by rw [← hTS, List.length_map]
 generalize steps.length = ms at *
 clear hTS
 refine trF_enterG (G := twoA Tryz.prog (.cell 2 146) (.tmp 3)) Tryz.func157 rfl (by rw [Tryz.ntmps157]; exact Nat.le_of_ble_eq_true rfl) (fun h1 h2 h3 => res_two rfl h1 h2 h3) ?_
 simp only [Tryz.ntmps157]
 by_cases hc : qn = true ∧ 1 ≤ slots.length ∧ slots.length ≤ 8 ∧ ms ≤ 8
 case neg =>
  have hF2 : Hid (F = none) := Lib.hid (by rw [hF.out, if_neg hc])
  have hno : qn = false ∨ (qn = true ∧ (slots.length : Int) < 1) ∨ (qn = true ∧ 1 ≤ (slots.length : Int) ∧ 8 < (slots.length : Int)) ∨ (qn = true ∧ 1 ≤ (slots.length : Int) ∧ (slots.length : Int) ≤ 8 ∧ 8 < (ms : Int)) := by
   cases qn
   · exact .inl rfl
   · refine .inr ?_
     by_cases h1 : 1 ≤ slots.length
     · by_cases h2 : slots.length ≤ 8
       · by_cases h3 : ms ≤ 8
         · exact absurd ⟨rfl, h1, h2, h3⟩ hc
         · exact .inr (.inr ⟨rfl, by omega, by omega, by omega⟩)
       · exact .inr (.inl ⟨rfl, by omega, by omega⟩)
     · exact .inl ⟨rfl, by omega⟩
  clear hc hF
  rcases hno with rfl | ⟨rfl, h1⟩ | ⟨rfl, h1, h2⟩ | ⟨rfl, h1, h2, h3⟩
  all_goals skip
  all_goals (
   repeat' (first | refine QX ?_ | (refine QB ?_; intro b) | (with_reducible refine QZ ?_ <;> (try constructor) <;> intro hb <;> try intro hb1) | fail)
   all_goals ((refine retG_mk (rs := []) q_x q_y (List.Perm.refl _) ⟨_, _, rfl, cell_mk q_s q_m q_s q_v, q_w⟩ q_u (LE.refl _) (.inl ⟨hF2.out, (by first | exact .inl rfl | exact .inr ⟨_, _, _, _, _, _, rfl⟩), rfl⟩))))
 case pos =>
  have hF2 : Hid (F = Sch.firstL slots ⟨[], []⟩) := Lib.hid (by rw [hF.out, if_pos hc])
  obtain ⟨rfl, h1, h2, h3⟩ := hc
  clear hF
  obtain ⟨B, hB⟩ : ∃ B, Sch.firstL slots ⟨[], []⟩ = B := ⟨_, rfl⟩
  have HB : Hid (Sch.firstL (slots.drop 0) ⟨[], []⟩ = B) := hB
  rw [hB] at hF2
  clear hB
  have hsN := Lib.hid hs
  clear hs
  repeat' (first | refine QX ?_ | (refine QB ?_; intro b) | (with_reducible refine QZ ?_ <;> (try constructor) <;> intro hb <;> try intro hb1) | fail)
  rename_i b2 _ _
  revert b
  intro b4
  refine tr_loopd (ι := Nat) (fun i A st' => i ≤ slots.length ∧ A.df = [] ∧ A.e 2 = .ptr b2 0 ∧ A.e 4 = .ptr b4 0 ∧ A.e 32 = .sl .shared (slots.map Sl.cells) ∧ A.e 33 = .i slots.length ∧ A.e 34 = .i i ∧ ∃ x : Vr, x.slots.length = i ∧ x.cols.length = i ∧ Hid (Sch.firstL (slots.drop i) x = B) ∧
   ((i = 0 ∧ x = ⟨[], []⟩ ∧ st' = .box b4 146 [.sl .tight [], .sl .tight []] :: .box b2 146 [.sl .tight [], .sl .tight []] :: st) ∨ (0 < i ∧ ∃ gs cS zS gc cC zC, (slotC x.slots ++ zS).length = cS * 7 ∧ (colC x.cols ++ zC).length = cC * 1 ∧ st' = .box gc 3 (colC x.cols ++ zC) :: .box gs 184 (slotC x.slots ++ zS) :: .box b4 146 [.ar gs 0 i cS, .ar gc 0 i cC] :: .box b2 146 [.sl .tight [], .sl .tight []] :: st))) (fun i => slots.length - i) 0 ⟨Nat.zero_le _, Qf, Qf, Qf, Qf, Qf, Qf, ⟨[], []⟩, rfl, rfl, HB, .inl ⟨rfl, rfl, rfl⟩⟩ ?_
  rintro i A st' ⟨hi, hdf, e2, e4, e32, e33, e34, x, hxs, hxc, HT, hcase⟩
  clear HB
  by_cases hlt : i < slots.length
  · obtain ⟨sl, hsl⟩ := gEx hlt
    have HE := HT.out
    rw [firstL_drop hsl] at HE
    clear HT
    have hn := hsN.out sl (List.mem_of_getElem? hsl)
    have hS := schSoundF sl q_o
    have hC := schColF x.slots x.cols sl.name q_o q_o []
    have hcl : (slots.map Sl.cells)[i]? = some sl.cells := by rw [List.getElem?_map, hsl]; rfl
    have hml : (slots.map Sl.cells).length = slots.length := List.length_map ..
    clear hsl
    unfold Sch.col at HE
    have g1 := Lib.hid (slotC_add x.slots sl)
    have g2 := Lib.hid (colC_add x.cols x.slots.length)
    have hF3 : Hid (F = B) := hF2
    cases sl with
    | mk snm sty srq sdv =>
    cases sdv with
    | mk sk sn ss sL =>
    rw [Sl.cells_mk] at hS hcl g1
    dsimp only at hS hC HE hn g1
    generalize Sch.sound _ = q at *
    rcases hcase with ⟨rfl, hx0, rfl⟩ | ⟨hi0, gs, cS, zS, gc, cC, zC, hz1, hz2, rfl⟩
    · have hl1 : x.slots = [] := List.eq_nil_of_length_eq_zero hxs
      have hl2 : x.cols = [] := List.eq_nil_of_length_eq_zero hxc
      rw [hl1, hl2, List.map_nil, List.map_nil] at hC
      rw [hl1, hl2] at HE
      rw [Sch.colL] at hC HE
      generalize slots.map Sl.cells = SL at *
      replace hS := Lib.hid hS
      replace hC := Lib.hid hC
      replace hcl := hcl
      cases q with
      | false =>
       rw [if_neg (fun h => Bool.noConfusion h.1)] at HE
       have hF4 : Hid (F = none) := Lib.hid (hF3.out.trans HE.symm)
       clear HE
       repeat' (first | refine QX ?_ | (refine QB ?_; intro b) | (with_reducible refine QZ ?_ <;> (try constructor) <;> intro hb <;> try intro hb1) | ((with_reducible apply (ck_lend Tryz.call184)); (focus exact hC.out); (focus exact ⟨Lend.agg ⟨Lend.sl _ _, Lend.sl _ _, trivial⟩, Lend.refl _, trivial⟩)) | fail)
       all_goals ((refine retG_mk (rs := []) q_x q_y (List.Perm.refl _) ⟨_, _, rfl, cell_mk q_s q_m q_s q_v, q_w⟩ q_u (LE.refl _) (.inl ⟨hF4.out, (by first | exact .inl rfl | exact .inr ⟨_, _, _, _, _, _, rfl⟩), rfl⟩)))
      | true =>
       rw [if_pos ⟨rfl, by decide⟩] at HE
       replace HE := Lib.hid HE
       repeat' (first | refine QV ?_ | ((with_reducible apply (w_drawQ [(b4, [.sl .tight [], .sl .tight []]), (b, [.str snm, .i sty, .b srq, .i sk, .i sn, .str ss, .sl .shared (sL.map V.cells)])] 9)); (iterate 4 (focus kernel_rfl)); (focus (simp only [List.take_succ_cons, List.take_zero]; exact rfl)); (focus (simp only [List.drop_succ_cons, List.drop_zero]; exact rfl)); (focus exact q_k); intro hne; simp only [nes, ne1, and_assoc] at hne; repeat (have hq := hne.1; replace hne := hne.2)) | ((with_reducible refine Exists.intro [] ?_); (with_reducible refine And.intro ?_ ?_); (focus exact q_k)) | ((with_reducible refine And.intro ?_ ?_); (focus exact q_k)) | with_reducible refine s_appN ?_ | with_reducible refine rn_go ?_ | ((with_reducible apply rn2_go); (focus exact q_n); (focus exact len_one rfl); (focus exact q_n); (focus exact q_n); intro g' c' z' hc' hl') | refine QY ?_ | (refine QB ?_; intro b) | (with_reducible refine QZ ?_ <;> (try constructor) <;> intro hb <;> try intro hb1) | ((with_reducible apply (ck_lend Tryz.call184)); (focus exact hC.out); (focus exact ⟨Lend.agg ⟨Lend.sl _ _, Lend.sl _ _, trivial⟩, Lend.refl _, trivial⟩)) | fail)
       rename_i gs' cS' zS' hcs' hls'
       refine ⟨1, .box g' 3 ([[D.i 0]].flatten ++ z') :: .box gs' 184 ([[.str snm, .i sty, .b srq, .i sk, .i sn, .str ss, .sl .shared (sL.map V.cells)]].flatten ++ zS') :: .box b4 146 [.ar gs' 0 1 cS', .ar g' 0 1 c'] :: .box b2 146 [.sl .tight [], .sl .tight []] :: st, ?_, ⟨hlt, ?_, ?_, ?_, ?_, ?_, ?_, ⟨[] ++ [.mk snm sty srq (.mk sk sn ss sL)], [] ++ [([] : List Sl).length]⟩, rfl, rfl, HE, .inr ⟨Nat.zero_lt_one, gs', cS', zS', g', c', z', ?_, ?_, ?_⟩⟩, ?_⟩
       · (repeat (first | exact List.Sublist.refl _ | with_reducible apply List.Sublist.cons_cons | apply List.Sublist.cons))
       iterate 6 (focus exact Qf)
       · rw [show slotC ([] ++ [Sl.mk snm sty srq (.mk sk sn ss sL)]) = [(Sl.mk snm sty srq (.mk sk sn ss sL)).cells].flatten from rfl, Sl.cells_mk]
         exact hls'
       · exact hl'
       · rw [show slotC ([] ++ [Sl.mk snm sty srq (.mk sk sn ss sL)]) = [(Sl.mk snm sty srq (.mk sk sn ss sL)).cells].flatten from rfl, Sl.cells_mk]
         rfl
       · omega
    · have hr1 := slotC_len x.slots
      have hr2 := colC_len x.cols
      have e1 := Lib.hid (slots_each x.slots)
      have e2 := Lib.hid (cols_each x.cols)
      have f1 := Lib.hid (slotC_flat x)
      have f2 := Lib.hid (colC_flat x)
      have l1 : Hid ((x.slots.map Sl.cells).length = i) := Lib.hid (by rw [List.length_map, hxs])
      have l2 : Hid ((x.cols.map encC).length = i) := Lib.hid (by rw [List.length_map, hxc])
      rw [hxs] at hr1 HE g2
      rw [hxc] at hr2
      generalize Sch.colL x.slots snm x.cols = cv at *
      obtain ⟨S1, hS1⟩ : ∃ S1, slotC x.slots = S1 := ⟨_, rfl⟩
      obtain ⟨C1, hC1⟩ : ∃ C1, colC x.cols = C1 := ⟨_, rfl⟩
      rw [hS1] at hz1 hr1 f1 g1
      rw [hC1] at hz2 hr2 f2 g2
      rw [hS1, hC1]
      clear hS1 hC1
      generalize x.slots.map Sl.cells = L1 at *
      generalize x.cols.map encC = L2 at *
      generalize slots.map Sl.cells = SL at *
      replace hS := Lib.hid hS
      replace hC := Lib.hid hC
      by_cases hqc : q = true ∧ cv < 0
      · obtain ⟨rfl, hcv⟩ := hqc
        rw [if_pos ⟨rfl, hcv⟩] at HE
        replace HE := Lib.hid HE
        replace hxs := Lib.hid hxs
        replace hxc := Lib.hid hxc
        repeat' (first | refine QV ?_ | ((with_reducible apply (w_drawQ [(b4, [.ar gs 0 i cS, .ar gc 0 i cC]), (b, [.str snm, .i sty, .b srq, .i sk, .i sn, .str ss, .sl .shared (sL.map V.cells)])] 9)); (iterate 4 (focus kernel_rfl)); (focus (simp only [List.take_succ_cons, List.take_zero]; exact rfl)); (focus (simp only [List.drop_succ_cons, List.drop_zero]; exact rfl)); (focus exact q_k); intro hne; simp only [nes, ne1, and_assoc] at hne; repeat (have hq := hne.1; replace hne := hne.2)) | ((with_reducible refine Exists.intro [] ?_); (with_reducible refine And.intro ?_ ?_); (focus exact q_k)) | ((with_reducible refine And.intro ?_ ?_); (focus exact q_k)) | with_reducible refine s_appR ?_ | with_reducible refine rk_go ?_ | ((with_reducible apply (r2_go hr1 hz1)); (focus (intro g' cs'; repeat (first | exact ra_h | apply ra_t))); (focus exact len_one rfl); (focus exact q_n); (focus exact q_n); intro gs' cS' zS' hcs hls) | ((with_reducible apply (r2_go hr2 hz2)); (focus (intro g' cs'; repeat (first | exact ra_h | apply ra_t))); (focus exact len_one rfl); (focus exact q_n); (focus exact q_n); intro gc' cC' zC' hcc hlc) | refine QY ?_ | (refine QB ?_; intro b) | (with_reducible refine QZ ?_ <;> (try constructor) <;> intro hb <;> try intro hb1) | ((with_reducible apply (ck_lend Tryz.call184)); (focus exact hC.out); (focus exact ⟨Lend.agg ⟨Lend.rowE q_m f1.out (by decide) e1.out l1.out, Lend.rowE q_m f2.out (by decide) e2.out l2.out, trivial⟩, Lend.refl _, trivial⟩)) | fail)
        refine ⟨i + 1, .box gc' 3 (C1 ++ [[D.i i]].flatten ++ zC') :: .box gs' 184 (S1 ++ [[.str snm, .i sty, .b srq, .i sk, .i sn, .str ss, .sl .shared (sL.map V.cells)]].flatten ++ zS') :: .box b4 146 [.ar gs' 0 (i + 1) cS', .ar gc' 0 (i + 1) cC'] :: .box b2 146 [.sl .tight [], .sl .tight []] :: st, ?_, ⟨hlt, ?_, ?_, ?_, ?_, ?_, ?_, ⟨x.slots ++ [.mk snm sty srq (.mk sk sn ss sL)], x.cols ++ [i]⟩, ?_, ?_, HE, .inr ⟨Nat.succ_pos _, gs', cS', zS', gc', cC', zC', ?_, ?_, ?_⟩⟩, ?_⟩
        · (repeat (first | exact List.Sublist.refl _ | with_reducible apply List.Sublist.cons_cons | apply List.Sublist.cons))
        iterate 6 (focus exact Qf)
        · rw [List.length_append, hxs.out]; rfl
        · rw [List.length_append, hxc.out]; rfl
        · rw [g1.out]; exact hls
        · rw [g2.out]; exact hlc
        · rw [g1.out, g2.out]
        · omega
      · rw [if_neg hqc] at HE
        have hF4 : Hid (F = none) := Lib.hid (hF3.out.trans HE.symm)
        clear HE
        have hno : q = false ∨ (q = true ∧ 0 ≤ cv) := by
         cases q
         · exact .inl rfl
         · exact .inr ⟨rfl, by
            have : ¬ cv < 0 := fun h => hqc ⟨rfl, h⟩
            omega⟩
        clear hqc
        rcases hno with rfl | ⟨rfl, hcv⟩
        all_goals skip
        all_goals (
         repeat' (first | refine QX ?_ | (refine QB ?_; intro b) | (with_reducible refine QZ ?_ <;> (try constructor) <;> intro hb <;> try intro hb1) | ((with_reducible apply (ck_lend Tryz.call184)); (focus exact hC.out); (focus exact ⟨Lend.agg ⟨Lend.rowE q_m f1.out (by decide) e1.out l1.out, Lend.rowE q_m f2.out (by decide) e2.out l2.out, trivial⟩, Lend.refl _, trivial⟩)) | fail)
         all_goals ((refine retG_mk (rs := []) q_x q_y (List.Perm.refl _) ⟨_, _, rfl, cell_mk q_s q_m q_s q_v, q_w⟩ q_u (LE.refl _) (.inl ⟨hF4.out, (by first | exact .inl rfl | exact .inr ⟨_, _, _, _, _, _, rfl⟩), rfl⟩))))
  · have HE := HT.out
    rw [List.drop_of_length_le q_o, Sch.firstL] at HE
    clear HT
    have hil : Hid (i = slots.length) := Lib.hid q_o
    rcases hcase with ⟨rfl, hx0, rfl⟩ | ⟨hi0, gs, cS, zS, gc, cC, zC, hz1, hz2, rfl⟩
    · have := hil.out
      omega
    · obtain ⟨S1, hS1⟩ : ∃ S1, slotC x.slots = S1 := ⟨_, rfl⟩
      obtain ⟨C1, hC1⟩ : ∃ C1, colC x.cols = C1 := ⟨_, rfl⟩
      rw [hS1, hC1]
      generalize slots.map Sl.cells = SL at *
      replace hS1 := Lib.hid hS1
      replace hC1 := Lib.hid hC1
      replace HE := Lib.hid HE
      replace hxs := Lib.hid hxs
      replace hxc := Lib.hid hxc
      repeat' (first | refine QX ?_ | (refine QB ?_; intro b) | (with_reducible refine QZ ?_ <;> (try constructor) <;> intro hb <;> try intro hb1) | fail)
      replace HE := HE.out
      replace hxs := hxs.out
      replace hxc := hxc.out
      all_goals ((refine retG_mk (rs := []) (s2 := .box gs 184 (S1 ++ zS) :: .box gc 3 (C1 ++ zC) :: .box b4 146 [.ar gs 0 i cS, .ar gc 0 i cC] :: .box b2 146 [.ar gs 0 i cS, .ar gc 0 i cC] :: st) (st0 := .box gs 184 (S1 ++ zS) :: .box gc 3 (C1 ++ zC) :: st) q_x q_y (.swap _ _ _) ⟨_, _, rfl, cell_mk q_s q_m q_s q_v, q_w⟩ (((List.Sublist.refl _).cons _).cons _ |>.cons_cons _ |>.cons_cons _) (LE.refl _) (.inr ⟨x, gs, cS, zS, gc, cC, zC, by rw [hF2.out, ← HE], ⟨?_, ?_⟩, by rw [hxs, hxc], ?_⟩)); (focus exact hz1); (focus exact hz2); (focus (rw [hS1.out, hC1.out])))
end
structure TOk (t : Tm) : Prop where
 ls : t.slots.length ≤ 1000
 lt : t.steps.length ≤ 1000
 os : ∀ s ∈ t.slots, s.dv.nodes ≤ 1000
 ot : ∀ s ∈ t.steps, s.Ok
namespace Sch
structure VI (n : Nat) (x : Vr) : Prop where
 ls : x.slots.length ≤ n
 lp : 1 ≤ x.slots.length
 cp : 1 ≤ x.cols.length
 lc : x.cols.length ≤ 8
 cs : ∀ c ∈ x.cols, c < x.slots.length
theorem VI.vw {n : Nat} {x : Vr} (h : VI n x) (hn : n ≤ 1000) : VW x := ⟨by have := h.ls; omega, h.lc, h.cs⟩
theorem VI.mono {n m : Nat} {x : Vr} (h : VI n x) (hn : n ≤ m) : VI m x := ⟨by have := h.ls; omega, h.lp, h.cp, h.lc, h.cs⟩
theorem reo_sub {cols : List Nat} : ∀ (l : List Int) (out r : List Nat), reo cols l out = some r → (∀ c ∈ out, c ∈ cols) → (∀ c ∈ r, c ∈ cols) ∧ r.length = out.length + l.length
 | [], out, r, h, ho => by cases h; exact ⟨ho, rfl⟩
 | k :: l, out, r, h, ho => by
  rw [reo] at h
  split at h
  · rename_i hk
    have hc : cols.getD k.toNat 0 ∈ cols := by
     have : k.toNat < cols.length := by omega
     rw [List.getD_eq_getElem?_getD, List.getElem?_eq_getElem this]
     exact List.getElem_mem this
    obtain ⟨h1, h2⟩ := reo_sub l _ r h (by
     intro c hc'
     rcases List.mem_append.1 hc' with h | h
     · exact ho c h
     · rw [List.mem_singleton] at h
       subst h; exact hc)
    refine ⟨h1, ?_⟩
    rw [h2, List.length_append, List.length_cons, List.length_cons, List.length_nil]; omega
  · cases h
theorem step_vi {n : Nat} {x y : Vr} {s : Stp} (hx : VI n x) (h : stepV x s = some y) : VI (n + 1) y := by
 obtain ⟨h1, h2, h3, h4, h5⟩ := hx
 unfold stepV at h
 split at h
 · unfold addS at h
   split at h
   · rename_i hc
     cases h
     refine ⟨by simp; omega, by simp, by simp, by simp; omega, fun c hc' => ?_⟩
     rcases List.mem_append.1 hc' with h | h
     · have := h5 c h; simp; omega
     · rw [List.mem_singleton] at h
       subst h; simp
   · cases h
 · split at h
   · unfold loseS at h
     split at h
     · rename_i hc
       cases h
       have hi : s.col.toNat < x.cols.length := by
        have := hc.1
        unfold column at this
        simp at this; omega
       refine ⟨by simp; omega, by simp; omega, ?_, ?_, fun c hc' => h5 c (List.mem_of_mem_eraseIdx hc')⟩
       · show 1 ≤ (x.cols.eraseIdx _).length
         rw [List.length_eraseIdx_of_lt hi]; omega
       · show (x.cols.eraseIdx _).length ≤ 8
         rw [List.length_eraseIdx_of_lt hi]; omega
     · cases h
   · split at h
     · unfold renameS at h
       split at h
       · cases h
         exact ⟨by simp; omega, by simp; omega, h3, h4, fun c hc' => by have := h5 c hc'; simpa using this⟩
       · cases h
     · split at h
       · unfold widenS at h
         split at h
         · cases h
           exact ⟨by simp; omega, by simp; omega, h3, h4, fun c hc' => by have := h5 c hc'; simpa using this⟩
         · cases h
       · split at h
         · unfold reorderS at h
           split at h
           · rename_i hc
             cases hr : reo x.cols s.order [] with
             | none => rw [hr] at h; cases h
             | some r =>
              rw [hr] at h
              cases h
              obtain ⟨k1, k2⟩ := reo_sub _ _ _ hr (fun c h => by cases h)
              have hl : r.length = x.cols.length := by rw [k2]; simp; omega
              exact ⟨by show x.slots.length ≤ _; omega, h2, by show 1 ≤ r.length; omega, by show r.length ≤ 8; omega, fun c hc' => h5 c (k1 c hc')⟩
           · cases h
         · cases h
theorem firstL_vi : ∀ (l : List Sl) (x y : Vr), (∀ c ∈ x.cols, c < x.slots.length) → x.cols.length = x.slots.length → firstL l x = some y → (∀ c ∈ y.cols, c < y.slots.length) ∧ y.cols.length = y.slots.length ∧ y.slots = x.slots ++ l
 | [], x, y, h1, h2, h => by cases h; exact ⟨h1, h2, (List.append_nil _).symm⟩
 | s :: l, x, y, h1, h2, h => by
  rw [firstL] at h
  split at h
  · obtain ⟨k1, k2, k3⟩ := firstL_vi l _ y (fun c hc => by
     rcases List.mem_append.1 hc with h | h
     · have := h1 c h; simp; omega
     · rw [List.mem_singleton] at h
       subst h; simp) (by simp; omega) h
    refine ⟨k1, k2, ?_⟩
    rw [k3, List.append_assoc]; rfl
  · cases h
theorem first_vi {t : Tm} {x : Vr} (h : firstV t = some x) : VI 8 x ∧ x.slots = t.slots ∧ t.steps.length ≤ 8 := by
 unfold firstV at h
 split at h
 · rename_i hc
   obtain ⟨k1, k2, k3⟩ := firstL_vi _ _ _ (fun c h => by cases h) rfl h
   rw [List.nil_append] at k3
   have hl : x.slots.length = t.slots.length := by rw [k3]
   exact ⟨⟨by omega, by omega, by omega, by omega, k1⟩, k3, hc.2.2.2⟩
 · cases h
theorem versL_drop {x : Vr} {l : List Stp} {i : Nat} {s : Stp} (h : l[i]? = some s) : versL x (l.drop i) = match stepV x s with
 | none => []
 | some y => y :: versL y (l.drop (i + 1)) := by
 obtain ⟨h1, rfl⟩ := List.getElem?_eq_some_iff.1 h
 rw [List.drop_eq_getElem_cons h1, versL]
 all_goals (cases stepV x l[i] <;> rfl)
theorem versL_vi : ∀ (l : List Stp) (n : Nat) (x : Vr), VI n x → ∀ y ∈ versL x l, VI (n + l.length) y
 | [], _, _, _, y, hy => by cases hy
 | s :: l, n, x, hx, y, hy => by
  rw [versL] at hy
  cases hs : stepV x s with
  | none => rw [hs] at hy; cases hy
  | some z =>
   rw [hs] at hy
   have hz := step_vi hx hs
   rcases List.mem_cons.1 hy with rfl | hy
   · exact hz.mono (by rw [List.length_cons]; omega)
   · exact (versL_vi l _ z hz y hy).mono (by rw [List.length_cons]; omega)
theorem versL_len : ∀ (l : List Stp) (x : Vr), (versL x l).length ≤ l.length
 | [], _ => Nat.le_refl _
 | s :: l, x => by
  rw [versL]
  split
  · exact Nat.zero_le _
  · rename_i y hy
    have := versL_len l y
    rw [List.length_cons, List.length_cons]; omega
theorem vers_vi {t : Tm} {y : Vr} (h : y ∈ vers t) : VI 16 y := by
 unfold vers at h
 split at h
 · cases h
 · rename_i x hx
   obtain ⟨k1, -, k2⟩ := first_vi hx
   rcases List.mem_cons.1 h with rfl | h
   · exact k1.mono q_o
   · exact (versL_vi _ _ _ k1 y h).mono q_o
theorem vers_len (t : Tm) : (vers t).length ≤ t.steps.length + 1 ∧ (vers t).length ≤ 9 := by
 unfold vers
 split
 · exact ⟨Nat.zero_le _, Nat.zero_le _⟩
 · rename_i x hx
   have := versL_len t.steps x
   have := (first_vi hx).2.2
   rw [List.length_cons]; omega
end Sch
end Go.Proofs.YtoeidpmjifjplaaGreat
