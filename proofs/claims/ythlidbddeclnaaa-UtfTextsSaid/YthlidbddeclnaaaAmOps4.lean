/- Operations that turn nothing: built values; and all of them together. No statement is proved here. -/
import Derived.Test.YthlidbddeclnaaaAmOps3
namespace Go.Proofs.Ythlidbddeclnaaa
open Go.RowKit
section
variable {P : Program} {st : St} {w : World}
theorem run_mapM {α β : Type} (f : α → Sem β) (g : α → β) (xs : Array α) (h : ∀ x ∈ xs, (f x).run P w = .ok (g x) w) : (xs.mapM f).run P w = .ok (xs.map g) w := by
  obtain ⟨l⟩ := xs
  rw [List.mapM_toArray]
  have key : ∀ l : List α, (∀ x ∈ l, (f x).run P w = .ok (g x) w) → (l.mapM f).run P w = .ok (l.map g) w := by
    intro l
    induction l with
    | nil => intro _; simp
    | cons x l ih =>
      intro h
      rw [List.mapM_cons]
      simp only [Sem.run_bind, h x (List.mem_cons_self ..), Result.andThen_ok, ih fun y hy => h y (List.mem_cons_of_mem _ hy), Sem.run_pure, List.map_cons]
  have hk := key l fun x hx => h x (by simpa using hx)
  rw [← bind_pure_comp]
  simp only [Sem.run_bind, hk, Result.andThen_ok, Sem.run_pure, List.map_toArray]
theorem fold_set (off : Nat) : ∀ (vs : List Value) (j : Nat) (cells : Array Value), off + j + vs.length ≤ cells.size →
    ((vs.zipIdx j).foldl (fun cs (x : Value × Nat) => cs.setIfInBounds (off + x.2) x.1) cells).toList = cells.toList.take (off + j) ++ vs ++ cells.toList.drop (off + j + vs.length)
  | [], j, cells, _ => by simp
  | v :: vs, j, cells, h => by
    simp only [List.length_cons] at h
    rw [List.zipIdx_cons, List.foldl_cons, fold_set off vs (j + 1) _ (by simp; omega)]
    simp only [Array.toList_setIfInBounds]
    apply List.ext_getElem?
    intro k
    simp only [List.append_assoc, List.length_cons]
    rw [List.getElem?_append, List.getElem?_append, List.getElem?_append, List.getElem?_append]
    simp only [List.length_take, List.length_set, Array.length_toList, List.length_cons, List.getElem?_take, List.getElem?_drop, List.getElem?_set]
    have e1 : min (off + (j + 1)) cells.size = off + j + 1 := by omega
    have e2 : min (off + j) cells.size = off + j := by omega
    rw [e1, e2]
    by_cases h1 : k < off + j
    · rw [if_pos (by omega), if_pos (by omega), if_pos h1, if_pos h1, if_neg (by omega)]
    · by_cases h2 : k = off + j
      · subst h2
        rw [if_pos (by omega), if_pos (by omega), if_pos rfl, if_pos (by omega), if_neg (by omega), if_pos (by omega), Nat.sub_self]
        rfl
      · rw [if_neg (by omega), if_neg h1]
        by_cases h3 : k - (off + j + 1) < vs.length
        · rw [if_pos h3, if_pos (by omega), show k - (off + j) = (k - (off + j + 1)) + 1 by omega, List.getElem?_cons_succ]
        · rw [if_neg h3, if_neg (by omega), if_neg (by omega)]
          congr 1
          omega
theorem fill_rep {O : Nat → Nat → Prop} {place : Nat → Option (Nat × Nat)} : ∀ {ps : List (Nat × D)} {vs : List (Nat × Value)} {cs cs' : List D} {cells : Array Value}, vs.map (·.1) = ps.map (·.1) → RepL O w (vs.map (·.2)) (ps.map (·.2)) → RepL O w cells.toList cs → aFill place cs ps = some cs' →
    ∃ cells', Instr.fill place cells vs = some cells' ∧ RepL O w cells'.toList cs'
  | [], [], cs, cs', cells, _, _, hc, h => by cases h; exact ⟨cells, rfl, hc⟩
  | (i, d) :: ps, (i', v) :: vs, cs, cs', cells, h1, h2, hc, h => by
    simp only [List.map_cons, List.cons.injEq] at h1
    obtain ⟨rfl, h1⟩ := h1
    obtain ⟨u, t, e, hd, h2'⟩ := RepL.inv_cons h2
    rw [List.map_cons] at e
    cases e
    unfold aFill at h
    unfold Instr.fill
    cases hp : place i' with
    | none => rw [hp] at h; cases h
    | some q =>
      obtain ⟨off, sz⟩ := q
      rw [hp] at h
      simp only at h ⊢
      split at h
      · rename_i hq
        have hcl := hd.cells
        have hvs : v.cells.size = sz := by rw [← Array.length_toList, hcl.1]; exact hq.1
        have hcs : cells.size = cs.length := by rw [← Array.length_toList]; exact hc.1
        have hcond : (decide (v.cells.size ≠ sz) || decide (off + v.cells.size > cells.size)) = false := by
          simp only [Bool.or_eq_false_iff, decide_eq_false_iff_not]
          omega
        have hcond' : ¬ ((v.cells.size ≠ sz || off + v.cells.size > cells.size) = true) := by rw [hcond]; exact Bool.false_ne_true
        rw [if_neg hcond']
        have hfold := fold_set off v.cells.toList 0 cells (by rw [Array.length_toList]; omega)
        simp only [Nat.add_zero] at hfold
        have harr : (v.cells.zipIdx.foldl (fun cs (x : Value × Nat) => cs.setIfInBounds (off + x.2) x.1) cells) = (v.cells.toList.zipIdx.foldl (fun cs (x : Value × Nat) => cs.setIfInBounds (off + x.2) x.1) cells) := by
          rw [← Array.foldl_toList, Array.toList_zipIdx]
        refine fill_rep h1 h2' ?_ h
        show RepL O w (v.cells.zipIdx.foldl (fun cs (x : Value × Nat) => cs.setIfInBounds (off + x.2) x.1) cells).toList _
        rw [harr, hfold]
        unfold splice
        rw [List.length_map, hcl.1]
        exact ((hc.take off).append hcl.sh).append (hc.drop _)
      · cases h
  | [], _ :: _, _, _, _, h1, _, _, _ => by simp at h1
  | _ :: _, [], _, _, _, h1, _, _, _ => by simp at h1
theorem zero_rep {O : Nat → Nat → Prop} {z : List Value} (h : z.all noAgg = true) : RepL O w z (z.map leafD) := by
  have := RepL.map (O := O) (w := w) (l := z) (f := id) (g := leafD) (fun x hx => leafD_rep (List.all_eq_true.1 h x hx))
  rwa [List.map_id] at this
theorem out_build {t : TypeId} {ps : List (Nat × D)} {vs : List (Nat × Value)} {d : D} (hh : Holds st w) (h1 : vs.map (·.1) = ps.map (·.1)) (h2 : RepL (OwnS st) w (vs.map (·.2)) (ps.map (·.2))) (h : aBuild P t ps = some d) : Out st w d P (Instr.build t vs.toArray) := by
  unfold aBuild at h
  split at h
  · rename_i ti hti
    split at h
    · rename_i hz
      obtain ⟨zv, hzl, hzr⟩ := run_zeroValue hti w
      have hzrep : RepL (OwnS st) w zv.cells.toList (ti.zero.map leafD) := by rw [hzl]; exact zero_rep hz
      split at h
      · rename_i fs hfs
        obtain ⟨fields, hu, hff, rfl⟩ := (und_of_k hti).2.2.2.2.2.1 _ hfs
        cases hf : aFill (fun i => (((fields.toList.map fun f => (f.offset, szT P f.type, aggT P f.type))[i]?).map fun (f : Nat × Nat × Bool) => (f.1, f.2.1))) (ti.zero.map leafD) ps with
        | none => rw [hf] at h; cases h
        | some cs =>
          rw [hf] at h; cases h
          obtain ⟨cells', k1, k2⟩ := fill_rep h1 h2 hzrep hf
          have hpl : (fun (i : Nat) => (((fields.toList.map fun f => (f.offset, szT P f.type, aggT P f.type))[i]?).map fun (f : Nat × Nat × Bool) => (f.1, f.2.1))) = fun (i : Nat) => (fields.map fun f => (f.offset, szT P f.type))[i]? := by
            funext i
            simp only [List.getElem?_map, Array.getElem?_map, Array.getElem?_toList, Option.map_map]
            rfl
          rw [hpl] at k1
          have hm : (fields.mapM fun f => (do pure (f.offset, ← sizeOf f.type) : Sem (Nat × Nat))).run P w = .ok (fields.map fun f => (f.offset, szT P f.type)) w :=
            run_mapM _ _ fields fun f hf => by
              simp only [Sem.run_bind, run_sizeOf' (hff f (by simpa using hf)).1, Result.andThen_ok, Sem.run_pure]
          refine Out.same hh (v := .agg cells') ?_ ?_
          · simp only [Instr.build, Sem.run_bind, hzr, Result.andThen_ok, run_underlying hu, hm, List.toList_toArray, k1, Sem.run_pure]
          · exact .agg cells'.toList cs k2.1 k2.2
      · rename_i n sz ag hk
        obtain ⟨e, hu, q1, q2, rfl, -⟩ := (und_of_k hti).2.2.2.2.2.2 _ _ _ hk
        cases hf : aFill (fun i => some (i * szT P e, szT P e)) (ti.zero.map leafD) ps with
        | none => rw [hf] at h; cases h
        | some cs =>
          rw [hf] at h; cases h
          obtain ⟨cells', k1, k2⟩ := fill_rep h1 h2 hzrep hf
          refine Out.same hh (v := .agg cells') ?_ ?_
          · simp only [Instr.build, Sem.run_bind, hzr, Result.andThen_ok, run_underlying hu, run_sizeOf' q1, List.toList_toArray, k1, Sem.run_pure]
          · exact .agg cells'.toList cs k2.1 k2.2
      · cases h
    · cases h
  · cases h
theorem chop_flat {sz : Nat} : ∀ (n : Nat) (l : List D), l.length = n * sz → (chop sz n l).flatten = l ∧ (chop sz n l).length = n ∧ ∀ e ∈ chop sz n l, e.length = sz
  | 0, l, h => by
    have : l = [] := List.eq_nil_of_length_eq_zero (by simpa using h)
    subst this
    exact ⟨rfl, rfl, fun e he => by cases he⟩
  | n + 1, l, h => by
    rw [Nat.succ_mul] at h
    obtain ⟨k1, k2, k3⟩ := chop_flat (sz := sz) n (l.drop sz) (by rw [List.length_drop]; omega)
    refine ⟨by rw [chop, List.flatten_cons, k1, List.take_append_drop], by rw [chop, List.length_cons, k2], fun e he => ?_⟩
    rw [chop, List.mem_cons] at he
    rcases he with rfl | he
    · rw [List.length_take]; omega
    · exact k3 e he
theorem rep_len {z : List Value} : ∀ n, ((List.replicate n (z.map leafD)).flatten.map D.sh).length = n * z.length
  | 0 => by simp
  | n + 1 => by
    have := rep_len (z := z) n
    rw [List.length_map] at this
    rw [List.length_map, List.replicate_succ, List.flatten_cons, List.length_append, this, List.length_map, Nat.succ_mul, Nat.add_comm]
theorem rep_zero {O : Nat → Nat → Prop} {z : List Value} (h : z.all noAgg = true) : ∀ n, RepL O w (List.replicate n z).flatten ((List.replicate n (z.map leafD)).flatten)
  | 0 => .nil
  | n + 1 => by
    rw [List.replicate_succ, List.replicate_succ, List.flatten_cons, List.flatten_cons]
    exact (zero_rep h).append (rep_zero h n)
theorem range_rep (z : Array Value) (hz : 0 < z.size) : ∀ n, ((Array.range (n * z.size)).map (z[· % z.size]!)).toList = (List.replicate n z.toList).flatten := by
  intro n
  apply List.ext_getElem?
  intro i
  have hl : ∀ n, (List.replicate n z.toList).flatten.length = n * z.size := fun n => by
    induction n with
    | zero => simp
    | succ n ih => rw [List.replicate_succ, List.flatten_cons, List.length_append, ih, Nat.succ_mul, Nat.add_comm]; simp
  have hg : ∀ n i, i < n * z.size → (List.replicate n z.toList).flatten[i]? = z.toList[i % z.size]? := fun n => by
    induction n with
    | zero => intro i h; omega
    | succ n ih =>
      intro i h
      rw [List.replicate_succ, List.flatten_cons]
      rcases Nat.lt_or_ge i z.size with h1 | h1
      · rw [List.getElem?_append_left (by simpa using h1), Nat.mod_eq_of_lt h1]
      · rw [List.getElem?_append_right (by simpa using h1)]
        simp only [Array.length_toList]
        rw [ih (i - z.size) (by rw [Nat.succ_mul] at h; omega), ← Nat.mod_eq_sub_mod h1]
  rcases Nat.lt_or_ge i (n * z.size) with h | h
  · rw [hg n i h]
    have hm := Nat.mod_lt i hz
    simp [h, hm]
  · rw [List.getElem?_eq_none (by simpa using h), List.getElem?_eq_none (by rw [hl]; exact h)]
theorem out_buildSlice {t : TypeId} {n : Nat} {ps : List (Nat × D)} {vs : List (Nat × Value)} {d : D} (hh : Holds st w) (h1 : vs.map (·.1) = ps.map (·.1)) (h2 : RepL (OwnS st) w (vs.map (·.2)) (ps.map (·.2))) (h : aBuildSlice P t n ps = some d) : Out st w d P (Instr.buildSlice t n vs.toArray) := by
  unfold aBuildSlice at h
  split at h
  · rename_i ti hti
    split at h
    · rename_i e sz by_ z hk
      obtain ⟨hu, ii, zv, q1, q2, q3, q4, q5, q6, q7⟩ := (und_of_k hti).2.2.2.2.1 _ _ _ _ hk
      split at h
      · rename_i hz
        obtain ⟨hz, hn, hszb⟩ := hz
        split at h
        · rename_i cs hf
          split at h
          · rename_i hleaf
            cases h
            subst q3
            have hzn : zv.cells.toList.length = sz := by simpa using q7
            have hz0 : 0 < zv.cells.size := by omega
            have hcz : RepL (OwnS st) w ((Array.range (n * zv.cells.size)).map (zv.cells[· % zv.cells.size]!)).toList ((List.replicate n (zv.cells.toList.map leafD)).flatten.map D.sh) := by
              rw [range_rep _ hz0]; exact (rep_zero hz n).sh
            obtain ⟨cells', k1, k2⟩ := fill_rep h1 h2 hcz hf
            have hlen : ∀ {ps : List (Nat × D)} {cs cs' : List D}, aFill (fun i => some (i * sz, sz)) cs ps = some cs' → cs'.length = cs.length := by
              intro ps
              induction ps with
              | nil => intro cs cs' h; cases h; rfl
              | cons p ps ih =>
                obtain ⟨i, dd⟩ := p
                intro cs cs' h
                unfold aFill at h
                simp only at h
                split at h
                · rename_i hq
                  rw [ih h]
                  unfold splice
                  simp only [List.length_append, List.length_take, List.length_drop, List.length_map]
                  omega
                · cases h
            have hcl : cs.length = n * sz := by rw [hlen hf, rep_len, hzn]
            obtain ⟨c1, c2, c3⟩ := chop_flat n cs hcl
            have hbig : ¬ (n * sz > 2 ^ 24) := by
              have : n * sz ≤ 1000 * 100 := Nat.mul_le_mul hn hszb
              omega
            have he := Ext.alloc (OwnS st) w (.cells cells' e)
            have hrun : (Instr.buildSlice t n vs.toArray).run P w = .ok (.slice (some ⟨w.heap.size, 0, none⟩) n n) (w.alloc (.cells cells' e)) := by
              have hsize : (sizeOf e).run P w = .ok sz w := by simp [sizeOf, typeInfo, q1, q4]
              have hzero : (zeroValue e).run P w = .ok zv w := by simp [zeroValue, typeInfo, q1, q2]
              simp only [Instr.buildSlice, Sem.run_bind, run_underlying hu, Result.andThen_ok, hsize]
              rw [if_neg hbig]
              by_cases hn0 : n * sz = 0
              · rw [if_pos hn0]
                simp only [Sem.run_bind, Sem.run_pure, Result.andThen_ok]
                have : ((Array.range (n * sz)).map ((#[] : Array Value)[· % (#[] : Array Value).size]!)) = ((Array.range (n * zv.cells.size)).map (zv.cells[· % zv.cells.size]!)) := by
                  rw [q7, hn0]; simp
                rw [this, k1]
                rfl
              · rw [if_neg hn0]
                simp only [Sem.run_bind, hzero, Result.andThen_ok, Sem.run_pure]
                rw [show n * sz = n * zv.cells.size by rw [q7], k1]
                rfl
            refine ⟨_, _, hrun, ?_, hh.alloc _, he⟩
            have hcsz : cells'.toList.length = n * sz := by rw [k2.1, hcl]
            have := Rep.sl (O := OwnS st) (w := w.alloc (.cells cells' e)) .tight (chop sz n cs) (some ⟨w.heap.size, 0, none⟩) n cells'.toList sz (by omega) (by unfold maxLen; omega) (fun e => by cases e) q6 c3 (by rw [c1]; exact k2.1) (by rw [c1]; exact List.all_eq_true.1 hleaf)
              (fun i hi => ⟨w.heap.size, 0, rfl, by rw [Nat.zero_add]; exact new_calm hh cells'.toList e (0, 0) hi⟩)
              (fun i hi hi' => by
                have := (k2.ext he).2 i hi (by rw [← k2.1]; exact hi)
                simpa only [c1] using this) c2.symm
            rwa [c2] at this
          · cases h
        · cases h
      · cases h
    · cases h
  · cases h
end
end Go.Proofs.Ythlidbddeclnaaa
