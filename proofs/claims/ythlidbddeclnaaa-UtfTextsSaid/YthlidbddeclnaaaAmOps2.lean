/- Operations that turn nothing: that they come to what the function of their slots says. No statement is proved here. -/
import Derived.Test.YthlidbddeclnaaaAmOps
import Derived.Laws.Small
import Derived.Laws.Cover3
namespace Go.Proofs.Ythlidbddeclnaaa
open Go.RowKit
section
variable {P : Program} {st : St} {w : World}
theorem binOp_int (op : BinOp) (t : TypeId) (k k' : IntKind) (x y : Int) : binOp op t (.int k x) (.int k' y) = binOp op 0 (.int k x) (.int k' y) := by cases op <;> rfl
theorem binOp_str (op : BinOp) (t : TypeId) (x y : ByteArray) : binOp op t (.string x) (.string y) = binOp op 0 (.string x) (.string y) := by cases op <;> rfl
theorem noAgg_int {op : BinOp} {k k' : IntKind} {x y : Int} {v : Value} (h : pureV (binOp op 0 (.int k x) (.int k' y)) = some v) : noAgg v = true := by
  cases op <;> simp only [binOp, Op.shift, Op.intArith, Op.intDiv, Op.intBits, Op.intCmp] at h <;> (repeat' split at h) <;> (first | (cases h; rfl) | cases h | skip)
theorem noAgg_str {op : BinOp} {x y : ByteArray} {v : Value} (h : pureV (binOp op 0 (.string x) (.string y)) = some v) : noAgg v = true := by
  cases op <;> simp only [binOp, Op.stringOp] at h <;> (repeat' split at h) <;> (first | (cases h; rfl) | cases h | skip)
theorem guard_plain (op : BinOp) (t : TypeId) (x y : Operand) (a b : Value) (h : ∀ u, (a, b) ≠ (.nilIface, u)) (h2 : ∀ u v, (a, b) ≠ (.agg u, v)) : (eqGuard op t x y a b).run P w = .ok () w := by
  unfold eqGuard
  cases op <;> first | rfl | skip
  all_goals
    simp only [Bool.not_true, Bool.false_eq_true, if_false]
    cases a <;> first | rfl | (exact absurd rfl (h _)) | (exact absurd rfl (h2 _ _)) | (cases b <;> rfl)
theorem eql_nil (t e : TypeId) (p : Option Addr) (h : P.underlying t = some (.pointer e)) : (Op.equal t (.pointer p) (.pointer none)).run P w = .ok p.isNone w := by
  have key : ∀ d, (Op.equalIn (d + 1) t (.pointer p) (.pointer none)).run P w = .ok p.isNone w := fun d => by cases p <;> simp [Op.equalIn, run_underlying h]
  exact key 9999
theorem out_bin {op : BinOp} {t : TypeId} {x y : Operand} {a b : Value} {da db d : D} (hh : Holds st w) (ha : Rep (OwnS st) w a da) (hb : Rep (OwnS st) w b db) (h : aBin P op t da db = some d) :
    Out st w d P (do eqGuard op t x y a b; binOp op t a b) := by
  unfold aBin at h
  split at h
  · cases rep_s ha; cases rep_s hb
    cases hp : pureV (binOp op 0 (.int _ _) (.int _ _)) with
    | none => rw [hp] at h; cases h
    | some v =>
      rw [hp] at h; cases h
      refine Out.same hh (v := v) ?_ (.s v (noAgg_int hp))
      rw [Sem.run_bind, guard_plain _ _ _ _ _ _ (fun u e => by cases e) (fun u v e => by cases e), Result.andThen_ok, binOp_int]
      exact pureV_run hp P w
  · cases rep_s ha; cases rep_s hb
    cases hp : pureV (binOp op 0 (.string _) (.string _)) with
    | none => rw [hp] at h; cases h
    | some v =>
      rw [hp] at h; cases h
      refine Out.same hh (v := v) ?_ (.s v (noAgg_str hp))
      rw [Sem.run_bind, guard_plain _ _ _ _ _ _ (fun u e => by cases e) (fun u v e => by cases e), Result.andThen_ok, binOp_str]
      exact pureV_run hp P w
  · cases rep_s ha; cases rep_s hb
    split at h
    · rename_i hk
      obtain ⟨ti, h1, h2⟩ := kT_spec hk (by simp)
      have hu := (und_of_k h1).1 h2
      cases h
      refine Out.same hh ?_ (.s _ rfl)
      rw [Sem.run_bind, guard_plain _ _ _ _ _ _ (fun u e => by cases e) (fun u v e => by cases e), Result.andThen_ok]
      simp only [binOp, Sem.run_bind, run_equal_bool w t _ _ hu, Result.andThen_ok, Sem.run_pure]
    · rename_i hk
      obtain ⟨ti, h1, h2⟩ := kT_spec hk (by simp)
      have hu := (und_of_k h1).1 h2
      cases h
      refine Out.same hh ?_ (.s _ rfl)
      rw [Sem.run_bind, guard_plain _ _ _ _ _ _ (fun u e => by cases e) (fun u v e => by cases e), Result.andThen_ok]
      simp only [binOp, Sem.run_bind, run_equal_bool w t _ _ hu, Result.andThen_ok, Sem.run_pure]
    · cases h
  · cases ha; cases rep_s hb
    split at h
    · rename_i hk
      obtain ⟨ti, h1, h2⟩ := kT_spec hk (by simp)
      obtain ⟨e, hu⟩ := (und_of_k h1).2.2.2.1 h2
      cases h
      refine Out.same hh ?_ (.s _ rfl)
      rw [Sem.run_bind, guard_plain _ _ _ _ _ _ (fun u e => by cases e) (fun u v e => by cases e), Result.andThen_ok]
      simp only [binOp, Sem.run_bind, eql_nil t e _ hu, Result.andThen_ok, Sem.run_pure]; rfl
    · rename_i hk
      obtain ⟨ti, h1, h2⟩ := kT_spec hk (by simp)
      obtain ⟨e, hu⟩ := (und_of_k h1).2.2.2.1 h2
      cases h
      refine Out.same hh ?_ (.s _ rfl)
      rw [Sem.run_bind, guard_plain _ _ _ _ _ _ (fun u e => by cases e) (fun u v e => by cases e), Result.andThen_ok]
      simp only [binOp, Sem.run_bind, eql_nil t e _ hu, Result.andThen_ok, Sem.run_pure]; rfl
    · cases h
  · cases rep_s ha; cases rep_s hb
    split at h
    · rename_i hk
      obtain ⟨ti, h1, h2⟩ := kT_spec hk (by simp)
      obtain ⟨e, hu⟩ := (und_of_k h1).2.2.2.1 h2
      cases h
      refine Out.same hh ?_ (.s _ rfl)
      rw [Sem.run_bind, guard_plain _ _ _ _ _ _ (fun u e => by cases e) (fun u v e => by cases e), Result.andThen_ok]
      simp only [binOp, Sem.run_bind, eql_nil t e _ hu, Result.andThen_ok, Sem.run_pure]; rfl
    · rename_i hk
      obtain ⟨ti, h1, h2⟩ := kT_spec hk (by simp)
      obtain ⟨e, hu⟩ := (und_of_k h1).2.2.2.1 h2
      cases h
      refine Out.same hh ?_ (.s _ rfl)
      rw [Sem.run_bind, guard_plain _ _ _ _ _ _ (fun u e => by cases e) (fun u v e => by cases e), Result.andThen_ok]
      simp only [binOp, Sem.run_bind, eql_nil t e _ hu, Result.andThen_ok, Sem.run_pure]; rfl
    · cases h
  · cases h
theorem noAgg_un {op : UnOp} {x v : Value} (h : pureV (Op.unary op x) = some v) : noAgg v = true := by
  unfold Op.unary at h
  split at h <;> first | (cases h; rfl) | cases h
theorem out_un {op : UnOp} {a : Value} {da d : D} (hh : Holds st w) (ha : Rep (OwnS st) w a da) (h : aUn op da = some d) : Out st w d P (Op.unary op a) := by
  unfold aUn at h
  split at h
  · cases rep_s ha
    have key : ∀ v, (pureV (Op.unary op v)).map D.s = some d → Out st w d P (Op.unary op v) := fun v h => by
      cases hp : pureV (Op.unary op v) with
      | none => rw [hp] at h; cases h
      | some u => rw [hp] at h; cases h; exact Out.same hh (pureV_run hp P w) (.s u (noAgg_un hp))
    split at h
    · exact key _ h
    · exact key _ h
    · cases h
  · cases h
theorem out_conv {src dst : TypeId} {a : Value} {da d : D} (hh : Holds st w) (ha : Rep (OwnS st) w a da) (h : aConv P src dst da = some d) : Out st w d P (convert src dst a) := by
  unfold aConv at h
  split at h
  · rename_i ts td h1 h2
    obtain ⟨-, -, us, -⟩ := und_of_k h1
    obtain ⟨-, ui, ud, -⟩ := und_of_k h2
    obtain ⟨ds, hds, -, -⟩ := run_und_of h1
    split at h
    · have hu := ui _ ‹td.k = .int _›
      cases rep_s ha
      cases h
      refine Out.same hh ?_ (.s _ rfl)
      simp only [convert, Sem.run_bind, run_underlying hds, run_underlying hu, Result.andThen_ok, Conv.intToInt, Sem.run_pure]
    · have hu := ud ‹td.k = .string›
      cases rep_s ha
      cases h
      refine Out.same hh ?_ (.s _ rfl)
      simp only [convert, Sem.run_bind, run_underlying hds, run_underlying hu, Result.andThen_ok, Sem.run_pure]
    · rename_i e sz by_ z o es hk1 hk2
      split at h
      · rename_i hke
        obtain ⟨te, h3, h4⟩ := kT_spec hke (by simp)
        have hue := (und_of_k h3).2.1 _ h4
        obtain ⟨hus, -⟩ := (und_of_k h1).2.2.2.2.1 _ _ _ _ hk1
        cases hb : bytesOf es with
        | none => rw [hb] at h; cases h
        | some l =>
          rw [hb] at h; cases h
          obtain ⟨ad, cap, uv, sz1, rfl, c1, c2, c3, c4, c5, c6, c7, c8, c9, -⟩ := calm_src ha
          obtain ⟨rfl, hlen⟩ := bytesOf_rep hb c6
          refine Out.same hh (v := .string ⟨l.toArray⟩) ?_ (.s _ rfl)
          cases ad with
          | none =>
            have h0 := c8 rfl
            have hl0 : l = [] := List.eq_nil_of_length_eq_zero (by omega)
            subst hl0
            rw [run_convert_bytes_string w _ _ e _ _ _ hus hue (ud hk2)]
            rfl
          | some ad =>
            rw [hlen]
            refine run_convert_bytes_back w _ _ e ad cap l hus hue (ud hk2) (fun j hj => ?_)
            have := calm_own c9 rfl j (bv l[j]) (by simp [hj])
            exact this
      · cases h
    · rename_i e sz by_ z s hk1 hk2
      split at h
      · rename_i hke
        obtain ⟨te, h3, h4⟩ := kT_spec hke (by simp)
        have hue := (und_of_k h3).2.1 _ h4
        obtain ⟨hud, -⟩ := (und_of_k h2).2.2.2.2.1 _ _ _ _ hk2
        split at h
        · rename_i hs
          cases h
          cases rep_s ha
          have hcap1 := grownCap_ge w s.size 0 e
          have hcap2 := grownCap_le_maxLen w s.size 0 e (by unfold maxLen; omega)
          have hrun := run_bytes_of_string (P := P) w src dst e s (us hk1) hud hue
          generalize grownCap w s.size 0 e = cap at *
          have he : Ext (OwnS st) w (OwnS st) (w.drew.alloc (.cells (bytesRow s cap) e ((bytesRow s cap).size, (bytesRow s cap).size + 1))) :=
            (Ext.drewN (OwnS st) w 1).trans (Ext.alloc (OwnS st) w.drew _)
          have hh' : Holds st (w.drew.alloc (.cells (bytesRow s cap) e ((bytesRow s cap).size, (bytesRow s cap).size + 1))) := (hh.drewN 1).alloc _
          refine ⟨_, _, hrun, ?_, hh', he⟩
          have hn : w.drew.heap.size = w.heap.size := rfl
          have hlen : (s.data.toList.map encB).length = s.size := by simp
          have hsz : (s.data.toList.map encB).flatten.length = s.size := by rw [flat_len (sz := 1) (fun e he => by obtain ⟨b, -, rfl⟩ := List.mem_map.1 he; rfl), hlen, Nat.mul_one]
          have hfl : (s.data.toList.map encB).flatten = s.data.toList.map D.y := by
            generalize s.data.toList = l
            induction l with
            | nil => rfl
            | cons b l ih => rw [List.map_cons, List.flatten_cons, ih]; rfl
          have := Rep.sl (O := OwnS st) (w := w.drew.alloc (.cells (bytesRow s cap) e ((bytesRow s cap).size, (bytesRow s cap).size + 1))) .shared (s.data.toList.map encB) (some ⟨w.heap.size, 0, none⟩) cap (s.data.toList.map bv) 1 (by omega) hcap2 (fun e => by cases e) (Nat.lt_succ_self _)
            (fun e he => by obtain ⟨b, -, rfl⟩ := List.mem_map.1 he; rfl) (by rw [hsz]; simp) (fun d hd => by rw [hfl] at hd; obtain ⟨b, -, rfl⟩ := List.mem_map.1 hd; rfl)
            (fun i hi => ⟨w.heap.size, 0, rfl, by
              refine ⟨by rw [World.size_alloc]; exact Nat.lt_succ_self _, fun ho => by have := hh.lt ho; omega, ?_⟩
              rw [Nat.zero_add, cell_of_row _ w.heap.size i _ e _ (heap_alloc_new w.drew _)]
              rw [bytesRow, Array.getElem?_append_left (by simpa using hi)]
              simp at hi
              simp [hi, bv]⟩)
            (fun i hi hi' => by
              rw [List.getElem_map]
              have : (s.data.toList.map encB).flatten[i] = D.y (s.data.toList[i]'(by simpa using hi)) := by
                simp only [hfl, List.getElem_map]
              rw [this]
              exact .s _ rfl) trivial
          rwa [hlen] at this
        · cases h
      · cases h
    · cases h
  · cases h

theorem out_field {t : TypeId} {f : Nat} {a : Value} {da d : D} (hh : Holds st w) (ha : Rep (OwnS st) w a da) (h : aField P t f da = some d) : Out st w d P (Instr.field t a f) := by
  unfold aField at h
  split at h
  · rename_i cs
    split at h
    · rename_i ti hti
      split at h
      · rename_i fs hfs
        obtain ⟨fields, hu, hff, rfl⟩ := (und_of_k hti).2.2.2.2.2.1 _ hfs
        have hget : ∀ q, (fields.toList.map fun f => (f.offset, szT P f.type, aggT P f.type))[f]? = some q → ∃ fl, fields[f]? = some fl ∧ q = (fl.offset, szT P fl.type, aggT P fl.type) ∧ (P.info? fl.type).isSome ∧ (P.underlying fl.type).isSome := fun q hq => by
          rw [List.getElem?_map] at hq
          cases hfl : fields.toList[f]? with
          | none => rw [hfl] at hq; cases hq
          | some fl =>
            rw [hfl] at hq
            cases hq
            exact ⟨fl, by simpa using hfl, rfl, hff fl (List.mem_of_getElem? hfl)⟩
        cases ha with
        | agg uv _ l1 l2 =>
          split at h
          · rename_i off sz hq
            obtain ⟨fl, k1, k2, k3, k4⟩ := hget _ hq
            simp only [Prod.mk.injEq] at k2
            obtain ⟨rfl, rfl, hag⟩ := k2
            split at h
            · rename_i hle
              cases h
              have hr : RepL (OwnS st) w ((uv.drop fl.offset).take (szT P fl.type)) ((cs.drop fl.offset).take (szT P fl.type)) := (RepL.drop ⟨l1, l2⟩ _).take _
              refine Out.same hh (v := .agg ((uv.drop fl.offset).take (szT P fl.type)).toArray) ?_ (.agg _ _ hr.1 hr.2)
              simp only [Instr.field, Sem.run_bind, run_underlying hu, Result.andThen_ok, k1, asAgg, Sem.run_pure, part, run_isAgg' k4, ← hag, if_true, run_sizeOf' k3]
              congr 2
              apply Array.ext'
              simp [List.extract_eq_take_drop]
            · cases h
          · rename_i off sz hq
            obtain ⟨fl, k1, k2, k3, k4⟩ := hget _ hq
            simp only [Prod.mk.injEq] at k2
            obtain ⟨rfl, rfl, hag⟩ := k2
            obtain ⟨u, hu1, hu2⟩ := RepL.get? ⟨l1, l2⟩ h
            refine Out.same hh (v := u) ?_ hu2
            simp only [Instr.field, Sem.run_bind, run_underlying hu, Result.andThen_ok, k1, asAgg, Sem.run_pure, part, run_isAgg' k4, ← hag, Bool.false_eq_true, if_false]
            simp [hu1]
          · cases h
      · cases h
    · cases h
  · cases h
theorem ip_drop {O : Nat → Nat → Prop} {w : World} {cs : List D} {a : Value} (h : Rep O w a (.ip cs)) (n : Nat) : ∃ b off, a = .pointer (some ⟨b, off, none⟩) ∧ Rep O w (.pointer (some ⟨b, off + n, none⟩)) (.ip (cs.drop n)) := by
  cases h with
  | ip b off us cs h1 h2 h3 h4 =>
    refine ⟨b, off, rfl, ?_⟩
    have hr : RepL O w (us.drop n) (cs.drop n) := RepL.drop ⟨h1, h4⟩ n
    refine .ip b (off + n) (us.drop n) (cs.drop n) hr.1 (fun d hd => h2 d (List.mem_of_mem_drop hd)) (fun i hi => ?_) hr.2
    rw [List.getElem_drop, Nat.add_assoc]
    exact h3 (n + i) (by simp at hi; omega)
theorem out_fieldAddr {t : TypeId} {f : Nat} {a : Value} {da d : D} (hh : Holds st w) (ha : Rep (OwnS st) w a da) (h : aFieldAddr P t f da = some d) : Out st w d P (Instr.fieldAt t a f) := by
  unfold aFieldAddr at h
  split at h
  · rename_i ti hti
    split at h
    · rename_i fs hfs
      obtain ⟨fields, hu, hff, rfl⟩ := (und_of_k hti).2.2.2.2.2.1 _ hfs
      split at h
      · rename_i off sz ag hq
        rw [List.getElem?_map] at hq
        cases hfl : fields.toList[f]? with
        | none => rw [hfl] at hq; cases hq
        | some fl =>
          rw [hfl] at hq
          cases hq
          have k1 : fields[f]? = some fl := by simpa using hfl
          obtain ⟨k3, k4⟩ := hff fl (List.mem_of_getElem? hfl)
          split at h
          · rename_i hpos
            have hne : ¬ (szT P fl.type = 0) := by omega
            have run : ∀ b off, (Instr.fieldAt t (.pointer (some ⟨b, off, none⟩)) f).run P w = .ok (.pointer (some ⟨b, off + fl.offset, none⟩)) w := fun b off => by
              simp only [Instr.fieldAt, Sem.run_bind, run_underlying hu, Result.andThen_ok, k1, Instr.sureAddr, Sem.run_pure, fieldPlace, run_sizeOf' k3, if_neg hne, add_lit]
            split at h
            · cases h
              cases ha
              exact Out.same hh (run _ _) (.ptr _ _)
            · split at h
              · cases h
                obtain ⟨b, o, rfl, hr⟩ := ip_drop ha fl.offset
                exact Out.same hh (run _ _) hr
              · cases h
            · cases h
          · cases h
      · cases h
    · cases h
  · cases h
theorem flat_drop {sz : Nat} : ∀ {es : List (List D)} {n : Nat} {c : List D}, (∀ e ∈ es, e.length = sz) → es[n]? = some c → (es.flatten.drop (n * sz)).take sz = c
  | [], n, c, _, h => by cases h
  | e :: es, 0, c, he, h => by
    cases h
    rw [Nat.zero_mul, List.drop_zero, List.flatten_cons, ← he e (List.mem_cons_self ..), List.take_left]
  | e :: es, n + 1, c, he, h => by
    rw [List.flatten_cons, Nat.succ_mul, Nat.add_comm, ← List.drop_drop]
    have hl := he e (List.mem_cons_self ..)
    rw [show (e ++ es.flatten).drop sz = es.flatten by rw [← hl, List.drop_left]]
    exact flat_drop (fun x hx => he x (List.mem_cons_of_mem _ hx)) h
theorem out_indexAddr {t : TypeId} {a i : Value} {da d : D} {k : IntKind} {n : Int} (hh : Holds st w) (ha : Rep (OwnS st) w a da) (hi : i = .int k n) (h : aIndexAddr P t da n = some d) : Out st w d P (Instr.indexAt t a i) := by
  subst hi
  unfold aIndexAddr at h
  split at h
  · rename_i ti hti
    split at h
    · rename_i e sz by_ z o es hk
      obtain ⟨hu, ii, zv, q1, q2, q3, q4, q5, q6, q7⟩ := (und_of_k hti).2.2.2.2.1 _ _ _ _ hk
      split at h
      · rename_i hn
        split at h
        · rename_i c hc
          split at h
          · rename_i hcl
            cases h
            obtain ⟨ad, cap, uv, sz1, rfl, c1, c2, c3, c4, c5, c6, c7, c8, c9, -⟩ := calm_src ha
            have hsz : sz1 = sz := by rw [← c4 c (List.mem_of_getElem? hc), hcl]
            subst hsz
            have hnl : n.toNat < es.length := (List.getElem?_eq_some_iff.1 hc).1
            have hlt : n.toNat * sz1 < uv.length := by rw [c5]; exact Nat.mul_lt_mul_of_pos_right hnl c3
            obtain ⟨b, off, rfl, -⟩ := c9 _ hlt
            have hr : RepL (OwnS st) w ((uv.drop (n.toNat * sz1)).take sz1) c := by
              have := (c6.drop (n.toNat * sz1)).take sz1
              rwa [flat_drop c4 hc] at this
            refine Out.same hh (v := .pointer (some ⟨b, off + n.toNat * sz1, none⟩)) ?_ (.ip b _ _ c hr.1 (fun x hx => c7 x ?_) (fun j hj => ?_) hr.2)
            · simp only [Instr.indexAt, Sem.run_bind, asIntOf, Sem.run_pure, Result.andThen_ok, run_underlying hu]
              simp only [hn, and_self, if_true, Sem.run_bind, sizeOf, typeInfo, run_program, Result.andThen_ok, q1, Sem.run_pure, q4, add_lit]
            · rw [List.mem_flatten]; exact ⟨c, List.mem_of_getElem? hc, hx⟩
            · simp only [List.length_take, List.length_drop] at hj
              rw [List.getElem_take, List.getElem_drop, Nat.add_assoc]
              obtain ⟨b', off', e', hcalm⟩ := c9 (n.toNat * sz1 + j) (by omega)
              cases e'
              exact hcalm
          · cases h
        · cases h
      · cases h
    · rename_i e sz by_ z g off len cap hk
      obtain ⟨hu, ii, zv, q1, q2, q3, q4, q5, q6, q7⟩ := (und_of_k hti).2.2.2.2.1 _ _ _ _ hk
      split at h
      · rename_i hn
        cases h
        cases ha
        refine Out.same hh (v := .pointer (some ⟨g, off + n.toNat * sz, none⟩)) ?_ (.ptr _ _)
        simp only [Instr.indexAt, Sem.run_bind, asIntOf, Sem.run_pure, Result.andThen_ok, run_underlying hu]
        simp only [hn, and_self, if_true, Sem.run_bind, sizeOf, typeInfo, run_program, Result.andThen_ok, q1, Sem.run_pure, q4, add_lit]
      · cases h
    · rename_i len sz ag b off hk
      obtain ⟨e, hu, q1, q2, rfl, -⟩ := (und_of_k hti).2.2.2.2.2.2 _ _ _ hk
      split at h
      · rename_i hn
        cases h
        cases ha
        refine Out.same hh (v := .pointer (some ⟨b, off + n.toNat * szT P e, none⟩)) ?_ (.ptr _ _)
        simp only [Instr.indexAt, Sem.run_bind, asIntOf, Sem.run_pure, Result.andThen_ok, run_underlying hu, Instr.sureAddr]
        simp only [hn, and_self, if_true, Sem.run_bind, run_sizeOf' q1, Result.andThen_ok, Sem.run_pure, add_lit]
      · cases h
    · rename_i len sz ag cs hk
      obtain ⟨e, hu, q1, q2, rfl, -⟩ := (und_of_k hti).2.2.2.2.2.2 _ _ _ hk
      split at h
      · rename_i hn
        cases h
        obtain ⟨b, off, rfl, hr⟩ := ip_drop ha (n.toNat * szT P e)
        refine Out.same hh (v := .pointer (some ⟨b, off + n.toNat * szT P e, none⟩)) ?_ hr
        simp only [Instr.indexAt, Sem.run_bind, asIntOf, Sem.run_pure, Result.andThen_ok, run_underlying hu, Instr.sureAddr]
        simp only [hn, and_self, if_true, Sem.run_bind, run_sizeOf' q1, Result.andThen_ok, Sem.run_pure, add_lit]
      · cases h
    · cases h
  · cases h
theorem out_index {t : TypeId} {a i : Value} {da d : D} {k : IntKind} {n : Int} (hh : Holds st w) (ha : Rep (OwnS st) w a da) (hi : i = .int k n) (h : aIndex P t da n = some d) : Out st w d P (Instr.index t a i) := by
  subst hi
  unfold aIndex at h
  split at h
  · rename_i ti hti
    split at h
    · rename_i s hk
      have hu := (und_of_k hti).2.2.1 hk
      cases rep_s ha
      split at h
      · rename_i hn
        cases hb : s.data.toList[n.toNat]? with
        | none => rw [hb] at h; cases h
        | some b =>
          rw [hb] at h; cases h
          refine Out.same hh (v := .int .u8 (b.toNat : Int)) ?_ (.s _ rfl)
          have hs : s[n.toNat]? = some b := by
            obtain ⟨h1, h2⟩ := List.getElem?_eq_some_iff.1 hb
            have h3 : n.toNat < s.size := by simpa using h1
            rw [getElem?_pos s n.toNat h3]
            congr 1
          simp only [Instr.index, Sem.run_bind, asIntOf, Sem.run_pure, Result.andThen_ok, run_underlying hu, hn, if_true, hs]
      · cases h
    · rename_i len sz ag cs hk
      obtain ⟨e, hu, q1, q2, rfl, rfl⟩ := (und_of_k hti).2.2.2.2.2.2 _ _ _ hk
      cases ha with
      | agg uv _ l1 l2 =>
        split at h
        · rename_i hn
          split at h
          · rename_i hag
            split at h
            · cases h
              have hr : RepL (OwnS st) w ((uv.drop (n.toNat * szT P e)).take (szT P e)) ((cs.drop (n.toNat * szT P e)).take (szT P e)) := (RepL.drop ⟨l1, l2⟩ _).take _
              refine Out.same hh (v := .agg ((uv.drop (n.toNat * szT P e)).take (szT P e)).toArray) ?_ (.agg _ _ hr.1 hr.2)
              simp only [Instr.index, Sem.run_bind, asIntOf, Sem.run_pure, Result.andThen_ok, run_underlying hu]
              simp only [hn, and_self, if_true, Sem.run_bind, run_sizeOf' q1, Result.andThen_ok, part, run_isAgg' q2, hag, Sem.run_pure]
              congr 2
              apply Array.ext'
              simp [List.extract_eq_take_drop]
            · cases h
          · rename_i hag
            obtain ⟨u, hu1, hu2⟩ := RepL.get? ⟨l1, l2⟩ h
            refine Out.same hh (v := u) ?_ hu2
            simp only [Instr.index, Sem.run_bind, asIntOf, Sem.run_pure, Result.andThen_ok, run_underlying hu]
            simp only [hn, and_self, if_true, Sem.run_bind, run_sizeOf' q1, Result.andThen_ok, part, run_isAgg' q2, hag, Bool.false_eq_true, if_false]
            simp [hu1]
        · cases h
    · cases h
  · cases h
end
end Go.Proofs.Ythlidbddeclnaaa
