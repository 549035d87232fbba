/- The walks of utf.Count, utf.Valid, utf.Text. -/
import Derived.Test.YthlidbddeclnaaaUtfCodes2
import Derived.Test.YthlidbddeclnaaaUtfPut
namespace Go.Proofs.Ythlidbddeclnaaa
open Go.RowKit UtfL Go.Shelf

def countOf (b : List UInt8) : Int := if endOf b < b.length then -1 else (codesOf b).length
theorem owns_slice {w : World} {base : Nat} {e : TypeId} {size n : Nat} {v : Value} {xs : List Value} (h : w.ownsRow base e size v n xs) : ∃ a cap, v = .slice a n cap := by
  rcases h.2 with ⟨rfl, rfl⟩ | ⟨g, cap, cur, rfl, _⟩
  · exact ⟨_, _, rfl⟩
  · exact ⟨_, _, rfl⟩
theorem owns_sees' {α : Type} {enc : α → Value} {w : World} {B : Nat} {E : TypeId} {v : Value} {l : List α} (h : w.ownsRow B E 1 v l.length (l.map enc)) : Sees enc w v l := Sees.of_owns h rfl rfl
theorem utfInfoByte : (Try.prog.info? 5).map (fun i => (i.zero, i.size, i.bytes)) = some (some (.int .u8 0), 1, 1) := by kernel_rfl
theorem bv_one' (l : List UInt8) : ∀ u ∈ l.map bv, u.oneCell' = true := by
  intro u hu
  obtain ⟨b, -, rfl⟩ := List.mem_map.1 hu
  rfl

theorem count_any (s : ByteArray) (hs : s.size ≤ 1000000) (w : World) :
    Calls Try.prog 35 #[.string s] w fun e w' => e = .returned (.int .i64 (countOf s.data.toList)) ∧ Below w.heap.size w w' := by
  have hlen : s.data.toList.length = s.size := by simp
  have hco : countOf s.data.toList = if endOf s.data.toList < s.size then -1 else ((codesOf s.data.toList).length : Int) := by rw [countOf, hlen]
  rw [hco]
  clear hco hlen
  by_cases h : endOf s.data.toList < s.size
  · rw [if_pos h]
    go_enter Try.func35, Try.ntmps35
    go_wp2_with fail
    refine (codes_any _ hs _).mono ?_
    rintro e w' ⟨v, rfl, hown, hB⟩
    obtain ⟨a, cap, rfl⟩ := owns_slice hown
    have HO := Lib.hid hown
    clear hown
    go_wp2
    go_ret
    exact ⟨rfl, hB⟩
  · rw [if_neg h]
    go_enter Try.func35, Try.ntmps35
    go_wp2_with fail
    refine (codes_any _ hs _).mono ?_
    rintro e w' ⟨v, rfl, hown, hB⟩
    obtain ⟨a, cap, rfl⟩ := owns_slice hown
    have HO := Lib.hid hown
    clear hown
    go_wp2
    go_ret
    exact ⟨rfl, hB⟩

theorem valid_any (s : ByteArray) (hs : s.size ≤ 1000000) (w : World) :
    Calls Try.prog 36 #[.string s] w fun e w' => e = .returned (.bool (decide (0 ≤ countOf s.data.toList))) ∧ Below w.heap.size w w' := by
  go_enter Try.func36, Try.ntmps36
  go_wp2_with fail
  refine (count_any _ hs _).mono ?_
  rintro e w' ⟨rfl, hB⟩
  go_wp2
  go_ret
  exact ⟨rfl, hB⟩

/-- 'string(b)' of what is seen. -/
theorem conv_back {w : World} {v : Value} {l : List UInt8} (h : Sees bv w v l) : (convert 23 9 v).run Try.prog w = .ok (.string ⟨l.toArray⟩) w := by
  obtain ⟨a, cap, rfl, h1, h2, h3, h4⟩ := h
  cases a with
  | none =>
    have := h3 rfl
    have hl : l = [] := List.eq_nil_of_length_eq_zero (by omega)
    subst hl
    rw [run_convert_bytes_string w _ _ 5 _ _ _ Try.underlying23 Try.underlying5 Try.underlying9]
    subst this
    rfl
  | some b =>
    refine run_convert_bytes_back w _ _ 5 b cap l Try.underlying23 Try.underlying5 Try.underlying9 (fun j hj => ?_)
    obtain ⟨e1, e2, e3⟩ := h4 b rfl (by omega)
    obtain ⟨blk, off, sp⟩ := b
    dsimp only at e1 e3
    subst e1
    rw [add_lit]
    exact e3 j hj

def bytesL (l : List Int) : List UInt8 := l.flatMap put
theorem bytesL_snoc (l : List Int) (x : Int) : bytesL (l ++ [x]) = bytesL l ++ put x := by simp [bytesL]
theorem put_len (c : Int) : (put c).length ≤ 4 := by
  unfold put
  split
  · rw [putN_len]; exact (longN_pos _).2
  · simp
theorem put_pos {c : Int} (h : isCode c = true) : 1 ≤ (put c).length := by
  unfold put
  rw [if_pos h, putN_len]; exact (longN_pos _).1
theorem bytesL_len : ∀ l : List Int, (bytesL l).length ≤ 4 * l.length
  | [] => by simp [bytesL]
  | x :: l => by
    have h1 := bytesL_len l
    have h2 := put_len x
    have e : bytesL (x :: l) = put x ++ bytesL l := by simp [bytesL]
    rw [e, List.length_append, List.length_cons]; omega
def textRes (l : List Int) : Value := if l.all isCode then .tuple #[.string ⟨(bytesL l).toArray⟩, .bool true] else .tuple #[.string ⟨#[]⟩, .bool false]

set_option maxRecDepth 100000 in
set_option maxHeartbeats 1000000 in
theorem text_any (v : Value) (l : List Int) (w : World) (hl : l.length ≤ 1000000) (hv : Sees iv w v l) :
    Calls Try.prog 33 #[v] w fun e w' => e = .returned (textRes l) ∧ Below w.heap.size w w' := by
  obtain ⟨a, cap, rfl, h1, h2, h3, h4⟩ := id hv
  have HV := Lib.hid hv
  have h4' := Lib.hid h4
  have h3' := Lib.hid h3
  unfold maxLen at h2
  clear hv h3 h4
  go_enter Try.func33, Try.ntmps33
  go_wp2
  go_loopw [4, 10] (fun vb i wr => ∃ k : Nat, k ≤ l.length ∧ i = .int .i64 k ∧ (l.take k).all isCode = true ∧ wr.ownsRow w.heap.size 5 1 vb (bytesL (l.take k)).length ((bytesL (l.take k)).map bv) ∧ Below w.heap.size w wr) (fun _ i _ => l.length - (intOf i).toNat)
  case atStart => exact ⟨0, Nat.zero_le _, rfl, rfl, World.ownsRow_nil _ _ _ _, Below.refl _ _⟩
  case round =>
    obtain ⟨k, hk, rfl, hall, hown, hB⟩ := hrel
    have hBs := hB.size
    have HA := Lib.hid hall
    have hLn := bytesL_len (l.take k)
    rw [List.length_take, Nat.min_eq_left hk] at hLn
    clear hall
    by_cases hlt : k < l.length
    · obtain ⟨⟨blk, off, sp⟩, rfl⟩ : ∃ b, a = some b := by
        cases a with
        | none => have := h3'.out rfl; omega
        | some b => exact ⟨b, rfl⟩
      obtain ⟨e1, e2, e3⟩ := h4'.out _ rfl (by omega)
      dsimp only at e1 e2 e3
      subst e1
      have hc := (hB.cell (p := ⟨blk, off + k, none⟩) e2).trans (e3 k hlt)
      have hts := take_snoc l k hlt
      have HTS := Lib.hid hts
      have E3 := Lib.hid e3
      clear hts e3
      have hmem : l[k] ∈ l := List.getElem_mem hlt
      have hallL : isCode l[k] = false → l.all isCode = false := fun h => by
        rw [List.all_eq_false]; exact ⟨_, hmem, by simp [h]⟩
      have HALL := Lib.hid hallL
      clear hallL hmem
      generalize l[k] = x at *
      have hpl := put_len x
      by_cases hx : isCode x = true
      · have hpp := put_pos hx
        have HX := Lib.hid hx
        have HS : Hid (bytesL (l.take (k + 1)) = bytesL (l.take k) ++ put x) := by show bytesL (l.take (k + 1)) = _; rw [HTS.out, bytesL_snoc]
        have HA2 : Hid ((l.take (k + 1)).all isCode = true) := by show (l.take (k + 1)).all isCode = true; rw [HTS.out, List.all_append, HA.out]; simp [hx]
        clear hx HALL
        unfold iv at hc
        have tp : (((put x).length : Int) == 0) = false := by rw [beq_eq_false_iff_ne]; omega
        generalize hP : put x = P at *
        generalize hBL : bytesL (l.take k) = bl at *
        clear hBL
        go_wp2_with fail
        refine (utfPut_any _ _).mono ?_
        rw [hP]
        rintro e w1 ⟨pv, rfl, hpo, hpb⟩
        have hown1 := ownsRow_chg hown (Chg.of_below hpb) (fun k _ h => h)
        have hsp := owns_sees' hpo
        have hB1 := hB.trans (hpb.mono hBs)
        have hB1s := hB1.size
        obtain ⟨pa, pc, rfl⟩ := owns_slice hpo
        clear hpo hP
        go_wp2_with (at_builtin; refine wpList_app _ rfl (.tmp 19) (.tmp 20) 23 rfl w.heap.size 5 (.int .u8 0) 1 1 Try.underlying23 utfInfoByte rfl (by decide) _ _ _ rfl hown1 _ P.length (P.map bv) rfl hsp.src (bv_one' P) (by unfold maxLen; omega) (by omega) (by omega) ?_; intro v3 w3 hown3 hc3 hb3 hn3)
        have hB3 : Below w.heap.size w w3 := hB1.trans (hc3.below hB1s (fun k hk e => by have := (hown1.lt k e).1; omega))
        clear hc3 hb3 hn3
        go_roundw
        case rel => exact ⟨k + 1, by omega, by go_num, HA2.out, by rw [HS.out, List.length_append, List.map_append]; exact hown3, hB3⟩
        case measure => simp [intOf]; omega
      · have hx' : isCode x = false := by simpa using hx
        have hP : put x = [] := by rw [put, if_neg hx]
        have HR : Hid (textRes l = .tuple #[.string ⟨#[]⟩, .bool false]) := by show textRes l = _; rw [textRes, HALL.out hx']; rfl
        clear hx hx' HALL hpl
        unfold iv at hc
        go_wp2_with fail
        refine (utfPut_any _ _).mono ?_
        rw [hP]
        rintro e w1 ⟨pv, rfl, hpo, hpb⟩
        have hB1 := hB.trans (hpb.mono hBs)
        obtain ⟨pa, pc, rfl⟩ := owns_slice hpo
        clear hpo hP
        go_wp2
        go_ret2
        exact ⟨by rw [HR.out]; rfl, hB1⟩
    · have e : k = l.length := by omega
      subst e
      have hs := owns_sees' hown
      have hcb := conv_back hs
      have HR : Hid (textRes l = .tuple #[.string ⟨(bytesL l).toArray⟩, .bool true]) := by
        show textRes l = _
        have := HA.out
        rw [List.take_length] at this
        rw [textRes, this]; rfl
      rw [List.take_length] at hcb
      clear hs hown hLn
      go_wp2
      go_ret2
      exact ⟨by rw [HR.out]; rfl, hB⟩
end Go.Proofs.Ythlidbddeclnaaa
