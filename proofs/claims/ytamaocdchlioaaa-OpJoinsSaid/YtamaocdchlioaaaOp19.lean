/- A law of almerylaw19: OpJoins. -/
import Derived.Test.YtamaocdchlioaaaOp18
namespace Go.Proofs.Ytamaocdchlioaaa
open Go.RowKit
set_option linter.unusedVariables false

/-- ops that are read, as the cells that they are -/
theorem ov_cells {w : World} {v : Value} {l : List POp} (h : OV w v l) : ∃ qs : List (POp × Value), qs.map Prod.fst = l ∧ OB w qs ∧ ReadV w v l.length (ocells qs) := by
  obtain ⟨a, c, rfl, h1, h2, h3, h4⟩ := h
  rcases h4 with h0 | ⟨b, off, rfl, hx⟩
  · have hl : l = [] := List.eq_nil_of_length_eq_zero h0
    subst hl
    refine ⟨[], rfl, fun q hq => (List.not_mem_nil hq).elim, ?_⟩
    cases a with
    | none =>
      have := h3 rfl
      subst this
      exact .inl ⟨rfl, rfl, rfl⟩
    | some ad => exact .inr ⟨ad, c, rfl, fun j u hj => by simp [ocells] at hj⟩
  · have hv : ∀ i, ∃ dv, i < l.length → LB w dv (l.getD i op0).d ∧ w.cell? ⟨b, off + i * 5, none⟩ = some (.int .i64 (l.getD i op0).k) ∧ w.cell? ⟨b, off + i * 5 + 1, none⟩ = some (.int .i64 (l.getD i op0).a) ∧ w.cell? ⟨b, off + i * 5 + 2, none⟩ = some (.int .i64 (l.getD i op0).b) ∧ w.cell? ⟨b, off + i * 5 + 3, none⟩ = some (.int .i64 (l.getD i op0).c) ∧ w.cell? ⟨b, off + i * 5 + 4, none⟩ = some dv := fun i => by
      by_cases hi : i < l.length
      · obtain ⟨dv, h⟩ := hx i hi
        exact ⟨dv, fun _ => h⟩
      · exact ⟨.slice none 0 0, fun h => absurd h hi⟩
    let dv := fun i => (hv i).choose
    have hdv := fun i => (hv i).choose_spec
    let qs := (List.range l.length).map fun i => (l.getD i op0, dv i)
    have hql : qs.length = l.length := by simp [qs]
    have hqi : ∀ i, i < l.length → qs.getD i (op0, .slice none 0 0) = (l.getD i op0, dv i) := fun i hi => by simp [qs, List.getD, hi]
    refine ⟨qs, ?_, ?_, .inr ⟨⟨b, off, none⟩, c, rfl, ?_⟩⟩
    · apply List.ext_getElem
      · simp [qs]
      · intro i h1 h2
        simp [qs, List.getD, h2]
    · intro q hq
      obtain ⟨i, hi, rfl⟩ := List.getElem_of_mem hq
      have hi' : i < l.length := by omega
      have e : qs[i] = (l.getD i op0, dv i) := by simp [qs]
      rw [e]
      exact (hdv i hi').1
    · intro j u hu
      have hjl : j < (ocells qs).length := (List.getElem?_eq_some_iff.1 hu).1
      rw [ocells_len, hql] at hjl
      obtain ⟨i, r, hj, hr⟩ : ∃ i r, j = i * 5 + r ∧ r < 5 := ⟨j / 5, j % 5, by omega, by omega⟩
      have hi : i < l.length := by omega
      have hat := ocells_at (op0, .slice none 0 0) qs i (by omega)
      rw [hqi i hi] at hat
      obtain ⟨_, c0, c1, c2, c3, c4⟩ := hdv i hi
      rw [WideShapes.add_plain]
      subst hj
      have hr' : r = 0 ∨ r = 1 ∨ r = 2 ∨ r = 3 ∨ r = 4 := by omega
      rcases hr' with rfl | rfl | rfl | rfl | rfl
      · rw [Nat.add_zero, hat.1] at hu
        cases hu
        exact c0
      · rw [hat.2.1] at hu
        cases hu
        exact c1
      · rw [hat.2.2.1] at hu
        cases hu
        exact c2
      · rw [hat.2.2.2.1] at hu
        cases hu
        exact c3
      · rw [hat.2.2.2.2] at hu
        cases hu
        exact c4
theorem readV_keep {w w' : World} {x : Value} {m : Nat} {news : List Value} (h : ReadV w x m news) (k : Below w.heap.size w w') : ReadV w' x m news := by
  rcases h with h | ⟨ad, c, h1, h2⟩
  · exact .inl h
  · exact .inr ⟨ad, c, h1, fun j u hj => (k.cell (World.block_lt_of_cell? w _ (h2 j u hj))).trans (h2 j u hj)⟩
theorem ocells_one {w : World} {qs : List (POp × Value)} (h : OB w qs) : ∀ u ∈ ocells qs, u.oneCell' = true := by
  induction qs with
  | nil => intro u hu; simp [ocells] at hu
  | cons q r ih =>
    intro u hu
    have hq := h q List.mem_cons_self
    obtain ⟨a, c, hv, _⟩ := hq
    rw [ocells, hv] at hu
    simp only [List.cons_append, List.nil_append, List.mem_cons] at hu
    rcases hu with rfl | rfl | rfl | rfl | rfl | hu
    · rfl
    · rfl
    · rfl
    · rfl
    · rfl
    · exact ih (fun q hq => h q (List.mem_cons_of_mem _ hq)) u hu
theorem strOf_app (a b : List Int) : strOfNums (a ++ b) = strOfNums a ++ strOfNums b := by
  apply ByteArray.ext
  simp [strOfNums]
theorem encL_long (l : List POp) : 27 * l.length ≤ (encL l).length := by
  induction l with
  | nil => exact Nat.zero_le _
  | cons p r ih =>
    rw [encL_cons, List.length_append, encO_len, List.length_cons]
    omega
theorem few_many {l : List POp} (h : fewB l = true) : l.length ≤ 40 := (of_decide_eq_true h).1
theorem allMayB_app (a b : List POp) : allMayB (a ++ b) = (allMayB a && allMayB b) := by
  rw [Bool.eq_iff_iff, Bool.and_eq_true, allMayB_iff, allMayB_iff, allMayB_iff]
  unfold allMay
  constructor
  · intro h
    refine ⟨fun j hj => ?_, fun j hj => ?_⟩
    · have := h j (by rw [List.length_append]; omega)
      rwa [show (a ++ b).getD j op0 = a.getD j op0 from by simp [List.getD, List.getElem?_append_left hj]] at this
    · have := h (a.length + j) (by rw [List.length_append]; omega)
      rwa [show (a ++ b).getD (a.length + j) op0 = b.getD j op0 from by simp [List.getD, List.getElem?_append_right]] at this
  · intro h j hj
    rw [List.length_append] at hj
    by_cases hja : j < a.length
    · rw [show (a ++ b).getD j op0 = a.getD j op0 from by simp [List.getD, List.getElem?_append_left hja]]
      exact h.1 j hja
    · rw [show (a ++ b).getD j op0 = b.getD (j - a.length) op0 from by simp [List.getD, List.getElem?_append_right (show a.length ≤ j by omega)]]
      exact h.2 _ (by omega)
theorem ov_join {w : World} {base : Nat} {v : Value} {a b : List POp} {qa qb : List (POp × Value)} (ha : qa.map Prod.fst = a) (hb : qb.map Prod.fst = b) (oa : OB w qa) (ob : OB w qb) (h : w.ownsRow base 40 5 v (0 + a.length + b.length) ([] ++ ocells qa ++ ocells qb)) : OV w v (a ++ b) := by
  have hl : 0 + a.length + b.length = (qa ++ qb).length := by rw [← ha, ← hb]; simp
  rw [hl, List.nil_append, ← ocells_app] at h
  have := ov_of_own h (fun q hq => (List.mem_append.1 hq).elim (oa q) (ob q))
  rwa [List.map_append, ha, hb] at this
set_option maxRecDepth 100000 in
set_option maxHeartbeats 4000000 in
theorem opJoins_law (w : World) (va vb : Value) (a b : List POp) (hla : OV w va a) (hlb : OV w vb b) (hka : ∀ q ∈ a, POk q) (hkb : ∀ q ∈ b, POk q) : Calls Try.prog 7 #[va, vb] w fun e w' => e = .returned (.bool true) ∧ Below w.heap.size w w' := by
  obtain ⟨i0, ei, ez0, ez1, ez2⟩ := info_parts Try.infoO
  have HA := Lib.hid hla
  have HB := Lib.hid hlb
  obtain ⟨Aa, ca, rfl, _, _, _, _⟩ := hla
  obtain ⟨Ab, cb, rfl, _, _, _, _⟩ := hlb
  clear hka hkb
  go_enter Try.func7, Try.ntmps7
  go_wp2_with fail
  refine (awake_any _).mono ?_
  rintro e w1 ⟨rfl, b1⟩
  have B1 := Lib.hid b1
  have HA1 := Lib.hid (HA.out.keep b1)
  have HB1 := Lib.hid (HB.out.keep b1)
  clear b1
  go_wp2_with fail
  refine (few_any _ _ a HA1.out).mono ?_
  rintro e w2 ⟨rfl, rfl⟩
  have hfa : fewB a = true ∨ fewB a = false := by cases fewB a <;> simp
  rcases hfa with hfa | hfa
  · rw [hfa]
    have HFA := Lib.hid hfa
    clear hfa
    go_wp2_with fail
    refine (few_any _ _ b HB1.out).mono ?_
    rintro e w2 ⟨rfl, rfl⟩
    have hfb : fewB b = true ∨ fewB b = false := by cases fewB b <;> simp
    rcases hfb with hfb | hfb
    · rw [hfb]
      have HFB := Lib.hid hfb
      clear hfb
      have hma := few_many HFA.out
      have hmb := few_many HFB.out
      go_wp2_with fail
      refine (put_any _ _ a HA1.out (small_of_few HFA.out)).mono ?_
      rintro e w2 ⟨vx, ex, rfl, hp, b2⟩
      obtain ⟨rfl, hx⟩ := hp.eq
      have B2 := Lib.hid (B1.out.trans (b2.mono B1.out.size))
      have HA2 := Lib.hid (HA1.out.keep b2)
      have HB2 := Lib.hid (HB1.out.keep b2)
      have HX2 := Lib.hid hx
      clear b2 hp hx
      obtain ⟨ex, hex⟩ : ∃ ex, ex = putE a := ⟨_, rfl⟩
      rw [← hex]
      have HEX := Lib.hid hex
      clear hex
      go_wp2_with fail
      refine (put_any _ _ b HB2.out (small_of_few HFB.out)).mono ?_
      rintro e w3 ⟨vy, ey, rfl, hp, b3⟩
      obtain ⟨rfl, hy⟩ := hp.eq
      have B3 := Lib.hid (B2.out.trans (b3.mono B2.out.size))
      have HA3 := Lib.hid (HA2.out.keep b3)
      have HB3 := Lib.hid (HB2.out.keep b3)
      have HX3 := Lib.hid (HX2.out.keep b3)
      have HY3 := Lib.hid hy
      clear b3 hp hy
      obtain ⟨ey, hey⟩ : ∃ ey, ey = putE b := ⟨_, rfl⟩
      rw [← hey]
      have HEY := Lib.hid hey
      clear hey
      have hae : Below w3.heap.size w3 (w3.alloc (.cells #[] 40)) := (Below.refl _ w3).alloc (Nat.le_refl _) _
      have HAE := Lib.hid hae
      have OE := Lib.hid (own_empty w3 w3.heap.size 40 5 (Nat.le_refl _))
      obtain ⟨qa, hqa, hoa, hra⟩ := ov_cells HA3.out
      have HQA := Lib.hid hqa
      have HLA : Hid (qa.length = a.length) := Lib.hid (by rw [← hqa]; simp)
      have HOA := Lib.hid hoa
      have HRA := Lib.hid (readV_keep hra hae)
      obtain ⟨qb, hqb, hob, hrb⟩ := ov_cells HB3.out
      have HQB := Lib.hid hqb
      have HLB : Hid (qb.length = b.length) := Lib.hid (by rw [← hqb]; simp)
      have HOB := Lib.hid hob
      have HRB := Lib.hid hrb
      clear hqa hoa hra hae hqb hob hrb
      go_wp2_with (first
        | (at_builtin; refine wpList_append_list _ rfl (.tmp 33) (.tmp 34) 22 rfl w3.heap.size 40 i0 (.agg #[.int .i64 0, .int .i64 0, .int .i64 0, .int .i64 0, .slice none 0 0]) 5 56 Try.underlying22 ei ez0 ez1 ez2 rfl (by decide) _ 0 [] rfl OE.out a.length (ocells qa) HRA.out (by rw [ocells_len, HLA.out]) (ocells_one HOA.out) (by unfold maxLen; omega) (by omega) (by simp) ?_; intro v5 w5 o5 hg5; have B5 := Lib.hid (below_append HAE.out OE.out (Keep.refl _ _) hg5 HAE.out.size); have O5 := Lib.hid o5; clear o5 hg5; have HRB5 := Lib.hid (readV_keep HRB.out B5.out); have hz5 := B5.out.size)
        | (at_builtin; refine wpList_append_list _ rfl (.tmp 35) (.tmp 36) 22 rfl w3.heap.size 40 i0 (.agg #[.int .i64 0, .int .i64 0, .int .i64 0, .int .i64 0, .slice none 0 0]) 5 56 Try.underlying22 ei ez0 ez1 ez2 rfl (by decide) _ (0 + a.length) _ rfl O5.out b.length (ocells qb) HRB5.out (by rw [ocells_len, HLB.out]) (ocells_one HOB.out) (by unfold maxLen; omega) (by omega) hz5 ?_; intro v6 w6 o6 hg6; have B6 := Lib.hid (below_append B5.out O5.out (Keep.refl _ _) hg6 B5.out.size); have O6 := Lib.hid o6; clear o6 hg6))
      have HOV := Lib.hid (ov_join HQA.out HQB.out (HOA.out.keep B6.out) (HOB.out.keep B6.out) O6.out)
      refine (put_any _ _ (a ++ b) HOV.out (small_of_len (by rw [encL_app, List.length_append]; have := few_len HFA.out; have := few_len HFB.out; omega))).mono ?_
      rintro e w7 ⟨vz, er, rfl, hp, b7⟩
      obtain ⟨rfl, hz⟩ := hp.eq
      have B7 := Lib.hid (B3.out.trans ((B6.out.trans (b7.mono B6.out.size)).mono B3.out.size))
      have K7 := Lib.hid (B6.out.trans (b7.mono B6.out.size))
      clear b7 hp
      have hm : (allMayB a = true ∧ allMayB b = true) ∨ (allMayB a = true ∧ allMayB b = false) ∨ allMayB a = false := by cases allMayB a <;> cases allMayB b <;> simp
      rcases hm with ⟨ha, hb⟩ | ⟨ha, hb⟩ | ha
      · obtain rfl : ex = 0 := HEX.out.trans (putL_ok ha).2
        obtain rfl : ey = 0 := HEY.out.trans (putL_ok hb).2
        have hz2 : putL (a ++ b) = encL (a ++ b) ∧ putE (a ++ b) = 0 := putL_ok (by rw [allMayB_app, ha, hb]; rfl)
        rw [hz2.2]
        rw [hz2.1, encL_app] at hz
        have hx := HX3.out.keep K7.out
        have hy := HY3.out.keep K7.out
        rw [(putL_ok ha).1] at hx
        rw [(putL_ok hb).1] at hy
        have cx := conv_lb hx
        have cy := conv_lb hy
        have cz := conv_lb hz
        rw [strOf_app] at cz
        have hlen := encL_long a
        obtain ⟨adx, cx', rfl, _, hcx, _, _⟩ := hx
        have hxl : (encL a).length ≤ cx' := by assumption
        unfold maxLen at hcx
        have hs1 : (strOfNums (encL a)).size ≤ 13080 := by rw [strOfNums_size]; exact few_len HFA.out
        have hs2 : (strOfNums (encL b)).size ≤ 13080 := by rw [strOfNums_size]; exact few_len HFB.out
        generalize (encL a).length = nx at hlen cx hxl ⊢
        generalize strOfNums (encL a) = S1 at cx cz hs1
        generalize strOfNums (encL b) = S2 at cy cz hs2
        have n4 : ((S1 ++ S2) == (S1 ++ S2)) = true := byteArray_beq _
        have hss : S1.size + S2.size ≤ maxLen := by unfold maxLen; omega
        have hss' : S1.size + S2.size ≤ 9223372036854775807 := by omega
        have hlen' : 27 * (a.length : Int) ≤ (nx : Int) := by omega
        clear hz2 hz hy ha hb
        go_wp2_with fail
        go_ret
        exact ⟨rfl, B7.out⟩
      · obtain rfl : ex = 0 := HEX.out.trans (putL_ok ha).2
        obtain rfl : ey = 2 := HEY.out.trans (putL_no hb).2
        have hz2 : putL (a ++ b) = [] ∧ putE (a ++ b) = 2 := putL_no (by rw [allMayB_app, ha, hb]; rfl)
        rw [hz2.2]
        rw [hz2.1] at hz
        obtain ⟨adz, cz, hvz, _, _, _, _⟩ := hz
        have hvz' : vz = .slice adz 0 cz := hvz
        subst hvz'
        clear hz2 hvz
        clear ha hb
        go_wp2_with fail
        go_ret
        exact ⟨rfl, B7.out⟩
      · obtain rfl : ex = 2 := HEX.out.trans (putL_no ha).2
        have hz2 : putL (a ++ b) = [] ∧ putE (a ++ b) = 2 := putL_no (by rw [allMayB_app, ha]; rfl)
        rw [hz2.2]
        rw [hz2.1] at hz
        obtain ⟨adz, cz, hvz, _, _, _, _⟩ := hz
        have hvz' : vz = .slice adz 0 cz := hvz
        subst hvz'
        clear hz2 hvz
        clear ha
        go_wp2_with fail
        go_ret
        exact ⟨rfl, B7.out⟩
    · rw [hfb]
      clear hfb
      go_wp2_with fail
      go_ret
      exact ⟨rfl, B1.out⟩
  · rw [hfa]
    clear hfa
    go_wp2_with fail
    go_ret
    exact ⟨rfl, B1.out⟩
end Go.Proofs.Ytamaocdchlioaaa
