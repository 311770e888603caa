/- The contract of the reference's Next. -/
import Derived.Test.YtejmggfofcfndaaReads
namespace Go.Proofs.Ytejmggfofcfndaa
open Go.RowKit

theorem decLast_getD : ∀ (l : List Int) (k : Nat), k < l.length → (decLast l).getD k 0 = if k + 1 = l.length then l.getD k 0 - 1 else l.getD k 0
  | [x], k, h => by
    obtain rfl : k = 0 := by simp at h; omega
    simp [decLast]
  | x :: y :: l, 0, h => by simp [decLast]
  | x :: y :: l, k + 1, h => by
    have := decLast_getD (y :: l) k (by simpa using h)
    simp only [decLast, List.getD_cons_succ, List.length_cons] at this ⊢
    rw [this]
    by_cases e : k + 1 = l.length + 1
    · rw [if_pos e, if_pos (by omega)]
    · rw [if_neg e, if_neg (by omega)]
theorem adj_getD (l : List Int) (k : Nat) (h2 : 2 ≤ l.length) (h : k < l.length) : (adjP l).getD k 0 = if k = 0 then l.getD 0 0 + 1 else if k + 1 = l.length then l.getD k 0 - 1 else l.getD k 0 := by
  match l, h2 with
  | x :: y :: l, _ =>
    cases k with
    | zero => simp [adjP]
    | succ k =>
      have := decLast_getD (y :: l) k (by simpa using h)
      rw [if_neg (by omega)]
      simp only [adjP, List.getD_cons_succ, List.length_cons] at this ⊢
      rw [this]
      by_cases e : k + 1 = l.length + 1
      · rw [if_pos e, if_pos (by omega)]
      · rw [if_neg e, if_neg (by omega)]
def RN (l : List Int) (b : Int) (k : Nat) : List Int := ((adjP l).take k).filter (keepP b)
theorem R_step {l : List Int} {b : Int} {k : Nat} (h : k < l.length) : RN l b (k + 1) = RN l b k ++ [(adjP l).getD k 0].filter (keepP b) := by
  unfold RN
  rw [getD_take_succ (adjP l) k (by rw [adjP_length]; exact h), List.filter_append]
theorem R_keep {l : List Int} {b n : Int} {k : Nat} (h : k < l.length) (hn : (adjP l).getD k 0 = n) (hk : keepP b n = true) : RN l b (k + 1) = RN l b k ++ [n] := by
  rw [R_step h, hn]; simp [hk]
theorem R_drop {l : List Int} {b n : Int} {k : Nat} (h : k < l.length) (hn : (adjP l).getD k 0 = n) (hk : keepP b n = false) : RN l b (k + 1) = RN l b k := by
  rw [R_step h, hn]; simp [hk]
theorem R_len (l : List Int) (b : Int) (k : Nat) : (RN l b k).length ≤ k := by
  unfold RN
  have h1 := List.length_filter_le (keepP b) ((adjP l).take k)
  have h2 := List.length_take_le k (adjP l)
  omega
theorem R_all {l : List Int} {b : Int} (h : 2 ≤ l.length) : RN l b l.length = nextP l b := by
  unfold RN nextP
  rw [if_neg (by omega), List.take_of_length_le (by rw [adjP_length]; exact Nat.le_refl _)]
theorem may_at {l : List Int} {b : Int} (h : mayP l b = true) {k : Nat} (hk : k < l.length) : 1 ≤ l.getD k 0 ∧ l.getD k 0 < b := mayP_mem.1 h _ (by simp [List.getD, hk])

theorem LV.lower {B B' : Nat} {w : World} {v : Value} {l : List Int} (h : LV B w v l) (hb : B' ≤ B) : LV B' w v l := by
  obtain ⟨a, c, h1, h2, h3, h4, h5⟩ := h
  exact ⟨a, c, h1, h2, h3, ⟨h4.1, fun x hx => Nat.le_trans hb (h4.2 x hx)⟩, h5⟩

set_option maxHeartbeats 2000000 in
theorem rnext_any (B : Nat) (w : World) (v : Value) (l : List Int) (b : Int) (h : LV B w v l) (hBw : B ≤ w.heap.size) (hl : l.length ≤ 12) (hb : b ≤ 20) (hm : mayP l b = true) :
    Calls Try.prog 16 #[v, .int .i64 b] w fun e w' => ∃ v', e = .returned v' ∧ LV B w' v' (nextP l b) ∧ Below w.heap.size w w' := by
  have H := Lib.hid h
  have Hm := Lib.hid hm
  obtain ⟨a, c, rfl, hc, hmx, _, _⟩ := h
  unfold maxLen at hmx
  clear hm
  by_cases h2 : l.length < 2
  · have en := Lib.hid (next_small b h2)
    go_enter Try.func16, Try.ntmps16
    go_wp2_with fail
    go_ret
    exact ⟨_, rfl, by rw [en.out]; exact H.out, Below.refl _ _⟩
  · obtain ⟨i0, ei, ez0, ez1, ez2⟩ := info_parts Try.infoI
    have h2' : 2 ≤ l.length := by omega
    have en := Lib.hid (R_all (b := b) h2')
    clear h2
    go_enter Try.func16, Try.ntmps16
    go_wp2_with fail
    go_loopw [5, 6] (fun v i wr => ∃ k : Nat, k ≤ l.length ∧ i = .int .i64 k ∧ wr.ownsRow w.heap.size 3 1 v (RN l b k).length (icells (RN l b k)) ∧ Below w.heap.size w wr) (fun _ i _ => l.length - (intOf i).toNat)
    case atStart => exact ⟨0, Nat.zero_le _, rfl, World.ownsRow_nil _ _ _ _, Below.refl _ _⟩
    case round =>
      obtain ⟨k, hk, rfl, hown, br⟩ := hrel
      by_cases hlt : k < l.length
      · obtain ⟨g, off, c', hv, hx⟩ := H.out.elem hlt
        cases hv
        have hx0 := hx _ br
        have hz := may_at Hm.out hlt
        have ha := adj_getD l k h2' hlt
        have hrl := R_len l b k
        clear hx
        by_cases h0 : k = 0
        · subst h0
          rw [if_pos rfl] at ha
          rw [Nat.add_zero] at hx0
          generalize hz' : l.getD 0 0 = z at hx0 hz ha
          clear hz'
          have hadj := ha
          clear ha
          by_cases hkp : z + 1 < b
          · have hne : z + 1 ≠ b := by omega
            have hR := Lib.hid (R_keep (b := b) hlt hadj (by simp only [keepP, Bool.not_eq_true', Bool.or_eq_false_iff, beq_eq_false_iff_ne]; omega))
            have hnews := Lib.hid (new_cells wr (icells [z + 1]) 3)
            clear hadj
            go_wp2_with (at_builtin; refine wpList_append_own _ rfl _ _ 22 rfl w.heap.size 3 i0 (.int .i64 0) 1 8 Try.underlying22 ei ez0 ez1 ez2 rfl (by decide) _ _ _ rfl (hown.alloc _) ⟨wr.heap.size, 0, none⟩ 1 1 _ rfl rfl hnews.out (icells_one [z + 1]) (by unfold maxLen; omega) (by omega) (by have := br.size; simp; omega) ?_; intro v2 w2 hown2 hgr2 _)
            have b2 := below_append br hown (((Keep.refl _ wr).alloc (.cells #[.int .i64 (z + 1)] 3))) hgr2 br.size
            go_roundw
            case rel => exact ⟨_, hlt, by go_num, by rw [hR.out, List.length_append]; simpa [icells] using hown2, b2⟩
            case measure => simp [intOf]; omega
          · have hne : b ≤ z + 1 := by omega
            clear hkp
            have hR := Lib.hid (R_drop (b := b) hlt hadj (by simp only [keepP, Bool.not_eq_false', Bool.or_eq_true, beq_iff_eq]; omega))
            clear hadj
            go_wp2_with fail
            go_roundw
            case rel => exact ⟨_, hlt, by go_num, by rw [hR.out]; exact hown, br⟩
            case measure => simp [intOf]; omega
        · rw [if_neg h0] at ha
          have e0 : ((k : Int) == 0) = false := beq_eq_false_iff_ne.2 (by omega)
          by_cases hl1 : k + 1 = l.length
          · rw [if_pos hl1] at ha
            have e1 : ((k : Int) == (l.length : Int) - 1) = true := by simp; omega
            have Hl1 := Lib.hid hl1
            generalize hz' : l.getD k 0 = z at hx0 hz ha
            clear hz' hl1
            have hadj := ha
            clear ha
            by_cases hkp : 1 < z
            · have hq : 0 < z - 1 := by omega
              have hq2 : z - 1 < b := by omega
              have hR := Lib.hid (R_keep (b := b) hlt hadj (by simp only [keepP, Bool.not_eq_true', Bool.or_eq_false_iff, beq_eq_false_iff_ne]; omega))
              have hnews := Lib.hid (new_cells wr (icells [z - 1]) 3)
              clear hadj
              go_wp2_with (at_builtin; refine wpList_append_own _ rfl _ _ 22 rfl w.heap.size 3 i0 (.int .i64 0) 1 8 Try.underlying22 ei ez0 ez1 ez2 rfl (by decide) _ _ _ rfl (hown.alloc _) ⟨wr.heap.size, 0, none⟩ 1 1 _ rfl rfl hnews.out (icells_one [z - 1]) (by unfold maxLen; omega) (by omega) (by have := br.size; simp; omega) ?_; intro v2 w2 hown2 hgr2 _)
              have b2 := below_append br hown (((Keep.refl _ wr).alloc (.cells #[.int .i64 (z - 1)] 3))) hgr2 br.size
              go_roundw
              case rel => exact ⟨_, hlt, by go_num, by rw [hR.out, List.length_append]; simpa [icells] using hown2, b2⟩
              case measure => simp [intOf]; omega
            · have hq : z - 1 ≤ 0 := by omega
              clear hkp
              have hR := Lib.hid (R_drop (b := b) hlt hadj (by simp only [keepP, Bool.not_eq_false', Bool.or_eq_true, beq_iff_eq]; omega))
              clear hadj
              go_wp2_with fail
              go_roundw
              case rel => exact ⟨_, hlt, by go_num, by rw [hR.out]; exact hown, br⟩
              case measure => simp [intOf]; omega
          · rw [if_neg hl1] at ha
            have e1 : ((k : Int) == (l.length : Int) - 1) = false := beq_eq_false_iff_ne.2 (by omega)
            generalize hz' : l.getD k 0 = z at hx0 hz ha
            clear hz'
            have hadj := ha
            clear ha
            have hq : 0 < z := by omega
            have hq2 : z < b := by omega
            have hR := Lib.hid (R_keep (b := b) hlt hadj (by simp only [keepP, Bool.not_eq_true', Bool.or_eq_false_iff, beq_eq_false_iff_ne]; omega))
            have hnews := Lib.hid (new_cells wr (icells [z]) 3)
            clear hadj
            go_wp2_with (at_builtin; refine wpList_append_own _ rfl _ _ 22 rfl w.heap.size 3 i0 (.int .i64 0) 1 8 Try.underlying22 ei ez0 ez1 ez2 rfl (by decide) _ _ _ rfl (hown.alloc _) ⟨wr.heap.size, 0, none⟩ 1 1 _ rfl rfl hnews.out (icells_one [z]) (by unfold maxLen; omega) (by omega) (by have := br.size; simp; omega) ?_; intro v2 w2 hown2 hgr2 _)
            have b2 := below_append br hown (((Keep.refl _ wr).alloc (.cells #[.int .i64 (z)] 3))) hgr2 br.size
            go_roundw
            case rel => exact ⟨_, hlt, by go_num, by rw [hR.out, List.length_append]; simpa [icells] using hown2, b2⟩
            case measure => simp [intOf]; omega
      · obtain rfl : k = l.length := by omega
        rw [en.out] at hown
        have Ho := Lib.hid hown
        clear hown
        go_wp2_with fail
        go_ret
        exact ⟨_, rfl, lv_of_own Ho.out hBw, br⟩
end Go.Proofs.Ytejmggfofcfndaa
