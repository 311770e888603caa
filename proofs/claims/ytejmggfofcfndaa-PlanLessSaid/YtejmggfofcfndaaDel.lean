/- The contracts of slices.DeleteFunc at plan's closure, and of plan.Next. -/
import Derived.Test.YtejmggfofcfndaaMay
import Derived.Lib.SliceRun
import Derived.BigFrame
import Derived.Laws.IdiomCopy
namespace Go.Proofs.Ytejmggfofcfndaa
open Go.RowKit

theorem setCells_keep (b : Nat) : ∀ (vs : List Value) (o : Nat) (w : World), Keep (fun k => k = b) w (w.setCells b o vs)
  | [], _, w => Keep.refl _ w
  | v :: r, o, w => by
    have h := setCells_keep b r (o + 1) (w.setCell ⟨b, o, none⟩ v)
    exact ((Keep.refl (fun k => k = b) w).setCell (.inl rfl) v).trans h
theorem delP_keep (b x : Int) : keepP b x = !delP b x := rfl
theorem filter_none {b : Int} {l : List Int} (h : NoneTo (delP b) l l.length) : l.filter (keepP b) = l := by
  rw [List.filter_eq_self]
  intro x hx
  obtain ⟨j, hj, rfl⟩ := List.getElem_of_mem hx
  have := h j hj
  simp [List.getD, hj] at this
  rw [delP_keep, this]
  rfl
theorem filter_to {b : Int} {l : List Int} {k : Nat} (h : NoneTo (delP b) l k) : (l.take k).filter (keepP b) = l.take k := by
  rw [List.filter_eq_self]
  intro x hx
  obtain ⟨j, hj, rfl⟩ := List.getElem_of_mem hx
  have hj' : j < k ∧ j < l.length := by rw [List.length_take] at hj; omega
  have := h j hj'.1
  simp [List.getD, hj'.2] at this
  rw [delP_keep]
  simp [this]
theorem filter_take_succ (b : Int) (l : List Int) (k : Nat) (h : k < l.length) : (l.take (k + 1)).filter (keepP b) = (l.take k).filter (keepP b) ++ (if delP b (l.getD k 0) then [] else [l.getD k 0]) := by
  rw [getD_take_succ l k h, List.filter_append]
  congr 1
  rw [List.filter_cons]
  simp only [delP_keep, List.filter_nil]
  have hq : ∀ (q : Bool) (x : Int), (if (!q) = true then [x] else []) = if q = true then [] else [x] := by intro q x; cases q <;> rfl
  exact hq _ _

/-- between two rounds: the front holds what is kept, the back is as it was -/
def Half (b : Int) (l : List Int) (i j : Nat) (L : List Int) : Prop := L.length = l.length ∧ i < j ∧ j ≤ l.length ∧ L.take i = (l.take j).filter (keepP b) ∧ ∀ m, j ≤ m → L.getD m 0 = l.getD m 0
theorem half_start {b : Int} {l : List Int} {k : Nat} (hk : k < l.length) (h : NoneTo (delP b) l k) (hp : delP b (l.getD k 0) = true) : Half b l k (k + 1) l :=
  ⟨rfl, by omega, by omega, by rw [filter_take_succ b l k hk, if_pos hp, List.append_nil, filter_to h], fun _ _ => rfl⟩
theorem half_drop {b : Int} {l L : List Int} {i j : Nat} (h : Half b l i j L) (hj : j < l.length) (hp : delP b (l.getD j 0) = true) : Half b l i (j + 1) L := by
  obtain ⟨h1, h2, h3, h4, h5⟩ := h
  exact ⟨h1, by omega, by omega, by rw [filter_take_succ b l j hj, if_pos hp, List.append_nil, h4], fun m hm => h5 m (by omega)⟩
theorem half_keep {b : Int} {l L : List Int} {i j : Nat} (h : Half b l i j L) (hj : j < l.length) (hp : delP b (l.getD j 0) = false) : Half b l (i + 1) (j + 1) (L.set i (l.getD j 0)) := by
  obtain ⟨h1, h2, h3, h4, h5⟩ := h
  refine ⟨by simpa using h1, by omega, by omega, ?_, fun m hm => ?_⟩
  · rw [filter_take_succ b l j hj, if_neg (by rw [hp]; exact Bool.false_ne_true), ← h4, getD_take_succ _ _ (by simp; omega), List.take_set_of_le (Nat.le_refl _)]
    congr 1
    simp [List.getD, show i < L.length by omega]
  · rw [← h5 m (by omega)]
    simp only [List.getD, List.getElem?_set]
    rw [if_neg (by omega)]

set_option maxHeartbeats 2000000 in
theorem delete_any (base : Nat) (w : World) (v : Value) (l : List Int) (gb : Nat) (b : Int) (h : w.ownsRow base 3 1 v l.length (icells l)) (hl : 0 < l.length) (hg : w.heap[gb]? = some (.cells #[.int .i64 b] 3 (0, 0))) (hgb : gb < base) :
    Calls Try.prog 23 #[v, .func (.func 24) #[] #[.pointer (some ⟨gb, 0, none⟩)]] w fun e w' => ∃ v', e = .returned v' ∧ LV base w' v' (l.filter (keepP b)) ∧ Keep (fun k => base ≤ k) w w' := by
  obtain ⟨g, cap, hv, hgg, hcap, hcapm, _, _⟩ := own_head h hl rfl
  subst hv
  have hLV := Lib.hid (lv_of_own (B := base) h (Nat.le_refl _))
  have hi := Lib.hid (indexF_Next base w _ l gb b hLV.out hg)
  have H := Lib.hid h
  have Hg := Lib.hid hg
  clear h hg
  go_enter Try.func23, Try.ntmps23
  go_wp2_with fail
  refine hi.out.mono ?_
  rintro e w1 ⟨r, rfl, hx, rfl⟩
  rcases hx with ⟨rfl, hno⟩ | ⟨k, rfl, hk, hp, hno⟩
  · have he := Lib.hid (filter_none hno)
    clear hno
    go_wp2_with fail
    go_ret
    exact ⟨_, rfl, by rw [he.out]; exact hLV.out, Keep.refl _ _⟩
  · have hs := Lib.hid (half_start hk hno hp)
    have e0 : ((k : Int) == -1) = false := beq_eq_false_iff_ne.2 (by omega)
    clear hno hp
    go_wp2_with fail
    go_loopw [5, 6] (fun u v wr => ∃ (i j : Nat) (L : List Int), u = .int .i64 i ∧ v = .int .i64 j ∧ Half b l i j L ∧ wr.ownsRow base 3 1 (.slice (some ⟨g, 0, none⟩) l.length cap) l.length (icells L) ∧ Keep (fun k => base ≤ k) w wr) (fun _ v _ => l.length - (intOf v).toNat)
    case atStart => exact ⟨k, k + 1, l, rfl, by go_num, hs.out, H.out, Keep.refl _ _⟩
    case round =>
      obtain ⟨i, j, L, rfl, rfl, hh, hown, hK⟩ := hrel
      have HH := Lib.hid hh
      obtain ⟨hLl, hij, hjn, _, _⟩ := hh
      have HO := Lib.hid hown
      have HC := Lib.hid (hK.blk Hg.out (by omega))
      obtain ⟨g', cap', hv, _, _, _, hcells, hfz⟩ := own_head hown hl hLl
      cases hv
      clear hown
      by_cases hlt : j < l.length
      · have hx0 := hcells j hlt
        have hxi := hcells i (by omega)
        have hfi := hfz i
        have Hcells := Lib.hid hcells
        clear hcells hfz
        have hLj := HH.out.2.2.2.2 j (Nat.le_refl _)
        rw [hLj] at hx0
        have hcl := Lib.hid (clo_next wr gb b (l.getD j 0) HC.out)
        have hcase : delP b (l.getD j 0) = true ∨ delP b (l.getD j 0) = false := by cases delP b (l.getD j 0) <;> simp
        rcases hcase with hp | hp
        · have HP := Lib.hid (half_drop HH.out hlt hp)
          have Hp := Lib.hid hp
          generalize hz : l.getD j 0 = z at hx0 hcl Hp
          clear hp hz hLj
          go_wp2_with fail
          refine hcl.out.mono ?_
          rintro e w1 ⟨rfl, rfl⟩
          rw [Hp.out]
          go_wp2_with fail
          go_roundw
          case rel => exact ⟨i, j + 1, L, rfl, by go_num, HP.out, HO.out, hK⟩
          case measure => simp [intOf]; omega
        · have HP := Lib.hid (half_keep HH.out hlt hp)
          have Hp := Lib.hid hp
          generalize hz : l.getD j 0 = z at hx0 hcl Hp HP
          clear hp hz hLj
          go_wp2_with fail
          refine hcl.out.mono ?_
          rintro e w1 ⟨rfl, rfl⟩
          rw [Hp.out]
          go_wp2_with fail
          go_roundw
          case rel => exact ⟨i + 1, j + 1, _, by go_num, by go_num, HP.out, own_set z HO.out, hK.setCell (.inl hgg) _⟩
          case measure => simp [intOf]; omega
      · obtain rfl : j = l.length := by omega
        have hic : i < cap := by omega
        have hcl : ∀ ty, (Builtin.clear_ #[22] ty #[.slice (some ⟨g, i, none⟩) (l.length - i) (cap - i)]).run Try.prog wr = .ok (.tuple #[]) (wr.setCells g i (List.replicate (l.length - i) (.int .i64 0))) :=
          fun ty => Lib.run_clear_slice wr 22 3 ty (.int .i64 0) Try.underlying22 (fun w => by kernel_rfl) rfl rfl g i (l.length - i) (cap - i) (by omega) (fun m hm => by rw [hcells (i + m) (by omega)]; rfl) (fun m _ => hfz (i + m))
        have hfin : LV base (wr.setCells g i (List.replicate (l.length - i) (.int .i64 0))) (.slice (some ⟨g, 0, none⟩) i cap) (l.filter (keepP b)) := by
          obtain ⟨q1, q2, q3, q4, q5⟩ := HH.out
          rw [List.take_length] at q4
          rw [← q4]
          have hli : (L.take i).length = i := by rw [List.length_take]; omega
          refine ⟨some ⟨g, 0, none⟩, cap, by rw [hli], by omega, hcapm, ⟨nofun, fun x hx => by cases hx; exact hgg⟩, .inr ⟨g, 0, rfl, fun m hm => ?_⟩⟩
          rw [hli] at hm
          rw [World.cell?_setCells_out _ _ _ _ _ (fun _ _ => .inl (by show 0 + m < i; omega)), Nat.zero_add, hcells m (by omega)]
          simp [List.getD, hm]
        have Hfin := Lib.hid hfin
        have hK2 := Lib.hid (hK.trans ((setCells_keep g (List.replicate (l.length - i) (.int .i64 0)) i wr).mono (fun k hk => .inl (by omega))))
        clear hcells hfz hfin
        go_wp2_with (simp only [hcl])
        go_ret
        exact ⟨_, rfl, Hfin.out, hK2.out⟩
end Go.Proofs.Ytejmggfofcfndaa
