/- The contracts of pool's methods, as steps of a pool's state. -/
import Derived.Test.YtlajbgopidllbaaRow
import Derived.Test.YtlajbgopidllbaaRows
import Derived.StillTailTactics
namespace Go.Proofs.Ytlajbgopidllbaa
open Go.RowKit

def pf (os nx : Nat → Int) (j : Nat) : Value := if j % 2 = 0 then .int .i64 (os (j / 2)) else .int .i64 (nx (j / 2))
theorem pf_os (os nx : Nat → Int) (i : Nat) : pf os nx (i * 2) = .int .i64 (os i) := by unfold pf; rw [if_pos (by omega), show i * 2 / 2 = i from by omega]
theorem pf_nx (os nx : Nat → Int) (i : Nat) : pf os nx (i * 2 + 1) = .int .i64 (nx i) := by unfold pf; rw [if_neg (by omega), show (i * 2 + 1) / 2 = i from by omega]
theorem pf_set_os (os nx : Nat → Int) (i : Nat) (v : Int) (j : Nat) : (if j = i * 2 then .int .i64 v else pf os nx j) = pf (upd os i v) nx j := by
  unfold pf upd
  by_cases h : j = i * 2
  · rw [if_pos h, if_pos (by omega), if_pos (by omega)]
  · rw [if_neg h]
    by_cases h2 : j % 2 = 0
    · rw [if_pos h2, if_pos h2, if_neg (by omega)]
    · rw [if_neg h2, if_neg h2]
theorem pf_set_nx (os nx : Nat → Int) (i : Nat) (v : Int) (j : Nat) : (if j = i * 2 + 1 then .int .i64 v else pf os nx j) = pf os (upd nx i v) j := by
  unfold pf upd
  by_cases h : j = i * 2 + 1
  · rw [if_pos h, if_neg (by omega), if_pos (by omega)]
  · rw [if_neg h]
    by_cases h2 : j % 2 = 0
    · rw [if_pos h2, if_pos h2]
    · rw [if_neg h2, if_neg h2, if_neg (by omega)]

def PS (w : World) (g gp n : Nat) (os nx : Nat → Int) (head held : Int) : Prop :=
  w.heap[g]? = some (.cells #[.slice (some ⟨gp, 0, none⟩) n n, .int .i64 head, .int .i64 held, .func (.func 21) #[] #[]] 55 (0, 0)) ∧ Row w gp 52 (pf os nx) (n * 2) ∧ g ≠ gp ∧ n ≤ 1024
abbrev ptr (g : Nat) : Value := .pointer (some ⟨g, 0, none⟩)

theorem held_nil (w : World) : Calls Try.prog 13 #[.pointer none] w fun e w' => e = .returned (.int .i64 0) ∧ w = w' := by
  go_enter Try.func13, Try.ntmps13
  go_wp2_with fail
  go_ret
  exact ⟨rfl, rfl⟩
theorem free_nil (w : World) : Calls Try.prog 12 #[.pointer none] w fun e w' => e = .returned (.int .i64 0) ∧ w = w' := by
  go_enter Try.func12, Try.ntmps12
  go_wp2_with fail
  go_ret
  exact ⟨rfl, rfl⟩
theorem there_nil (w : World) (n : Int) : Calls Try.prog 20 #[.pointer none, .int .i64 n] w fun e w' => e = .returned (.bool false) ∧ w = w' := by
  go_enter Try.func20, Try.ntmps20
  go_wp2_with fail
  go_ret
  exact ⟨rfl, rfl⟩
theorem owner_nil (w : World) (n : Int) : Calls Try.prog 10 #[.pointer none, .int .i64 n] w fun e w' => e = .returned (.int .i64 (-1)) ∧ w = w' := by
  go_enter Try.func10, Try.ntmps10
  go_wp2_with fail
  refine (there_nil _ n).mono ?_
  rintro e w1 ⟨rfl, rfl⟩
  go_wp2_with fail
  go_ret
  exact ⟨rfl, rfl⟩
theorem give_nil (w : World) (n : Int) : Calls Try.prog 17 #[.pointer none, .int .i64 n] w fun e w' => e = .returned (.int .i64 1) ∧ w = w' := by
  go_enter Try.func17, Try.ntmps17
  go_wp2_with fail
  refine (there_nil _ n).mono ?_
  rintro e w1 ⟨rfl, rfl⟩
  go_wp2_with fail
  go_ret
  exact ⟨rfl, rfl⟩
theorem take_nil (w : World) (n : Int) : Calls Try.prog 16 #[.pointer none, .int .i64 n] w fun e w' => e = .returned (.tuple #[.int .i64 0, .int .i64 1]) ∧ w = w' := by
  go_enter Try.func16, Try.ntmps16
  go_wp2_with fail
  go_ret2
  exact ⟨rfl, rfl⟩

theorem held_any (w : World) (g gp n : Nat) (os nx : Nat → Int) (head held : Int) (h : PS w g gp n os nx head held) : Calls Try.prog 13 #[ptr g] w fun e w' => e = .returned (.int .i64 held) ∧ w = w' := by
  have c2 := blk_cell h.1 2
  clear h
  go_enter Try.func13, Try.ntmps13
  go_wp2_with fail
  go_ret
  exact ⟨rfl, rfl⟩
theorem free_any (w : World) (g gp n : Nat) (os nx : Nat → Int) (head held : Int) (h : PS w g gp n os nx head held) (h0 : 0 ≤ held) (h1 : held ≤ n) : Calls Try.prog 12 #[ptr g] w fun e w' => e = .returned (.int .i64 (n - held)) ∧ Keep (fun _ => False) w w' := by
  have c0 := blk_cell h.1 0
  have c2 := blk_cell h.1 2
  have hn := h.2.2.2
  clear h
  go_enter Try.func12, Try.ntmps12
  go_wp2_with fail
  go_quiet (fail)
  go_wp2_with fail
  go_ret
  exact ⟨rfl, ⟨rfl, rfl, rfl, Nat.le_refl _, fun _ _ _ => rfl⟩⟩
theorem there_any (w : World) (g gp n : Nat) (os nx : Nat → Int) (head held : Int) (i : Int) (h : PS w g gp n os nx head held) : Calls Try.prog 20 #[ptr g, .int .i64 i] w fun e w' => e = .returned (.bool (decide (0 ≤ i) && decide (i < n))) ∧ w = w' := by
  have c0 := blk_cell h.1 0
  have hn := h.2.2.2
  clear h
  by_cases h0 : 0 ≤ i
  · go_enter Try.func20, Try.ntmps20
    go_wp2_with fail
    go_ret
    exact ⟨by simp [h0], rfl⟩
  · go_enter Try.func20, Try.ntmps20
    go_wp2_with fail
    go_ret
    exact ⟨by simp; omega, rfl⟩
theorem owner_out (w : World) (g gp n : Nat) (os nx : Nat → Int) (head held : Int) (i : Int) (h : PS w g gp n os nx head held) (hi : i < 0 ∨ n ≤ i) : Calls Try.prog 10 #[ptr g, .int .i64 i] w fun e w' => e = .returned (.int .i64 (-1)) ∧ w = w' := by
  have d : (decide (0 ≤ i) && decide (i < (n : Int))) = false := by simp; omega
  go_enter Try.func10, Try.ntmps10
  go_wp2_with fail
  refine (there_any _ g gp n os nx head held i h).mono ?_
  rintro e w1 ⟨rfl, rfl⟩
  rw [d]
  go_wp2_with fail
  go_ret
  exact ⟨rfl, rfl⟩
theorem owner_in (w : World) (g gp n : Nat) (os nx : Nat → Int) (head held : Int) (i : Nat) (h : PS w g gp n os nx head held) (hi : i < n) : Calls Try.prog 10 #[ptr g, .int .i64 i] w fun e w' => e = .returned (.int .i64 (os i)) ∧ w = w' := by
  have d : (decide (0 ≤ (i : Int)) && decide ((i : Int) < (n : Int))) = true := by simp; omega
  have c0 := blk_cell h.1 0
  have hn := h.2.2.2
  have x0 := row_cell (i := i * 2) h.2.1 (by omega)
  rw [pf_os] at x0
  have th := there_any w g gp n os nx head held i h
  clear h
  go_enter Try.func10, Try.ntmps10
  go_wp2_with fail
  refine th.mono ?_
  rintro e w1 ⟨rfl, rfl⟩
  rw [d]
  clear d th
  go_wp2_with fail
  go_ret
  exact ⟨rfl, rfl⟩

theorem take_bad (w : World) (g : Nat) (o : Int) (ho : o < 0) : Calls Try.prog 16 #[ptr g, .int .i64 o] w fun e w' => e = .returned (.tuple #[.int .i64 0, .int .i64 1]) ∧ w = w' := by
  go_enter Try.func16, Try.ntmps16
  go_wp2_with fail
  go_ret2
  exact ⟨rfl, rfl⟩
theorem take_none (w : World) (g gp n : Nat) (os nx : Nat → Int) (held o : Int) (h : PS w g gp n os nx n held) (ho : 0 ≤ o) : Calls Try.prog 16 #[ptr g, .int .i64 o] w fun e w' => e = .returned (.tuple #[.int .i64 0, .int .i64 5]) ∧ Keep (fun _ => False) w w' := by
  have c0 := blk_cell h.1 0
  have c1 := blk_cell h.1 1
  have hn := h.2.2.2
  clear h
  go_enter Try.func16, Try.ntmps16
  go_wp2_with fail
  go_quiet (fail)
  go_wp2_with fail
  go_ret2
  exact ⟨rfl, ⟨rfl, rfl, rfl, Nat.le_refl _, fun _ _ _ => rfl⟩⟩
theorem take_some (w : World) (g gp n i : Nat) (os nx : Nat → Int) (held o : Int) (h : PS w g gp n os nx i held) (ho : 0 ≤ o) (hi : i < n) (hh : 0 ≤ held ∧ held ≤ 1024) :
    Calls Try.prog 16 #[ptr g, .int .i64 o] w fun e w' => e = .returned (.tuple #[.int .i64 i, .int .i64 0]) ∧ PS w' g gp n (upd os i o) nx (nx i) (held + 1) ∧ Keep (fun k => k = g ∨ k = gp) w w' := by
  obtain ⟨hb, hr, hne, hn⟩ := h
  have c0 := blk_cell hb 0
  have c1 := blk_cell hb 1
  have c2 := blk_cell hb 2
  have f0 := blk_frozen hb 1
  have f2 := blk_frozen hb 2
  have x0 := row_cell (i := i * 2) hr (by omega)
  have x1 := row_cell (i := i * 2 + 1) hr (by omega)
  have y0 := row_frozen hr (i * 2)
  rw [pf_os] at x0
  rw [pf_nx] at x1
  have hne' : gp ≠ g := fun h => hne h.symm
  have e0 : ((i : Int) == (n : Int)) = false := beq_eq_false_iff_ne.2 (by omega)
  go_enter Try.func16, Try.ntmps16
  go_wp2_with fail
  go_quiet (fail)
  go_wp2_with fail
  go_ret2
  refine ⟨rfl, ⟨?_, ?_, hne, hn⟩, ((((Keep.refl (fun k => k = g ∨ k = gp) w).drewN nq).setCell (.inl (.inl rfl)) _).setCell (.inl (.inr rfl)) _).setCell (.inl (.inl rfl)) _⟩
  · have := blk_set (blk_far (p := ⟨gp, i * 2, none⟩) (blk_set (blk_drewN hb nq) 1 (.int .i64 (nx i))) hne (.int .i64 o)) 2 (.int .i64 (held + 1))
    simpa using this
  · have hd : Row (w.drewN nq) gp 52 (pf os nx) (n * 2) := hr
    exact row_ext (row_far (p := ⟨g, 2, none⟩) (row_set (row_far (p := ⟨g, 1, none⟩) hd hne' (.int .i64 (nx i))) (i * 2) (.int .i64 o)) hne' (.int .i64 (held + 1))) (fun j _ => pf_set_os os nx i o j)

theorem give_out (w : World) (g gp n : Nat) (os nx : Nat → Int) (head held : Int) (i : Int) (h : PS w g gp n os nx head held) (hi : i < 0 ∨ n ≤ i) : Calls Try.prog 17 #[ptr g, .int .i64 i] w fun e w' => e = .returned (.int .i64 1) ∧ w = w' := by
  have d : (decide (0 ≤ i) && decide (i < (n : Int))) = false := by simp; omega
  go_enter Try.func17, Try.ntmps17
  go_wp2_with fail
  refine (there_any _ g gp n os nx head held i h).mono ?_
  rintro e w1 ⟨rfl, rfl⟩
  rw [d]
  go_wp2_with fail
  go_ret
  exact ⟨rfl, rfl⟩
theorem give_none (w : World) (g gp n : Nat) (os nx : Nat → Int) (head held : Int) (i : Nat) (h : PS w g gp n os nx head held) (hi : i < n) (ho : os i = -1) : Calls Try.prog 17 #[ptr g, .int .i64 i] w fun e w' => e = .returned (.int .i64 9) ∧ w = w' := by
  have d : (decide (0 ≤ (i : Int)) && decide ((i : Int) < (n : Int))) = true := by simp; omega
  have c0 := blk_cell h.1 0
  have hn := h.2.2.2
  have x0 := row_cell (i := i * 2) h.2.1 (by omega)
  rw [pf_os, ho] at x0
  have th := there_any w g gp n os nx head held i h
  clear h ho
  go_enter Try.func17, Try.ntmps17
  go_wp2_with fail
  refine th.mono ?_
  rintro e w1 ⟨rfl, rfl⟩
  rw [d]
  clear d th
  go_wp2_with fail
  go_ret
  exact ⟨rfl, rfl⟩
theorem give_some (w : World) (g gp n i : Nat) (os nx : Nat → Int) (head held : Int) (h : PS w g gp n os nx head held) (hi : i < n) (ho : os i ≠ -1) (hh : 0 ≤ held ∧ held ≤ 1024) :
    Calls Try.prog 17 #[ptr g, .int .i64 i] w fun e w' => e = .returned (.int .i64 0) ∧ PS w' g gp n (upd os i (-1)) (upd nx i head) i (held - 1) ∧ Keep (fun k => k = g ∨ k = gp) w w' := by
  have d : (decide (0 ≤ (i : Int)) && decide ((i : Int) < (n : Int))) = true := by simp; omega
  have th := there_any w g gp n os nx head held i h
  obtain ⟨hb, hr, hne, hn⟩ := h
  have c0 := blk_cell hb 0
  have c1 := blk_cell hb 1
  have c2 := blk_cell hb 2
  have f0 := blk_frozen hb 1
  have f2 := blk_frozen hb 2
  have x0 := row_cell (i := i * 2) hr (by omega)
  have x1 := row_cell (i := i * 2 + 1) hr (by omega)
  have y0 := row_frozen hr (i * 2)
  have y1 := row_frozen hr (i * 2 + 1)
  rw [pf_os] at x0
  rw [pf_nx] at x1
  have hne' : gp ≠ g := fun h => hne h.symm
  have e0 : (os i == -1) = false := beq_eq_false_iff_ne.2 ho
  go_enter Try.func17, Try.ntmps17
  go_wp2_with fail
  refine th.mono ?_
  rintro e w1 ⟨rfl, rfl⟩
  rw [d]
  clear d th
  go_wp2_with fail
  go_region
  go_wp2_with fail
  go_ret
  refine ⟨rfl, ⟨?_, ?_, hne, hn⟩, (((((Keep.refl (fun k => k = g ∨ k = gp) w).setCell (.inl (.inr rfl)) _).setCell (.inl (.inr rfl)) _).drew).setCell (.inl (.inl rfl)) _).setCell (.inl (.inl rfl)) _⟩
  · have h3 := blk_set (blk_set (blk_far (p := ⟨gp, i * 2 + 1, none⟩) (blk_far (p := ⟨gp, i * 2, none⟩) hb hne (.int .i64 (-1))) hne (.int .i64 head)) 1 (.int .i64 i)) 2 (.int .i64 (held - 1))
    have h4 : ((((w.setCell ⟨gp, i * 2, none⟩ (.int .i64 (-1))).setCell ⟨gp, i * 2 + 1, none⟩ (.int .i64 head)).setCell ⟨g, 1, none⟩ (.int .i64 i)).setCell ⟨g, 2, none⟩ (.int .i64 (held - 1))).heap[g]? = some (.cells #[.slice (some ⟨gp, 0, none⟩) n n, .int .i64 i, .int .i64 (held - 1), .func (.func 21) #[] #[]] 55 (0, 0)) := by simpa using h3
    exact h4
  · have h1 : Row ((w.setCell ⟨gp, i * 2, none⟩ (.int .i64 (-1))).setCell ⟨gp, i * 2 + 1, none⟩ (.int .i64 head)).drew gp 52 _ (n * 2) := row_set (row_set hr (i * 2) (.int .i64 (-1))) (i * 2 + 1) (.int .i64 head)
    refine row_ext (row_far (p := ⟨g, 2, none⟩) (row_far (p := ⟨g, 1, none⟩) h1 hne' (.int .i64 i)) hne' (.int .i64 (held - 1))) (fun j _ => ?_)
    simp only [pf_set_os, pf_set_nx]

theorem fresh_any (w : World) (i : Int) (h0 : 0 ≤ i) (h1 : i ≤ 1024) : Calls Try.prog 21 #[.int .i64 i] w fun e w' => e = .returned (.int .i64 (i + 1)) ∧ w' = w := by
  go_enter Try.func21, Try.ntmps21
  go_wp2_with fail
  go_ret
  exact ⟨rfl, rfl⟩
theorem thread_any (w : World) (g gp n i : Nat) (os nx : Nat → Int) (head held : Int) (h : PS w g gp n os nx head held) (hi : i < n) :
    Calls Try.prog 23 #[ptr g, .int .i64 i] w fun e w' => e = .returned (.tuple #[]) ∧ PS w' g gp n (upd os i (-1)) (upd nx i (i + 1)) head held ∧ Keep (fun k => k = gp) w w' := by
  obtain ⟨hb, hr, hne, hn⟩ := h
  have c0 := blk_cell hb 0
  have c3 := blk_cell hb 3
  have x0 := row_cell (i := i * 2) hr (by omega)
  have x1 := row_cell (i := i * 2 + 1) hr (by omega)
  have y0 := row_frozen hr (i * 2)
  have y1 := row_frozen hr (i * 2 + 1)
  rw [pf_os] at x0
  rw [pf_nx] at x1
  go_enter Try.func23, Try.ntmps23
  go_still_tail 13, (by kernel_rfl)
  still_call (fresh_any _ i (by omega) (by omega))
  repeat still_step
  refine wpStill_nil ?_
  change wpList _ _ _ _ _ w.drew
  go_wp2_with fail
  go_returns
  refine ⟨rfl, ⟨?_, ?_, hne, hn⟩, (((Keep.refl (fun k => k = gp) w).setCell (.inl rfl) _).setCell (.inl rfl) _).drew⟩
  · exact blk_far (p := ⟨gp, i * 2 + 1, none⟩) (blk_far (p := ⟨gp, i * 2, none⟩) hb hne (.int .i64 (-1))) hne (.int .i64 ((i : Int) + 1))
  · have h1 : Row ((w.setCell ⟨gp, i * 2, none⟩ (.int .i64 (-1))).setCell ⟨gp, i * 2 + 1, none⟩ (.int .i64 ((i : Int) + 1))).drew gp 52 _ (n * 2) := row_set (row_set hr (i * 2) (.int .i64 (-1))) (i * 2 + 1) (.int .i64 ((i : Int) + 1))
    refine row_ext h1 (fun j _ => ?_)
    simp only [pf_set_os, pf_set_nx]
end Go.Proofs.Ytlajbgopidllbaa
