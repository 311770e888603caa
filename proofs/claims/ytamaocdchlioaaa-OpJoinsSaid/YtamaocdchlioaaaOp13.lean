/- op.Take. -/
import Derived.Test.YtamaocdchlioaaaOp11
import Derived.WalkMore
namespace Go.Proofs.Ytamaocdchlioaaa
open Go.RowKit
set_option linter.unusedVariables false

theorem lb_rest {w : World} {b off c : Nat} {xs : List Int} (h : LB w (.slice (some ⟨b, off, none⟩) xs.length c) xs) (e : Nat) (he : e < xs.length) : LB w (.slice (some ⟨b, off + e, none⟩) (xs.length - e) (c - e)) (xs.drop e) := by
  have hc : xs.length ≤ c ∧ c ≤ maxLen := by
    obtain ⟨_, _, hv, h1, h2, _⟩ := h
    injection hv with _ _ e3
    subst e3
    exact ⟨h1, h2⟩
  have := lb_piece h e (xs.length - e) (by omega) (by omega) (c - e) (by omega) (Nat.le_refl _)
  rwa [List.take_of_length_le (by rw [List.length_drop]; omega)] at this
set_option maxRecDepth 100000 in
set_option maxHeartbeats 4000000 in
theorem take_any (w : World) (v : Value) (xs : List Int) (h : LB w v xs) (hb : Bytes xs) (hl : xs.length ≤ 60000) : Calls Try.prog 12 #[v] w fun e w' => ∃ lv at_ er, e = .returned (.tuple #[lv, .int .i64 at_, .int .i64 er]) ∧ Takes xs w' lv at_ er ∧ Below w.heap.size w w' := by
  obtain ⟨i0, ei, ez0, ez1, ez2⟩ := info_parts Try.infoO
  have H := Lib.hid h
  have HB := Lib.hid hb
  obtain ⟨A, c, rfl, hc, hm, hA, _⟩ := h
  unfold maxLen at hm
  clear hb
  obtain ⟨n, hn⟩ : ∃ n, n = xs.length := ⟨_, rfl⟩
  rw [← hn] at H hc hl ⊢
  have HN := Lib.hid hn
  clear hn hA
  go_enter Try.func12, Try.ntmps12
  go_wp2_with fail
  go_step3
  go_wp2_with fail
  go_step3
  go_wp2_with fail
  go_loopw [5, 6] (fun ov av wr => ∃ (qs : List (POp × Value)) (q e : Nat), av = .int .i64 e ∧ e ≤ n ∧ Hid (q = qs.length) ∧ Hid (Sofar xs w qs e) ∧ q * 27 ≤ e ∧ wr.ownsRow w.heap.size 40 5 ov q (ocells qs) ∧ Below w.heap.size w wr) (fun _ av _ => n - (intOf av).toNat)
  case atStart => exact ⟨[], 0, 0, rfl, Nat.zero_le _, Lib.hid rfl, Lib.hid ⟨took_nil xs, fun q hq => (List.not_mem_nil hq).elim⟩, Nat.zero_le _, ⟨rfl, .inl ⟨rfl, rfl⟩⟩, Below.refl _ _⟩
  case round =>
    obtain ⟨qs, q, e, rfl, he, hq, hsf, hqe, ho, br⟩ := hrel
    have O := Lib.hid ho
    have BR := Lib.hid br
    clear ho br
    by_cases hlt : e < n
    · obtain ⟨b, off, c', hv, _, _, hx⟩ := H.out.elem (k := e) (by rw [← HN.out]; exact hlt)
      injection hv with e1 e2 e3
      subst e1
      subst e3
      clear hx e2
      have hlb := lb_rest (by rw [← HN.out]; exact H.out) e (by rw [← HN.out]; exact hlt)
      rw [← HN.out] at hlb
      have HL := Lib.hid hlb
      have d1 : ¬ (c = e) := by omega
      clear hlb
      go_wp2_with fail
      refine (first_any w wr _ (xs.drop e) HL.out BR.out (bytes_drop HB.out e) (by rw [List.length_drop, ← HN.out]; omega)).mono ?_
      rintro e' w1 ⟨v1, m, rfl, hf, b1⟩
      obtain ⟨p, ad, kd, cd, hv1, hf⟩ := hf
      unfold opV at hv1
      subst hv1
      have B1 := Lib.hid (BR.out.trans (b1.mono BR.out.size))
      have O1 := Lib.hid (own_below O.out b1)
      clear b1
      rcases hf with ⟨hh, rfl, hp, hd⟩ | ⟨hh, rfl⟩
      · obtain ⟨M, hM⟩ : ∃ M, M = sizeAt (xs.drop e) := ⟨_, rfl⟩
        rw [← hM]
        have hMl : e + M ≤ n := by have h1 := (headB_iff.1 hh).1; rw [← hM, List.length_drop, ← HN.out] at h1; omega
        have hM27 : 27 ≤ M := by rw [hM]; unfold sizeAt; omega
        have HST : Hid (Sofar xs w (qs ++ [(p, .slice ad kd cd)]) (e + M)) := Lib.hid (by have := hsf.out.step hh (by rw [← hp]; exact hd); rw [← hM, ← hp] at this; exact this)
        clear hM hp hd hh hsf
        have nz : ((M : Int) == 0) = false := beq_eq_false_iff_ne.2 (by omega)
        have HY := Lib.hid (blk_new w1 (.cells #[.int .i64 p.k, .int .i64 p.a, .int .i64 p.b, .int .i64 p.c, .slice ad kd cd] 40))
        have OY := Lib.hid (O1.out.alloc (.cells #[.int .i64 p.k, .int .i64 p.a, .int .i64 p.b, .int .i64 p.c, .slice ad kd cd] 40))
        have BY := Lib.hid (B1.out.alloc B1.out.size (.cells #[.int .i64 p.k, .int .i64 p.a, .int .i64 p.b, .int .i64 p.c, .slice ad kd cd] 40))
        have hzW : (w1.alloc (.cells #[.int .i64 p.k, .int .i64 p.a, .int .i64 p.b, .int .i64 p.c, .slice ad kd cd] 40)).heap.size = w1.heap.size + 1 := by simp
        have hz1 := B1.out.size
        have hnews := Lib.hid (new_cells (w1.alloc (.cells #[.int .i64 p.k, .int .i64 p.a, .int .i64 p.b, .int .i64 p.c, .slice ad kd cd] 40)) (ocells [(p, .slice ad kd cd)]) 40)
        rw [hzW] at hnews
        clear hzW
        go_wp2_with (at_builtin; refine wpList_append_own _ rfl _ _ 22 rfl w.heap.size 40 i0 (.agg #[.int .i64 0, .int .i64 0, .int .i64 0, .int .i64 0, .slice none 0 0]) 5 56 Try.underlying22 ei ez0 ez1 ez2 rfl (by decide) _ _ _ rfl (OY.out.alloc _) ⟨w1.heap.size + 1, 0, none⟩ 1 1 _ rfl rfl hnews.out (by simp [ocells, Value.oneCell']) (by unfold maxLen; omega) (by omega) (by simp; omega) ?_; intro v5 w5 o5 hg5 _; have B5 := Lib.hid (below_append BY.out OY.out ((Keep.refl (fun _ => False) (w1.alloc (.cells #[.int .i64 p.k, .int .i64 p.a, .int .i64 p.b, .int .i64 p.c, .slice ad kd cd] 40))).alloc (.cells #[.int .i64 p.k, .int .i64 p.a, .int .i64 p.b, .int .i64 p.c, .slice ad kd cd] 40)) hg5 BY.out.size); have O5 := Lib.hid o5; clear o5 hg5)
        go_roundw
        case rel => exact ⟨qs ++ [(p, .slice ad kd cd)], q + 1, e + M, by go_num, hMl, Lib.hid (by rw [List.length_append, ← hq.out]; rfl), HST, by omega, by rw [ocells_app]; exact O5.out, B5.out⟩
        case measure => simp [intOf]; omega
      · have HT : Hid (∀ w', Takes xs w' (.slice none 0 0) e 2) := Lib.hid (takes_short hsf.out hh (by rw [← HN.out]; exact hlt))
        clear hsf hh
        go_wp2_with fail
        try rw [Exit.noGoto_ret]
        go_ret3
        exact ⟨_, _, _, rfl, HT.out _, (B1.out.alloc B1.out.size _)⟩
    · obtain rfl : e = n := by omega
      have hq' := hq.out
      have HT : Hid (∀ w' v', w'.ownsRow w.heap.size 40 5 v' q (ocells qs) → Below w.heap.size w w' → Takes xs w' v' 0 0) := Lib.hid (fun w' v' h1 h2 => takes_all (by rw [← HN.out]; exact hsf.out) (by rw [← hq.out]; exact h1) h2)
      clear hsf hq'
      go_wp2_with fail
      try rw [Exit.noGoto_ret]
      go_ret3
      exact ⟨_, _, _, rfl, HT.out _ _ O.out BR.out, BR.out⟩
end Go.Proofs.Ytamaocdchlioaaa
