/- The contract of plan.Moves, out of its iterator's. -/
import Derived.Test.YtejmggfofcfndaaMoves
namespace Go.Proofs.Ytejmggfofcfndaa
open Go.RowKit Go.Shelf
attribute [local go_sem] Oper.semAt_some

set_option maxRecDepth 100000 in
set_option maxHeartbeats 4000000 in
theorem moves_any (w : World) (v : Value) (l : List Int) (b k : Int) (h : LV 0 w v l) (hl : l.length ≤ 12) (hb : b ≤ 20) (hm : mayP l b = true) (hk : -9223372036854775808 ≤ k ∧ k ≤ 9223372036854775807) :
    Calls Try.prog 17 #[v, .int .i64 b, .int .i64 k] w fun e w' => e = .returned (.int .i64 (movesP l b k)) ∧ Below w.heap.size w w' := by
  have H := Lib.hid h
  have Hm := Lib.hid hm
  obtain ⟨a, c, rfl, hc, hmx, _, _⟩ := h
  clear hm
  refine (callsIn_wide (n := 5)).1 ?_
  refine callsIn_of_wp_marks Try.func17 rfl trivial ?_ rfl
  simp only [Try.ntmps17, List.size_toArray, List.length_cons, List.length_nil, Nat.reduceAdd, Nat.reduceSub, Array.replicate_succ, Array.replicate_zero, List.push_toArray, List.append_toArray, List.nil_append, List.cons_append]
  gi_wp2_with fail
  refine ⟨trivial, (callsIn_wide.2 (walk_any _ a l.length c b)).mono ?_⟩
  rintro e w1 ⟨rfl, hw1⟩
  have x0 : w1.heap[w.heap.size]? = some (.cells #[.int .i64 k] 3 (0, 0)) := by rw [hw1]; exact blk_alloc (blk_alloc (blk_alloc (blk_new w _) _) _) _
  have x1 : w1.heap[w.heap.size + 1]? = some (.cells #[.int .i64 0] 3 (0, 0)) := by rw [hw1]; have h := blk_alloc (blk_alloc (blk_new (w.alloc (.cells #[.int .i64 k] 3)) (.cells #[.int .i64 0] 3)) (.cells #[.slice a l.length c] 22)) (.cells #[.int .i64 b] 3); simpa using h
  have x2 : w1.heap[w.heap.size + 2]? = some (.cells #[.slice a l.length c] 22 (0, 0)) := by rw [hw1]; have h := blk_alloc (blk_new ((w.alloc (.cells #[.int .i64 k] 3)).alloc (.cells #[.int .i64 0] 3)) (.cells #[.slice a l.length c] 22)) (.cells #[.int .i64 b] 3); simpa using h
  have x3 : w1.heap[w.heap.size + 3]? = some (.cells #[.int .i64 b] 3 (0, 0)) := by rw [hw1]; have h := blk_new (((w.alloc (.cells #[.int .i64 k] 3)).alloc (.cells #[.int .i64 0] 3)).alloc (.cells #[.slice a l.length c] 22)) (.cells #[.int .i64 b] 3); simpa using h
  have hz1 : w1.heap.size = w.heap.size + 4 := by rw [hw1]; simp
  have b1 : Below w.heap.size w w1 := by rw [hw1]; exact ((((Below.refl _ _).alloc (Nat.le_refl _) _).alloc (by simp) _).alloc (by simp; omega) _).alloc (by simp; omega) _
  have hmi : MI w (w.heap.size + 2) (w.heap.size + 3) w.heap.size (w.heap.size + 1) l b k ⟨l, 0, .slice a l.length c⟩ w1 := ⟨x2, x3, x0, x1, H.out.keep b1, at_start Hm.out, b1⟩
  have HMI := Lib.hid hmi
  simp only [World.size_alloc]
  have Hz := Lib.hid hz1
  clear hz1 hw1 x0 x1 x2 x3 hmi
  gi_wp2_with fail
  refine wpIn_range (n := 5) rfl (by omega) (gf := 27) (lb := #[.pointer (some ⟨w.heap.size + 2, 0, none⟩), .pointer (some ⟨w.heap.size + 3, 0, none⟩)]) rfl trivial (enters_of Try.func27 (by kernel_rfl) rfl)
    encS (fun _ => rfl)
    (fun x W => MI w (w.heap.size + 2) (w.heap.size + 3) w.heap.size (w.heap.size + 1) l b k x W)
    (fun x W => MP w (w.heap.size + 2) (w.heap.size + 3) w.heap.size (w.heap.size + 1) l b k x W)
    (fun c W => MS w (w.heap.size + 1) l b k c W) (fun _ => False) (fun _ _ => True) ?hT ?hPost ?hStop ?hEnd ?hiter
    (fun x a' W => MI w (w.heap.size + 2) (w.heap.size + 3) w.heap.size (w.heap.size + 1) l b k x W ∧ a' = { tmps := #[.slice a l.length c, .int .i64 b, .int .i64 k, undef, undef, .pointer (some ⟨w.heap.size, 0, none⟩), .pointer (some ⟨w.heap.size + 1, 0, none⟩), .int .i64 x.m, x.v, .slice a l.length c, .int .i64 b, .func (.func 27) #[] #[.pointer (some ⟨w.heap.size + 1 + 1, 0, none⟩), .pointer (some ⟨w.heap.size + 1 + 1 + 1, 0, none⟩)], .int .i64 x.m, x.v, undef, undef, undef, undef, undef, undef, undef, undef, undef, undef, undef], defers := [] })
    ?hMid ?assign ?body ?done ?stop
  case hT => intros; trivial
  case hPost =>
    intro x
    have hz := Hz.out
    exact firm_mp (by omega) _ _ _ _ _ _ _ _
  case hStop =>
    intro c
    have hz := Hz.out
    exact firm_ms (by omega) _ _ _ _ _
  case hEnd => exact Firm.pure _ _
  case hMid =>
    intro x a'
    have hz := Hz.out
    exact (firm_mi (by omega) _ _ _ _ _ _ _ _).and (Firm.pure _ _)
  case hiter =>
    intro ll Lp Lx W1 hLp hbl hs1 hL hY
    have hz := Hz.out
    refine walk1_iter ll Lp Lx hLp w (w.heap.size + 2) (w.heap.size + 3) w.heap.size (w.heap.size + 1) (by omega) (by omega) (by omega) (by omega) l b k hl hb Hm.out hY W1 ⟨l, 0, .slice a l.length c⟩ ?_ rfl hL
    obtain ⟨y1, y2, y3, y4, y5, y6, y7⟩ := HMI.out
    exact ⟨below_blk hbl y1 (by omega), below_blk hbl y2 (by omega), below_blk hbl y3 (by omega), below_blk hbl y4 (by omega), y5.keep hbl, y6, y7.trans (hbl.mono (by omega))⟩
  case assign =>
    intro ll x W K hP hK
    have hfin := hK { tmps := #[.slice a l.length c, .int .i64 b, .int .i64 k, undef, undef, .pointer (some ⟨w.heap.size, 0, none⟩), .pointer (some ⟨w.heap.size + 1, 0, none⟩), .int .i64 x.m, x.v, .slice a l.length c, .int .i64 b, .func (.func 27) #[] #[.pointer (some ⟨w.heap.size + 1 + 1, 0, none⟩), .pointer (some ⟨w.heap.size + 1 + 1 + 1, 0, none⟩)], .int .i64 x.m, x.v, undef, undef, undef, undef, undef, undef, undef, undef, undef, undef, undef], defers := [] } W (KeepsOthers.refl _) (KeepC.refl _ _) (fun _ _ h => h) ⟨hP, rfl⟩
    have Hfin := Lib.hid hfin
    simp only [encS]
    clear hfin hK hP
    gi_wp2_with fail
    exact Hfin.out
  case body =>
    rintro ll ⟨l1, m, v⟩ a' W ⟨hmi, rfl⟩
    have HM := Lib.hid hmi
    obtain ⟨iA, iP, iK, iR, iL, iAt, iB⟩ := hmi
    simp only at iA iP iK iR iL iAt iB
    have cK := blk_cell iK 0
    have cR := blk_cell iR 0
    have fR := blk_frozen iR 0
    have HR := Lib.hid iR
    have hl1 : l1.length ≤ 12 := Nat.le_trans iAt.2.1 hl
    have HAt := Lib.hid iAt
    obtain ⟨av, cv, rfl, hcv, hmv, _, _⟩ := iL
    unfold maxLen at hmv
    clear iA iP iK iR iAt
    cases hd : dueP l1.length k with
    | false =>
      have Hd := Lib.hid hd
      clear hd
      have he := Lib.hid (at_end HAt.out Hd.out)
      gi_wp2_with fail
      refine ⟨trivial, (callsIn_wide.2 (due_any _ l1.length k ⟨by omega, by omega⟩ hk)).mono ?_⟩
      rintro e w2 ⟨rfl, rfl⟩
      rw [Hd.out]
      gi_wp2_with fail
      exact ⟨KeepsOthers.setCell _ _ _, rfl, by rw [← he.out]; simpa using blk_set HR.out 0 (.int .i64 m), below1 iB (by omega) iB.size 0 _⟩
    | true =>
      have Hd := Lib.hid hd
      clear hd
      by_cases h2 : l1.length < 2
      · have he := Lib.hid (at_none HAt.out Hd.out h2)
        gi_wp2_with fail
        refine ⟨trivial, (callsIn_wide.2 (due_any _ l1.length k ⟨by omega, by omega⟩ hk)).mono ?_⟩
        rintro e w2 ⟨rfl, rfl⟩
        rw [Hd.out]
        gi_wp2_with fail
        exact ⟨KeepsOthers.setCell _ _ _, rfl, by rw [he.out]; simpa using blk_set HR.out 0 (.int .i64 0), below1 iB (by omega) iB.size 0 _⟩
      · gi_wp2_with fail
        refine ⟨trivial, (callsIn_wide.2 (due_any _ l1.length k ⟨by omega, by omega⟩ hk)).mono ?_⟩
        rintro e w2 ⟨rfl, rfl⟩
        rw [Hd.out]
        gi_wp2_with fail
        exact ⟨KeepsOthers.refl _, ⟨HM.out, Hd.out, Nat.le_of_not_lt h2⟩, KeepC.refl _ _⟩
  case done =>
    rintro D W hD h
    exact h.elim
  case stop =>
    rintro D c W hD ⟨rfl, hR, hB⟩ hK
    have hz := Hz.out
    have cR := blk_cell hR 0
    have hbD : Below w.heap.size w (W.putObj D (.deferred none)) := hB.trans (belowK_b (w := w1) (by omega) W D _ _ hD hK rfl rfl)
    have hRD : (W.putObj D (.deferred none)).heap[w.heap.size + 1]? = some (.cells #[.int .i64 (movesP l b k)] 3 (0, 0)) := putObj_keep hR rfl hK rfl
    have cRD := blk_cell hRD 0
    gi_wp2_with fail
    refine ⟨by simp, .inl ⟨_, _, rfl, run_takeDeferred hK, ?_⟩⟩
    exact ⟨.int .i64 (movesP l b k), by simp [results, Try.results17, go_sem, cRD], rfl, hbD⟩
end Go.Proofs.Ytejmggfofcfndaa
