/- ring.New. -/
import Derived.Test.YthjbggdcninckaaRing3
import Derived.Deep.Cut
import Derived.Deep.CutRange
namespace Go.Proofs.Ythjbggdcninckaa
open Go.RowKit
set_option linter.unusedVariables false

theorem Try.infoList : (Try.prog.info? 54).map (fun i => (i.zero, i.size, i.bytes)) = some (some (.agg #[.int .i64 0, .int .i64 0, .int .i64 0]), 3, 24) := by kernel_rfl
theorem Try.infoNode : (Try.prog.info? 56).map (fun i => (i.zero, i.size, i.bytes)) = some (some (.agg #[.int .i64 0, .int .i64 0, .int .i64 0]), 3, 24) := by kernel_rfl
theorem made3 (n i : Nat) (hi : i < n * 3) : (madeCells #[.int .i64 0, .int .i64 0, .int .i64 0] (n * 3))[i]? = some (.int .i64 0) := by
  simp [madeCells, hi]
  rcases (show i % 3 = 0 ∨ i % 3 = 1 ∨ i % 3 = 2 from by omega) with h | h | h <;> rw [h] <;> rfl
theorem make_lists (n : Nat) (h : n ≤ 4096) (w : World) (kl kc : IntKind) : (Instr.makeSlice 46 (.int kl n) (.int kc n)).run Try.prog w = .ok (.slice (some ⟨w.heap.size, 0, none⟩) n n) (w.alloc (.cells (madeCells #[.int .i64 0, .int .i64 0, .int .i64 0] (n * 3)) 54)) := by
  obtain ⟨i0, ei, ez0, ez1, ez2⟩ := info_parts Try.infoList
  have := run_make (P := Try.prog) w 46 54 i0 _ Try.underlying46 ei ez0 kl kc n n (by omega) (Int.le_refl _) (by rw [ez2]; omega) (by omega)
  rw [ez1] at this
  simpa [Value.cells] using this
theorem make_nodes (n : Nat) (h : n ≤ 4096) (w : World) (kl kc : IntKind) : (Instr.makeSlice 47 (.int kl n) (.int kc n)).run Try.prog w = .ok (.slice (some ⟨w.heap.size, 0, none⟩) n n) (w.alloc (.cells (madeCells #[.int .i64 0, .int .i64 0, .int .i64 0] (n * 3)) 56)) := by
  obtain ⟨i0, ei, ez0, ez1, ez2⟩ := info_parts Try.infoNode
  have := run_make (P := Try.prog) w 47 56 i0 _ Try.underlying47 ei ez0 kl kc n n (by omega) (Int.le_refl _) (by rw [ez2]; omega) (by omega)
  rw [ez1] at this
  simpa [Value.cells] using this
def fK (k : Nat) : Nat → Int := fun i => if i < k then -1 else 0
def z0F : Nat → Int := fun _ => 0
theorem tf_zero (j : Nat) : tf z0F z0F z0F j = .int .i64 0 := by unfold tf z0F; split <;> (try split) <;> rfl
theorem fK_succ (k : Nat) : upd (fK k) k (-1) = fK (k + 1) := by
  funext i
  unfold upd fK
  by_cases h : i = k
  · rw [if_pos h, if_pos (by omega)]
  · rw [if_neg h]
    by_cases h2 : i < k
    · rw [if_pos h2, if_pos (by omega)]
    · rw [if_neg h2, if_neg (by omega)]
theorem fK_zero : fK 0 = z0F := by funext i; unfold fK z0F; rw [if_neg (by omega)]
/-- the two makes, in one turn -/
theorem made_RS (w : World) (m n : Nat) (hm : m ≤ 64) (hn : n ≤ 4096) :
    RS (((w.alloc (.cells (madeCells #[.int .i64 0, .int .i64 0, .int .i64 0] (m * 3)) 54)).alloc (.cells (madeCells #[.int .i64 0, .int .i64 0, .int .i64 0] (n * 3)) 56)).alloc (.cells #[.slice (some ⟨w.heap.size, 0, none⟩) m m, .slice (some ⟨w.heap.size + 1, 0, none⟩) n n] 49)) (w.heap.size + 1 + 1) w.heap.size (w.heap.size + 1) m n z0F z0F z0F z0F z0F z0F := by
  refine ⟨?_, ?_, ?_, by omega, by omega, by omega, hm, hn⟩
  · have := blk_new ((w.alloc (.cells (madeCells #[.int .i64 0, .int .i64 0, .int .i64 0] (m * 3)) 54)).alloc (.cells (madeCells #[.int .i64 0, .int .i64 0, .int .i64 0] (n * 3)) 56)) (.cells #[.slice (some ⟨w.heap.size, 0, none⟩) m m, .slice (some ⟨w.heap.size + 1, 0, none⟩) n n] 49)
    simpa using this
  · exact ⟨_, blk_alloc (blk_alloc (blk_new w _) _) _, by simp [madeCells], fun i hi => by rw [tf_zero]; exact made3 m i hi⟩
  · refine ⟨_, blk_alloc (by have := blk_new (w.alloc (.cells (madeCells #[.int .i64 0, .int .i64 0, .int .i64 0] (m * 3)) 54)) (.cells (madeCells #[.int .i64 0, .int .i64 0, .int .i64 0] (n * 3)) 56); simpa using this) _, by simp [madeCells], fun i hi => by rw [tf_zero]; exact made3 n i hi⟩
theorem made_RS2 (w : World) (m n : Nat) (hm : m ≤ 64) (hn : n ≤ 4096) :
    RS (((w.alloc (.cells (madeCells #[.int .i64 0, .int .i64 0, .int .i64 0] (n * 3)) 56)).alloc (.cells (madeCells #[.int .i64 0, .int .i64 0, .int .i64 0] (m * 3)) 54)).alloc (.cells #[.slice (some ⟨w.heap.size + 1, 0, none⟩) m m, .slice (some ⟨w.heap.size, 0, none⟩) n n] 49)) (w.heap.size + 1 + 1) (w.heap.size + 1) w.heap.size m n z0F z0F z0F z0F z0F z0F := by
  refine ⟨?_, ?_, ?_, by omega, by omega, by omega, hm, hn⟩
  · have := blk_new ((w.alloc (.cells (madeCells #[.int .i64 0, .int .i64 0, .int .i64 0] (n * 3)) 56)).alloc (.cells (madeCells #[.int .i64 0, .int .i64 0, .int .i64 0] (m * 3)) 54)) (.cells #[.slice (some ⟨w.heap.size + 1, 0, none⟩) m m, .slice (some ⟨w.heap.size, 0, none⟩) n n] 49)
    simpa using this
  · refine ⟨_, blk_alloc (by have := blk_new (w.alloc (.cells (madeCells #[.int .i64 0, .int .i64 0, .int .i64 0] (n * 3)) 56)) (.cells (madeCells #[.int .i64 0, .int .i64 0, .int .i64 0] (m * 3)) 54); simpa using this) _, by simp [madeCells], fun i hi => by rw [tf_zero]; exact made3 m i hi⟩
  · exact ⟨_, blk_alloc (blk_alloc (blk_new w _) _) _, by simp [madeCells], fun i hi => by rw [tf_zero]; exact made3 n i hi⟩
theorem below3 (w : World) (a b c : Obj) : Below w.heap.size w (((w.alloc a).alloc b).alloc c) := (((Below.refl _ _).alloc (Nat.le_refl _) _).alloc (by simp) _).alloc (by simp; omega) _
theorem new_bad (w : World) (n m : Int) (h : n < 1 ∨ 4096 < n ∨ m < 1 ∨ 64 < m) : Calls Try.prog 9 #[.int .i64 n, .int .i64 m] w fun e w' => e = .returned (.tuple #[.pointer none, .int .i64 1]) ∧ w = w' := by
  by_cases h1 : n < 1
  · clear h
    go_enter Try.func9, Try.ntmps9
    go_wp2_with fail
    go_ret2
    exact ⟨rfl, rfl⟩
  · by_cases h2 : 4096 < n
    · clear h
      go_enter Try.func9, Try.ntmps9
      go_wp2_with fail
      go_ret2
      exact ⟨rfl, rfl⟩
    · by_cases h3 : m < 1
      · clear h
        go_enter Try.func9, Try.ntmps9
        go_wp2_with fail
        go_ret2
        exact ⟨rfl, rfl⟩
      · have h4 : 64 < m := by omega
        clear h
        go_enter Try.func9, Try.ntmps9
        go_wp2_with fail
        go_ret2
        exact ⟨rfl, rfl⟩
theorem ring_nil (m n : Nat) {F E M P X O : Nat → Int} (hF : ∀ i, i < m → F i = -1) (hE : ∀ i, i < m → E i = -1) (hM : ∀ i, i < m → M i = 0) (hX : ∀ i, i < n → X i = -1) (hO : ∀ i, i < n → O i = -1) : Ring m n (fun _ => []) F E M P X O :=
  ⟨fun _ _ => List.nodup_nil, fun _ _ x hx => by simp at hx, fun _ _ x hx => by simp at hx, fun x hx _ => ⟨hO x hx, hX x hx⟩, hF, hE, hM, fun _ _ => trivial⟩
set_option maxHeartbeats 2000000 in
theorem tr_new (w : World) (m n : Nat) (h1 : 1 ≤ n) (h2 : n ≤ 4096) (h3 : 1 ≤ m) (h4 : m ≤ 64) : Calls Try.prog 9 #[.int .i64 n, .int .i64 m] w fun e w' => ∃ g gl gn, e = .returned (.tuple #[ptr g, .int .i64 0]) ∧ w.heap.size ≤ g ∧ w.heap.size ≤ gl ∧ w.heap.size ≤ gn ∧ TR w' g gl gn m n (fun _ => []) ∧ Below w.heap.size w w' := by
  have hml := make_lists m (by omega)
  have hmn := make_nodes n h2
  have R1 := Lib.hid (made_RS w m n h4 h2)
  have R2 := Lib.hid (made_RS2 w m n h4 h2)
  go_enter Try.func9, Try.ntmps9
  go_upto_region 3 with fail
  go_cut [6] from 23 to 28 (fun s wx => ∃ g gl gn, s = ptr g ∧ w.heap.size ≤ g ∧ w.heap.size ≤ gl ∧ w.heap.size ≤ gn ∧ RS wx g gl gn m n z0F z0F z0F z0F z0F z0F ∧ Below w.heap.size w wx)
  case first =>
    go_region
    all_goals (go_wp2_with fail; go_meet; first
      | exact ⟨_, _, _, rfl, by omega, by omega, by omega, R1.out, below3 _ _ _ _⟩
      | exact ⟨_, _, _, rfl, by omega, by omega, by omega, R2.out, below3 _ _ _ _⟩
      | exact ⟨_, _, _, rfl, by omega, by omega, by omega, R1.out.below (below_drew (Below.refl _ _)), below_drew (below3 _ _ _ _)⟩
      | exact ⟨_, _, _, rfl, by omega, by omega, by omega, R2.out.below (below_drew (Below.refl _ _)), below_drew (below3 _ _ _ _)⟩)
  case rest =>
    obtain ⟨g, gl, gn, rfl, hg, hgl, hgn, r, b⟩ := hcut
    have c0 := blk_cell r.1 0
    have hne := r.2.2.2
    rw [← fK_zero] at r
    have RR := Lib.hid r
    clear r hml hmn R1 R2
    go_wp2_with fail
    go_loopw [34] (fun i wr => ∃ k : Nat, i = .int .i64 k ∧ k ≤ m ∧ RS wr g gl gn m n (fK k) (fK k) (fK 0) (fK 0) (fK 0) (fK 0) ∧ Below w.heap.size w wr) (fun i _ => m - (intOf i).toNat)
    case atStart => exact ⟨0, rfl, Nat.zero_le _, RR.out, b⟩
    case round =>
      obtain ⟨k, rfl, hk, r, br⟩ := hrel
      have d0 := blk_cell r.1 0
      have d1 := blk_cell r.1 1
      clear c0
      by_cases hlt : k < m
      · have x0 := r.cellF hlt
        have x1 := r.cellE hlt
        have f0 := r.frozL (k * 3)
        have f1 := r.frozL (k * 3 + 1)
        have R3 := (r.setF k (-1)).setE k (-1)
        rw [fK_succ] at R3
        have HR3 := Lib.hid R3
        have B3 := Lib.hid (below1 (below1 br hgl br.size (k * 3) (.int .i64 (-1))) hgl (by simp; exact br.size) (k * 3 + 1) (.int .i64 (-1)))
        clear r R3
        go_wp2_with fail
        go_roundw
        case rel => exact ⟨k + 1, by go_num, hlt, HR3.out, B3.out⟩
        case measure => simp [intOf]; omega
      · obtain rfl : k = m := by omega
        have HR := Lib.hid r
        clear r
        go_wp2_with fail
        go_loopw [52] (fun i wr => ∃ j : Nat, i = .int .i64 j ∧ j ≤ n ∧ RS wr g gl gn k n (fK k) (fK k) (fK 0) (fK j) (fK j) (fK j) ∧ Below w.heap.size w wr) (fun i _ => n - (intOf i).toNat)
        case atStart => exact ⟨0, rfl, Nat.zero_le _, HR.out, br⟩
        case round =>
          obtain ⟨j, rfl, hj, r, br2⟩ := hrel
          have e1 := blk_cell r.1 1
          clear d0 d1
          by_cases hlt2 : j < n
          · have x0 := r.cellP hlt2
            have x1 := r.cellX hlt2
            have x2 := r.cellO hlt2
            have f0 := r.frozN (j * 3)
            have f1 := r.frozN (j * 3 + 1)
            have f2 := r.frozN (j * 3 + 2)
            have R3 := ((r.setP j (-1)).setX j (-1)).setO j (-1)
            rw [fK_succ] at R3
            have HR3 := Lib.hid R3
            have B3 := Lib.hid (below1 (below1 (below1 br2 hgn br2.size (j * 3) (.int .i64 (-1))) hgn (by simp; exact br2.size) (j * 3 + 1) (.int .i64 (-1))) hgn (by simp; exact br2.size) (j * 3 + 2) (.int .i64 (-1)))
            clear r R3
            go_wp2_with fail
            go_roundw
            case rel => exact ⟨j + 1, by go_num, hlt2, HR3.out, B3.out⟩
            case measure => simp [intOf]; omega
          · obtain rfl : j = n := by omega
            go_wp2_with fail
            go_ret2
            refine ⟨g, gl, gn, rfl, hg, hgl, hgn, ⟨_, _, _, _, _, _, r, ring_nil k j (fun i hi => if_pos hi) (fun i hi => if_pos hi) (fun i hi => ?_) (fun i hi => if_pos hi) (fun i hi => if_pos hi)⟩, br2⟩
            rw [fK_zero]; rfl
end Go.Proofs.Ythjbggdcninckaa
