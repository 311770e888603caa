/- Contracts of package meter's functions, and of what it holds in memory: each holds in every world in which the meter's block lies. -/
import Derived.Test.YtjjbglipnpkbmaaRows
import Derived.Test.YtjjbglipnpkbmaaFrame
namespace Go.Proofs.Ytjjbglipnpkbmaa
open Go.RowKit

/-- what a meter's block holds -/
def IsM (w : World) (g : Nat) (t l : Int) : Prop := w.heap[g]? = some (.cells #[.int .i64 t, .int .i64 l] 36 (0, 0))
def addM (t n : Int) : Int := if n < 1 then t else if 4611686018427387904 - t < n then 4611686018427387904 else t + n

theorem new_any (w : World) : Calls Try.prog 9 #[] w fun e w' => e = .returned (.pointer (some ⟨w.heap.size, 0, none⟩)) ∧ w' = w.alloc (.cells #[.int .i64 0, .int .i64 0] 36) := by
  go_enter Try.func9, Try.ntmps9
  go_wp2
  go_ret
  exact ⟨rfl, rfl⟩

theorem room_any (w : World) (g : Nat) (t : Int) (h0 : 0 ≤ t) (h1 : t ≤ 4611686018427387904) (hc : w.cell? ⟨g, 0, none⟩ = some (.int .i64 t)) :
    Calls Try.prog 14 #[.pointer (some ⟨g, 0, none⟩)] w fun e w' => e = .returned (.int .i64 (4611686018427387904 - t)) ∧ w' = w := by
  go_enter Try.func14, Try.ntmps14
  go_wp2
  go_ret
  exact ⟨rfl, rfl⟩

theorem charge_nil (w : World) (n : Int) :
    Calls Try.prog 10 #[.pointer none, .int .i64 n] w fun e w' => e = .returned (.tuple #[]) ∧ w' = w := by
  go_enter Try.func10, Try.ntmps10
  go_wp2
  go_returns
  exact ⟨rfl, rfl⟩

theorem charge_any (w : World) (g : Nat) (n t l : Int) (hn2 : n ≤ 9223372036854775807) (h0 : 0 ≤ t) (h1 : t ≤ 4611686018427387904) (hm : IsM w g t l) :
    Calls Try.prog 10 #[.pointer (some ⟨g, 0, none⟩), .int .i64 n] w fun e w' => e = .returned (.tuple #[]) ∧ IsM w' g (addM t n) l ∧ Keep (· = g) w w' := by
  have hc : w.cell? ⟨g, 0, none⟩ = some (.int .i64 t) := blk_cell hm 0
  have hf : w.frozen? ⟨g, 0, none⟩ = false := blk_frozen hm 0
  by_cases hn : n < 1
  · go_enter Try.func10, Try.ntmps10
    go_wp2
    go_returns
    exact ⟨rfl, by rw [addM, if_pos (by omega)]; exact hm, Keep.refl _ _⟩
  · go_enter Try.func10, Try.ntmps10
    go_wp2
    go_still_tail 11, (by kernel_rfl)
    still_call (room_any _ g t h0 h1 hc)
    repeat still_step
    refine wpStill_nil ?_
    change wpList _ _ _ _ _ w.drew
    have hs := blk_set hm 0 (.int .i64 (addM t n))
    have Hs := Lib.hid hs
    clear hs
    by_cases hr : 4611686018427387904 - t < n
    all_goals
      go_wp2
      go_returns
      refine ⟨rfl, ?_, ((Keep.refl (· = g) w).setCell (.inl rfl) _).drew⟩
      have hs := Hs.out
      rw [addM, if_neg (by omega)] at hs ⊢
      first
        | (rw [if_pos hr] at hs ⊢; rw [show t + (4611686018427387904 - t) = 4611686018427387904 from by omega]; exact hs)
        | (rw [if_neg (by omega)] at hs ⊢; exact hs)

theorem total_nil (w : World) : Calls Try.prog 11 #[.pointer none] w fun e w' => e = .returned (.int .i64 0) ∧ w' = w := by
  go_enter Try.func11, Try.ntmps11
  go_wp2
  go_ret
  exact ⟨rfl, rfl⟩

theorem total_any (w : World) (g : Nat) (t l : Int) (hm : IsM w g t l) : Calls Try.prog 11 #[.pointer (some ⟨g, 0, none⟩)] w fun e w' => e = .returned (.int .i64 t) ∧ w' = w := by
  have hc : w.cell? ⟨g, 0, none⟩ = some (.int .i64 t) := blk_cell hm 0
  go_enter Try.func11, Try.ntmps11
  go_wp2
  go_ret
  exact ⟨rfl, rfl⟩

theorem lap_nil (w : World) : Calls Try.prog 13 #[.pointer none] w fun e w' => e = .returned (.int .i64 0) ∧ Keep (fun _ => False) w w' := by
  go_enter_defers Try.func13, Try.ntmps13
  go_wp2
  exact ⟨_, results_tmp rfl _ _ _, rfl, (Keep.refl _ _).alloc _⟩

theorem lap_closure (w : World) (g b : Nat) (u : FrameMode) (t l : Int) (hm : IsM w g t l) (hb : w.cell? ⟨b, 0, none⟩ = some (.pointer (some ⟨g, 0, none⟩))) :
    CallsD Try.prog 16 #[.pointer (some ⟨b, 0, none⟩)] u w fun e u' w' => u' = u ∧ (e = .returned (.tuple #[]) ∧ w' = (w.setCell ⟨g, 1, none⟩ (.int .i64 t)).drew) := by
  have hc : w.cell? ⟨g, 0, none⟩ = some (.int .i64 t) := blk_cell hm 0
  have hc1 : w.cell? ⟨g, 1, none⟩ = some (.int .i64 l) := blk_cell hm 1
  have hf : w.frozen? ⟨g, 1, none⟩ = false := blk_frozen hm 1
  go_enter_d Try.func16, Try.ntmps16
  go_wp2
  go_region
  all_goals go_end0
  all_goals exact ⟨rfl, rfl⟩

theorem lap_any (w : World) (g : Nat) (t l : Int) (h0 : 0 ≤ l) (h1 : l ≤ t) (h2 : t ≤ 4611686018427387904) (hm : IsM w g t l) :
    Calls Try.prog 13 #[.pointer (some ⟨g, 0, none⟩)] w fun e w' => e = .returned (.int .i64 (t - l)) ∧ IsM w' g t t ∧ Keep (· = g) w w' := by
  have hc : w.cell? ⟨g, 0, none⟩ = some (.int .i64 t) := blk_cell hm 0
  have hc1 : w.cell? ⟨g, 1, none⟩ = some (.int .i64 l) := blk_cell hm 1
  have hg : g < w.heap.size := blk_lt hm
  have hx : ∀ o i, (w.alloc o).cell? ⟨g, i, none⟩ = w.cell? ⟨g, i, none⟩ := fun o i => World.cell?_alloc_lt w o ⟨g, i, none⟩ hg
  go_enter_defers Try.func13, Try.ntmps13
  go_wp2
  go_quiet (fail)
  go_wp2
  refine leaves_cons (f := 16) (args := #[.pointer (some ⟨w.heap.size, 0, none⟩)]) (by simp) (by simp [go_sem]) ?_
  refine (lap_closure ((w.alloc (.cells #[.pointer (some ⟨g, 0, none⟩)] 24)).drewN nq) g w.heap.size .returning t l (blk_alloc hm _) (World.cell?_alloc_new w _ _ 0)).mono ?_
  rintro e u' w'' ⟨rfl, rfl, rfl⟩
  refine ⟨_, results_tmp rfl _ _ _, rfl, ?_, ?_⟩
  · exact blk_set (w := (w.alloc (.cells #[.pointer (some ⟨g, 0, none⟩)] 24)).drewN nq) (blk_alloc hm _) 1 _
  · exact ((((Keep.refl (· = g) w).alloc _).drewN _).setCell (.inl rfl) _).drew
end Go.Proofs.Ytjjbglipnpkbmaa
