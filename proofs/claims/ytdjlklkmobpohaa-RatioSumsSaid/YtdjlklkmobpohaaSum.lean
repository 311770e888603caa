/- The contracts of ratio.Sum, Mean and of the reference's. -/
import Derived.Test.YtdjlklkmobpohaaBase
import Derived.Test.YtdjlklkmobpohaaOpenL
namespace Go.Proofs.Ytdjlklkmobpohaa
open Go.RowKit Ieee

theorem ReadF.keep {w w' : World} {a : Option Addr} {zs : List Nat} (h : ReadF w a zs) (hb : Below w.heap.size w w') : ReadF w' a zs := by
  rcases h with h | ⟨b, off, ha, h⟩
  · exact .inl h
  · exact .inr ⟨b, off, ha, fun i hi => (hb.cell (p := ⟨b, off + i, none⟩) (World.block_lt_of_cell? w _ (h i hi))).trans (h i hi)⟩
theorem ReadF.elem {w : World} {a : Option Addr} {zs : List Nat} (hz : ReadF w a zs) {k : Nat} (hk : k < zs.length) : ∃ b off, a = some ⟨b, off, none⟩ ∧ ∀ wr, Below w.heap.size w wr → wr.cell? ⟨b, off + k, none⟩ = some (.float .f64 (zs.getD k 0)) := by
  obtain ⟨b, off, ha, h⟩ := hz.resolve_left (by omega)
  exact ⟨b, off, ha, fun wr br => (br.cell (p := ⟨b, off + k, none⟩) (World.block_lt_of_cell? w _ (h k hk))).trans (h k hk)⟩

def SumR : List Nat → Nat → Nat → Prop
  | [], s, r => s = r
  | x :: xs, s, r => ∃ m, FR .add s x m ∧ SumR xs m r
theorem sumR_snoc (xs : List Nat) (s m x r : Nat) (h : SumR xs s m) (h2 : FR .add m x r) : SumR (xs ++ [x]) s r := by
  induction xs generalizing s with
  | nil => obtain rfl := h; exact ⟨r, h2, rfl⟩
  | cons y xs ih => obtain ⟨t, h3, h4⟩ := h; exact ⟨t, h3, ih t h4⟩
theorem take_snoc (zs : List Nat) (k : Nat) (h : k < zs.length) : zs.take (k + 1) = zs.take k ++ [zs.getD k 0] := by
  rw [List.take_add_one, List.getElem?_eq_getElem h]
  simp [List.getD, h]

theorem run_store_float (P : Program) (w : World) (a : Addr) (k : FloatKind) (n : Nat) (m : Mode) : (store a (.float k n) m).run P w = stored P w a (.float k n) m := run_store P w a _ m rfl
attribute [local go_sem] run_store_float

theorem add_any (w : World) (g s x : Nat) (hb : w.heap[g]? = some (.cells #[.float .f64 s] 23 (0, 0))) :
    Calls Try.prog 28 #[.float .f64 x, .pointer (some ⟨g, 0, none⟩)] w fun e w' => ∃ m, e = .returned (.tuple #[]) ∧ FR .add s x m ∧ w'.heap[g]? = some (.cells #[.float .f64 m] 23 (0, 0)) ∧ Keep (· = g) w w' := by
  have c0 : w.cell? ⟨g, 0, none⟩ = some (.float .f64 s) := blk_cell hb 0
  have f0 : w.frozen? ⟨g, 0, none⟩ = false := blk_frozen hb 0
  rcases hq : floatBits .add .f64 s x with _ | r
  · have hr := fun w t => run_float_nan w .add t _ _ (.inl rfl) hq
    have f1 : w.drew.frozen? ⟨g, 0, none⟩ = false := f0
    have c1 : w.drew.cell? ⟨g, 0, none⟩ = some (.float .f64 s) := c0
    go_enter Try.func28, Try.ntmps28
    go_wp2_with fail
    go_returns
    exact ⟨_, rfl, fr_none w hq, blk_set (blk_drew hb) 0 _, ((Keep.refl (· = g) w).setCell (.inl rfl) _).drew⟩
  · have hr := fun (w : World) t => run_float_arith (P := Try.prog) w .add t .f64 _ _ r hq
    go_enter Try.func28, Try.ntmps28
    go_wp2_with fail
    go_returns
    exact ⟨_, rfl, fr_some hq, blk_set hb 0 _, (Keep.refl (· = g) w).setCell (.inl rfl) _⟩

theorem sum_any (w : World) (a : Option Addr) (c : Nat) (zs : List Nat) (hl : zs.length ≤ 9223372036854775807) (hz : ReadF w a zs) :
    Calls Try.prog 17 #[.slice a zs.length c] w fun e w' => ∃ r, e = .returned (.float .f64 r) ∧ SumR zs 0 r ∧ Below w.heap.size w w' := by
  have hmf : ∀ (fn : Fn) (first cap : Array Value) (w : World), (Instr.makeFunc fn first cap).run Try.prog w = .ok (.func fn first cap) w := fun _ _ _ _ => rfl
  have Hz := Lib.hid hz
  clear hz
  go_enter Try.func17, Try.ntmps17
  go_wp2_with fail
  go_loopw [10] (fun i wr => ∃ (k s : Nat), i = .int .i64 k ∧ k ≤ zs.length ∧ SumR (zs.take k) 0 s ∧ wr.heap[w.heap.size]? = some (.cells #[.float .f64 s] 23 (0, 0)) ∧ Below w.heap.size w wr) (fun i _ => zs.length - (intOf i).toNat)
  case atStart => exact ⟨0, 0, rfl, Nat.zero_le _, rfl, blk_new _ _, (Below.refl _ _).alloc (Nat.le_refl _) _⟩
  case round =>
    obtain ⟨k, s, rfl, hk, hs, hb, br⟩ := hrel
    have cb := blk_cell hb 0
    by_cases hlt : k < zs.length
    · obtain ⟨b, off, rfl, hx⟩ := Hz.out.elem hlt
      have hxr := hx wr br
      have htk := take_snoc zs k hlt
      obtain ⟨x, hxe⟩ : ∃ x, x = zs.getD k 0 := ⟨_, rfl⟩
      rw [← hxe] at hxr htk
      clear hx hxe
      go_wp2_with fail
      refine (add_any _ w.heap.size s x hb).mono ?_
      rintro e w2 ⟨m, rfl, hm, hb2, hk2⟩
      go_wp2_with fail
      go_roundw
      case rel => exact ⟨k + 1, m, by go_num, hlt, by rw [htk]; exact sumR_snoc _ _ _ _ _ hs hm, hb2, below_keep br hk2 br.size (fun i hi => by omega)⟩
      case measure => simp [intOf]; omega
    · have e : k = zs.length := by omega
      subst e
      rw [List.take_length] at hs
      go_wp2_with fail
      go_ret
      exact ⟨_, rfl, hs, br⟩
theorem rsum_any (w : World) (a : Option Addr) (c : Nat) (zs : List Nat) (hl : zs.length ≤ 9223372036854775807) (hz : ReadF w a zs) :
    Calls Try.prog 18 #[.slice a zs.length c] w fun e w' => ∃ r, e = .returned (.float .f64 r) ∧ SumR zs 0 r ∧ Below w.heap.size w w' := by
  have Hz := Lib.hid hz
  clear hz
  go_enter Try.func18, Try.ntmps18
  go_wp2_with fail
  go_loopw [3, 4] (fun t i wr => ∃ (k s : Nat), i = .int .i64 k ∧ k ≤ zs.length ∧ t = .float .f64 s ∧ SumR (zs.take k) 0 s ∧ Below w.heap.size w wr) (fun _ i _ => zs.length - (intOf i).toNat)
  case atStart => exact ⟨0, 0, rfl, Nat.zero_le _, rfl, rfl, Below.refl _ _⟩
  case round =>
    obtain ⟨k, s, rfl, hk, rfl, hs, br⟩ := hrel
    by_cases hlt : k < zs.length
    · obtain ⟨b, off, rfl, hx⟩ := Hz.out.elem hlt
      have hxr := hx wr br
      have htk := take_snoc zs k hlt
      obtain ⟨x, hxe⟩ : ∃ x, x = zs.getD k 0 := ⟨_, rfl⟩
      rw [← hxe] at hxr htk
      clear hx hxe
      rcases hq : floatBits .add .f64 s x with _ | r
      · have hr := fun w t => run_float_nan w .add t _ _ (.inl rfl) hq
        go_wp2_with fail
        go_roundw
        case rel => exact ⟨k + 1, _, by go_num, hlt, rfl, by rw [htk]; exact sumR_snoc _ _ _ _ _ hs (fr_none wr hq), below_after br (below_drew wr) br.size⟩
        case measure => simp [intOf]; omega
      · have hr := fun (w : World) t => run_float_arith (P := Try.prog) w .add t .f64 _ _ r hq
        go_wp2_with fail
        go_roundw
        case rel => exact ⟨k + 1, _, by go_num, hlt, rfl, by rw [htk]; exact sumR_snoc _ _ _ _ _ hs (fr_some hq), br⟩
        case measure => simp [intOf]; omega
    · have e : k = zs.length := by omega
      subst e
      rw [List.take_length] at hs
      go_wp2_with fail
      go_ret
      exact ⟨_, rfl, hs, br⟩

def MeanR (zs : List Nat) (r : Nat) : Prop := ∃ s, SumR zs 0 s ∧ FR .quo s (floatOfInt .f64 zs.length) r
theorem mean_any (w : World) (a : Option Addr) (c : Nat) (zs : List Nat) (hl : zs.length ≤ 9223372036854775807) (hz : ReadF w a zs) :
    Calls Try.prog 19 #[.slice a zs.length c] w fun e w' => ∃ r, e = .returned (.float .f64 r) ∧ MeanR zs r ∧ Below w.heap.size w w' := by
  go_enter Try.func19, Try.ntmps19
  go_wp2_with fail
  refine (sum_any _ a c zs hl hz).mono ?_
  rintro e w1 ⟨s, rfl, hs, b1⟩
  rcases hq : floatBits .quo .f64 s (floatOfInt .f64 zs.length) with _ | r
  · have hr := fun w t => run_float_nan w .quo t _ _ (.inr rfl) hq
    go_wp2_with fail
    go_ret
    exact ⟨_, rfl, ⟨s, hs, fr_none w1 hq⟩, below_after b1 (below_drew w1) b1.size⟩
  · have hr := fun (w : World) t => run_float_arith (P := Try.prog) w .quo t .f64 _ _ r hq
    go_wp2_with fail
    go_ret
    exact ⟨_, rfl, ⟨s, hs, fr_some hq⟩, b1⟩
theorem rmean_any (w : World) (a : Option Addr) (c : Nat) (zs : List Nat) (hl : zs.length ≤ 9223372036854775807) (hz : ReadF w a zs) :
    Calls Try.prog 20 #[.slice a zs.length c] w fun e w' => ∃ r, e = .returned (.float .f64 r) ∧ MeanR zs r ∧ Below w.heap.size w w' := by
  go_enter Try.func20, Try.ntmps20
  go_wp2_with fail
  refine (rsum_any _ a c zs hl hz).mono ?_
  rintro e w1 ⟨s, rfl, hs, b1⟩
  rcases hq : floatBits .quo .f64 s (floatOfInt .f64 zs.length) with _ | r
  · have hr := fun w t => run_float_nan w .quo t _ _ (.inr rfl) hq
    go_wp2_with fail
    go_ret
    exact ⟨_, rfl, ⟨s, hs, fr_none w1 hq⟩, below_after b1 (below_drew w1) b1.size⟩
  · have hr := fun (w : World) t => run_float_arith (P := Try.prog) w .quo t .f64 _ _ r hq
    go_wp2_with fail
    go_ret
    exact ⟨_, rfl, ⟨s, hs, fr_some hq⟩, b1⟩
end Go.Proofs.Ytdjlklkmobpohaa
