/- The contracts of ratio.Least and of the reference's: both are the same fold. -/
import Derived.Test.YtdjlklkmobpohaaSum
namespace Go.Proofs.Ytdjlklkmobpohaa
open Go.RowKit Ieee
attribute [local go_sem] run_store_float

def okF (zs : List Nat) : Prop := ∀ i, zs.getD i 0 < 18446744073709551616
def leastK (zs : List Nat) : Nat → Nat
  | 0 => zs.getD 0 0
  | k + 1 => if belowB (zs.getD (k + 1) 0) (leastK zs k) then zs.getD (k + 1) 0 else leastK zs k
theorem leastK_lt (zs : List Nat) (h : okF zs) (k : Nat) : leastK zs k < 18446744073709551616 := by
  induction k with
  | zero => exact h 0
  | succ k ih => unfold leastK; split; exact h _; exact ih
def leastS (zs : List Nat) : Nat := if zs.length = 0 then 9221120237041090561 else leastK zs (zs.length - 1)
theorem leastS_lt (zs : List Nat) (h : okF zs) : leastS zs < 18446744073709551616 := by
  unfold leastS; split; omega; exact leastK_lt zs h _

theorem nan_any (w : World) : Calls Try.prog 25 #[] w fun e w' => e = .returned (.float .f64 9221120237041090561) ∧ w = w' := by
  have hb := run_frombits 9221120237041090561
  go_enter Try.func25, Try.ntmps25
  go_wp2_with fail
  go_ret
  exact ⟨rfl, rfl⟩

/-- the function that Least hands on -/
theorem cmp_yes (w : World) (x y : Nat) (hx : x < 18446744073709551616) (hy : y < 18446744073709551616) (h : belowB x y = true) : Calls Try.prog 27 #[.float .f64 x, .float .f64 y] w fun e w' => e = .returned (.int .i64 (-1)) ∧ w = w' := by
  go_enter Try.func27, Try.ntmps27
  go_wp2_with fail
  refine (below_any _ x y hx hy).mono ?_
  rintro e w1 ⟨rfl, rfl⟩
  rw [h]
  go_wp2_with fail
  go_ret
  exact ⟨rfl, rfl⟩
theorem cmp_no (w : World) (x y : Nat) (hx : x < 18446744073709551616) (hy : y < 18446744073709551616) (h : belowB x y = false) : Calls Try.prog 27 #[.float .f64 x, .float .f64 y] w fun e w' => ∃ r, e = .returned (.int .i64 r) ∧ 0 ≤ r ∧ w = w' := by
  rcases h2 : belowB y x
  · go_enter Try.func27, Try.ntmps27
    go_wp2_with fail
    refine (below_any _ x y hx hy).mono ?_
    rintro e w1 ⟨rfl, rfl⟩
    rw [h]
    go_wp2_with fail
    refine (below_any _ y x hy hx).mono ?_
    rintro e w1 ⟨rfl, rfl⟩
    rw [h2]
    go_wp2_with fail
    go_ret
    exact ⟨_, rfl, by omega, rfl⟩
  · go_enter Try.func27, Try.ntmps27
    go_wp2_with fail
    refine (below_any _ x y hx hy).mono ?_
    rintro e w1 ⟨rfl, rfl⟩
    rw [h]
    go_wp2_with fail
    refine (below_any _ y x hy hx).mono ?_
    rintro e w1 ⟨rfl, rfl⟩
    rw [h2]
    go_wp2_with fail
    go_ret
    exact ⟨_, rfl, by omega, rfl⟩

theorem min_any (w : World) (a : Option Addr) (c : Nat) (zs : List Nat) (hl : zs.length ≤ 9223372036854775807) (hz : ReadF w a zs) (hok : okF zs) (h0 : 0 < zs.length) :
    Calls Try.prog 26 #[.slice a zs.length c, .func (.func 27) #[] #[]] w fun e w' => e = .returned (.float .f64 (leastK zs (zs.length - 1))) ∧ Below w.heap.size w w' := by
  obtain ⟨b, off, rfl, hx0⟩ := hz.elem h0
  have hc := (hz.resolve_left (by omega))
  obtain ⟨b', off', hb, hcells⟩ := hc
  cases hb
  have Hc := Lib.hid hcells
  have Hok := Lib.hid hok
  have hx := hx0 w (Below.refl _ _)
  simp only [Nat.add_zero] at hx
  have hk0 : zs.getD 0 0 = leastK zs 0 := rfl
  rw [hk0] at hx
  clear hcells hok hx0 hz hk0
  go_enter Try.func26, Try.ntmps26
  go_wp2_with fail
  go_loopw [5, 6] (fun m i wr => ∃ k : Nat, i = .int .i64 (k + 1) ∧ k < zs.length ∧ m = .float .f64 (leastK zs k) ∧ Below w.heap.size w wr) (fun _ i _ => zs.length - (intOf i).toNat)
  case atStart => exact ⟨0, rfl, h0, rfl, Below.refl _ _⟩
  case round =>
    obtain ⟨k, rfl, hk, rfl, br⟩ := hrel
    by_cases hlt : k + 1 < zs.length
    · have x0 := Hc.out (k + 1) hlt
      have hxr : wr.cell? ⟨b, off + (k + 1), none⟩ = some (.float .f64 (zs.getD (k + 1) 0)) := (br.cell (p := ⟨b, off + (k + 1), none⟩) (World.block_lt_of_cell? w _ x0)).trans x0
      have hs : leastK zs (k + 1) = if belowB (zs.getD (k + 1) 0) (leastK zs k) then zs.getD (k + 1) 0 else leastK zs k := rfl
      have b1 := Hok.out (k + 1)
      have b2 := leastK_lt zs Hok.out k
      have Hs := Lib.hid hs
      obtain ⟨x, hxe⟩ : ∃ x, x = zs.getD (k + 1) 0 := ⟨_, rfl⟩
      obtain ⟨m, hme⟩ : ∃ m, m = leastK zs k := ⟨_, rfl⟩
      rw [← hxe] at hxr Hs b1
      rw [← hme] at Hs b2 ⊢
      clear hs hxe hme x0
      rcases hbb : belowB x m
      · go_wp2_with fail
        refine (cmp_no _ x m b1 b2 hbb).mono ?_
        rintro e w1 ⟨r, rfl, hr, rfl⟩
        go_wp2_with fail
        go_roundw
        case rel => exact ⟨k + 1, by go_num, hlt, by rw [Hs.out, hbb]; rfl, br⟩
        case measure => simp [intOf]; omega
      · go_wp2_with fail
        refine (cmp_yes _ x m b1 b2 hbb).mono ?_
        rintro e w1 ⟨rfl, rfl⟩
        go_wp2_with fail
        go_roundw
        case rel => exact ⟨k + 1, by go_num, hlt, by rw [Hs.out, hbb]; rfl, br⟩
        case measure => simp [intOf]; omega
    · have e : k = zs.length - 1 := by omega
      subst e
      go_wp2_with fail
      go_ret
      exact ⟨rfl, br⟩
theorem least_any (w : World) (a : Option Addr) (c : Nat) (zs : List Nat) (hl : zs.length ≤ 9223372036854775807) (hz : ReadF w a zs) (hok : okF zs) :
    Calls Try.prog 15 #[.slice a zs.length c] w fun e w' => e = .returned (.float .f64 (leastS zs)) ∧ Below w.heap.size w w' := by
  unfold leastS
  by_cases h0 : zs.length = 0
  · rw [if_pos h0]
    go_enter Try.func15, Try.ntmps15
    go_wp2_with fail
    refine (nan_any _).mono ?_
    rintro e w1 ⟨rfl, rfl⟩
    go_wp2_with fail
    go_ret
    exact ⟨rfl, Below.refl _ _⟩
  · rw [if_neg h0]
    go_enter Try.func15, Try.ntmps15
    go_wp2_with fail
    refine (min_any _ a c zs hl hz hok (by omega)).mono ?_
    rintro e w1 ⟨rfl, b1⟩
    go_wp2_with fail
    go_ret
    exact ⟨rfl, b1⟩
theorem rleast_any (w : World) (a : Option Addr) (c : Nat) (zs : List Nat) (hl : zs.length ≤ 9223372036854775807) (hz : ReadF w a zs) (hok : okF zs) :
    Calls Try.prog 16 #[.slice a zs.length c] w fun e w' => e = .returned (.float .f64 (leastS zs)) ∧ Below w.heap.size w w' := by
  unfold leastS
  by_cases h0 : zs.length = 0
  · rw [if_pos h0]
    go_enter Try.func16, Try.ntmps16
    go_wp2_with fail
    refine (nan_any _).mono ?_
    rintro e w1 ⟨rfl, rfl⟩
    go_wp2_with fail
    go_ret
    exact ⟨rfl, Below.refl _ _⟩
  · rw [if_neg h0]
    obtain ⟨b, off, rfl, hx0⟩ := hz.elem (show 0 < zs.length by omega)
    have hc := (hz.resolve_left (by omega))
    obtain ⟨b', off', hb, hcells⟩ := hc
    cases hb
    have Hc := Lib.hid hcells
    have Hok := Lib.hid hok
    have hx := hx0 w (Below.refl _ _)
    simp only [Nat.add_zero] at hx
    have hk0 : zs.getD 0 0 = leastK zs 0 := rfl
    rw [hk0] at hx
    clear hcells hok hx0 hz hk0
    have e0 : ((zs.length : Int) == 0) = false := beq_eq_false_iff_ne.2 (by omega)
    go_enter Try.func16, Try.ntmps16
    go_wp2_with fail
    go_loopw [3, 4] (fun m i wr => ∃ k : Nat, i = .int .i64 (k + 1) ∧ k < zs.length ∧ m = .float .f64 (leastK zs k) ∧ Below w.heap.size w wr) (fun _ i _ => zs.length - (intOf i).toNat)
    case atStart => exact ⟨0, rfl, by omega, rfl, Below.refl _ _⟩
    case round =>
      obtain ⟨k, rfl, hk, rfl, br⟩ := hrel
      by_cases hlt : k + 1 < zs.length
      · have x0 := Hc.out (k + 1) hlt
        have hxr : wr.cell? ⟨b, off + (k + 1), none⟩ = some (.float .f64 (zs.getD (k + 1) 0)) := (br.cell (p := ⟨b, off + (k + 1), none⟩) (World.block_lt_of_cell? w _ x0)).trans x0
        have hs : leastK zs (k + 1) = if belowB (zs.getD (k + 1) 0) (leastK zs k) then zs.getD (k + 1) 0 else leastK zs k := rfl
        have b1 := Hok.out (k + 1)
        have b2 := leastK_lt zs Hok.out k
        have Hs := Lib.hid hs
        obtain ⟨x, hxe⟩ : ∃ x, x = zs.getD (k + 1) 0 := ⟨_, rfl⟩
        obtain ⟨m, hme⟩ : ∃ m, m = leastK zs k := ⟨_, rfl⟩
        rw [← hxe] at hxr Hs b1
        rw [← hme] at Hs b2 ⊢
        clear hs hxe hme x0
        rcases hbb : belowB x m
        · go_wp2_with fail
          refine (refbelow_any _ x m b1 b2).mono ?_
          rintro e w1 ⟨rfl, rfl⟩
          rw [hbb]
          go_wp2_with fail
          go_roundw
          case rel => exact ⟨k + 1, by go_num, hlt, by rw [Hs.out, hbb]; rfl, br⟩
          case measure => simp [intOf]; omega
        · go_wp2_with fail
          refine (refbelow_any _ x m b1 b2).mono ?_
          rintro e w1 ⟨rfl, rfl⟩
          rw [hbb]
          go_wp2_with fail
          go_roundw
          case rel => exact ⟨k + 1, by go_num, hlt, by rw [Hs.out, hbb]; rfl, br⟩
          case measure => simp [intOf]; omega
      · have e : k = zs.length - 1 := by omega
        subst e
        go_wp2_with fail
        go_ret
        exact ⟨rfl, br⟩
end Go.Proofs.Ytdjlklkmobpohaa
