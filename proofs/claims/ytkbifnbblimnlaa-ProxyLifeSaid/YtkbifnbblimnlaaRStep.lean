/- What a take, and a give, of a slot comes to in the reference's table; an act's handle. -/
import Derived.Test.YtkbifnbblimnlaaRGive
namespace Go.Proofs.Ytkbifnbblimnlaa
open Go.RowKit
set_option linter.unusedVariables false

theorem rs_take (B : Nat → Prop) (w : World) (v : Value) (n : Nat) (gens : Int) (gn : Nat → Int) (lv : Nat → Bool) (fr : List Nat) (h s er : Int) (lv' : Nat → Bool) (fr' : List Nat) (hr : RT B w v n gens gn lv fr) (hBw : ∀ i, w.heap.size ≤ i → B i) (hn : n ≤ 4096) (ht : TK n gn lv fr h s er lv' fr') :
    Calls Try.prog 21 #[v] w fun e w' => ∃ v', e = .returned (.tuple #[v', .int .i64 h, .int .i64 s, .int .i64 er]) ∧ RT B w' v' n gens gn lv' fr' ∧ Below w.heap.size w w' := by
  cases ht with
  | none =>
    refine (rtake_none B w v n gens gn lv hr).mono ?_
    rintro e w' ⟨rfl, b⟩
    exact ⟨_, rfl, hr.keep b, b⟩
  | some f fs h1 h2 h3 =>
    refine (rtake_any B w v n gens gn lv f fr' hr hBw h1 hn ⟨h2, h3⟩).mono ?_
    rintro e w' ⟨v', rfl, r, b⟩
    exact ⟨_, rfl, r, b⟩
theorem rs_give (B : Nat → Prop) (w : World) (v : Value) (n : Nat) (gens : Int) (gn : Nat → Int) (lv : Nat → Bool) (fr : List Nat) (h er : Int) (gn' : Nat → Int) (lv' : Nat → Bool) (fr' : List Nat) (hr : RT B w v n gens gn lv fr) (hBw : ∀ i, w.heap.size ≤ i → B i) (hn : n ≤ 4096) (hfl : fr.length ≤ 4096) (ht : GV n gens gn lv fr h er gn' lv' fr') :
    Calls Try.prog 20 #[v, .int .i64 h] w fun e w' => ∃ v', e = .returned (.tuple #[v', .int .i64 er]) ∧ RT B w' v' n gens gn' lv' fr' ∧ Below w.heap.size w w' := by
  cases ht with
  | bad hb =>
    refine (rgive_bad B w v n gens gn lv fr h hr hb).mono ?_
    rintro e w' ⟨rfl, b⟩
    exact ⟨_, rfl, hr.keep b, b⟩
  | over i h1 h2 h3 h4 h5 h6 =>
    refine (rgive_over B w v n gens gn lv fr h i hr hBw h1 hn ⟨h4, h5⟩ hfl h2 h6).mono ?_
    rintro e w' ⟨v', rfl, r, b⟩
    exact ⟨_, rfl, r, b⟩
  | free i h1 h2 h3 h4 h5 h6 =>
    refine (rgive_free B w v n gens gn lv fr h i hr hBw h1 hn ⟨h4, h5⟩ hfl h2 h6).mono ?_
    rintro e w' ⟨v', rfl, r, b⟩
    exact ⟨_, rfl, r, b⟩

def hand (a b : Int) : Int := 4096 * (b % 6) + a % 10
theorem handle_any (w : World) (g : Bool) (a b : Int) (ha : 0 ≤ a ∧ a ≤ 255) (hb : 0 ≤ b ∧ b ≤ 255) :
    Calls Try.prog 19 #[.agg #[.bool g, .int .u8 a, .int .u8 b]] w fun e w' => e = .returned (.int .i64 (hand a b)) ∧ Below w.heap.size w w' := by
  have h1 : IntKind.i64.wrap a = a := IntWalk.i64_in _ (by omega)
  have h2 : IntKind.i64.wrap b = b := IntWalk.i64_in _ (by omega)
  have h3 : b.tmod 6 = b % 6 := Int.tmod_eq_emod_of_nonneg hb.1
  have h4 : a.tmod 10 = a % 10 := Int.tmod_eq_emod_of_nonneg ha.1
  have h5 : IntKind.i64.wrap (b % 6) = b % 6 := IntWalk.i64_in _ (by omega)
  have h6 : IntKind.i64.wrap (a % 10) = a % 10 := IntWalk.i64_in _ (by omega)
  have h7 : IntKind.i64.wrap (4096 * (b % 6)) = 4096 * (b % 6) := IntWalk.i64_in _ (by omega)
  have h8 : IntKind.i64.wrap (4096 * (b % 6) + a % 10) = 4096 * (b % 6) + a % 10 := IntWalk.i64_in _ (by omega)
  have hB : Below w.heap.size w (w.alloc (.cells #[.bool g, .int .u8 a, .int .u8 b] 49)) := (Below.refl _ _).alloc (Nat.le_refl _) _
  have HB := Lib.hid hB
  clear hB
  go_enter Try.func19, Try.ntmps19
  go_wp2_with fail
  go_ret
  exact ⟨rfl, HB.out⟩
end Go.Proofs.Ytkbifnbblimnlaa
