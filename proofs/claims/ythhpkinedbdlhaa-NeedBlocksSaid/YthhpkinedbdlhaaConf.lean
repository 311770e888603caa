/- A heap's layout as a value; the contracts of the reference's Large, Small and May (almeryref03), and of conf.Small. -/
import Derived.Test.YthhpkinedbdlhaaMayC
namespace Go.Proofs.Ythhpkinedbdlhaa
open Go.RowKit
set_option linter.unusedVariables false

/-- a layout -/
structure Cf where
  size : Int
  pages : Int
  classes : List Int
  keep : List Int
  step : Int
  slots : Int
  gens : Int
  most : Int
def Cf.val (c : Cf) (vc vk : Value) : Array Value := #[.int .i64 c.size, .int .i64 c.pages, vc, vk, .int .i64 c.step, .int .i64 c.slots, .int .i64 c.gens, .int .i64 c.most]
/-- a layout as a value: its numbers, and two lists that are read -/
def CV (w : World) (v : Value) (c : Cf) : Prop := ∃ ac cc ak ck, v = .agg #[.int .i64 c.size, .int .i64 c.pages, .slice ac c.classes.length cc, .slice ak c.keep.length ck, .int .i64 c.step, .int .i64 c.slots, .int .i64 c.gens, .int .i64 c.most] ∧ LV 0 w (.slice ac c.classes.length cc) c.classes ∧ LV 0 w (.slice ak c.keep.length ck) c.keep
theorem CV.below {w w' : World} {v : Value} {c : Cf} (h : CV w v c) (k : Below w.heap.size w w') : CV w' v c := by
  obtain ⟨ac, cc, ak, ck, e, h1, h2⟩ := h
  exact ⟨ac, cc, ak, ck, e, h1.keep k, h2.keep k⟩
theorem LV.caps {B : Nat} {w : World} {a : Option Addr} {n c : Nat} {l : List Int} (h : LV B w (.slice a n c) l) : n = l.length ∧ n ≤ c ∧ c ≤ 9223372036854775807 := by
  obtain ⟨a', c', e, h1, h2, _⟩ := h
  cases e
  exact ⟨rfl, h1, h2⟩

def largeC (s : Int) : Int := if s < 64 ∨ 4096 < s ∨ s % 8 ≠ 0 then 0 else s * (s / 8)
theorem largeC_no {s : Int} (h : s < 64 ∨ 4096 < s ∨ s % 8 ≠ 0) : largeC s = 0 := if_pos h
theorem largeC_yes {s : Int} (h : ¬ (s < 64 ∨ 4096 < s ∨ s % 8 ≠ 0)) : largeC s = s * (s / 8) := if_neg h
theorem mul_range {a b x y : Int} (ha : 0 ≤ a ∧ a ≤ x) (hb : 0 ≤ b ∧ b ≤ y) : 0 ≤ a * b ∧ a * b ≤ x * y :=
  ⟨Int.mul_nonneg ha.1 hb.1, Int.mul_le_mul ha.2 hb.2 hb.1 (by omega)⟩
theorem large_any (w : World) (v : Value) (c : Cf) (h : CV w v c) : Calls Try.prog 21 #[v] w fun e w' => e = .returned (.int .i64 (largeC c.size)) ∧ Below w.heap.size w w' := by
  obtain ⟨size, pages, classes, keep, step, slots, gens, most⟩ := c
  obtain ⟨ac, cc, ak, ck, rfl, h1, h2⟩ := h
  simp only at h1 h2 ⊢
  have hb : Below w.heap.size w (w.alloc (.cells #[.int .i64 size, .int .i64 pages, .slice ac classes.length cc, .slice ak keep.length ck, .int .i64 step, .int .i64 slots, .int .i64 gens, .int .i64 most] 24)) := (Below.refl _ _).alloc (Nat.le_refl _) _
  have HB := Lib.hid hb
  clear hb h1 h2
  by_cases h3 : size < 64
  · rw [largeC_no (.inl h3)]
    go_enter Try.func21, Try.ntmps21
    go_wp2_with fail
    go_ret
    exact ⟨rfl, HB.out⟩
  · have h3' : 64 ≤ size := by omega
    by_cases h4 : 4096 < size
    · rw [largeC_no (.inr (.inl h4))]
      clear h3
      go_enter Try.func21, Try.ntmps21
      go_wp2_with fail
      go_ret
      exact ⟨rfl, HB.out⟩
    · have h4' : size ≤ 4096 := by omega
      have e1 : size.tmod 8 = size % 8 := Int.tmod_eq_emod_of_nonneg (by omega)
      by_cases h5 : size % 8 = 0
      · rw [largeC_yes (by omega)]
        have e2 : size.tdiv 8 = size / 8 := Int.tdiv_eq_ediv_of_nonneg (by omega)
        have hr := mul_range (a := size) (b := size / 8) (x := 4096) (y := 512) ⟨by omega, h4'⟩ ⟨by omega, by omega⟩
        have hq : 0 ≤ size / 8 ∧ size / 8 ≤ 512 := by omega
        have e3 : IntKind.i64.wrap (size / 8) = size / 8 := IntWalk.i64_in _ (by omega)
        have e4 : IntKind.i64.wrap (size * (size / 8)) = size * (size / 8) := IntWalk.i64_in _ (by omega)
        have e5 : (size % 8 != 0) = false := by simp [h5]
        clear h3 h4 h5 hr hq
        go_enter Try.func21, Try.ntmps21
        go_wp2_with fail
        go_ret
        exact ⟨rfl, HB.out⟩
      · rw [largeC_no (.inr (.inr h5))]
        have e5 : (size % 8 != 0) = true := by simp [h5]
        have hq : 0 ≤ size % 8 ∧ size % 8 ≤ 8 := by omega
        have e3 : IntKind.i64.wrap (size % 8) = size % 8 := IntWalk.i64_in _ (by omega)
        clear h3 h4 h5 hq
        go_enter Try.func21, Try.ntmps21
        go_wp2_with fail
        go_ret
        exact ⟨rfl, HB.out⟩

/-- the greatest size of a block -/
def lastC (l : List Int) : Int := l.getD (l.length - 1) 0
theorem lastC_nil {l : List Int} (h : l.length = 0) : lastC l = 0 := by
  have : l = [] := List.eq_nil_of_length_eq_zero h
  subst this
  rfl
theorem rsmall_any (w : World) (v : Value) (c : Cf) (h : CV w v c) : Calls Try.prog 17 #[v] w fun e w' => e = .returned (.int .i64 (lastC c.classes)) ∧ Below w.heap.size w w' := by
  obtain ⟨size, pages, classes, keep, step, slots, gens, most⟩ := c
  obtain ⟨ac, cc, ak, ck, rfl, h1, h2⟩ := h
  simp only at h1 h2 ⊢
  have hb : Below w.heap.size w (w.alloc (.cells #[.int .i64 size, .int .i64 pages, .slice ac classes.length cc, .slice ak keep.length ck, .int .i64 step, .int .i64 slots, .int .i64 gens, .int .i64 most] 24)) := (Below.refl _ _).alloc (Nat.le_refl _) _
  have HB := Lib.hid hb
  by_cases h0 : classes.length = 0
  · rw [lastC_nil h0]
    have hz : (classes.length : Int) = 0 := by omega
    clear h0 h1 h2 hb
    go_enter Try.func17, Try.ntmps17
    go_wp2_with fail
    go_ret
    exact ⟨rfl, HB.out⟩
  · have H1 := Lib.hid h1
    have hcap := h1.caps
    have e0 : ((classes.length : Int) == 0) = false := beq_eq_false_iff_ne.2 (by omega)
    obtain ⟨b, off, c', hv, hx⟩ := H1.out.elem (k := classes.length - 1) (by omega)
    cases hv
    obtain ⟨m, hm⟩ : ∃ m, classes.length = m + 1 := ⟨classes.length - 1, by omega⟩
    have hx0 := hx _ hb
    rw [show lastC classes = classes.getD (classes.length - 1) 0 from rfl]
    generalize classes.getD (classes.length - 1) 0 = x at hx0 ⊢
    rw [hm] at hx0 HB ⊢
    rw [hm] at e0 hcap
    rw [Nat.add_sub_cancel] at hx0
    have ew : IntKind.i64.wrap ((m : Int) + 1 - 1) = m := by
      rw [show (m : Int) + 1 - 1 = m from by omega]
      exact IntWalk.i64_in _ (by omega)
    clear hx h1 h2 hb h0 hm H1
    go_enter Try.func17, Try.ntmps17
    go_wp2_with fail
    go_ret
    exact ⟨rfl, HB.out⟩
theorem small_any (w : World) (v : Value) (c : Cf) (h : CV w v c) : Calls Try.prog 29 #[v] w fun e w' => e = .returned (.int .i64 (lastC c.classes)) ∧ Below w.heap.size w w' := by
  obtain ⟨size, pages, classes, keep, step, slots, gens, most⟩ := c
  obtain ⟨ac, cc, ak, ck, rfl, h1, h2⟩ := h
  simp only at h1 h2 ⊢
  have hb : Below w.heap.size w (w.alloc (.cells #[.int .i64 size, .int .i64 pages, .slice ac classes.length cc, .slice ak keep.length ck, .int .i64 step, .int .i64 slots, .int .i64 gens, .int .i64 most] 24)) := (Below.refl _ _).alloc (Nat.le_refl _) _
  have HB := Lib.hid hb
  by_cases h0 : classes.length = 0
  · rw [lastC_nil h0]
    have hz : (classes.length : Int) = 0 := by omega
    clear h0 h1 h2 hb
    go_enter Try.func29, Try.ntmps29
    go_wp2_with fail
    go_ret
    exact ⟨rfl, HB.out⟩
  · have H1 := Lib.hid h1
    have hcap := h1.caps
    have e0 : ((classes.length : Int) == 0) = false := beq_eq_false_iff_ne.2 (by omega)
    obtain ⟨b, off, c', hv, hx⟩ := H1.out.elem (k := classes.length - 1) (by omega)
    cases hv
    obtain ⟨m, hm⟩ : ∃ m, classes.length = m + 1 := ⟨classes.length - 1, by omega⟩
    have hx0 := hx _ hb
    rw [show lastC classes = classes.getD (classes.length - 1) 0 from rfl]
    generalize classes.getD (classes.length - 1) 0 = x at hx0 ⊢
    rw [hm] at hx0 HB ⊢
    rw [hm] at e0 hcap
    rw [Nat.add_sub_cancel] at hx0
    have ew : IntKind.i64.wrap ((m : Int) + 1 - 1) = m := by
      rw [show (m : Int) + 1 - 1 = m from by omega]
      exact IntWalk.i64_in _ (by omega)
    clear hx h1 h2 hb h0 hm H1
    go_enter Try.func29, Try.ntmps29
    go_wp2_with fail
    go_ret
    exact ⟨rfl, HB.out⟩
end Go.Proofs.Ythhpkinedbdlhaa
