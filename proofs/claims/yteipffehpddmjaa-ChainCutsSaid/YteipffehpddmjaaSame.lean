/- The contract of the laws' own 'same' at two slices that hold the same spans, and the laws' own start (awake): in every world. -/
import Derived.Test.YteipffehpddmjaaCut
import Derived.Test.YteipffehpddmjaaChainAll
namespace Go.Proofs.Yteipffehpddmjaa
open Go.RowKit

theorem flatS_at (l : List Sp) (k : Nat) (h : k < l.length) : (flatS l)[k * 3]? = some (.int .i64 l[k].n) ∧ (flatS l)[k * 3 + 1]? = some (.int .i64 l[k].at_) ∧ (flatS l)[k * 3 + 2]? = some (.int .i64 l[k].len) := by
  induction l generalizing k with
  | nil => simp at h
  | cons s l ih =>
    have e : flatS (s :: l) = s.cells ++ flatS l := by simp [flatS]
    rw [e]
    cases k with
    | zero => exact ⟨rfl, rfl, rfl⟩
    | succ k =>
      have hk : k < l.length := by simpa using h
      obtain ⟨h1, h2, h3⟩ := ih k hk
      have hl : s.cells.length = 3 := rfl
      refine ⟨?_, ?_, ?_⟩
      · rw [List.getElem?_append_right (by omega), hl, show (k + 1) * 3 - 3 = k * 3 from by omega]; simpa using h1
      · rw [List.getElem?_append_right (by omega), hl, show (k + 1) * 3 + 1 - 3 = k * 3 + 1 from by omega]; simpa using h2
      · rw [List.getElem?_append_right (by omega), hl, show (k + 1) * 3 + 2 - 3 = k * 3 + 2 from by omega]; simpa using h3

/-- what a slice's address leads to -/
def ReadC (w : World) (a : Option Addr) (xs : List Value) : Prop := xs.length = 0 ∨ ∃ b, a = some ⟨b, 0, none⟩ ∧ ∀ j u, xs[j]? = some u → w.cell? ⟨b, j, none⟩ = some u
theorem flatS_length (l : List Sp) : (flatS l).length = l.length * 3 := by
  induction l with
  | nil => rfl
  | cons s l ih =>
    have e : flatS (s :: l) = s.cells ++ flatS l := by simp [flatS]
    rw [e, List.length_append, ih, List.length_cons]
    have : s.cells.length = 3 := rfl
    omega
theorem own_readC {w : World} {base : Nat} {v : Value} {l : List Sp} (h : w.ownsRow base 29 3 v l.length (flatS l)) : ∃ a cap, v = .slice a l.length cap ∧ ReadC w a (flatS l) := by
  by_cases h0 : 0 < l.length
  · obtain ⟨g, cap, rfl, _, _, _, _, hc⟩ := own_reads h h0
    exact ⟨_, cap, rfl, .inr ⟨g, rfl, hc⟩⟩
  · obtain ⟨a, cap, rfl, _⟩ := own_slice h
    exact ⟨a, cap, rfl, .inl (by rw [flatS_length]; omega)⟩

theorem same_eq (w : World) (a b : Option Addr) (c c' : Nat) (l : List Sp) (hl : l.length ≤ 16777216) (ha : ReadC w a (flatS l)) (hb : ReadC w b (flatS l)) :
    Calls Try.prog 8 #[.slice a l.length c, .slice b l.length c'] w fun e w' => e = .returned (.bool true) ∧ Below w.heap.size w w' := by
  by_cases h0 : l.length = 0
  · go_enter Try.func8, Try.ntmps8
    go_wp2_with fail
    refine wp_loop_rounds 1 ?_
    rw [rounds_succ]
    go_wp2_with fail
    go_ret
    exact ⟨rfl, Below.refl _ _⟩
  · obtain ⟨x, rfl, hx⟩ := ha.resolve_left (by rw [flatS_length]; omega)
    obtain ⟨y, rfl, hy⟩ := hb.resolve_left (by rw [flatS_length]; omega)
    have Hx := Lib.hid hx
    have Hy := Lib.hid hy
    clear hx hy ha hb
    go_enter Try.func8, Try.ntmps8
    go_wp2_with fail
    go_loopw [5] (fun i wr => ∃ k : Nat, k ≤ l.length ∧ i = .int .i64 k ∧ Below w.heap.size w wr) (fun i _ => l.length - (intOf i).toNat)
    case atStart => exact ⟨0, Nat.zero_le _, rfl, Below.refl _ _⟩
    case round =>
      obtain ⟨k, hk, rfl, br⟩ := hrel
      by_cases hlt : k < l.length
      · obtain ⟨f0, f1, f2⟩ := flatS_at l k hlt
        have lift : ∀ {g j : Nat} {u : Value}, w.cell? ⟨g, j, none⟩ = some u → wr.cell? ⟨g, j, none⟩ = some u := fun {g j u} h => (br.cell (p := ⟨g, j, none⟩) (World.block_lt_of_cell? w _ h)).trans h
        have x0 := lift (Hx.out _ _ f0)
        have x1 := lift (Hx.out _ _ f1)
        have x2 := lift (Hx.out _ _ f2)
        have y0 := lift (Hy.out _ _ f0)
        have y1 := lift (Hy.out _ _ f1)
        have y2 := lift (Hy.out _ _ f2)
        obtain ⟨s, hs⟩ : ∃ s, s = l[k] := ⟨_, rfl⟩
        rw [← hs] at x0 x1 x2 y0 y1 y2
        clear lift f0 f1 f2 hs
        go_wp2_with fail
        go_quiet (fail)
        go_wp2_with fail
        go_roundw
        case rel => exact ⟨k + 1, by omega, by go_num, ⟨br.os, br.tape, br.output, br.size, br.block⟩⟩
        case measure => simp [intOf]; omega
      · go_wp2_with fail
        go_ret
        exact ⟨rfl, br⟩

theorem awake_any (w : World) : Calls Try.prog 7 #[] w fun e w' => e = .returned (.bool true) ∧ Below w.heap.size w w' := by
  have hc : cutS 60 10 64 = [⟨0, 60, 4⟩, ⟨1, 0, 6⟩] := rfl
  go_enter Try.func7, Try.ntmps7
  go_wp2_with fail
  refine (cut_any _ 60 10 64 (by omega)).mono ?_
  rintro e w1 ⟨v, rfl, o1, b1⟩
  rw [hc] at o1
  obtain ⟨g, cap, rfl, _, _, _, _, hx⟩ := own_reads o1 (by decide)
  have x0 := hx 0 _ rfl
  have x1 := hx 1 _ rfl
  have x2 := hx 2 _ rfl
  have x3 := hx 3 _ rfl
  have x4 := hx 4 _ rfl
  have x5 := hx 5 _ rfl
  simp only [List.length_cons, List.length_nil]
  clear hx hc o1
  have e1 : manyS 65 64 = 2 := by decide
  have e2 : allS 65 64 = 3 := by decide
  have e3 : allS 0 64 = 0 := by decide
  go_wp2_with (first | (go_at_call 12; refine (data_any _ 65 64 (by omega)).mono ?_; rintro e w' ⟨rfl, rfl⟩) | (go_at_call 13; with_reducible refine (all_any _ 65 64 (by omega)).mono ?_; rintro e w' ⟨rfl, rfl⟩) | (go_at_call 13; refine (all_any _ 0 64 (by omega)).mono ?_; rintro e w' ⟨rfl, rfl⟩))
  go_ret
  exact ⟨rfl, b1⟩
end Go.Proofs.Yteipffehpddmjaa
