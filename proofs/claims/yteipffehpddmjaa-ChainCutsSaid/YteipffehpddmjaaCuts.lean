/- The walks through the laws ChainCuts and ChainAll. -/
import Derived.Test.YteipffehpddmjaaSame
import Derived.Test.YteipffehpddmjaaRCut
namespace Go.Proofs.Yteipffehpddmjaa
open Go.RowKit

theorem lawCuts_many (w : World) (a n p : Int) (hn2 : n ≤ 9223372036854775807) (hp : 0 < p) (hn : 0 < n) (hq : 200 < n / p) :
    Calls Try.prog 3 #[.int .i64 a, .int .i64 n, .int .i64 p] w fun e w' => e = .returned (.bool true) ∧ Below w.heap.size w w' := by
  have q1 : n.tdiv p = n / p := Int.tdiv_eq_ediv_of_nonneg (by omega)
  have d := div_bounds n p (by omega) hp
  obtain ⟨q, hq'⟩ : ∃ q, q = n / p := ⟨_, rfl⟩
  rw [← hq'] at q1 d hq
  clear hq'
  go_enter Try.func3, Try.ntmps3
  go_wp2_with fail
  refine (awake_any _).mono ?_
  rintro e w1 ⟨rfl, b1⟩
  go_wp2_with fail
  go_ret
  exact ⟨rfl, b1⟩
theorem lawCuts_few (w : World) (a n p : Int) (hn1 : -9223372036854775808 ≤ n) (hn2 : n ≤ 9223372036854775807) (hp2 : p ≤ 9223372036854775807) (h : p ≤ 0 ∨ n ≤ 0 ∨ n / p ≤ 200) :
    Calls Try.prog 3 #[.int .i64 a, .int .i64 n, .int .i64 p] w fun e w' => e = .returned (.bool true) ∧ Below w.heap.size w w' := by
  have fin : ∀ (w1 : World), Below w.heap.size w w1 → Calls Try.prog 9 #[.int .i64 a, .int .i64 n, .int .i64 p] w1 fun e w2 => ∃ x c, e = .returned (.slice x (cutS a n p).length c) ∧ ReadC w2 x (flatS (cutS a n p)) ∧ Below w.heap.size w w2 ∧ w.heap.size ≤ w2.heap.size := by
    intro w1 b1
    refine (cut_any _ a n p hp2).mono ?_
    rintro e w2 ⟨v, rfl, o2, b2⟩
    obtain ⟨x, c, rfl, hx⟩ := own_readC o2
    exact ⟨x, c, rfl, hx, below_after b1 b2 b1.size, Nat.le_trans b1.size b2.size⟩
  have fin2 : ∀ (w2 : World) (x : Option Addr), ReadC w2 x (flatS (cutS a n p)) → Below w.heap.size w w2 → Calls Try.prog 10 #[.int .i64 a, .int .i64 n, .int .i64 p] w2 fun e w3 => ∃ y c, e = .returned (.slice y (cutS a n p).length c) ∧ ReadC w3 x (flatS (cutS a n p)) ∧ ReadC w3 y (flatS (cutS a n p)) ∧ Below w.heap.size w w3 := by
    intro w2 x hx b2
    refine (rcut_any _ a n p hp2).mono ?_
    rintro e w3 ⟨v, rfl, o3, b3⟩
    obtain ⟨y, c, rfl, hy⟩ := own_readC o3
    refine ⟨y, c, rfl, ?_, hy, below_after b2 b3 b2.size⟩
    rcases hx with hx | ⟨b, hb, hx⟩
    · exact .inl hx
    · exact .inr ⟨b, hb, fun j u hu => (b3.cell (p := ⟨b, j, none⟩) (World.block_lt_of_cell? w2 _ (hx j u hu))).trans (hx j u hu)⟩
  have Hl := cut_length a n p
  obtain ⟨l, hl⟩ : ∃ l, l = cutS a n p := ⟨_, rfl⟩
  rw [← hl] at fin fin2 Hl
  clear hl
  have G : ∀ (h1 : (0 < p) → (0 < n) → 0 ≤ n.tdiv p ∧ n.tdiv p ≤ 200), Calls Try.prog 3 #[.int .i64 a, .int .i64 n, .int .i64 p] w fun e w' => e = .returned (.bool true) ∧ Below w.heap.size w w' := by
    intro h1
    by_cases c1 : 0 < p
    · by_cases c2 : 0 < n
      · have h2 := h1 c1 c2
        clear h h1
        go_enter Try.func3, Try.ntmps3
        go_wp2_with fail
        refine (awake_any _).mono ?_
        rintro e w1 ⟨rfl, b1⟩
        go_wp2_with fail
        refine (fin _ b1).mono ?_
        rintro e w2 ⟨x, c, rfl, hx, b2, z2⟩
        go_wp2_with fail
        refine (fin2 _ x hx b2).mono ?_
        rintro e w3 ⟨y, c', rfl, hx, hy, b3⟩
        go_wp2_with fail
        refine (same_eq _ x y c c' l Hl hx hy).mono ?_
        rintro e w4 ⟨rfl, b4⟩
        go_wp2_with fail
        go_ret
        exact ⟨rfl, below_after b3 b4 b3.size⟩
      · clear h h1
        go_enter Try.func3, Try.ntmps3
        go_wp2_with fail
        refine (awake_any _).mono ?_
        rintro e w1 ⟨rfl, b1⟩
        go_wp2_with fail
        refine (fin _ b1).mono ?_
        rintro e w2 ⟨x, c, rfl, hx, b2, z2⟩
        go_wp2_with fail
        refine (fin2 _ x hx b2).mono ?_
        rintro e w3 ⟨y, c', rfl, hx, hy, b3⟩
        go_wp2_with fail
        refine (same_eq _ x y c c' l Hl hx hy).mono ?_
        rintro e w4 ⟨rfl, b4⟩
        go_wp2_with fail
        go_ret
        exact ⟨rfl, below_after b3 b4 b3.size⟩
    · clear h h1
      go_enter Try.func3, Try.ntmps3
      go_wp2_with fail
      refine (awake_any _).mono ?_
      rintro e w1 ⟨rfl, b1⟩
      go_wp2_with fail
      refine (fin _ b1).mono ?_
      rintro e w2 ⟨x, c, rfl, hx, b2, z2⟩
      go_wp2_with fail
      refine (fin2 _ x hx b2).mono ?_
      rintro e w3 ⟨y, c', rfl, hx, hy, b3⟩
      go_wp2_with fail
      refine (same_eq _ x y c c' l Hl hx hy).mono ?_
      rintro e w4 ⟨rfl, b4⟩
      go_wp2_with fail
      go_ret
      exact ⟨rfl, below_after b3 b4 b3.size⟩
  refine G fun c1 c2 => ?_
  rw [Int.tdiv_eq_ediv_of_nonneg (by omega)]
  have := div_bounds n p (by omega) c1
  exact ⟨this.1, by omega⟩
theorem lawCuts_any (w : World) (a n p : Int) (hn1 : -9223372036854775808 ≤ n) (hn2 : n ≤ 9223372036854775807) (hp2 : p ≤ 9223372036854775807) :
    Calls Try.prog 3 #[.int .i64 a, .int .i64 n, .int .i64 p] w fun e w' => e = .returned (.bool true) ∧ Below w.heap.size w w' := by
  by_cases h : p ≤ 0 ∨ n ≤ 0 ∨ n / p ≤ 200
  · exact lawCuts_few w a n p hn1 hn2 hp2 h
  · exact lawCuts_many w a n p hn2 (by omega) (by omega) (by omega)
end Go.Proofs.Yteipffehpddmjaa
