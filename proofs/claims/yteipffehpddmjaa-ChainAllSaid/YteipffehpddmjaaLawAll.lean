/- The walk through the law ChainAll. -/
import Derived.Test.YteipffehpddmjaaSame
import Derived.Test.YteipffehpddmjaaRCut
namespace Go.Proofs.Yteipffehpddmjaa
open Go.RowKit

theorem lawAll_any (w : World) (x y z : Int) (hx : 0 ≤ x ∧ x ≤ 65535) (hy : 0 ≤ y ∧ y ≤ 65535) (hz : 0 ≤ z ∧ z ≤ 255) :
    Calls Try.prog 4 #[.int .u16 x, .int .u16 y, .int .u8 z] w fun e w' => e = .returned (.bool true) ∧ Below w.heap.size w w' := by
  have q1 : y.tmod 2000 = y % 2000 := Int.tmod_eq_emod_of_nonneg hy.1
  have m1 := mod_bounds y 2000 (by omega)
  obtain ⟨n, hn⟩ : ∃ n, n = y % 2000 := ⟨_, rfl⟩
  obtain ⟨p, hp⟩ : ∃ p, p = 8 + z := ⟨_, rfl⟩
  rw [← hn] at q1 m1
  have bp : 8 ≤ p ∧ p ≤ 263 := by omega
  have hcut : cutS x n p = spansS x n p := by unfold cutS; rw [if_neg (by omega)]
  have Hfew := Lib.hid (spans_few x n p (by omega) (by omega))
  have hlen := spans_length x n p (by omega) (by omega)
  have Hmr : 0 ≤ manyS n p ∧ manyS n p ≤ 2000 := by
    by_cases h : 1 ≤ n
    · have := many_facts n p h (by omega)
      omega
    · rw [manyS, if_pos (by omega)]
      omega
  obtain ⟨L, hL⟩ : ∃ L, L = (spansS x n p).length := ⟨_, rfl⟩
  rw [← hL] at Hfew hlen
  have Hn := Lib.hid hn
  have Hp := Lib.hid hp
  clear hn hp
  go_enter Try.func4, Try.ntmps4
  go_wp2_with fail
  refine (awake_any _).mono ?_
  rintro e w1 ⟨rfl, b1⟩
  go_wp2_with fail
  simp only [← Hp.out]
  refine (cut_any _ x n p (by omega)).mono ?_
  rintro e w2 ⟨v, rfl, o2, b2⟩
  rw [hcut] at o2
  obtain ⟨g, c, rfl, hg⟩ := own_readC o2
  rw [← hL]
  have b3 : Below w.heap.size w w2 := below_after b1 b2 b1.size
  have Hg := Lib.hid hg
  have HL := Lib.hid hL
  clear hg o2 hcut hL
  go_wp2_with fail
  go_loopw [12, 13] (fun t i wr => ∃ (k : Nat) (a m : Int), i = .int .i64 k ∧ k ≤ L ∧ t = .int .i64 a ∧ (spansS x n p).drop k = spansS a m p ∧ 0 ≤ a ∧ a + m = x + n ∧ 0 ≤ m ∧ Below w2.heap.size w2 wr) (fun _ i _ => L - (intOf i).toNat)
  case atStart => exact ⟨0, x, n, rfl, Nat.zero_le _, rfl, rfl, by omega, rfl, by omega, Below.refl _ _⟩
  case round =>
    obtain ⟨k, a, m, rfl, hk, rfl, hd, ha, ham, hm, br⟩ := hrel
    by_cases hlt : k < L
    · have hk' : k < (spansS x n p).length := by rw [← HL.out]; exact hlt
      have hm0 : 0 < m := by
        rcases Int.lt_or_le 0 m with h | h
        · exact h
        · rw [spans_nil a m p h] at hd
          have := congrArg List.length hd
          rw [List.length_drop] at this
          simp at this
          omega
      rw [spans_cons a m p hm0 (by omega), List.drop_eq_getElem_cons hk'] at hd
      obtain ⟨hs, hrest⟩ := List.cons.inj hd
      have sp := head_split a m p
      have hl := head_len a m p hm0 (by omega)
      have mo := mod_bounds a p (by omega)
      have di := div_bounds a p ha (by omega)
      have hover : (headS a m p).at_ + (headS a m p).len ≤ p := by
        show a % p + (if p - a % p < m then p - a % p else m) ≤ p
        split <;> omega
      have hat : 0 ≤ (headS a m p).at_ ∧ (headS a m p).at_ < p := mo
      have hn0 : 0 ≤ (headS a m p).n ∧ (headS a m p).n ≤ a := di
      obtain ⟨b, rfl, hx⟩ := Hg.out.resolve_left (by rw [flatS_length]; omega)
      obtain ⟨f0, f1, f2⟩ := flatS_at _ k hk'
      rw [hs] at f0 f1 f2
      obtain ⟨s, hse⟩ : ∃ s, s = headS a m p := ⟨_, rfl⟩
      rw [← hse] at f0 f1 f2 sp hl hover hat hn0 hrest
      have lift : ∀ {j : Nat} {u : Value}, w2.cell? ⟨b, j, none⟩ = some u → wr.cell? ⟨b, j, none⟩ = some u := fun {j u} h => (br.cell (p := ⟨b, j, none⟩) (World.block_lt_of_cell? w2 _ h)).trans h
      have x0 := lift (hx _ _ f0)
      have x1 := lift (hx _ _ f1)
      have x2 := lift (hx _ _ f2)
      have bnp : 0 ≤ s.n * p ∧ s.n * p ≤ a := ⟨Int.mul_nonneg hn0.1 (by omega), by omega⟩
      have Hrest := Lib.hid hrest
      have e1 : (s.n * p + s.at_ == a) = true := by simpa using sp
      clear lift f0 f1 f2 hse hs hd hrest hx di mo
      have D1 : decide (s.len < 1) = false := by simp; omega
      have D2 : decide (s.at_ < 0) = false := by simp; omega
      have D3 : decide (p < s.at_ + s.len) = false := by simp; omega
      go_wp2_with fail
      go_quiet (fail)
      go_wp2_with fail
      go_roundw
      case rel => exact ⟨k + 1, a + s.len, m - s.len, by go_num, by omega, rfl, Hrest.out, by omega, by omega, by omega, ⟨br.os, br.tape, br.output, br.size, br.block⟩⟩
      case measure => simp [intOf]; omega
    · have hkL : k = L := by omega
      subst hkL
      have hm0 : m = 0 := by
        rcases Int.lt_or_le 0 m with h | h
        · rw [spans_cons a m p h (by omega)] at hd
          have := congrArg List.length hd
          rw [List.length_drop, HL.out] at this
          simp at this
        · omega
      subst hm0
      have hfew := Hfew.out
      have ea : a = x + n := by omega
      subst ea
      have dmn : decide ((k : Int) ≤ manyS n p + 1) = true := by simpa using hfew
      clear hd hfew
      go_wp2_with fail
      refine (rdata_any _ n p (by omega)).mono ?_
      rintro e w4 ⟨rfl, rfl⟩
      go_wp2_with fail
      go_ret
      exact ⟨rfl, below_after b3 br b3.size⟩
end Go.Proofs.Yteipffehpddmjaa
