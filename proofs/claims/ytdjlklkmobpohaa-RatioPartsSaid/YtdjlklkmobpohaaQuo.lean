/- The plain law of a quotient of two whole numbers as floats: when it is a number, and of which sign. -/
import Derived.Test.YtdjlklkmobpohaaBase
namespace Go.Proofs.Ytdjlklkmobpohaa
open Ieee

theorem nearest_int_zero : floatOfInt .f64 0 = 0 := by decide +kernel

/-- the word of a number that is not too great: its magnitude's last place, and what is kept of it -/
theorem nearest_word (s : Bool) (mag : Nat) (place : Int) : ∃ r, double.nearest s mag place = double.word s r ∧ r ≤ 9218868437227405312 := by
  unfold Format.nearest
  by_cases h : mag = 0
  · rw [if_pos h]; exact ⟨0, rfl, by omega⟩
  · rw [if_neg h]
    refine ⟨_, rfl, ?_⟩
    rw [show double.infRung = 9218868437227405312 from by decide +kernel]
    exact Nat.min_le_right _ _
theorem rg_word (s : Bool) (r : Nat) (h : r ≤ 9218868437227405312) : rg (double.word s r) = r ∧ neg (double.word s r) = s ∧ double.word s r < 18446744073709551616 := by
  unfold rg neg Format.word
  rw [show double.signWeight = 9223372036854775808 from by decide +kernel]
  cases s
  · simp only [Bool.false_eq_true, if_false]
    refine ⟨by omega, ?_, by omega⟩
    rw [show r / 9223372036854775808 = 0 from by omega]; rfl
  · simp only [if_true]
    refine ⟨by omega, ?_, by omega⟩
    rw [show (9223372036854775808 + r) / 9223372036854775808 = 1 from by omega]; rfl

/-- of a number whose last place is not below 2^-1074 something is kept -/
theorem cut_pos (n drop : Nat) (h : 1 <<< drop ≤ n) (s : Bool) : 0 < Toward.even.cut s n drop := by
  unfold Toward.cut
  have hl : drop ≤ n.log2 := by
    rw [Nat.shiftLeft_eq, Nat.one_mul] at h
    exact (Nat.le_log2 (by have := Nat.two_pow_pos drop; omega)).2 h
  simp only [Nat.shiftLeft_eq, Nat.one_mul, Nat.min_eq_left (show drop ≤ n.log2 + 2 by omega)] at h ⊢
  have := Nat.div_pos h (Nat.two_pow_pos drop)
  omega
theorem nearest_pos (s : Bool) (mag : Nat) (place : Int) (hm : mag ≠ 0) (hp : -1074 ≤ place + (mag.log2 : Int)) : ∃ r, double.nearest s mag place = double.word s r ∧ r ≤ 9218868437227405312 ∧ 0 < r := by
  unfold Format.nearest
  rw [if_neg hm]
  refine ⟨_, rfl, ?_, ?_⟩
  · rw [show double.infRung = 9218868437227405312 from by decide +kernel]
    exact Nat.min_le_right _ _
  · simp only [show double.infRung = 9218868437227405312 from by decide +kernel, show double.leastPlace = -1074 from by decide +kernel, show double.fractionBits = 52 from rfl]
    obtain ⟨last, hlast⟩ : ∃ last, last = max (place + (mag.log2 : Int) - ((52 : Nat) : Int)) (-1074) := ⟨_, rfl⟩
    rw [← hlast]
    have hlog := (Nat.le_log2 hm).1 (Nat.le_refl mag.log2)
    have hc : 0 < Toward.even.cut s (mag <<< (place - last).toNat) (last - place).toNat := by
      refine cut_pos _ _ ?_ s
      simp only [Nat.shiftLeft_eq, Nat.one_mul]
      by_cases h1 : last ≤ place
      · rw [show (last - place).toNat = 0 from by omega]
        have := Nat.two_pow_pos (place - last).toNat
        exact Nat.mul_pos (by omega) this
      · rw [show (place - last).toNat = 0 from by omega, Nat.pow_zero, Nat.mul_one]
        refine Nat.le_trans (Nat.pow_le_pow_right (by omega) ?_) hlog
        omega
    omega

theorem cut_le (n drop b : Nat) (s : Bool) (h : n < b * 2 ^ drop) (hd : drop ≤ n.log2 + 2) : Toward.even.cut s n drop ≤ b := by
  unfold Toward.cut
  simp only [Nat.shiftLeft_eq, Nat.one_mul, Nat.min_eq_left hd]
  have h1 : n / 2 ^ drop < b := (Nat.div_lt_iff_lt_mul (Nat.two_pow_pos _)).2 h
  have h2 : ∀ c : Bool, c.toNat ≤ 1 := fun c => by cases c <;> decide
  refine Nat.le_trans (Nat.add_le_add_left (h2 _) _) h1

theorem rung_bound (t kept : Nat) (h1 : 1022 ≤ t) (h2 : t ≤ 1085) (hk : kept ≤ 9007199254740992) : 4602678819172646912 ≤ min (t * 4503599627370496 + kept) 9218868437227405312 ∧ min (t * 4503599627370496 + kept) 9218868437227405312 ≤ 4895412794951729152 := by omega

/-- a whole number of int as a float -/
theorem int_word (a : Int) (h0 : a ≠ 0) (h1 : -9223372036854775808 ≤ a) (h2 : a ≤ 9223372036854775807) : ∃ r, floatOfInt .f64 a = double.word (decide (a < 0)) r ∧ 4602678819172646912 ≤ r ∧ r ≤ 4895412794951729152 := by
  show ∃ r, double.nearest (decide (a < 0)) a.natAbs 0 = _ ∧ _
  have hm : a.natAbs ≠ 0 := by omega
  have hm2 : a.natAbs ≤ 9223372036854775808 := by omega
  obtain ⟨mag, hmag⟩ : ∃ mag, mag = a.natAbs := ⟨_, rfl⟩
  rw [← hmag] at hm hm2 ⊢
  unfold Format.nearest
  rw [if_neg hm]
  simp only [show double.infRung = 9218868437227405312 from by decide +kernel, show double.leastPlace = -1074 from by decide +kernel, show double.fractionBits = 52 from rfl, show double.binade = 4503599627370496 from by decide +kernel]
  have hlog := Nat.lt_log2_self (n := mag)
  have hl63 : mag.log2 ≤ 63 := by
    have := (Nat.log2_lt hm (k := 64)).2 (by omega)
    omega
  obtain ⟨l, hl⟩ : ∃ l, l = mag.log2 := ⟨_, rfl⟩
  rw [← hl] at hlog hl63 ⊢
  obtain ⟨last, hlast⟩ : ∃ last, last = max (0 + (l : Int) - ((52 : Nat) : Int)) (-1074) := ⟨_, rfl⟩
  rw [← hlast]
  have hl2 : last = (l : Int) - 52 := by omega
  refine ⟨_, rfl, ?_⟩
  have hk : Toward.even.cut (decide (a < 0)) (mag <<< (0 - last).toNat) (last - 0).toNat ≤ 9007199254740992 := by
    by_cases h : last ≤ 0
    · rw [show (last - 0).toNat = 0 from by omega]
      refine cut_le _ _ _ _ ?_ (by omega)
      rw [Nat.shiftLeft_eq, Nat.pow_zero, Nat.mul_one]
      have e : 2 ^ (l + 1) * 2 ^ (0 - last).toNat = 9007199254740992 := by rw [← Nat.pow_add, show l + 1 + (0 - last).toNat = 53 from by omega]
      rw [← e]
      exact Nat.mul_lt_mul_of_pos_right hlog (Nat.two_pow_pos _)
    · rw [show (0 - last).toNat = 0 from by omega, Nat.shiftLeft_eq, Nat.pow_zero, Nat.mul_one]
      refine cut_le _ _ _ _ ?_ (by omega)
      have e : 9007199254740992 * 2 ^ (last - 0).toNat = 2 ^ (l + 1) := by
        rw [show (9007199254740992 : Nat) = 2 ^ 53 from rfl, ← Nat.pow_add, show 53 + (last - 0).toNat = l + 1 from by omega]
      rw [e]; exact hlog
  exact rung_bound _ _ (by omega) (by omega) hk
theorem mg_lt (r : Nat) : mg r < 9007199254740992 := by unfold mg; split <;> omega
theorem mg_pos (r : Nat) (h : 0 < r) : mg r ≠ 0 := by unfold mg; split <;> omega

/-- what a quotient of two whole numbers is -/
theorem quo_facts (a b : Int) (x : Nat) (ha : -9223372036854775808 ≤ a ∧ a ≤ 9223372036854775807) (hb : -9223372036854775808 ≤ b ∧ b ≤ 9223372036854775807) (h : FR .quo (floatOfInt .f64 a) (floatOfInt .f64 b) x) :
    (isN x ↔ a = 0 ∧ b = 0) ∧ (1 ≤ b → (FloatKind.f64.format.order x 0 == some .lt) = decide (a < 0)) := by
  have hd : floatBits .quo .f64 (floatOfInt .f64 a) (floatOfInt .f64 b) = double.div (floatOfInt .f64 a) (floatOfInt .f64 b) := rfl
  have rd : ∀ c : Int, -9223372036854775808 ≤ c ∧ c ≤ 9223372036854775807 → ∃ m e, double.read (floatOfInt .f64 c) = .number (decide (c < 0)) m (-1074 + (e : Nat)) ∧ (m = 0 ↔ c = 0) ∧ (c ≠ 0 → 1021 ≤ e ∧ e ≤ 1086) ∧ m < 9007199254740992 := by
    intro c hc
    by_cases h0 : c = 0
    · subst h0
      exact ⟨0, 0, by decide +kernel, by simp, by simp, by omega⟩
    · obtain ⟨r, h1, h2, h3⟩ := int_word c h0 hc.1 hc.2
      obtain ⟨g1, g2, g3⟩ := rg_word (decide (c < 0)) r (by omega)
      refine ⟨mg r, ex r, ?_, ⟨fun h => absurd h (mg_pos r (by omega)), fun h => absurd h h0⟩, fun _ => ?_, mg_lt r⟩
      · rw [h1, read_num _ (by rw [g1]; omega), g1, g2]
      · unfold ex; omega
  obtain ⟨m, e, ra, ma, ea, la⟩ := rd a ha
  obtain ⟨n, f, rb, mb, eb, lb⟩ := rd b hb
  have isn : ∀ s r, r ≤ 9218868437227405312 → ¬ isN (double.word s r) := by
    intro s r hr
    unfold isN
    rw [(rg_word s r hr).1]
    omega
  by_cases hb0 : b = 0
  · have hn0 := mb.2 hb0
    subst hn0
    by_cases ha0 : a = 0
    · have hm0 := ma.2 ha0
      subst hm0
      have e1 : double.div (floatOfInt .f64 a) (floatOfInt .f64 b) = none := by unfold Format.div; rw [ra, rb]; rfl
      rw [← hd] at e1
      rcases h.1 with h1 | ⟨_, h1⟩
      · rw [e1] at h1; cases h1
      · exact ⟨⟨fun _ => ⟨ha0, hb0⟩, fun _ => h1⟩, fun h => by omega⟩
    · have hm0 : m ≠ 0 := fun h => ha0 (ma.1 h)
      have e1 : double.div (floatOfInt .f64 a) (floatOfInt .f64 b) = some (double.write (.infinity (decide (a < 0) ^^ decide (b < 0)))) := by
        unfold Format.div
        rw [ra, rb]
        simp only [Datum.quotient, if_true, if_neg hm0, Option.map_some]
      rw [← hd] at e1
      rcases h.1 with h1 | ⟨h1, _⟩
      · rw [e1] at h1
        have h2 := Option.some.inj h1
        have h3 : ¬ isN x := by rw [← h2]; exact isn _ _ (by decide +kernel)
        exact ⟨⟨fun h => absurd h h3, fun h => absurd h.1 ha0⟩, fun h => by omega⟩
      · rw [e1] at h1; cases h1
  · have hn0 : n ≠ 0 := fun h => hb0 (mb.1 h)
    obtain ⟨more, hmore⟩ : ∃ more, more = double.fractionBits + 2 + n.log2 - m.log2 := ⟨_, rfl⟩
    obtain ⟨mag, hmag⟩ : ∃ mag, mag = 2 * ((m <<< more) / n) + ((m <<< more) % n != 0).toNat := ⟨_, rfl⟩
    have e1 : double.div (floatOfInt .f64 a) (floatOfInt .f64 b) = some (double.nearest (decide (a < 0) ^^ decide (b < 0)) mag (-1074 + (e : Int) - (-1074 + (f : Int)) - more - 1)) := by
      unfold Format.div
      rw [ra, rb]
      simp only [Datum.quotient, if_neg hn0, Option.map_some, ← hmore, ← hmag]
      rfl
    rw [← hd] at e1
    rcases h.1 with h1 | ⟨h1, _⟩
    · rw [e1] at h1
      have h2 := Option.some.inj h1
      obtain ⟨r, hr, hr2⟩ := nearest_word (decide (a < 0) ^^ decide (b < 0)) mag (-1074 + (e : Int) - (-1074 + (f : Int)) - more - 1)
      rw [hr] at h2
      have h3 : ¬ isN x := by rw [← h2]; exact isn _ _ hr2
      refine ⟨⟨fun h => absurd h h3, fun h => absurd h.2 hb0⟩, fun hb1 => ?_⟩
      have hbn : decide (b < 0) = false := by simp; omega
      rw [hbn, Bool.xor_false] at h2 hr
      obtain ⟨g1, g2, g3⟩ := rg_word (decide (a < 0)) r hr2
      have ho : double.order x 0 = some (compare (sr x) (sr 0)) := order_num x 0 h.2 (by omega) h3 (by decide)
      show (double.order x 0 == some .lt) = _
      rw [ho, show sr 0 = 0 from by decide]
      have hsr : sr x = sg (decide (a < 0)) r := by rw [sr_sg x h.2, ← h2, g1, g2]
      rw [hsr]
      have hr0 : a < 0 → 0 < r := by
        intro han
        have hm0 : m ≠ 0 := fun h => by have := ma.1 h; omega
        have hl1 := Nat.lt_log2_self (n := n)
        have hl2 : n.log2 ≤ 52 := by
          have := (Nat.log2_lt hn0 (k := 53)).2 lb
          omega
        have hmg : mag ≠ 0 := by
          have hge : n ≤ m <<< more := by
            rw [Nat.shiftLeft_eq]
            have h5 := Nat.log2_self_le hm0
            have h6 : 2 ^ (n.log2 + 1) ≤ 2 ^ m.log2 * 2 ^ more := by
              rw [← Nat.pow_add]
              refine Nat.pow_le_pow_right (by omega) ?_
              rw [hmore, show double.fractionBits = 52 from rfl]
              omega
            have h7 := Nat.mul_le_mul_right (2 ^ more) h5
            omega
          have := Nat.div_pos hge (by omega)
          omega
        have hea := ea (by omega)
        have heb := eb hb0
        have hmr : more ≤ 106 := by rw [hmore, show double.fractionBits = 52 from rfl]; omega
        obtain ⟨r', hr', h8, h9⟩ := nearest_pos (decide (a < 0)) mag (-1074 + (e : Int) - (-1074 + (f : Int)) - more - 1) hmg (by omega)
        rw [hr] at hr'
        have h10 := (rg_word (decide (a < 0)) r' h8).1
        rw [← hr', g1] at h10
        omega
      by_cases han : a < 0
      · have := hr0 han
        simp only [han, decide_true, sg, if_true, compare, compareOfLessAndEq]
        rw [if_pos (by omega)]
        rfl
      · simp only [han, decide_false, sg, Bool.false_eq_true, if_false, compare, compareOfLessAndEq]
        rw [if_neg (by omega)]
        split <;> rfl
    · rw [e1] at h1; cases h1
end Go.Proofs.Ytdjlklkmobpohaa
