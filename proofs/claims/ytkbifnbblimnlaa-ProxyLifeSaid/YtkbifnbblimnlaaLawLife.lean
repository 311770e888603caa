/- The walk through the law ProxyLife. -/
import Derived.Test.YtkbifnbblimnlaaLife
import Derived.Test.YtkbifnbblimnlaaAwake
namespace Go.Proofs.Ytkbifnbblimnlaa
open Go.RowKit
set_option linter.unusedVariables false

set_option maxRecDepth 100000 in
set_option maxHeartbeats 4000000 in
theorem lawLife_any (w : World) (x0 x1 : Int) (A : Option Addr) (c : Nat) (zs : List Act) (A2 : Option Addr) (c2 : Nat) (ys : List Act) (hx0 : 0 ≤ x0 ∧ x0 ≤ 255) (hx1 : 0 ≤ x1 ∧ x1 ≤ 255) (hz : ReadA w A zs) (hlm : zs.length ≤ 9223372036854775807) (hy : ReadA w A2 ys) (hlm2 : ys.length ≤ 9223372036854775807) :
    Calls Try.prog 6 #[.agg #[.int .u8 x0, .int .u8 x1], .slice A zs.length c, .slice A2 ys.length c2] w fun e w' => e = .returned (.bool true) ∧ Below w.heap.size w w' := by
  obtain ⟨n, hn⟩ : ∃ k : Nat, (k : Int) = 1 + x0 % 8 := ⟨(1 + x0 % 8).toNat, by omega⟩
  have hn8 : 1 ≤ n ∧ n ≤ 8 := by omega
  have Hn := Lib.hid hn
  have Hz := Lib.hid hz
  have Hy := Lib.hid hy
  clear hn hz hy
  by_cases h40 : zs.length ≤ 40
  · by_cases h41 : ys.length ≤ 40
    · go_enter Try.func6, Try.ntmps6
      go_wp2_with fail
      refine (awake_ok _).mono ?_
      rintro e w1 ⟨rfl, b1⟩
      have B1 := Lib.hid (((Below.refl w.heap.size w).alloc (Nat.le_refl _) (.cells #[.int .u8 x0, .int .u8 x1] 22)).trans (b1.mono (by simp)))
      have XB : Hid (w1.heap[w.heap.size]? = some (.cells #[.int .u8 x0, .int .u8 x1] 22 (0, 0))) := Lib.hid (below_blk b1 (blk_new _ _) (by simp))
      have u0 := blk_cell XB.out 0
      have u1 := blk_cell XB.out 1
      clear b1
      go_wp2_with fail
      refine (run_any w1 x0 x1 n _ hx0 hx1 Hn.out rfl A c zs h40 (Hz.out.below B1.out)).mono ?_
      rintro e w2 ⟨g, gs, v, gn, lv, fr, rfl, hg, hgs, ⟨B, hs⟩, b2⟩
      obtain ⟨gens, hge⟩ : ∃ gens, gens = 1 + x1 % 4 := ⟨_, rfl⟩
      rw [← hge] at hs
      have B2 := Lib.hid (B1.out.trans (b2.mono B1.out.size))
      have hsz1 := B1.out.size
      have V := hs.2.val
      obtain ⟨a1, c1, a2, c2', a3, c3, rfl, k1, k2, k3⟩ := V
      have bX : Below w2.heap.size w2 (w2.alloc (.cells #[.slice a1 n c1, .slice a2 n c2', .slice a3 fr.length c3, .int .i64 gens] 29)) := (Below.refl _ _).alloc (Nat.le_refl _) _
      have T3 := Lib.hid (hs.1.below bX)
      have B3 := Lib.hid (B2.out.alloc B2.out.size (.cells #[.slice a1 n c1, .slice a2 n c2', .slice a3 fr.length c3, .int .i64 gens] 29))
      clear u0 u1 hge hs k1 k2 k3 bX b2
      go_wp2_with fail
      refine (ps_take _ g gs n gens gn lv fr T3.out).mono ?_
      rintro e w4 ⟨h, ss, er, lv1, fr1, rfl, ht, p4, k4⟩
      have P4 := Lib.hid p4
      have B4 := Lib.hid (below_keep B3.out k4 B3.out.size (fun i hi => by omega))
      have hI := T3.out.1
      clear k4 p4 T3 B3
      cases ht with
      | none =>
        clear hI
        go_wp2_with fail
        refine (ta_left _ g gs n gens gn lv [] P4.out).mono ?_
        rintro e w5 ⟨rfl, rfl⟩
        simp only [List.length_nil, Int.natCast_zero]
        go_wp2_with fail
        go_ret
        exact ⟨rfl, B4.out⟩
      | some f fs h1 h2 h3 =>
        obtain ⟨h, hh⟩ : ∃ h, h = gn f * 4096 + f := ⟨_, rfl⟩
        obtain ⟨G, hG⟩ : ∃ G, gn f = G := ⟨_, rfl⟩
        have hh0 : -9223372036854775808 ≤ h ∧ h ≤ 9223372036854775807 := by omega
        have HL0 : Hid (LF false n f G gn (updB lv f true)) := Lib.hid ⟨h1, by omega, by omega, by omega, fun _ => ⟨hG, updB_same⟩, fun e => by cases e⟩
        rw [← hh]
        rw [hG] at hh
        have Hh := Lib.hid hh
        clear hI hh hG h1 h2 h3
        go_wp2_with fail
        go_loopw [14, 15] (fun gv i wr => ∃ (k : Nat) (b : Bool) (gn' : Nat → Int) (lv' : Nat → Bool) (fr' : List Nat), gv = .bool b ∧ i = .int .i64 k ∧ k ≤ ys.length ∧ LF b n f G gn' lv' ∧ TA wr g gs n gens gn' lv' fr' ∧ Below w.heap.size w wr) (fun _ i _ => ys.length - (intOf i).toNat)
        case atStart => exact ⟨0, false, _, _, _, rfl, rfl, Nat.zero_le _, HL0.out, P4.out, B4.out⟩
        case round =>
          obtain ⟨k, b, gn', lv', fr', rfl, rfl, hk, hL, hT, br⟩ := hrel
          have HL := Lib.hid hL
          have HT := Lib.hid hT
          clear hL hT
          by_cases hlt : k < ys.length
          · have E := Hy.out.elem hlt
            obtain ⟨b0, off, rfl, hab, hel⟩ := E
            obtain ⟨act, hact⟩ : ∃ act, act = ys.getD k act0 := ⟨_, rfl⟩
            rw [← hact] at hab hel
            have Ha := Lib.hid hel
            have t := Ha.out wr br
            obtain ⟨t0, t1, t2⟩ := t
            clear hact hel
            obtain ⟨gv, o, o'⟩ := act
            cases b
            · cases gv
              · go_wp2_with fail
                refine (ps_take wr g gs n gens gn' lv' fr' HT.out).mono ?_
                rintro e w3 ⟨kk, s3, er, lv3, fr3, rfl, ht, p3, k3⟩
                have HL3 := HL.out.take HT.out.1 ht
                obtain ⟨hl3, hne⟩ := HL3
                have L3 := Lib.hid hl3
                have P3 := Lib.hid p3
                have B3' := Lib.hid (below_keep br k3 br.size (fun i hi => by omega))
                clear ht p3 k3 hl3 t0 t1 t2
                rw [← Hh.out] at hne
                by_cases her : er = 0
                · subst her
                  have hne' : ¬ kk = h := hne rfl
                  clear hne
                  go_wp2_with fail
                  refine (ta_look _ g gs n gens gn' lv3 fr3 h P3.out hh0).mono ?_
                  rw [Hh.out, L3.out.look, ← Hh.out]
                  rintro e w9 ⟨rfl, b9⟩
                  have P9 := Lib.hid (P3.out.below b9)
                  have B9 := Lib.hid (B3'.out.trans (b9.mono B3'.out.size))
                  clear b9
                  go_wp2_with fail
                  go_roundw
                  case rel => exact ⟨k + 1, false, gn', lv3, fr3, rfl, by go_num, hlt, L3.out, P9.out, B9.out⟩
                  case measure => simp [intOf]; omega
                · clear hne
                  go_wp2_with fail
                  refine (ta_look _ g gs n gens gn' lv3 fr3 h P3.out hh0).mono ?_
                  rw [Hh.out, L3.out.look, ← Hh.out]
                  rintro e w9 ⟨rfl, b9⟩
                  have P9 := Lib.hid (P3.out.below b9)
                  have B9 := Lib.hid (B3'.out.trans (b9.mono B3'.out.size))
                  clear b9
                  go_wp2_with fail
                  go_roundw
                  case rel => exact ⟨k + 1, false, gn', lv3, fr3, rfl, by go_num, hlt, L3.out, P9.out, B9.out⟩
                  case measure => simp [intOf]; omega
              · simp only at hab t0 t1 t2
                go_wp2_with fail
                refine (handle_any wr true o o' hab.1 hab.2).mono ?_
                rintro e wA ⟨rfl, bA⟩
                have TA1 := Lib.hid (HT.out.below bA)
                have brA := Lib.hid (br.trans (bA.mono br.size))
                obtain ⟨q, hq⟩ : ∃ q, q = hand o o' := ⟨_, rfl⟩
                have hqb : 0 ≤ q ∧ q ≤ 24576 := by rw [hq]; unfold hand; omega
                rw [← hq]
                have Hq := Lib.hid hq
                clear t0 t1 t2 bA hq
                go_wp2_with fail
                refine (ps_give wA g gs n gens gn' lv' fr' q TA1.out (by omega)).mono ?_
                rintro e w3 ⟨er, gn3, lv3, fr3, rfl, ht, p3, k3⟩
                have L3 := Lib.hid (HL.out.give ht)
                rw [← Hh.out] at L3
                have P3 := Lib.hid p3
                have B3' := Lib.hid (below_keep brA.out k3 brA.out.size (fun i hi => by omega))
                clear ht p3 k3
                rw [Bool.false_or] at L3
                by_cases her : er = 0
                · subst her
                  have T := Lib.hid (Ha.out w3 B3'.out)
                  have t0 := T.out.1
                  have t1 := T.out.2.1
                  have t2 := T.out.2.2
                  go_wp2_with fail
                  refine (handle_any w3 true o o' hab.1 hab.2).mono ?_
                  rintro e w5 ⟨rfl, b5⟩
                  rw [← Hq.out]
                  have P5 := Lib.hid (P3.out.below b5)
                  have B5 := Lib.hid (B3'.out.trans (b5.mono B3'.out.size))
                  clear t0 t1 t2 b5
                  by_cases hx : q = h
                  · subst hx
                    have L5 : Hid (LF true n f G gn3 lv3) := Lib.hid (by simpa using L3.out)
                    go_wp2_with fail
                    refine (ta_look _ g gs n gens gn3 lv3 fr3 q P5.out hh0).mono ?_
                    rw [Hh.out, L5.out.stale, ← Hh.out]
                    rintro e w9 ⟨rfl, b9⟩
                    have P9 := Lib.hid (P5.out.below b9)
                    have B9 := Lib.hid (B5.out.trans (b9.mono B5.out.size))
                    clear b9
                    go_wp2_with fail
                    go_roundw
                    case rel => exact ⟨k + 1, true, gn3, lv3, fr3, rfl, by go_num, hlt, L5.out, P9.out, B9.out⟩
                    case measure => simp [intOf]; omega
                  · have L5 : Hid (LF false n f G gn3 lv3) := Lib.hid (by simpa [hx] using L3.out)
                    go_wp2_with fail
                    refine (ta_look _ g gs n gens gn3 lv3 fr3 h P5.out hh0).mono ?_
                    rw [Hh.out, L5.out.look, ← Hh.out]
                    rintro e w9 ⟨rfl, b9⟩
                    have P9 := Lib.hid (P5.out.below b9)
                    have B9 := Lib.hid (B5.out.trans (b9.mono B5.out.size))
                    clear b9
                    go_wp2_with fail
                    go_roundw
                    case rel => exact ⟨k + 1, false, gn3, lv3, fr3, by simp [hx], by go_num, hlt, L5.out, P9.out, B9.out⟩
                    case measure => simp [intOf]; omega
                · have L5 : Hid (LF false n f G gn3 lv3) := Lib.hid (by simpa [her] using L3.out)
                  go_wp2_with fail
                  refine (ta_look _ g gs n gens gn3 lv3 fr3 h P3.out hh0).mono ?_
                  rw [Hh.out, L5.out.look, ← Hh.out]
                  rintro e w9 ⟨rfl, b9⟩
                  have P9 := Lib.hid (P3.out.below b9)
                  have B9 := Lib.hid (B3'.out.trans (b9.mono B3'.out.size))
                  clear b9
                  go_wp2_with fail
                  go_roundw
                  case rel => exact ⟨k + 1, false, gn3, lv3, fr3, rfl, by go_num, hlt, L5.out, P9.out, B9.out⟩
                  case measure => simp [intOf]; omega
            · cases gv
              · go_wp2_with fail
                refine (ps_take wr g gs n gens gn' lv' fr' HT.out).mono ?_
                rintro e w3 ⟨kk, s3, er, lv3, fr3, rfl, ht, p3, k3⟩
                have HL3 := HL.out.take HT.out.1 ht
                obtain ⟨hl3, hne⟩ := HL3
                have L3 := Lib.hid hl3
                have P3 := Lib.hid p3
                have B3' := Lib.hid (below_keep br k3 br.size (fun i hi => by omega))
                clear ht p3 k3 hl3 t0 t1 t2
                rw [← Hh.out] at hne
                by_cases her : er = 0
                · subst her
                  have hne' : ¬ kk = h := hne rfl
                  clear hne
                  go_wp2_with fail
                  refine (ta_look _ g gs n gens gn' lv3 fr3 h P3.out hh0).mono ?_
                  rw [Hh.out, L3.out.stale, ← Hh.out]
                  rintro e w9 ⟨rfl, b9⟩
                  have P9 := Lib.hid (P3.out.below b9)
                  have B9 := Lib.hid (B3'.out.trans (b9.mono B3'.out.size))
                  clear b9
                  go_wp2_with fail
                  go_roundw
                  case rel => exact ⟨k + 1, true, gn', lv3, fr3, rfl, by go_num, hlt, L3.out, P9.out, B9.out⟩
                  case measure => simp [intOf]; omega
                · clear hne
                  go_wp2_with fail
                  refine (ta_look _ g gs n gens gn' lv3 fr3 h P3.out hh0).mono ?_
                  rw [Hh.out, L3.out.stale, ← Hh.out]
                  rintro e w9 ⟨rfl, b9⟩
                  have P9 := Lib.hid (P3.out.below b9)
                  have B9 := Lib.hid (B3'.out.trans (b9.mono B3'.out.size))
                  clear b9
                  go_wp2_with fail
                  go_roundw
                  case rel => exact ⟨k + 1, true, gn', lv3, fr3, rfl, by go_num, hlt, L3.out, P9.out, B9.out⟩
                  case measure => simp [intOf]; omega
              · simp only at hab t0 t1 t2
                go_wp2_with fail
                refine (handle_any wr true o o' hab.1 hab.2).mono ?_
                rintro e wA ⟨rfl, bA⟩
                have TA1 := Lib.hid (HT.out.below bA)
                have brA := Lib.hid (br.trans (bA.mono br.size))
                obtain ⟨q, hq⟩ : ∃ q, q = hand o o' := ⟨_, rfl⟩
                have hqb : 0 ≤ q ∧ q ≤ 24576 := by rw [hq]; unfold hand; omega
                rw [← hq]
                have Hq := Lib.hid hq
                clear t0 t1 t2 bA hq
                go_wp2_with fail
                refine (ps_give wA g gs n gens gn' lv' fr' q TA1.out (by omega)).mono ?_
                rintro e w3 ⟨er, gn3, lv3, fr3, rfl, ht, p3, k3⟩
                have L3 := Lib.hid (HL.out.give ht)
                rw [← Hh.out] at L3
                have P3 := Lib.hid p3
                have B3' := Lib.hid (below_keep brA.out k3 brA.out.size (fun i hi => by omega))
                clear ht p3 k3
                rw [Bool.true_or] at L3
                go_wp2_with fail
                refine (ta_look _ g gs n gens gn3 lv3 fr3 h P3.out hh0).mono ?_
                rw [Hh.out, L3.out.stale, ← Hh.out]
                rintro e w9 ⟨rfl, b9⟩
                have P9 := Lib.hid (P3.out.below b9)
                have B9 := Lib.hid (B3'.out.trans (b9.mono B3'.out.size))
                clear b9
                go_wp2_with fail
                go_roundw
                case rel => exact ⟨k + 1, true, gn3, lv3, fr3, rfl, by go_num, hlt, L3.out, P9.out, B9.out⟩
                case measure => simp [intOf]; omega
          · obtain rfl : k = ys.length := by omega
            go_wp2_with fail
            go_ret
            exact ⟨rfl, br⟩
    · have h41' : (40 : Int) < ys.length := by omega
      clear h41
      go_enter Try.func6, Try.ntmps6
      go_wp2_with fail
      refine (awake_ok _).mono ?_
      rintro e w1 ⟨rfl, b1⟩
      have B1 := Lib.hid (((Below.refl w.heap.size w).alloc (Nat.le_refl _) (.cells #[.int .u8 x0, .int .u8 x1] 22)).trans (b1.mono (by simp)))
      clear b1
      go_wp2_with fail
      go_ret
      exact ⟨rfl, B1.out⟩
  · have h41 : (40 : Int) < zs.length := by omega
    clear h40
    go_enter Try.func6, Try.ntmps6
    go_wp2_with fail
    refine (awake_ok _).mono ?_
    rintro e w1 ⟨rfl, b1⟩
    have B1 := Lib.hid (((Below.refl w.heap.size w).alloc (Nat.le_refl _) (.cells #[.int .u8 x0, .int .u8 x1] 22)).trans (b1.mono (by simp)))
    clear b1
    go_wp2_with fail
    go_ret
    exact ⟨rfl, B1.out⟩
end Go.Proofs.Ytkbifnbblimnlaa
