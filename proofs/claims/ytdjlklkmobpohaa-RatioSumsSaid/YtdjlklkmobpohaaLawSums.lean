/- The walk through the law RatioSums. -/
import Derived.Test.YtdjlklkmobpohaaAwake
import Derived.Test.YtdjlklkmobpohaaGrow
namespace Go.Proofs.Ytdjlklkmobpohaa
open Go.RowKit Ieee
attribute [local go_sem] run_store_float
attribute [local go_sem] Oper.semAt_some

def FEq (x y : Nat) : Prop := x = y ∨ (isN x ∧ isN y)
theorem same_of (x y : Nat) (h : FEq x y) : sameB x y = true := by
  unfold sameB
  rcases h with rfl | h
  · simp
  · simp [h]
theorem sum_nan (x y : Nat) (h : isN x) : floatBits .add .f64 x y = none := by
  show double.add x y = none
  unfold Format.add
  rw [read_nan x h]
  cases double.read y <;> rfl
theorem quo_nan (x y : Nat) (h : isN x) : floatBits .quo .f64 x y = none := by
  show double.div x y = none
  unfold Format.div
  rw [read_nan x h]
  cases double.read y <;> rfl
theorem fr_eq {op : BinOp} (hop : op = .add ∨ op = .quo) {s s' x r r' : Nat} (h : FEq s s') (h1 : FR op s x r) (h2 : FR op s' x r') : FEq r r' := by
  rcases h with rfl | ⟨n1, n2⟩
  · rcases h1.1 with a | ⟨a, b⟩ <;> rcases h2.1 with c | ⟨c, d⟩
    · rw [a] at c; exact .inl (Option.some.inj c)
    · rw [a] at c; cases c
    · rw [a] at c; cases c
    · exact .inr ⟨b, d⟩
  · have e1 : floatBits op .f64 s x = none := by rcases hop with rfl | rfl; exact sum_nan s x n1; exact quo_nan s x n1
    have e2 : floatBits op .f64 s' x = none := by rcases hop with rfl | rfl; exact sum_nan s' x n2; exact quo_nan s' x n2
    rcases h1.1 with a | ⟨a, b⟩ <;> rcases h2.1 with c | ⟨c, d⟩
    · rw [e1] at a; cases a
    · rw [e1] at a; cases a
    · rw [e2] at c; cases c
    · exact .inr ⟨b, d⟩
theorem sum_eq (zs : List Nat) (s s' r r' : Nat) (h : FEq s s') (h1 : SumR zs s r) (h2 : SumR zs s' r') : FEq r r' := by
  induction zs generalizing s s' with
  | nil => obtain rfl := h1; obtain rfl := h2; exact h
  | cons x zs ih =>
    obtain ⟨m, a, b⟩ := h1
    obtain ⟨m', c, d⟩ := h2
    exact ih m m' (fr_eq (.inl rfl) h a c) b d
theorem sum_last (zs : List Nat) (s x r : Nat) (h : SumR (zs ++ [x]) s r) : ∃ m, SumR zs s m ∧ FR .add m x r := by
  induction zs generalizing s with
  | nil => obtain ⟨m, a, b⟩ := h; obtain rfl := b; exact ⟨s, rfl, a⟩
  | cons y zs ih =>
    obtain ⟨m, a, b⟩ := h
    obtain ⟨t, c, d⟩ := ih m b
    exact ⟨t, ⟨m, a, c⟩, d⟩
theorem sum_lt (zs : List Nat) (s r : Nat) (hs : s < 18446744073709551616) (h : SumR zs s r) : r < 18446744073709551616 := by
  induction zs generalizing s with
  | nil => obtain rfl := h; exact hs
  | cons x zs ih => obtain ⟨m, a, b⟩ := h; exact ih m a.2 b

def fcells (zs : List Nat) : List Value := zs.map (Value.float .f64)
theorem Try.infoF : (Try.prog.info? 23).map (fun i => (i.zero, i.size, i.bytes)) = some (some (.float .f64 0), 1, 8) := by kernel_rfl
theorem readV_of {w : World} {a : Option Addr} {c : Nat} {zs : List Nat} (hz : ReadF w a zs) (hc : zs.length ≤ c) (ha : a = none → c = 0) : ReadV w (.slice a zs.length c) zs.length (fcells zs) := by
  cases a with
  | none =>
    have h0 := ha rfl
    have hl : zs.length = 0 := by omega
    have : zs = [] := List.eq_nil_of_length_eq_zero hl
    subst this
    subst h0
    exact .inl ⟨rfl, rfl, rfl⟩
  | some ad =>
    refine .inr ⟨ad, c, rfl, fun j u hj => ?_⟩
    rcases hz with h | ⟨b, off, hb, h⟩
    · have : zs = [] := List.eq_nil_of_length_eq_zero h
      subst this
      simp [fcells] at hj
    · cases hb
      rw [WideShapes.add_plain]
      have hjl : j < zs.length := by
        rcases Nat.lt_or_ge j zs.length with h' | h'
        · exact h'
        · simp [fcells, List.getElem?_eq_none h'] at hj
      rw [h j hjl]
      simp [fcells, hjl] at hj
      simp [List.getD, hjl, hj]
theorem fcells_one (zs : List Nat) : ∀ u ∈ fcells zs, u.oneCell' = true := by
  intro u hu
  simp only [fcells, List.mem_map] at hu
  obtain ⟨x, _, rfl⟩ := hu
  rfl
theorem own_readF {w : World} {base : Nat} {v : Value} {zs : List Nat} (h : w.ownsRow base 23 1 v zs.length (fcells zs)) (h0 : 0 < zs.length) : ∃ a cap, v = .slice a zs.length cap ∧ ReadF w a zs := by
  obtain ⟨g, cap, rfl, _, _, _, _, hc⟩ := own_reads h h0
  refine ⟨_, cap, rfl, .inr ⟨g, 0, rfl, fun i hi => ?_⟩⟩
  rw [Nat.zero_add]
  refine hc i _ ?_
  simp [fcells, List.getD, hi]

set_option maxHeartbeats 4000000 in
theorem lawSums_any (w : World) (a : Option Addr) (c x : Nat) (zs : List Nat) (hl : zs.length ≤ 9223372036854775807) (hc : zs.length ≤ c) (ha : a = none → c = 0) (hz : ReadF w a zs) :
    Calls Try.prog 7 #[.slice a zs.length c, .float .f64 x] w fun e w' => e = .returned (.bool true) ∧ Below w.heap.size w w' := by
  by_cases h40 : 40 < zs.length
  · clear hz
    go_enter Try.func7, Try.ntmps7
    go_wp2_with fail
    refine (awake_any _).mono ?_
    rintro e w1 ⟨rfl, b1⟩
    go_wp2_with fail
    go_ret
    exact ⟨rfl, b1⟩
  · obtain ⟨i0, ei, ez0, ez1, ez2⟩ := info_parts Try.infoF
    have Hz := Lib.hid hz
    have Ha := Lib.hid ha
    clear hz ha
    go_enter Try.func7, Try.ntmps7
    go_wp2_with fail
    refine (awake_any _).mono ?_
    rintro e w1 ⟨rfl, b1⟩
    go_wp2_with fail
    refine (sum_any _ a c zs hl (Hz.out.keep b1)).mono ?_
    rintro e w2 ⟨s, rfl, hs, b2⟩
    have b3 : Below w.heap.size w w2 := below_after b1 b2 b1.size
    have rv : ReadV (w2.alloc (.cells #[] 23)) (.slice a zs.length c) zs.length (fcells zs) := readV_of ((Hz.out.keep b3).keep ((Below.refl _ _).alloc (Nat.le_refl _) _)) hc Ha.out
    have oE := own_empty w2 w2.heap.size 23 1 (Nat.le_refl _)
    have Hs := Lib.hid hs
    have Rv := Lib.hid rv
    clear hs rv
    go_wp2_with (first
      | (at_builtin; refine wpList_append_list _ rfl (.tmp 15) (.tmp 16) 29 rfl w2.heap.size 23 i0 (.float .f64 0) 1 8 Try.underlying29 ei ez0 ez1 ez2 rfl (by decide) _ _ _ rfl oE zs.length (fcells zs) Rv.out (by simp [fcells]) (fcells_one _) (by unfold maxLen; omega) (by omega) (by simp) ?_; intro v3 w3 o3 hg3; simp only [Nat.zero_add, List.nil_append] at o3)
      | (at_builtin; refine wpList_append_list _ rfl (.tmp 17) (.tmp 19) 29 rfl w2.heap.size 23 i0 (.float .f64 0) 1 8 Try.underlying29 ei ez0 ez1 ez2 rfl (by decide) _ _ _ rfl (o3.alloc _) 1 [.float .f64 x] (.inr ⟨_, 1, rfl, new_cells w3 [.float .f64 x] 23⟩) rfl (fcells_one [x]) (by unfold maxLen; omega) (by omega) (by have := hg3.size; simp at this ⊢; omega) ?_; intro v4 w4 o4 hg4))
    have k3 : Below w2.heap.size w2 w3 := below_append ((Below.refl _ _).alloc (Nat.le_refl _) _) oE (Keep.refl _ _) hg3 (by simp)
    have k4 : Below w2.heap.size w2 w4 := below_append k3 o3 ((Keep.refl _ _).alloc _) hg4 k3.size
    have b4 : Below w.heap.size w w4 := below_after b3 k4 b3.size
    have o4' : w4.ownsRow w2.heap.size 23 1 v4 (zs ++ [x]).length (fcells (zs ++ [x])) := by
      have : fcells (zs ++ [x]) = fcells zs ++ [.float .f64 x] := by simp [fcells]
      rw [this, List.length_append]
      exact o4
    obtain ⟨L, hL⟩ : ∃ L, L = zs ++ [x] := ⟨_, rfl⟩
    have hLl : L.length ≤ 9223372036854775807 := by rw [hL]; simp; omega
    have hL0 : 0 < L.length := by rw [hL]; simp
    rw [← hL] at o4'
    have HL := Lib.hid hL
    clear hL
    obtain ⟨a4, c4, rfl, hr4⟩ := own_readF o4' hL0
    have Hr4 := Lib.hid hr4
    clear hr4 o4' o4 o3 oE hg3 hg4 Rv
    have hsl := sum_lt zs 0 s (by omega) Hs.out
    refine (rsum_any _ a c zs hl (Hz.out.keep b4)).mono ?_
    rintro e w5 ⟨s2, rfl, hs2, b5⟩
    have f1 := same_of _ _ (sum_eq zs 0 0 s s2 (.inl rfl) Hs.out hs2)
    have hsl2 := sum_lt zs 0 s2 (by omega) hs2
    have b6 : Below w.heap.size w w5 := below_after b4 b5 b4.size
    clear hs2
    go_wp2_with fail
    refine (same_any _ s s2 hsl hsl2).mono ?_
    rintro e w6 ⟨rfl, rfl⟩
    rw [f1]
    go_wp2_with fail
    refine (mean_any _ a c zs hl (Hz.out.keep b6)).mono ?_
    rintro e w6 ⟨m1, rfl, ⟨t1, ht1, hq1⟩, b7⟩
    have b8 : Below w.heap.size w w6 := below_after b6 b7 b6.size
    have hm1 := hq1.2
    have Hq1 := Lib.hid hq1
    have Ht1 := Lib.hid ht1
    clear hq1 ht1
    go_wp2_with fail
    refine (rmean_any _ a c zs hl (Hz.out.keep b8)).mono ?_
    rintro e w7 ⟨m2, rfl, ⟨t2, ht2, hq2⟩, b9⟩
    have b10 : Below w.heap.size w w7 := below_after b8 b9 b8.size
    have f2 := same_of _ _ (fr_eq (.inr rfl) (sum_eq zs 0 0 t1 t2 (.inl rfl) Ht1.out ht2) Hq1.out hq2)
    have hm2 := hq2.2
    clear hq2 ht2
    go_wp2_with fail
    refine (same_any _ m1 m2 hm1 hm2).mono ?_
    rintro e w8 ⟨rfl, rfl⟩
    rw [f2]
    go_wp2_with fail
    refine (sum_any _ a4 c4 L hLl (((Hr4.out.keep b5).keep b7).keep b9)).mono ?_
    rintro e w8 ⟨r3, rfl, hr3, b11⟩
    have b12 : Below w.heap.size w w8 := below_after b10 b11 b10.size
    rw [HL.out] at hr3
    obtain ⟨m, hm, hmr⟩ := sum_last zs 0 x r3 hr3
    have hr3l := hmr.2
    have fin : ∀ r4, FR .add s x r4 → sameB r3 r4 = true := fun r4 h => same_of _ _ (fr_eq (.inl rfl) (sum_eq zs 0 0 m s (.inl rfl) hm Hs.out) hmr h)
    have Fin := Lib.hid fin
    clear fin hm hmr hr3
    rcases hq : floatBits .add .f64 s x with _ | r4
    · obtain ⟨r4, hr, h4⟩ : ∃ r4, (∀ t, (binOp .add t (.float .f64 s) (.float .f64 x)).run Try.prog w8 = .ok (.float .f64 r4) w8.drew) ∧ FR .add s x r4 := ⟨_, fun t => run_float_nan w8 .add t _ _ (.inl rfl) hq, fr_none w8 hq⟩
      have f4 := Fin.out _ h4
      go_wp2_with fail
      refine (same_any _ r3 r4 hr3l h4.2).mono ?_
      rintro e w9 ⟨rfl, rfl⟩
      rw [f4]
      go_wp2_with fail
      go_ret
      exact ⟨rfl, below_after b12 (below_drew w8) b12.size⟩
    · have hr := fun (w : World) t => run_float_arith (P := Try.prog) w .add t .f64 _ _ r4 hq
      have h4 := fr_some (op := .add) hq
      have f4 := Fin.out _ h4
      go_wp2_with fail
      refine (same_any _ r3 _ hr3l h4.2).mono ?_
      rintro e w9 ⟨rfl, rfl⟩
      rw [f4]
      go_wp2_with fail
      go_ret
      exact ⟨rfl, b12⟩
end Go.Proofs.Ytdjlklkmobpohaa
