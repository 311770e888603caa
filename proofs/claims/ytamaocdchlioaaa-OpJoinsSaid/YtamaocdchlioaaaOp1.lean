/- Lists of bytes, how an op lies, and which may be (op.may, almeryref19.may). -/
import Derived.Test.YtamaocdchlioaaaLV
namespace Go.Proofs.Ytamaocdchlioaaa
open Go.RowKit
set_option linter.unusedVariables false

/-- a list of bytes, by its value: nil or where it lies -/
def LB (w : World) (v : Value) (l : List Int) : Prop := ∃ (a : Option Addr) (c : Nat), v = .slice a l.length c ∧ l.length ≤ c ∧ c ≤ maxLen ∧ (a = none → c = 0) ∧ Reads .u8 w a l
theorem LB.keep {w w' : World} {v : Value} {l : List Int} (h : LB w v l) (k : Below w.heap.size w w') : LB w' v l := by
  obtain ⟨a, c, h1, h2, h3, h4, h5⟩ := h
  exact ⟨a, c, h1, h2, h3, h4, h5.keep k⟩
def bcells (l : List Int) : List Value := l.map (Value.int .u8)
theorem bcells_one (l : List Int) : ∀ u ∈ bcells l, u.oneCell' = true := by
  intro u hu
  simp only [bcells, List.mem_map] at hu
  obtain ⟨x, _, rfl⟩ := hu
  rfl
theorem bcells_app (a b : List Int) : bcells a ++ bcells b = bcells (a ++ b) := by simp [bcells]
theorem bcells_len (a : List Int) : (bcells a).length = a.length := by simp [bcells]
theorem lb_readV {w : World} {v : Value} {l : List Int} (h : LB w v l) : ReadV w v l.length (bcells l) := by
  obtain ⟨a, c, rfl, h2, _, h3, h4⟩ := h
  cases a with
  | none =>
    have h0 := h3 rfl
    have hl : l.length = 0 := by omega
    have : l = [] := List.eq_nil_of_length_eq_zero hl
    subst this
    subst h0
    exact .inl ⟨rfl, rfl, rfl⟩
  | some ad =>
    refine .inr ⟨ad, c, rfl, fun j u hj => ?_⟩
    rcases h4 with h | ⟨b, off, hb, h⟩
    · have : l = [] := List.eq_nil_of_length_eq_zero h
      subst this
      simp [bcells] at hj
    · cases hb
      rw [WideShapes.add_plain]
      have hjl : j < l.length := by
        rcases Nat.lt_or_ge j l.length with h' | h'
        · exact h'
        · simp [bcells, List.getElem?_eq_none h'] at hj
      rw [h j hjl]
      simp [bcells, hjl] at hj
      simp [List.getD, hjl, hj]
theorem lb_of_own {w : World} {base : Nat} {v : Value} {l : List Int} (h : w.ownsRow base 5 1 v l.length (bcells l)) : LB w v l := by
  obtain ⟨h1, h2 | ⟨g, cap, cur, rfl, hb, hgg, hc, hm, hs, htake⟩⟩ := h
  · obtain ⟨rfl, h0⟩ := h2
    exact ⟨none, 0, by rw [h0], by omega, Nat.zero_le _, fun _ => rfl, .inl h0⟩
  · refine ⟨_, cap, rfl, hc, hm, nofun, .inr ⟨g, 0, rfl, fun i hi => ?_⟩⟩
    have h' : w.ownsRow base 5 1 (.slice (some ⟨g, 0, none⟩) l.length cap) l.length (bcells l) := ⟨h1, .inr ⟨g, cap, cur, rfl, hb, hgg, hc, hm, hs, htake⟩⟩
    have := h'.cells (g := g) rfl i (.int .u8 (l.getD i 0)) (by simp [bcells, List.getD, hi])
    rw [WideShapes.add_plain] at this
    exact this
theorem LB.elem {w : World} {v : Value} {l : List Int} (h : LB w v l) {k : Nat} (hk : k < l.length) : ∃ b off c, v = .slice (some ⟨b, off, none⟩) l.length c ∧ l.length ≤ c ∧ c ≤ maxLen ∧ ∀ wr, Below w.heap.size w wr → wr.cell? ⟨b, off + k, none⟩ = some (.int .u8 (l.getD k 0)) := by
  obtain ⟨a, c, rfl, h1, h2, _, h4⟩ := h
  obtain ⟨b, off, rfl, hx⟩ := h4.elems hk
  exact ⟨b, off, c, rfl, h1, h2, hx⟩
theorem lb_nil (w : World) : LB w (.slice none 0 0) [] := ⟨none, 0, rfl, Nat.le_refl _, Nat.zero_le _, fun _ => rfl, .inl rfl⟩
theorem Try.infoB : (Try.prog.info? 5).map (fun i => (i.zero, i.size, i.bytes)) = some (some (.int .u8 0), 1, 1) := by kernel_rfl

/-- an op -/
structure POp where
  k : Int
  a : Int
  b : Int
  c : Int
  d : List Int
def op0 : POp := ⟨0, 0, 0, 0, []⟩
/-- its value, the bytes' value given -/
def opV (p : POp) (dv : Value) : Value := .agg #[.int .i64 p.k, .int .i64 p.a, .int .i64 p.b, .int .i64 p.c, dv]
/-- ops that are read -/
def OV (w : World) (v : Value) (l : List POp) : Prop := ∃ (a : Option Addr) (c : Nat), v = .slice a l.length c ∧ l.length ≤ c ∧ c ≤ maxLen ∧ (a = none → c = 0) ∧
  (l.length = 0 ∨ ∃ b off, a = some ⟨b, off, none⟩ ∧ ∀ i, i < l.length → ∃ dv, LB w dv (l.getD i op0).d ∧ w.cell? ⟨b, off + i * 5, none⟩ = some (.int .i64 (l.getD i op0).k) ∧ w.cell? ⟨b, off + i * 5 + 1, none⟩ = some (.int .i64 (l.getD i op0).a) ∧ w.cell? ⟨b, off + i * 5 + 2, none⟩ = some (.int .i64 (l.getD i op0).b) ∧ w.cell? ⟨b, off + i * 5 + 3, none⟩ = some (.int .i64 (l.getD i op0).c) ∧ w.cell? ⟨b, off + i * 5 + 4, none⟩ = some dv)
theorem OV.elem {w : World} {v : Value} {l : List POp} (h : OV w v l) {i : Nat} (hi : i < l.length) : ∃ b off c dv, v = .slice (some ⟨b, off, none⟩) l.length c ∧ l.length ≤ c ∧ c ≤ maxLen ∧ LB w dv (l.getD i op0).d ∧ ∀ wr, Below w.heap.size w wr → wr.cell? ⟨b, off + i * 5, none⟩ = some (.int .i64 (l.getD i op0).k) ∧ wr.cell? ⟨b, off + i * 5 + 1, none⟩ = some (.int .i64 (l.getD i op0).a) ∧ wr.cell? ⟨b, off + i * 5 + 2, none⟩ = some (.int .i64 (l.getD i op0).b) ∧ wr.cell? ⟨b, off + i * 5 + 3, none⟩ = some (.int .i64 (l.getD i op0).c) ∧ wr.cell? ⟨b, off + i * 5 + 4, none⟩ = some dv := by
  obtain ⟨a, c, rfl, h1, h2, _, h4⟩ := h
  obtain ⟨b, off, rfl, hx⟩ := h4.resolve_left (by omega)
  obtain ⟨dv, e0, e1, e2, e3, e4, e5⟩ := hx i hi
  exact ⟨b, off, c, dv, rfl, h1, h2, e0, fun wr br => ⟨(br.cell (p := ⟨b, off + i * 5, none⟩) (World.block_lt_of_cell? w _ e1)).trans e1, (br.cell (p := ⟨b, off + i * 5 + 1, none⟩) (World.block_lt_of_cell? w _ e2)).trans e2, (br.cell (p := ⟨b, off + i * 5 + 2, none⟩) (World.block_lt_of_cell? w _ e3)).trans e3, (br.cell (p := ⟨b, off + i * 5 + 3, none⟩) (World.block_lt_of_cell? w _ e4)).trans e4, (br.cell (p := ⟨b, off + i * 5 + 4, none⟩) (World.block_lt_of_cell? w _ e5)).trans e5⟩⟩
theorem OV.keep {w w' : World} {v : Value} {l : List POp} (h : OV w v l) (k : Below w.heap.size w w') : OV w' v l := by
  obtain ⟨a, c, h1, h2, h3, h4, h5⟩ := h
  refine ⟨a, c, h1, h2, h3, h4, ?_⟩
  rcases h5 with h5 | ⟨b, off, ha, h5⟩
  · exact .inl h5
  · refine .inr ⟨b, off, ha, fun i hi => ?_⟩
    obtain ⟨dv, e0, e1, e2, e3, e4, e5⟩ := h5 i hi
    exact ⟨dv, e0.keep k, (k.cell (p := ⟨b, off + i * 5, none⟩) (World.block_lt_of_cell? w _ e1)).trans e1, (k.cell (p := ⟨b, off + i * 5 + 1, none⟩) (World.block_lt_of_cell? w _ e2)).trans e2, (k.cell (p := ⟨b, off + i * 5 + 2, none⟩) (World.block_lt_of_cell? w _ e3)).trans e3, (k.cell (p := ⟨b, off + i * 5 + 3, none⟩) (World.block_lt_of_cell? w _ e4)).trans e4, (k.cell (p := ⟨b, off + i * 5 + 4, none⟩) (World.block_lt_of_cell? w _ e5)).trans e5⟩
def mayK (k : Int) (n : Nat) : Bool := decide (1 ≤ k ∧ k ≤ 7 ∧ n ≤ 65535 ∧ (n = 0 ∨ k = 4))
theorem may_any (w : World) (k a b c : Int) (ad : Option Addr) (n cap : Nat) : Calls Try.prog 17 #[.agg #[.int .i64 k, .int .i64 a, .int .i64 b, .int .i64 c, .slice ad n cap]] w fun e w' => e = .returned (.bool (mayK k n)) ∧ Below w.heap.size w w' := by
  have HB := Lib.hid ((Below.refl w.heap.size w).alloc (Nat.le_refl _) (.cells #[.int .i64 k, .int .i64 a, .int .i64 b, .int .i64 c, .slice ad n cap] 40))
  by_cases h1 : k < 1
  · rw [show mayK k n = false from decide_eq_false (by omega)]
    go_enter Try.func17, Try.ntmps17
    go_wp2_with fail
    go_ret
    exact ⟨rfl, HB.out⟩
  · by_cases h2 : 7 < k
    · rw [show mayK k n = false from decide_eq_false (by omega)]
      go_enter Try.func17, Try.ntmps17
      go_wp2_with fail
      go_ret
      exact ⟨rfl, HB.out⟩
    · by_cases h3 : (65535 : Int) < n
      · rw [show mayK k n = false from decide_eq_false (by omega)]
        go_enter Try.func17, Try.ntmps17
        go_wp2_with fail
        go_ret
        exact ⟨rfl, HB.out⟩
      · by_cases h5 : n = 0
        · subst h5
          by_cases h4 : k = 4
          · subst h4
            rw [show mayK 4 0 = true from decide_eq_true (by omega)]
            go_enter Try.func17, Try.ntmps17
            go_wp2_with fail
            go_ret
            exact ⟨rfl, HB.out⟩
          · rw [show mayK k 0 = true from decide_eq_true (by omega)]
            have h8 : (k == 4) = false := beq_eq_false_iff_ne.2 h4
            go_enter Try.func17, Try.ntmps17
            go_wp2_with fail
            go_ret
            exact ⟨rfl, HB.out⟩
        · by_cases h4 : k = 4
          · subst h4
            rw [show mayK 4 n = true from decide_eq_true (by omega)]
            have h7 : ((n : Int) == 0) = false := beq_eq_false_iff_ne.2 (by omega)
            go_enter Try.func17, Try.ntmps17
            go_wp2_with fail
            go_ret
            exact ⟨rfl, HB.out⟩
          · rw [show mayK k n = false from decide_eq_false (by omega)]
            have h7 : ((n : Int) == 0) = false := beq_eq_false_iff_ne.2 (by omega)
            have h8 : (k == 4) = false := beq_eq_false_iff_ne.2 h4
            go_enter Try.func17, Try.ntmps17
            go_wp2_with fail
            go_ret
            exact ⟨rfl, HB.out⟩
theorem rmay_any (w : World) (k a b c : Int) (ad : Option Addr) (n cap : Nat) : Calls Try.prog 18 #[.agg #[.int .i64 k, .int .i64 a, .int .i64 b, .int .i64 c, .slice ad n cap]] w fun e w' => e = .returned (.bool (mayK k n)) ∧ Below w.heap.size w w' := by
  have HB := Lib.hid ((Below.refl w.heap.size w).alloc (Nat.le_refl _) (.cells #[.int .i64 k, .int .i64 a, .int .i64 b, .int .i64 c, .slice ad n cap] 40))
  by_cases h1 : k < 1
  · rw [show mayK k n = false from decide_eq_false (by omega)]
    go_enter Try.func18, Try.ntmps18
    go_wp2_with fail
    go_ret
    exact ⟨rfl, HB.out⟩
  · by_cases h2 : 7 < k
    · rw [show mayK k n = false from decide_eq_false (by omega)]
      go_enter Try.func18, Try.ntmps18
      go_wp2_with fail
      go_ret
      exact ⟨rfl, HB.out⟩
    · by_cases h3 : (65535 : Int) < n
      · rw [show mayK k n = false from decide_eq_false (by omega)]
        go_enter Try.func18, Try.ntmps18
        go_wp2_with fail
        go_ret
        exact ⟨rfl, HB.out⟩
      · by_cases h5 : n = 0
        · subst h5
          by_cases h4 : k = 4
          · subst h4
            rw [show mayK 4 0 = true from decide_eq_true (by omega)]
            go_enter Try.func18, Try.ntmps18
            go_wp2_with fail
            go_ret
            exact ⟨rfl, HB.out⟩
          · rw [show mayK k 0 = true from decide_eq_true (by omega)]
            have h8 : (k == 4) = false := beq_eq_false_iff_ne.2 h4
            go_enter Try.func18, Try.ntmps18
            go_wp2_with fail
            go_ret
            exact ⟨rfl, HB.out⟩
        · by_cases h4 : k = 4
          · subst h4
            rw [show mayK 4 n = true from decide_eq_true (by omega)]
            have h7 : ((n : Int) == 0) = false := beq_eq_false_iff_ne.2 (by omega)
            go_enter Try.func18, Try.ntmps18
            go_wp2_with fail
            go_ret
            exact ⟨rfl, HB.out⟩
          · rw [show mayK k n = false from decide_eq_false (by omega)]
            have h7 : ((n : Int) == 0) = false := beq_eq_false_iff_ne.2 (by omega)
            have h8 : (k == 4) = false := beq_eq_false_iff_ne.2 h4
            go_enter Try.func18, Try.ntmps18
            go_wp2_with fail
            go_ret
            exact ⟨rfl, HB.out⟩
theorem put1_any (w : World) (k a b c : Int) (ad : Option Addr) (n cap : Nat) : Calls Try.prog 16 #[.agg #[.int .i64 k, .int .i64 a, .int .i64 b, .int .i64 c, .slice ad n cap]] w fun e w' => e = .returned (.bool (!mayK k n)) ∧ Below w.heap.size w w' := by
  have HB := Lib.hid ((Below.refl w.heap.size w).alloc (Nat.le_refl _) (.cells #[.int .i64 k, .int .i64 a, .int .i64 b, .int .i64 c, .slice ad n cap] 40))
  go_enter Try.func16, Try.ntmps16
  go_wp2_with fail
  refine (may_any _ k a b c ad n cap).mono ?_
  rintro e w2 ⟨rfl, b2⟩
  have B2 := Lib.hid (HB.out.trans (b2.mono HB.out.size))
  clear b2
  go_wp2_with fail
  go_ret
  exact ⟨rfl, B2.out⟩
end Go.Proofs.Ytamaocdchlioaaa
