/- The reference's lists (almeryref07): how they lie, New, place. -/
import Derived.Test.YthjbggdcninckaaRingN
namespace Go.Proofs.Ythjbggdcninckaa
open Go.RowKit
set_option linter.unusedVariables false

def ilist (l : List Nat) : List Value := l.map fun (x : Nat) => Value.int .i64 (x : Int)
theorem ilist_len (l : List Nat) : (ilist l).length = l.length := by simp [ilist]
theorem ilist_get {l : List Nat} {k y : Nat} (h : l[k]? = some y) : (ilist l)[k]? = some (.int .i64 y) := by simp [ilist, h]
theorem one_ilist (l : List Nat) : ∀ u ∈ ilist l, u.oneCell' = true := by
  intro u hu
  simp only [ilist, List.mem_map] at hu
  obtain ⟨x, _, rfl⟩ := hu
  rfl
/-- the reference's value: a slice of slices, and a number -/
def RV (B : Nat → Prop) (w : World) (v : Value) (m n : Nat) (L : Nat → List Nat) : Prop :=
  ∃ aL cL vs, v = .agg #[.slice aL m cL, .int .i64 n] ∧ vs.length = m ∧ (m ≤ cL ∧ cL ≤ 9223372036854775807) ∧ VV B w (.slice aL m cL) vs ∧ ∀ i, i < m → ∃ a c, vs[i]? = some (.slice a (L i).length c) ∧ VV B w (.slice a (L i).length c) (ilist (L i))
theorem RV.keepS {S : Nat → Prop} {B : Nat → Prop} {w w' : World} {v : Value} {m n : Nat} {L : Nat → List Nat} (h : RV B w v m n L) (k : Keep S w w') (hS : ∀ i, B i → ¬ S i) : RV B w' v m n L := by
  obtain ⟨aL, cL, vs, e, h1, h2, h3, h4⟩ := h
  refine ⟨aL, cL, vs, e, h1, h2, h3.keepS k hS, fun i hi => ?_⟩
  obtain ⟨a, c, q1, q2⟩ := h4 i hi
  exact ⟨a, c, q1, q2.keepS k hS⟩
theorem RV.keep {B : Nat → Prop} {w w' : World} {v : Value} {m n : Nat} {L : Nat → List Nat} (h : RV B w v m n L) (k : Below w.heap.size w w') : RV B w' v m n L := h.keepS (Keep.of_below k) (fun _ _ h => h)
theorem RV.mono {B B' : Nat → Prop} {w : World} {v : Value} {m n : Nat} {L : Nat → List Nat} (h : RV B w v m n L) (hB : ∀ i, B i → B' i) : RV B' w v m n L := by
  obtain ⟨aL, cL, vs, e, h1, h2, h3, h4⟩ := h
  refine ⟨aL, cL, vs, e, h1, h2, h3.mono hB, fun i hi => ?_⟩
  obtain ⟨a, c, q1, q2⟩ := h4 i hi
  exact ⟨a, c, q1, q2.mono hB⟩
theorem RV.ltS {B : Nat → Prop} {w : World} {v : Value} {m n : Nat} {L : Nat → List Nat} (h : RV B w v m n L) : RV (fun i => B i ∧ i < w.heap.size) w v m n L := by
  obtain ⟨aL, cL, vs, e, h1, h2, h3, h4⟩ := h
  refine ⟨aL, cL, vs, e, h1, h2, h3.lt, fun i hi => ?_⟩
  obtain ⟨a, c, q1, q2⟩ := h4 i hi
  exact ⟨a, c, q1, q2.lt⟩
theorem RV.val {B : Nat → Prop} {w : World} {v : Value} {m n : Nat} {L : Nat → List Nat} (h : RV B w v m n L) : ∃ aL cL, v = .agg #[.slice aL m cL, .int .i64 n] ∧ m ≤ cL ∧ cL ≤ 9223372036854775807 := by
  obtain ⟨aL, cL, vs, e, h1, h2, h3, h4⟩ := h
  exact ⟨aL, cL, e, h2⟩
/-- the i-th list: where it is read -/
theorem RV.row {B : Nat → Prop} {w : World} {aL : Option Addr} {cL m n : Nat} {L : Nat → List Nat} (h : RV B w (.agg #[.slice aL m cL, .int .i64 n]) m n L) {i : Nat} (hi : i < m) :
    ∃ b off a c, aL = some ⟨b, off, none⟩ ∧ VV B w (.slice a (L i).length c) (ilist (L i)) ∧ ((L i).length ≤ c ∧ c ≤ 9223372036854775807) ∧ ∀ wr, Below w.heap.size w wr → wr.cell? ⟨b, off + i, none⟩ = some (.slice a (L i).length c) := by
  obtain ⟨aL', cL', vs, e, h1, h2, h3, h4⟩ := h
  cases e
  obtain ⟨a, c, q1, q2⟩ := h4 i hi
  obtain ⟨b, off, e2, _, _, q3⟩ := h3.elemS q1
  obtain ⟨a', c', e3, q4, q5⟩ := q2.slice
  rw [ilist_len] at e3 q4
  cases e3
  exact ⟨b, off, a, c, e2, q2, ⟨q4, q5⟩, q3⟩

theorem Try.infoSl : (Try.prog.info? 42).map (fun i => (i.zero, i.size, i.bytes)) = some (some (.slice none 0 0), 1, 24) := by kernel_rfl
theorem make_slices (n : Nat) (h : n ≤ 64) (w : World) (kl kc : IntKind) : (Instr.makeSlice 27 (.int kl n) (.int kc n)).run Try.prog w = .ok (.slice (some ⟨w.heap.size, 0, none⟩) n n) (w.alloc (.cells (madeCells #[.slice none 0 0] n) 42)) := by
  obtain ⟨i0, ei, ez0, ez1, ez2⟩ := info_parts Try.infoSl
  have := run_make (P := Try.prog) w 27 42 i0 _ Try.underlying27 ei ez0 kl kc n n (by omega) (Int.le_refl _) (by rw [ez2]; omega) (by omega)
  rw [ez1] at this
  simpa [Value.cells] using this
theorem rv_made (w : World) (m n : Nat) (hm : m ≤ 64) : RV (fun i => w.heap.size ≤ i) (w.alloc (.cells (madeCells #[.slice none 0 0] m) 42)) (.agg #[.slice (some ⟨w.heap.size, 0, none⟩) m m, .int .i64 n]) m n (fun _ => []) := by
  refine ⟨_, m, List.replicate m (.slice none 0 0), rfl, by simp, ⟨Nat.le_refl _, by omega⟩, ⟨some ⟨w.heap.size, 0, none⟩, m, by simp, by simp, by unfold maxLen; omega, nofun, .inr ⟨_, 0, rfl, Nat.le_refl _, fun i u hi => ?_⟩⟩, fun i hi => ⟨none, 0, by simp [hi], vv_nil _ _⟩⟩
  rw [blk_cell (blk_new w (.cells (madeCells #[.slice none 0 0] m) 42))]
  have hlt : i < m := by
    rcases Nat.lt_or_ge i m with h | h
    · exact h
    · simp [h] at hi
  simp [hlt] at hi
  subst hi
  simp [madeCells, hlt, Nat.mod_one]
theorem rnew_bad (w : World) (n m : Int) (h : n < 1 ∨ 4096 < n ∨ m < 1 ∨ 64 < m) : Calls Try.prog 10 #[.int .i64 n, .int .i64 m] w fun e w' => e = .returned (.tuple #[.agg #[.slice none 0 0, .int .i64 0], .int .i64 1]) ∧ Below w.heap.size w w' := by
  have hb : Below w.heap.size w (w.alloc (.cells #[.slice none 0 0, .int .i64 0] 29)) := (Below.refl _ _).alloc (Nat.le_refl _) _
  have r0 := blk_new w (.cells #[.slice none 0 0, .int .i64 0] 29)
  have q0 := blk_cell r0 0
  have q1 := blk_cell r0 1
  have HB := Lib.hid hb
  clear hb r0
  by_cases h1 : n < 1
  · clear h
    go_enter Try.func10, Try.ntmps10
    go_wp2_with fail
    refine bodyPost_ret (v := .tuple #[.agg #[.slice none 0 0, .int .i64 0], .int .i64 1]) (by simp [results, Try.results10, go_sem, q0, q1]) rfl ⟨rfl, HB.out⟩
  · by_cases h2 : 4096 < n
    · clear h
      go_enter Try.func10, Try.ntmps10
      go_wp2_with fail
      refine bodyPost_ret (v := .tuple #[.agg #[.slice none 0 0, .int .i64 0], .int .i64 1]) (by simp [results, Try.results10, go_sem, q0, q1]) rfl ⟨rfl, HB.out⟩
    · by_cases h3 : m < 1
      · clear h
        go_enter Try.func10, Try.ntmps10
        go_wp2_with fail
        refine bodyPost_ret (v := .tuple #[.agg #[.slice none 0 0, .int .i64 0], .int .i64 1]) (by simp [results, Try.results10, go_sem, q0, q1]) rfl ⟨rfl, HB.out⟩
      · have h4 : 64 < m := by omega
        clear h
        go_enter Try.func10, Try.ntmps10
        go_wp2_with fail
        refine bodyPost_ret (v := .tuple #[.agg #[.slice none 0 0, .int .i64 0], .int .i64 1]) (by simp [results, Try.results10, go_sem, q0, q1]) rfl ⟨rfl, HB.out⟩
theorem rnew_any (w : World) (m n : Nat) (h1 : 1 ≤ n) (h2 : n ≤ 4096) (h3 : 1 ≤ m) (h4 : m ≤ 64) : Calls Try.prog 10 #[.int .i64 n, .int .i64 m] w fun e w' => ∃ v, e = .returned (.tuple #[v, .int .i64 0]) ∧ RV (fun i => w.heap.size < i) w' v m n (fun _ => []) ∧ Below w.heap.size w w' := by
  have hmk := make_slices m h4
  have r0 := blk_new w (.cells #[.slice (some ⟨w.heap.size + 1, 0, none⟩) m m, .int .i64 n] 29)
  have hb := ((Below.refl w.heap.size w).alloc (Nat.le_refl _) (.cells #[.slice (some ⟨w.heap.size + 1, 0, none⟩) m m, .int .i64 n] 29)).alloc (by simp) (.cells (madeCells #[.slice none 0 0] m) 42)
  have hr := rv_made (w.alloc (.cells #[.slice (some ⟨w.heap.size + 1, 0, none⟩) m m, .int .i64 n] 29)) m n h4
  simp only [World.size_alloc] at hr
  have HR := Lib.hid (hr.mono (B' := fun i => w.heap.size < i) (fun i hi => hi))
  have HB := Lib.hid hb
  have r1 := blk_alloc r0 (.cells (madeCells #[.slice none 0 0] m) 42)
  have q0 := blk_cell r1 0
  have q1 := blk_cell r1 1
  clear hb hr r0 r1
  go_enter Try.func10, Try.ntmps10
  go_wp2_with fail
  refine bodyPost_ret (v := .tuple #[.agg #[.slice (some ⟨w.heap.size + 1, 0, none⟩) m m, .int .i64 n], .int .i64 0]) (by simp [results, Try.results10, go_sem, q0, q1]) rfl ⟨_, rfl, HR.out, HB.out⟩
set_option maxHeartbeats 2000000 in
theorem rplace_some (B : Nat → Prop) (w : World) (v : Value) (m n : Nat) (L : Nat → List Nat) (h : RV B w v m n L) {i y : Nat} {a b : List Nat} (hi : i < m) (hL : L i = a ++ y :: b) (hna : y ∉ a) (hno : ∀ j, j < i → y ∉ L j) :
    Calls Try.prog 30 #[v, .int .i64 y] w fun e w' => e = .returned (.tuple #[.int .i64 i, .int .i64 a.length]) ∧ Below w.heap.size w w' := by
  obtain ⟨aL, cL, rfl, hc⟩ := h.val
  have H := Lib.hid h
  have B0 := Lib.hid ((Below.refl w.heap.size w).alloc (Nat.le_refl _) (.cells #[.slice aL m cL, .int .i64 n] 29))
  have X0 := Lib.hid (blk_new w (.cells #[.slice aL m cL, .int .i64 n] 29))
  have HNO := Lib.hid hno
  have HNA := Lib.hid hna
  have HLI := Lib.hid hL
  clear hL hna
  clear h hno
  go_enter Try.func30, Try.ntmps30
  go_wp2_with fail
  go_loopw [6] (fun iv wr => ∃ j : Nat, iv = .int .i64 j ∧ j ≤ i ∧ wr.heap[w.heap.size]? = some (.cells #[.slice aL m cL, .int .i64 n] 29 (0, 0)) ∧ Below w.heap.size w wr) (fun iv _ => m - (intOf iv).toNat)
  case atStart => exact ⟨0, rfl, Nat.zero_le _, X0.out, B0.out⟩
  case round =>
    obtain ⟨j, rfl, hj, hx, br⟩ := hrel
    have y0 := blk_cell hx 0
    have hjm : j < m := by omega
    have E := H.out.row (show j < m by omega)
    obtain ⟨bb, off, a1, c1, rfl, hv, hcc, hel⟩ := E
    have HX := Lib.hid hx
    have HV := Lib.hid hv
    have z0 := hel wr br
    clear hx hv
    go_wp2_with fail
    go_loopw [7] (fun kv wr' => ∃ k : Nat, kv = .int .i64 k ∧ k ≤ (L j).length ∧ (j = i → k ≤ a.length) ∧ wr = wr') (fun kv _ => (L j).length - (intOf kv).toNat)
    case atStart => exact ⟨0, rfl, Nat.zero_le _, fun _ => Nat.zero_le _, rfl⟩
    case round =>
      obtain ⟨k, rfl, hk, hka, rfl⟩ := hrel
      by_cases hlt : k < (L j).length
      · obtain ⟨z, hz⟩ : ∃ z, (L j)[k]? = some z := ⟨_, List.getElem?_eq_getElem hlt⟩
        have hzm : z ∈ L j := List.mem_of_getElem? hz
        obtain ⟨b2, off2, rfl, _, _, hel2⟩ := HV.out.elemS (ilist_get hz)
        have z1 := hel2 wr br
        clear hel2
        by_cases hzy : z = y
        · subst hzy
          have hji : j = i := by
            rcases Nat.lt_or_ge j i with h1 | h1
            · exact absurd hzm (HNO.out j h1)
            · omega
          subst hji
          have hka2 := hka rfl
          have hke : k = a.length := by
            rcases Nat.lt_or_ge k a.length with h1 | h1
            · have := HNA.out
              rw [HLI.out, List.getElem?_append_left h1] at hz
              exact absurd (List.mem_of_getElem? hz) this
            · omega
          subst hke
          clear hz hzm hka hka2
          go_wp2_with fail
          go_ret2
          exact ⟨rfl, br⟩
        · have hne : ((z : Int) == (y : Int)) = false := beq_eq_false_iff_ne.2 (by omega)
          have Hka : Hid (j = i → k + 1 ≤ a.length) := Lib.hid (fun e => by
            have h1 := hka e
            rcases Nat.lt_or_ge k a.length with h2 | h2
            · omega
            · have : k = a.length := by omega
              subst this
              rw [e, HLI.out] at hz
              simp at hz
              exact absurd hz.symm hzy)
          clear hz hzm hka
          go_wp2_with fail
          go_roundw
          case rel => exact ⟨k + 1, by go_num, hlt, Hka.out, by trivial⟩
          case measure => simp [intOf]; omega
      · obtain rfl : k = (L j).length := by omega
        have hji : j < i := by
          rcases Nat.lt_or_ge j i with h1 | h1
          · exact h1
          · have e : j = i := by omega
            have h2 := hka e
            have h3 := congrArg List.length HLI.out
            rw [List.length_append, List.length_cons, ← e] at h3
            omega
        clear hka
        go_wp2_with fail
        go_roundw
        case rel => exact ⟨j + 1, by go_num, hji, HX.out, br⟩
        case measure => simp [intOf]; omega
set_option maxHeartbeats 2000000 in
theorem rplace_none (B : Nat → Prop) (w : World) (v : Value) (m n : Nat) (L : Nat → List Nat) (h : RV B w v m n L) (x : Int) (hno : ∀ j, j < m → ∀ z, z ∈ L j → (z : Int) ≠ x) :
    Calls Try.prog 30 #[v, .int .i64 x] w fun e w' => e = .returned (.tuple #[.int .i64 (-1), .int .i64 (-1)]) ∧ Below w.heap.size w w' := by
  obtain ⟨aL, cL, rfl, hc⟩ := h.val
  have H := Lib.hid h
  have B0 := Lib.hid ((Below.refl w.heap.size w).alloc (Nat.le_refl _) (.cells #[.slice aL m cL, .int .i64 n] 29))
  have X0 := Lib.hid (blk_new w (.cells #[.slice aL m cL, .int .i64 n] 29))
  have HNO := Lib.hid hno
  clear h hno
  go_enter Try.func30, Try.ntmps30
  go_wp2_with fail
  go_loopw [6] (fun iv wr => ∃ j : Nat, iv = .int .i64 j ∧ j ≤ m ∧ wr.heap[w.heap.size]? = some (.cells #[.slice aL m cL, .int .i64 n] 29 (0, 0)) ∧ Below w.heap.size w wr) (fun iv _ => m - (intOf iv).toNat)
  case atStart => exact ⟨0, rfl, Nat.zero_le _, X0.out, B0.out⟩
  case round =>
    obtain ⟨j, rfl, hj, hx, br⟩ := hrel
    have y0 := blk_cell hx 0
    by_cases hjm : j < m
    · have E := H.out.row hjm
      obtain ⟨bb, off, a1, c1, rfl, hv, hcc, hel⟩ := E
      have HX := Lib.hid hx
      have HV := Lib.hid hv
      have z0 := hel wr br
      clear hx hv
      go_wp2_with fail
      go_loopw [7] (fun kv wr' => ∃ k : Nat, kv = .int .i64 k ∧ k ≤ (L j).length ∧ True ∧ wr = wr') (fun kv _ => (L j).length - (intOf kv).toNat)
      case atStart => exact ⟨0, rfl, Nat.zero_le _, trivial, rfl⟩
      case round =>
        obtain ⟨k, rfl, hk, hka, rfl⟩ := hrel
        by_cases hlt : k < (L j).length
        · obtain ⟨z, hz⟩ : ∃ z, (L j)[k]? = some z := ⟨_, List.getElem?_eq_getElem hlt⟩
          have hzm : z ∈ L j := List.mem_of_getElem? hz
          obtain ⟨b2, off2, rfl, _, _, hel2⟩ := HV.out.elemS (ilist_get hz)
          have z1 := hel2 wr br
          clear hel2
          have hne0 := HNO.out j hjm z hzm
          have hne : ((z : Int) == x) = false := beq_eq_false_iff_ne.2 hne0
          clear hz hzm hka hne0
          go_wp2_with fail
          go_roundw
          case rel => exact ⟨k + 1, by go_num, hlt, trivial, by trivial⟩
          case measure => simp [intOf]; omega
        · obtain rfl : k = (L j).length := by omega
          clear hka
          go_wp2_with fail
          go_roundw
          case rel => exact ⟨j + 1, by go_num, hjm, HX.out, br⟩
          case measure => simp [intOf]; omega
    · obtain rfl : j = m := by omega
      go_wp2_with fail
      go_ret2
      exact ⟨rfl, br⟩
end Go.Proofs.Ythjbggdcninckaa
