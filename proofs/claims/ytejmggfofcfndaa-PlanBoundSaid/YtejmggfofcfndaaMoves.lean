/- The contract of plan.Moves: a range over the pages behind each move. -/
import Derived.Test.YtejmggfofcfndaaNext
import Derived.Test.YtejmggfofcfndaaRangeF
namespace Go.Proofs.Ytejmggfofcfndaa
open Go.RowKit Go.Shelf
attribute [local go_sem] Oper.semAt_some

theorem walk_any (w : World) (a : Option Addr) (n c : Nat) (b : Int) : Calls Try.prog 25 #[.slice a n c, .int .i64 b] w fun e w' =>
    e = .returned (.func (.func 27) #[] #[.pointer (some ⟨w.heap.size, 0, none⟩), .pointer (some ⟨w.heap.size + 1, 0, none⟩)]) ∧ w' = (w.alloc (.cells #[.slice a n c] 22)).alloc (.cells #[.int .i64 b] 3) := by
  have hmf : ∀ (fn : Fn) (first cap : Array Value) (w : World), (Instr.makeFunc fn first cap).run Try.prog w = .ok (.func fn first cap) w := fun _ _ _ _ => rfl
  go_enter Try.func25, Try.ntmps25
  go_wp2
  go_ret
  exact ⟨rfl, rfl⟩

theorem cell_isCells {w : World} {b o : Nat} {v : Value} (h : w.cell? ⟨b, o, none⟩ = some v) : ∃ p, w.heap[b]? = some p ∧ p.isCells = true := by
  unfold World.cell? at h
  cases hb : w.heap[b]? with
  | none => simp [hb] at h
  | some p =>
    refine ⟨p, rfl, ?_⟩
    cases p <;> simp_all [Obj.isCells]
theorem firm_lv {B B0 : Nat} (v : Value) (l : List Int) : Firm B (fun W => LV B0 W v l) := by
  rintro W k o o' hB hk ho ⟨a, c, h1, h2, h3, h4, h5⟩
  refine ⟨a, c, h1, h2, h3, h4, ?_⟩
  rcases h5 with h5 | ⟨b, off, ha, h5⟩
  · exact .inl h5
  · refine .inr ⟨b, off, ha, fun i hi => ?_⟩
    have h6 := h5 i hi
    obtain ⟨p, hp, hc⟩ := cell_isCells h6
    have e := putObj_keep (o' := o') hp hc hk ho
    rw [← h6]
    simp only [World.cell?, e, hp]

structure St where
  l : List Int
  m : Nat
  v : Value
/-- what holds where yield is called -/
def MI (w0 : World) (gA gP gK gR : Nat) (l0 : List Int) (b k : Int) (x : St) (W : World) : Prop :=
  W.heap[gA]? = some (.cells #[x.v] 22 (0, 0)) ∧ W.heap[gP]? = some (.cells #[.int .i64 b] 3 (0, 0)) ∧ W.heap[gK]? = some (.cells #[.int .i64 k] 3 (0, 0)) ∧ W.heap[gR]? = some (.cells #[.int .i64 0] 3 (0, 0)) ∧ LV 0 W x.v x.l ∧ At l0 b k x.l x.m ∧ Below w0.heap.size w0 W
def MP (w0 : World) (gA gP gK gR : Nat) (l0 : List Int) (b k : Int) (x : St) (W : World) : Prop :=
  MI w0 gA gP gK gR l0 b k x W ∧ dueP x.l.length k = true ∧ 2 ≤ x.l.length
def MS (w0 : World) (gR : Nat) (l0 : List Int) (b k : Int) (c : Code) (W : World) : Prop := c = .ret ∧ W.heap[gR]? = some (.cells #[.int .i64 (movesP l0 b k)] 3 (0, 0)) ∧ Below w0.heap.size w0 W
theorem firm_mi {B : Nat} {w0 : World} (hB : w0.heap.size ≤ B) (gA gP gK gR : Nat) (l0 : List Int) (b k : Int) (x : St) : Firm B (MI w0 gA gP gK gR l0 b k x) :=
  (Firm.blk _ _ rfl).and ((Firm.blk _ _ rfl).and ((Firm.blk _ _ rfl).and ((Firm.blk _ _ rfl).and ((firm_lv _ _).and ((Firm.pure _ _).and (Firm.below hB))))))
theorem firm_mp {B : Nat} {w0 : World} (hB : w0.heap.size ≤ B) (gA gP gK gR : Nat) (l0 : List Int) (b k : Int) (x : St) : Firm B (MP w0 gA gP gK gR l0 b k x) :=
  (firm_mi hB _ _ _ _ _ _ _ _).and ((Firm.pure _ _).and (Firm.pure _ _))
theorem firm_ms {B : Nat} {w0 : World} (hB : w0.heap.size ≤ B) (gR : Nat) (l0 : List Int) (b k : Int) (c : Code) : Firm B (MS w0 gR l0 b k c) :=
  (Firm.pure _ _).and ((Firm.blk _ _ rfl).and (Firm.below hB))

def encS (x : St) : Array Value := #[.int .i64 x.m, x.v]

set_option maxRecDepth 100000 in
set_option maxHeartbeats 2000000 in
theorem walk1_iter (l : Nat) (Lp Lx : World → Prop) (hLp : ∀ W W', Lp W → KeepsOthers W W' → Lp W') (w0 : World) (gA gP gK gR : Nat) (hAP : gA ≠ gP) (hAK : gA ≠ gK) (hAR : gA ≠ gR) (hgA : w0.heap.size ≤ gA) (l0 : List Int) (b k : Int)
    (hl0 : l0.length ≤ 12) (hb : b ≤ 20) (hml0 : mayP l0 b = true)
    (hY : ∀ (x : St) (W : World), MI w0 gA gP gK gR l0 b k x W → Lp W → YieldAt Fence.wide 3 Try.prog l (encS x) W fun e W' =>
      (e = .returned (.bool true) ∧ MP w0 gA gP gK gR l0 b k x W' ∧ KeepC (fun _ => True) W W' ∧ Lp W') ∨ (e = .returned (.bool false) ∧ Lx W'))
    (W1 : World) (x0 : St) (hs : MI w0 gA gP gK gR l0 b k x0 W1) (hm0 : x0.m = 0) (hL : Lp W1) :
    CallsIn Fence.wide 4 Try.prog 27 #[.func (.yield l) #[] #[], .pointer (some ⟨gA, 0, none⟩), .pointer (some ⟨gP, 0, none⟩)] W1 fun e W' =>
      (∃ v, e = .returned v) ∧ ((False ∧ Lp W') ∨ Lx W') := by
  obtain ⟨R0, hR0⟩ : ∃ R0 : Int, R0 = rest l0 := ⟨_, rfl⟩
  have HR0 := Lib.hid hR0
  have hR1 : R0 ≤ 228 := by
    rw [hR0]
    exact rest_le hb hl0 hml0
  have hRn := rest_nonneg hml0
  rw [← hR0] at hRn
  clear hR0 hml0
  refine callsIn_of_wp Try.func27 rfl trivial ?_ rfl
  simp only [Try.ntmps27, List.size_toArray, List.length_cons, List.length_nil, Nat.reduceAdd, Nat.reduceSub, Array.replicate_succ, Array.replicate_zero, List.push_toArray, List.append_toArray, List.nil_append, List.cons_append]
  gi_wp2_with fail
  gi_loopw [4] (fun n wr => ∃ x : St, n = .int .i64 x.m ∧ (x.m : Int) ≤ R0 ∧ MI w0 gA gP gK gR l0 b k x wr ∧ Lp wr) (fun n _ => (R0 + 1 - intOf n).toNat)
  case atStart => exact ⟨x0, by rw [hm0]; rfl, by rw [hm0]; exact hRn, hs, hL⟩
  case round =>
    obtain ⟨⟨l1, m, v⟩, rfl, hmr, hmi, hlp⟩ := hrel
    have hy0 := hY _ wr hmi hlp
    have Hmi := Lib.hid hmi
    have hA := hmi.1
    have cA := blk_cell hA 0
    obtain ⟨fn, tmps, assign, body, hy, hR⟩ := hy0
    clear hmi hA
    simp only [encS] at hy
    gi_wp2_with fail
    refine hR.mono ?_
    rintro e W' (⟨rfl, ⟨hp1, hdue, h2⟩, hk1, hl1⟩ | ⟨rfl, hx1⟩)
    · obtain ⟨iA, iP, iK, iR, iL, iAt, iB⟩ := hp1
      simp only at iA iP iK iR iL iAt iB hdue h2
      have hs2 := Lib.hid (at_step iAt hdue h2)
      have hm1 : (m : Int) + 1 ≤ R0 := by
        have h1 := hs2.out.2.2.1
        have h3 := rest_nonneg hs2.out.1
        have := HR0.out
        push_cast at h1
        omega
      have jA := blk_cell iA 0
      have jP := blk_cell iP 0
      have HA := Lib.hid iA
      have HP := Lib.hid iP
      have HK := Lib.hid iK
      have HR := Lib.hid iR
      have HN := Lib.hid (next_any 0 W' v l1 b iL (Nat.zero_le _) (Nat.le_trans iAt.2.1 hl0) hb iAt.1)
      have hvs : ∃ a n c, v = .slice a n c := by obtain ⟨a, c, h, _⟩ := iL; exact ⟨a, _, c, h⟩
      obtain ⟨av, nv, cv, rfl⟩ := hvs
      have hAB := blk_lt iA
      clear iA iP iK iR iL iAt hdue h2 hR hy
      gi_wp2_with fail
      refine ⟨trivial, (callsIn_wide.2 HN.out).mono ?_⟩
      rintro e w3 ⟨v3, rfl, l3, b3⟩
      have hv3 : ∃ a n c, v3 = .slice a n c := by obtain ⟨a, c, h, _⟩ := l3; exact ⟨a, _, c, h⟩
      have kA := below_blk b3 HA.out hAB
      have kP := below_blk b3 HP.out (blk_lt HP.out)
      have kK := below_blk b3 HK.out (blk_lt HK.out)
      have kR := below_blk b3 HR.out (blk_lt HR.out)
      have k0 := blk_cell kA 0
      have kf := blk_frozen kA 0
      have hKs : Keep (fun k => k = gA) w3 (w3.setCell ⟨gA, 0, none⟩ v3) := (Keep.refl (fun k => k = gA) w3).setCell (.inl rfl) v3
      have hnew : MI w0 gA gP gK gR l0 b k ⟨nextP l1 b, m + 1, v3⟩ (w3.setCell ⟨gA, 0, none⟩ v3) := by
        refine ⟨by simpa using blk_set kA 0 v3, blk_far kP (fun h => hAP h.symm) v3, blk_far kK (fun h => hAK h.symm) v3, blk_far kR (fun h => hAR h.symm) v3, ?_, hs2.out, ?_⟩
        · exact lv_keep1 l3 hKs kA (fun i x => by
            match i with
            | 0 => simp
            | i + 1 => simp)
        · exact below1 (iB.trans (b3.mono iB.size)) hgA (Nat.le_trans iB.size b3.size) 0 v3
      have Hnew := Lib.hid hnew
      have hlp3 : Lp (w3.setCell ⟨gA, 0, none⟩ v3) := hLp _ _ (hLp _ _ hl1 ⟨b3.size, fun k o hk _ => below_blk b3 hk (blk_lt hk)⟩) (KeepsOthers.setCell _ _ _)
      obtain ⟨a3, n3, c3, rfl⟩ := hv3
      clear kA kP kK kR hnew l3 hKs
      gi_wp2_with fail
      go_roundw
      case rel => exact ⟨_, by go_num, by push_cast; omega, Hnew.out, hlp3⟩
      case measure => simp [intOf]; omega
    · gi_wp2_with fail
      refine bodyPost_end (results_none rfl _ _ _) rfl ?_
      exact ⟨⟨_, rfl⟩, .inr hx1⟩
end Go.Proofs.Ytejmggfofcfndaa
