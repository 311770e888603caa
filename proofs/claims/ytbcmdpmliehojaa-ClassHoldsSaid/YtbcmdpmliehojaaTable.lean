/- The contracts of class.Table and of the reference's. -/
import Derived.Test.YtbcmdpmliehojaaClass
namespace Go.Proofs.Ytbcmdpmliehojaa
open Go.RowKit

theorem entry_any (w0 w : World) (gS gA : Nat) (v : Value) (l : List Int) (a r : Nat) (words : Int) (h0 : LV 0 w0 v l) (hb : Below w0.heap.size w0 w) (hgA : w0.heap.size ≤ gA) (hS : w.heap[gS]? = some (.cells #[v] 22 (0, 0))) (hA : w.heap[gA]? = some (.cells #[.int .i64 a] 3 (0, 0))) (hne : gS ≠ gA)
    (har : a ≤ r) (hr : r < l.length) (hj : ∀ j, a ≤ j → j < r → l.getD j 0 < words * 8) (hrr : words * 8 ≤ l.getD r 0) (hw : 0 ≤ words ∧ words ≤ 100000) :
    Calls Try.prog 22 #[.int .i64 words, .pointer (some ⟨gS, 0, none⟩), .pointer (some ⟨gA, 0, none⟩)] w fun e w' => e = .returned (.int .i64 r) ∧ w'.heap[gA]? = some (.cells #[.int .i64 r] 3 (0, 0)) ∧ Keep (fun k => k = gA) w w' := by
  have H := Lib.hid h0
  have HS := Lib.hid hS
  have HA := Lib.hid hA
  have HJ := Lib.hid hj
  have HR := Lib.hid hrr
  obtain ⟨av, c, rfl, hc, hm, _, _⟩ := h0
  unfold maxLen at hm
  clear hS hA hj hrr
  go_enter Try.func22, Try.ntmps22
  go_wp2_with fail
  go_loopw [] (fun wr => ∃ i : Nat, a ≤ i ∧ i ≤ r ∧ wr.heap[gA]? = some (.cells #[.int .i64 i] 3 (0, 0)) ∧ Keep (fun k => k = gA) w wr) (fun wr => r - (intOf ((wr.cell? ⟨gA, 0, none⟩).getD undef)).toNat)
  case atStart => exact ⟨a, Nat.le_refl _, har, HA.out, Keep.refl _ _⟩
  case round =>
    obtain ⟨i, hai, hir, hA1, hK⟩ := hrel
    have hS1 := hK.blk HS.out hne
    have cA := blk_cell hA1 0
    have fA := blk_frozen hA1 0
    have cS := blk_cell hS1 0
    have HA1 := Lib.hid hA1
    have bw := below_keep hb hK hb.size (fun k hk => by omega)
    have hil : i < l.length := by omega
    obtain ⟨gl, off, c', hv, hx⟩ := H.out.elem hil
    cases hv
    have hx0 := hx _ bw
    clear hS1 hA1 hx bw
    by_cases hlt : i < r
    · have hlt' := HJ.out i hai hlt
      generalize hz : l.getD i 0 = x at hx0 hlt'
      clear hz
      go_wp2_with fail
      go_roundw
      case rel => exact ⟨i + 1, by omega, hlt, by simpa using blk_set HA1.out 0 (.int .i64 ((i : Int) + 1)), hK.setCell (.inl rfl) _⟩
      case measure =>
        have h1 := blk_set HA1.out 0 (.int .i64 ((i : Int) + 1))
        have c1 : (wr.setCell ⟨gA, 0, none⟩ (.int .i64 ((i : Int) + 1))).cell? ⟨gA, 0, none⟩ = some (.int .i64 ((i : Int) + 1)) := by simpa using blk_cell h1 0
        rw [c1, blk_cell HA1.out 0]
        simp [intOf]
        omega
    · obtain rfl : i = r := by omega
      have hge := HR.out
      generalize hz : l.getD i 0 = x at hx0 hge
      clear hz
      go_wp2_with fail
      go_ret
      exact ⟨rfl, HA1.out, hK⟩

def tabTo (l : List Int) (k : Nat) : List Int := (-1) :: (List.range k).map fun i : Nat => pickP l (8 * ((i : Int) + 1))
theorem tabTo_succ (l : List Int) (k : Nat) : tabTo l (k + 1) = tabTo l k ++ [pickP l (8 * ((k : Int) + 1))] := by
  simp [tabTo, List.range_succ]
theorem tabTo_len (l : List Int) (k : Nat) : (tabTo l k).length = k + 1 := by simp [tabTo]
def lastC (l : List Int) : Int := l.getD (l.length - 1) 0
/-- so many words has the greatest size -/
def wordsC (l : List Int) : Nat := (lastC l / 8).toNat
def tableP (l : List Int) : List Int := tabTo l (wordsC l)
theorem may_last {l : List Int} (h : mayB l 4096 = true) : 8 ≤ lastC l ∧ lastC l ≤ 4096 ∧ lastC l % 8 = 0 ∧ 0 < l.length ∧ l.length ≤ 16 := by
  obtain ⟨h0, h1, h2⟩ := mayB_iff.1 h
  obtain ⟨a, b, c, _⟩ := h2 (l.length - 1) (by omega)
  exact ⟨a, c, b, h0, h1⟩
theorem words_eq {l : List Int} (h : mayB l 4096 = true) : ((wordsC l : Nat) : Int) = lastC l / 8 ∧ wordsC l ≤ 512 := by
  have := may_last h
  unfold wordsC
  omega
theorem pick_some {l : List Int} (h : mayB l 4096 = true) {n : Int} (h1 : 1 ≤ n) (h2 : n ≤ lastC l) : pickP l n ≠ -1 := by
  intro hp
  unfold pickP at hp
  rw [if_neg (by omega)] at hp
  rcases idxP_idx (geP n) l with ⟨_, h3⟩ | ⟨k, h3, _⟩
  · have hl := may_last h
    have := h3 (l.length - 1) (by omega)
    simp only [geP, decide_eq_false_iff_not] at this
    exact this h2
  · omega
def atT (l : List Int) (k : Nat) : Nat := if k = 0 then 0 else (pickP l (8 * k)).toNat
theorem at_step {l : List Int} (h : mayB l 4096 = true) {k : Nat} (hk : k < wordsC l) : ∃ r : Nat, pickP l (8 * ((k : Int) + 1)) = r ∧ atT l (k + 1) = r ∧ r < l.length ∧ atT l k ≤ r ∧ (∀ j, atT l k ≤ j → j < r → l.getD j 0 < ((k : Int) + 1) * 8) ∧ ((k : Int) + 1) * 8 ≤ l.getD r 0 := by
  have hw := words_eq h
  have hl := may_last h
  obtain ⟨_, r, h1, h2, h3, h4⟩ := pick_ge (pick_some h (n := 8 * ((k : Int) + 1)) (by omega) (by omega))
  refine ⟨r, h1, ?_, h2, ?_, fun j _ hj => by have := h4 j hj; omega, by omega⟩
  · unfold atT
    rw [if_neg (by omega)]
    have e : (8 : Int) * ((k + 1 : Nat) : Int) = 8 * ((k : Int) + 1) := by omega
    rw [e, h1]
    rfl
  · unfold atT
    by_cases h0 : k = 0
    · rw [if_pos h0]; omega
    · rw [if_neg h0]
      obtain ⟨_, s, s1, s2, s3, s4⟩ := pick_ge (pick_some h (n := 8 * (k : Int)) (by omega) (by omega))
      rw [s1]
      by_cases hlt : r < s
      · have := s4 r hlt; omega
      · show s ≤ r; omega

theorem own_lit1 (w : World) (x : Int) (B : Nat) (hB : B ≤ w.heap.size) : (w.alloc (.cells #[.int .i64 x] 3)).ownsRow B 3 1 (.slice (some ⟨w.heap.size, 0, none⟩) 1 1) 1 (icells [x]) := own_one w B x hB

set_option maxHeartbeats 4000000 in
theorem table_any (w : World) (v : Value) (l : List Int) (h : LV 0 w v l) (hm : mayB l 4096 = true) : Calls Try.prog 15 #[v] w fun e w' => ∃ v', e = .returned v' ∧ LV 0 w' v' (tableP l) ∧ Below w.heap.size w w' := by
  have hmf : ∀ (fn : Fn) (first cap : Array Value) (w : World), (Instr.makeFunc fn first cap).run Try.prog w = .ok (.func fn first cap) w := fun _ _ _ _ => rfl
  obtain ⟨i0, ei, ez0, ez1, ez2⟩ := info_parts Try.infoI
  have H := Lib.hid h
  have HM := Lib.hid hm
  have hl := may_last hm
  have hw := words_eq hm
  obtain ⟨nw, hnw⟩ : ∃ nw, nw = wordsC l := ⟨_, rfl⟩
  rw [← hnw] at hw
  have HNW := Lib.hid hnw
  obtain ⟨m, hlm⟩ : ∃ m, l.length = m + 1 := ⟨l.length - 1, by omega⟩
  have hlast : lastC l = l.getD m 0 := by unfold lastC; rw [hlm, Nat.add_sub_cancel]
  obtain ⟨gl, off, c', hv, hx⟩ := h.elem (k := m) (by omega)
  subst hv
  obtain ⟨av, c, hv, hc, hmx, _, _⟩ := h
  cases hv
  unfold maxLen at hmx
  have Hx := Lib.hid hx
  have bE : Below w.heap.size w (((w.alloc (.cells #[.slice (some ⟨gl, off, none⟩) l.length c'] 22)).alloc (.cells #[.int .i64 0] 3)).alloc (.cells #[.int .i64 (-1)] 3)) := (((Below.refl _ _).alloc (Nat.le_refl _) _).alloc (by simp) _).alloc (by simp; omega) _
  have BE := Lib.hid bE
  have hx0 := hx _ bE
  have oE : (((w.alloc (.cells #[.slice (some ⟨gl, off, none⟩) l.length c'] 22)).alloc (.cells #[.int .i64 0] 3)).alloc (.cells #[.int .i64 (-1)] 3)).ownsRow (w.heap.size + 2) 3 1 (.slice (some ⟨w.heap.size + 2, 0, none⟩) 1 1) 1 (icells [-1]) := by
    have := own_one ((w.alloc (.cells #[.slice (some ⟨gl, off, none⟩) l.length c'] 22)).alloc (.cells #[.int .i64 0] 3)) (w.heap.size + 2) (-1) (by simp)
    simpa using this
  have X0 : (((w.alloc (.cells #[.slice (some ⟨gl, off, none⟩) l.length c'] 22)).alloc (.cells #[.int .i64 0] 3)).alloc (.cells #[.int .i64 (-1)] 3)).heap[w.heap.size]? = some (.cells #[.slice (some ⟨gl, off, none⟩) l.length c'] 22 (0, 0)) := blk_alloc (blk_alloc (blk_new _ _) _) _
  have X1 : (((w.alloc (.cells #[.slice (some ⟨gl, off, none⟩) l.length c'] 22)).alloc (.cells #[.int .i64 0] 3)).alloc (.cells #[.int .i64 (-1)] 3)).heap[w.heap.size + 1]? = some (.cells #[.int .i64 0] 3 (0, 0)) := by
    have := blk_alloc (blk_new (w.alloc (.cells #[.slice (some ⟨gl, off, none⟩) l.length c'] 22)) (.cells #[.int .i64 0] 3)) (.cells #[.int .i64 (-1)] 3)
    simpa using this
  have HX0 := Lib.hid X0
  have HX1 := Lib.hid X1
  have HO := Lib.hid oE
  rw [← hlast] at hx0
  have HL := Lib.hid hlast
  generalize hla : lastC l = la at hx0 hl hw
  have HQ : Hid (la / 8 = (nw : Int)) := Lib.hid hw.1.symm
  have hnw2 : nw ≤ 512 := hw.2
  have Hlm := Lib.hid hlm
  have hm15 : m ≤ 15 := by omega
  have HC := Lib.hid hc
  clear hm hnw hx bE oE X0 X1 hlast hla hw hc
  rw [hlm] at hl ⊢ hx0 HX0 BE HX1 HO
  clear hlm
  have hl8 := hl.1
  have hl4 := hl.2.1
  clear hl
  go_enter Try.func15, Try.ntmps15
  go_wp2_with fail
  rw [HQ.out]
  go_loopw [5, 16] (fun v i wr => ∃ k : Nat, k ≤ nw ∧ i = .int .i64 k ∧ wr.ownsRow (w.heap.size + 2) 3 1 v (k + 1) (icells (tabTo l k)) ∧ wr.heap[w.heap.size]? = some (.cells #[.slice (some ⟨gl, off, none⟩) (m + 1) c'] 22 (0, 0)) ∧ wr.heap[w.heap.size + 1]? = some (.cells #[.int .i64 (atT l k : Nat)] 3 (0, 0)) ∧ Below w.heap.size w wr ∧ w.heap.size + 2 ≤ wr.heap.size) (fun _ i _ => nw - (intOf i).toNat)
  case atStart => exact ⟨0, Nat.zero_le _, rfl, HO.out, HX0.out, HX1.out, BE.out, by simp⟩
  case round =>
    obtain ⟨k, hk, rfl, hown, hx0', hx1', br, hz⟩ := hrel
    by_cases hlt : k < nw
    · have hs := at_step HM.out (k := k) (by rw [← HNW.out]; exact hlt)
      obtain ⟨r, hs1, hs2, hs3, hs4, hs5, hs6⟩ := hs
      have Hs1 := Lib.hid hs1
      have Hs2 := Lib.hid hs2
      have hH := H.out
      rw [Hlm.out] at hH
      have HE := Lib.hid (entry_any w wr w.heap.size (w.heap.size + 1) _ l (atT l k) r ((k : Int) + 1) hH br (by omega) hx0' hx1' (by omega) hs4 hs3 hs5 hs6 (by omega))
      have HX0' := Lib.hid hx0'
      have Hown := Lib.hid hown
      have hrl : r < 16 := by have := Hlm.out; omega
      clear hs1 hs2 hs4 hs5 hs6 hx0' hx1' hown hH
      go_wp2_with fail
      refine HE.out.mono ?_
      rintro e w3 ⟨rfl, x1, k3⟩
      have X1' := Lib.hid x1
      have X0' := Lib.hid (k3.blk HX0'.out (by omega))
      have b3 := below_keep br k3 br.size (fun i hi => by omega)
      have o3 := own_keep Hown.out k3 (fun i hi h => by have := (Hown.out.lt i hi).1; omega)
      have hz3 := k3.size
      have hnews := Lib.hid (new_cells w3 (icells [(r : Int)]) 3)
      have HS : Hid (icells (tabTo l k) ++ icells [(r : Int)] = icells (tabTo l (k + 1))) := Lib.hid (by rw [tabTo_succ, Hs1.out]; simp [icells])
      clear x1 k3
      go_wp2_with (at_builtin; refine wpList_append_own _ rfl _ _ 22 rfl (w.heap.size + 2) 3 i0 (.int .i64 0) 1 8 Try.underlying22 ei ez0 ez1 ez2 rfl (by decide) _ _ _ rfl (o3.alloc _) ⟨w3.heap.size, 0, none⟩ 1 1 _ rfl rfl hnews.out (icells_one [(r : Int)]) (by unfold maxLen; omega) (by omega) (by simp; omega) ?_; intro v2 w4 hown4 hgr4 _)
      have K4 := keep_append ((Keep.refl _ w3).alloc (.cells #[.int .i64 r] 3)) hgr4
      rw [HS.out] at hown4
      have hsp : ∀ i, u5.ownBlock = some i → w.heap.size + 2 ≤ i := fun i hi => (o3.lt i hi).1
      have X0'' := K4.blk X0'.out (fun h => by have := hsp _ h; omega)
      have X1'' := K4.blk X1'.out (fun h => by have := hsp _ h; omega)
      have b4 := below_keep b3 K4 b3.size (fun i hi => by have := hsp _ hi; omega)
      have hz4 := K4.size
      go_roundw
      case rel => exact ⟨k + 1, hlt, by go_num, hown4, X0'', by rw [Hs2.out]; exact X1'', b4, by omega⟩
      case measure => simp [intOf]; omega
    · obtain rfl : k = nw := by omega
      have HT : Hid (tabTo l k = tableP l) := Lib.hid (by rw [HNW.out]; rfl)
      have Hown := Lib.hid hown
      clear hx0' hx1' hown
      go_wp2_with fail
      go_ret
      refine ⟨_, rfl, ?_, br⟩
      rw [← HT.out]
      exact lv_of_own (by rw [tabTo_len]; exact Hown.out) (Nat.zero_le _)

set_option maxHeartbeats 4000000 in
theorem rtable_any (w : World) (v : Value) (l : List Int) (h : LV 0 w v l) (hm : mayB l 4096 = true) : Calls Try.prog 17 #[v] w fun e w' => ∃ v', e = .returned v' ∧ LV 0 w' v' (tableP l) ∧ Below w.heap.size w w' := by
  obtain ⟨i0, ei, ez0, ez1, ez2⟩ := info_parts Try.infoI
  have H := Lib.hid h
  have HM := Lib.hid hm
  have hl := may_last hm
  have hw := words_eq hm
  obtain ⟨nw, hnw⟩ : ∃ nw, nw = wordsC l := ⟨_, rfl⟩
  rw [← hnw] at hw
  have HNW := Lib.hid hnw
  obtain ⟨m, hlm⟩ : ∃ m, l.length = m + 1 := ⟨l.length - 1, by omega⟩
  have hlast : lastC l = l.getD m 0 := by unfold lastC; rw [hlm, Nat.add_sub_cancel]
  obtain ⟨gl, off, c', hv, hx⟩ := h.elem (k := m) (by omega)
  subst hv
  obtain ⟨av, c, hv, hc, hmx, _, _⟩ := h
  cases hv
  unfold maxLen at hmx
  rw [← hlast] at hx
  generalize hla : lastC l = la at hx hl hw
  have HQ : Hid (la / 8 = (nw : Int)) := Lib.hid hw.1.symm
  have hnw2 : nw ≤ 512 := hw.2
  have Hx := Lib.hid hx
  have Hlm := Lib.hid hlm
  have hm15 : m ≤ 15 := by omega
  have HC := Lib.hid hc
  have oE := Lib.hid (own_one w w.heap.size (-1) (Nat.le_refl _))
  have bE : Hid (Below w.heap.size w (w.alloc (.cells #[.int .i64 (-1)] 3))) := Lib.hid ((Below.refl _ _).alloc (Nat.le_refl _) _)
  clear hm hnw hx hlast hla hw hc
  rw [hlm] at hl ⊢
  clear hlm
  have hl8 := hl.1
  have hl4 := hl.2.1
  clear hl
  go_enter Try.func17, Try.ntmps17
  go_wp2_with fail
  go_loopw [3, 4] (fun v i wr => ∃ k : Nat, k ≤ nw ∧ i = .int .i64 ((k : Int) + 1) ∧ wr.ownsRow w.heap.size 3 1 v (k + 1) (icells (tabTo l k)) ∧ Below w.heap.size w wr) (fun _ i _ => (nw + 1 - intOf i).toNat)
  case atStart => exact ⟨0, Nat.zero_le _, rfl, oE.out, bE.out⟩
  case round =>
    obtain ⟨k, hk, rfl, hown, br⟩ := hrel
    have hx0 := Hx.out _ br
    by_cases hlt : k < nw
    · have hle := HQ.out
      have hle2 : (k : Int) + 1 ≤ la / 8 := by omega
      have hH := H.out
      rw [Hlm.out] at hH
      have HP := Lib.hid (rpick_any 0 wr _ l (8 * ((k : Int) + 1)) (hH.keep br))
      have HS : Hid (icells (tabTo l k) ++ icells [pickP l (8 * ((k : Int) + 1))] = icells (tabTo l (k + 1))) := Lib.hid (by rw [tabTo_succ]; simp [icells])
      have Hown := Lib.hid hown
      have br' := br
      clear hle hH hown
      go_wp2_with fail
      refine HP.out.mono ?_
      rintro e w3 ⟨rfl, rfl⟩
      have hnews := Lib.hid (new_cells wr (icells [pickP l (8 * ((k : Int) + 1))]) 3)
      have o3 := Hown.out
      clear hle2 hx0
      go_wp2_with (at_builtin; refine wpList_append_own _ rfl _ _ 22 rfl w.heap.size 3 i0 (.int .i64 0) 1 8 Try.underlying22 ei ez0 ez1 ez2 rfl (by decide) _ _ _ rfl (o3.alloc _) ⟨wr.heap.size, 0, none⟩ 1 1 _ rfl rfl hnews.out (icells_one [pickP l (8 * ((k : Int) + 1))]) (by unfold maxLen; omega) (by omega) (by simp; exact Nat.le_trans br'.size (Nat.le_succ _)) ?_; intro v2 w4 hown4 hgr4 _)
      have b4 := below_append br' o3 ((Keep.refl _ wr).alloc (.cells #[.int .i64 (pickP l (8 * ((k : Int) + 1)))] 3)) hgr4 br'.size
      rw [HS.out] at hown4
      go_roundw
      case rel => exact ⟨k + 1, hlt, by go_num, hown4, b4⟩
      case measure => simp [intOf]; omega
    · obtain rfl : k = nw := by omega
      have hle := HQ.out
      have hle2 : la / 8 < (k : Int) + 1 := by omega
      have HT : Hid (tabTo l k = tableP l) := Lib.hid (by rw [HNW.out]; rfl)
      have Hown := Lib.hid hown
      clear hown hle
      go_wp2_with fail
      go_ret
      refine ⟨_, rfl, ?_, br⟩
      rw [← HT.out]
      exact lv_of_own (by rw [tabTo_len]; exact Hown.out) (Nat.zero_le _)
end Go.Proofs.Ytbcmdpmliehojaa
