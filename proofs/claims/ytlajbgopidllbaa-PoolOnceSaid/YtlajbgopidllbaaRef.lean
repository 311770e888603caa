/- The contracts of the reference's pool: a value of two lists. -/
import Derived.Test.YtlajbgopidllbaaAwake
import Derived.Test.YtlajbgopidllbaaBox2
namespace Go.Proofs.Ytlajbgopidllbaa
open Go.RowKit
attribute [local go_sem] Oper.semAt_some

/-- a list of whole numbers, by its value: nil or where it lies -/
def LV (B : Nat) (w : World) (v : Value) (l : List Int) : Prop := ∃ (a : Option Addr) (c : Nat), v = .slice a l.length c ∧ l.length ≤ c ∧ c ≤ maxLen ∧ ((a = none → c = 0) ∧ ∀ x, a = some x → B ≤ x.block) ∧ Reads .i64 w a l
theorem LV.keep {B : Nat} {w w' : World} {v : Value} {l : List Int} (h : LV B w v l) (k : Below w.heap.size w w') : LV B w' v l := by
  obtain ⟨a, c, h1, h2, h3, h4, h5⟩ := h
  exact ⟨a, c, h1, h2, h3, h4, h5.keep k⟩
def icells (l : List Int) : List Value := l.map (Value.int .i64)
theorem icells_one (l : List Int) : ∀ u ∈ icells l, u.oneCell' = true := by
  intro u hu
  simp only [icells, List.mem_map] at hu
  obtain ⟨x, _, rfl⟩ := hu
  rfl
theorem lv_readV {B : Nat} {w : World} {v : Value} {l : List Int} (h : LV B w v l) : ReadV w v l.length (icells l) := by
  obtain ⟨a, c, rfl, h2, _, h3, h4⟩ := h
  cases a with
  | none =>
    have h0 := h3.1 rfl
    have hl : l.length = 0 := by omega
    have : l = [] := List.eq_nil_of_length_eq_zero hl
    subst this
    subst h0
    exact .inl ⟨rfl, rfl, rfl⟩
  | some ad =>
    refine .inr ⟨ad, c, rfl, fun j u hj => ?_⟩
    rcases h4 with h | ⟨b, off, hb, h⟩
    · have : l = [] := List.eq_nil_of_length_eq_zero h
      subst this
      simp [icells] at hj
    · cases hb
      rw [WideShapes.add_plain]
      have hjl : j < l.length := by
        rcases Nat.lt_or_ge j l.length with h' | h'
        · exact h'
        · simp [icells, List.getElem?_eq_none h'] at hj
      rw [h j hjl]
      simp [icells, hjl] at hj
      simp [List.getD, hjl, hj]
theorem lv_of_own {B : Nat} {w : World} {base : Nat} {v : Value} {l : List Int} (h : w.ownsRow base 3 1 v l.length (icells l)) (hB : B ≤ base) : LV B w v l := by
  obtain ⟨h1, h2 | ⟨g, cap, cur, rfl, hb, hgg, hc, hm, hs, htake⟩⟩ := h
  · obtain ⟨rfl, h0⟩ := h2
    exact ⟨none, 0, by rw [h0], by omega, Nat.zero_le _, ⟨fun _ => rfl, nofun⟩, .inl h0⟩
  · refine ⟨_, cap, rfl, hc, hm, ⟨nofun, fun x hx => by cases hx; exact Nat.le_trans hB hb⟩, .inr ⟨g, 0, rfl, fun i hi => ?_⟩⟩
    have h' : w.ownsRow base 3 1 (.slice (some ⟨g, 0, none⟩) l.length cap) l.length (icells l) := ⟨h1, .inr ⟨g, cap, cur, rfl, hb, hgg, hc, hm, hs, htake⟩⟩
    have := h'.cells (g := g) rfl i (.int .i64 (l.getD i 0)) (by simp [icells, List.getD, hi])
    rw [WideShapes.add_plain] at this
    exact this
theorem LV.elem {B : Nat} {w : World} {v : Value} {l : List Int} (h : LV B w v l) {k : Nat} (hk : k < l.length) : ∃ b off c, v = .slice (some ⟨b, off, none⟩) l.length c ∧ ∀ wr, Below w.heap.size w wr → wr.cell? ⟨b, off + k, none⟩ = some (.int .i64 (l.getD k 0)) := by
  obtain ⟨a, c, rfl, _, _, _, h4⟩ := h
  obtain ⟨b, off, rfl, hx⟩ := h4.elems hk
  exact ⟨b, off, c, rfl, hx⟩
theorem lv_nil (B : Nat) (w : World) : LV B w (.slice none 0 0) [] := ⟨none, 0, rfl, Nat.le_refl _, Nat.zero_le _, ⟨fun _ => rfl, nofun⟩, .inl rfl⟩
theorem Try.infoI : (Try.prog.info? 3).map (fun i => (i.zero, i.size, i.bytes)) = some (some (.int .i64 0), 1, 8) := by kernel_rfl

/-- the reference's pool -/
def RP (B : Nat) (w : World) (v : Value) (os fr : List Int) : Prop := ∃ vo vf, v = .agg #[vo, vf] ∧ LV B w vo os ∧ LV B w vf fr
theorem RP.keep {B : Nat} {w w' : World} {v : Value} {os fr : List Int} (h : RP B w v os fr) (k : Below w.heap.size w w') : RP B w' v os fr := by
  obtain ⟨vo, vf, h1, h2, h3⟩ := h
  exact ⟨vo, vf, h1, h2.keep k, h3.keep k⟩

theorem rnew_bad (w : World) (n : Int) (h : n < 1 ∨ 1024 < n) : Calls Try.prog 15 #[.int .i64 n] w fun e w' => e = .returned (.tuple #[.agg #[.slice none 0 0, .slice none 0 0], .int .i64 1]) ∧ Below w.heap.size w w' := by
  have hb : Below w.heap.size w ((w.alloc (.cells #[.slice none 0 0, .slice none 0 0] 27)).alloc (.cells #[.slice none 0 0, .slice none 0 0] 27)) := ((Below.refl _ _).alloc (Nat.le_refl _) _).alloc (by simp) _
  by_cases h1 : n < 1
  · clear h
    go_enter Try.func15, Try.ntmps15
    go_wp2_with fail
    exact bodyPost_ret (v := .tuple #[.agg #[.slice none 0 0, .slice none 0 0], .int .i64 1]) (by simp [results, Try.results15, go_sem]) rfl ⟨rfl, hb⟩
  · have h2 : 1024 < n := by omega
    clear h
    go_enter Try.func15, Try.ntmps15
    go_wp2_with fail
    exact bodyPost_ret (v := .tuple #[.agg #[.slice none 0 0, .slice none 0 0], .int .i64 1]) (by simp [results, Try.results15, go_sem]) rfl ⟨rfl, hb⟩

def ones (k : Nat) : List Int := List.replicate k (-1)
def upto (k : Nat) : List Int := (List.range k).map fun i : Nat => (i : Int)
theorem ones_succ (k : Nat) : ones k ++ [-1] = ones (k + 1) := by unfold ones; rw [List.replicate_succ']
theorem upto_succ (k : Nat) : upto k ++ [(k : Int)] = upto (k + 1) := by unfold upto; rw [List.range_succ, List.map_append]; rfl
theorem ones_len (k : Nat) : (ones k).length = k := by simp [ones]
theorem upto_len (k : Nat) : (upto k).length = k := by simp [upto]

/-- while it is made: the two lists in the box, each in its own row -/
def Mk (B g : Nat) (w : World) (a b : List Int) : Prop := ∃ va vb, w.heap[g]? = some (.cells #[va, vb] 27 (0, 0)) ∧ w.ownsRow B 3 1 va a.length (icells a) ∧ w.ownsRow B 3 1 vb b.length (icells b) ∧ Apart va vb
set_option maxHeartbeats 2000000 in
theorem rnew_any (w : World) (n : Nat) (h1 : 1 ≤ n) (h2 : n ≤ 1024) : Calls Try.prog 15 #[.int .i64 n] w fun e w' => ∃ v, e = .returned (.tuple #[v, .int .i64 0]) ∧ RP w.heap.size w' v (ones n) (upto n) ∧ Below w.heap.size w w' := by
  obtain ⟨i0, ei, ez0, ez1, ez2⟩ := info_parts Try.infoI
  go_enter Try.func15, Try.ntmps15
  go_wp2_with fail
  go_loopw [5] (fun v wr => ∃ (k : Nat), v = .int .i64 k ∧ k ≤ n ∧ Mk (w.heap.size + 2) (w.heap.size + 1) wr (ones k) (upto k) ∧ (∃ z0 z1, wr.heap[w.heap.size]? = some (.cells #[z0, z1] 27 (0, 0))) ∧ Below w.heap.size w wr ∧ w.heap.size + 2 ≤ wr.heap.size) (fun v _ => n - (intOf v).toNat)
  case atStart =>
    refine ⟨0, rfl, Nat.zero_le _, ⟨_, _, ?_, World.ownsRow_nil _ _ _ _, World.ownsRow_nil _ _ _ _, by simp [Apart, Value.ownBlock]⟩, ⟨_, _, blk_alloc (blk_new _ _) _⟩, ((Below.refl _ _).alloc (Nat.le_refl _) _).alloc (by simp) _, by simp⟩
    have := blk_new (w.alloc (.cells #[.slice none 0 0, .slice none 0 0] 27)) (.cells #[.slice none 0 0, .slice none 0 0] 27)
    simpa using this
  case round =>
    obtain ⟨k, rfl, hk, ⟨va, vb, hbx, oa, ob, hdis⟩, ⟨z0, z1, hz⟩, br, hsz⟩ := hrel
    have ca := blk_cell hbx 0
    have cb := blk_cell hbx 1
    by_cases hlt : k < n
    · have la := ones_len k
      have lb := upto_len k
      rw [la] at oa
      rw [lb] at ob
      have Hbx := Lib.hid hbx
      have hnews1 := Lib.hid (new_cells wr (icells [-1]) 3)
      have Hdis := Lib.hid hdis
      clear hbx hdis
      go_wp2_with (first
        | (at_builtin; refine wpList_append_own_at _ rfl (.tmp 19) (.tmp 20) 25 rfl (w.heap.size + 2) 3 i0 (.int .i64 0) 1 8 Try.underlying25 ei ez0 ez1 ez2 rfl (by decide) _ _ _ rfl (oa.alloc _) ⟨wr.heap.size, 0, none⟩ 1 1 _ rfl rfl hnews1.out (icells_one [-1]) (by unfold maxLen; omega) (by omega) (by simp; omega) ?_; intro va' w2 oa2 hgr2 _ hat2; have E := box2_fst Hbx.out oa ob (by omega) Hdis.out hgr2 oa2 hat2; obtain ⟨e1, e2, e3, e4, e5, e6⟩ := E; have F := own_succ oa2; obtain ⟨ga, cpa, rfl⟩ := F; have d0 := blk_cell e1 0; have f0 := blk_frozen e1 0; have Hbx2 := Lib.hid e2; have Hap2 := Lib.hid e5; have He6 := Lib.hid e6; have d1 := blk_cell e2 1; have f1 := blk_frozen e2 1; have hnews2 := Lib.hid (new_cells_set w2 ⟨w.heap.size + 1, 0, none⟩ (.slice (some ⟨ga, 0, none⟩) (k + 1) cpa) (icells [(k : Int)]) 3); clear e1 e2 e5 e6)
        | (at_builtin; refine wpList_append_own_at _ rfl (.tmp 24) (.tmp 26) 25 rfl (w.heap.size + 2) 3 i0 (.int .i64 0) 1 8 Try.underlying25 ei ez0 ez1 ez2 rfl (by decide) _ _ _ rfl (e4.alloc _) ⟨w2.heap.size, 0, none⟩ 1 1 _ rfl rfl hnews2.out (icells_one [(k : Int)]) (by unfold maxLen; omega) (by omega) (by have := He6.out.size; simp at this ⊢; omega) ?_; intro vb' w3 ob3 hgr3 _ hat3; have E := box2_snd Hbx2.out e4 e3 (by omega) Hap2.out.symm hgr3 ob3 hat3; obtain ⟨e1, e2, e3', e4', e5, e6⟩ := E; have F := own_succ ob3; obtain ⟨gb, cpb, rfl⟩ := F; have q0 := blk_cell e1 1; have q1 := blk_frozen e1 1))
      have K1 : Keep (fun i => w.heap.size + 1 ≤ i) wr _ := He6.out.mono (fun i hi => .inl (by rcases hi with rfl | hi; exact Nat.le_refl _; have := (oa.lt i hi).1; omega))
      have K2 := K1.then e6 (fun i hi => .inl (by rcases hi with rfl | hi; exact Nat.le_refl _; have := (e4.lt i hi).1; omega))
      go_roundw
      case rel =>
        refine ⟨k + 1, by go_num, hlt, ⟨_, _, e2, ?_, ?_, e5.symm⟩, ⟨z0, z1, ?_⟩, ?_, ?_⟩
        · rw [ones_len, ← ones_succ]; simpa [icells] using e4'
        · rw [upto_len, ← upto_succ]; simpa [icells] using e3'
        · exact K2.blk hz (fun h => by omega)
        · exact below_keep br K2 br.size (fun i hi => by omega)
        · exact Nat.le_trans hsz K2.size
      case measure => simp [intOf]; omega
    · obtain rfl : n = k := by omega
      obtain ⟨aa, ac, rfl, _⟩ := own_slice oa
      obtain ⟨ab, bc, rfl, _⟩ := own_slice ob
      have y0 := blk_cell hz 0
      have y1 := blk_cell hz 1
      have f0 := blk_frozen hz 0
      have f1 := blk_frozen hz 1
      have K : Keep (fun i => i = w.heap.size) wr ((wr.setCell ⟨w.heap.size, 0, none⟩ (.slice aa (ones n).length ac)).setCell ⟨w.heap.size, 1, none⟩ (.slice ab (upto n).length bc)) := ((Keep.refl (fun i => i = w.heap.size) wr).setCell (.inl rfl) _).setCell (.inl rfl) _
      have hr : ((wr.setCell ⟨w.heap.size, 0, none⟩ (.slice aa (ones n).length ac)).setCell ⟨w.heap.size, 1, none⟩ (.slice ab (upto n).length bc)).heap[w.heap.size]? = some (.cells #[.slice aa (ones n).length ac, .slice ab (upto n).length bc] 27 (0, 0)) := by
        have := blk_set (blk_set hz 0 (.slice aa (ones n).length ac)) 1 (.slice ab (upto n).length bc)
        simpa using this
      have oa' := own_keep oa K (fun i hi h => by have := (oa.lt i hi).1; omega)
      have ob' := own_keep ob K (fun i hi h => by have := (ob.lt i hi).1; omega)
      have hfin : RP w.heap.size ((wr.setCell ⟨w.heap.size, 0, none⟩ (.slice aa (ones n).length ac)).setCell ⟨w.heap.size, 1, none⟩ (.slice ab (upto n).length bc)) (.agg #[.slice aa (ones n).length ac, .slice ab (upto n).length bc]) (ones n) (upto n) ∧ Below w.heap.size w ((wr.setCell ⟨w.heap.size, 0, none⟩ (.slice aa (ones n).length ac)).setCell ⟨w.heap.size, 1, none⟩ (.slice ab (upto n).length bc)) :=
        ⟨⟨_, _, rfl, lv_of_own oa' (by omega), lv_of_own ob' (by omega)⟩, below_keep br K br.size (fun i hi => by omega)⟩
      have Hfin := Lib.hid hfin
      have r0 := blk_cell hr 0
      have r1 := blk_cell hr 1
      clear hfin K oa' ob' hr
      go_wp2_with fail
      exact bodyPost_ret (v := .tuple #[.agg #[.slice aa (ones n).length ac, .slice ab (upto n).length bc], .int .i64 0]) (by simp [results, Try.results15, go_sem, r0, r1]) rfl ⟨_, rfl, Hfin.out⟩
end Go.Proofs.Ytlajbgopidllbaa
