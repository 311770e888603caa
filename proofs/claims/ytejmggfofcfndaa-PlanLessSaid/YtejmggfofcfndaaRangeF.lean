/- A law for 'for .. := range g(..)' where the iterator keeps state of its own in cells: the caller and the iterator agree on what holds where yield is called, and behind each round. No program in sight. -/
import Derived.Test.YtejmggfofcfndaaFrame
import Derived.RangeFuncNested
import Derived.RangeFuncBound
import Derived.RangeFuncCalls
import Derived.RangeFuncLeaves
import Derived.Shelf.Abstract
import Derived.Shelf.RegionOpen
import Derived.OwnWalkIn
import Derived.TacticsInMore
import Derived.LoopNIn
import Derived.LoopIn
namespace Go.Proofs.Ytejmggfofcfndaa
open Go.RowKit Go.Shelf

/-- a predicate that minds no turn of a block at or beyond B that is no cells -/
def Firm (B : Nat) (X : World → Prop) : Prop := ∀ W l o o', B ≤ l → W.heap[l]? = some o → o.isCells = false → X W → X (W.putObj l o')

theorem putObj_keep {W : World} {l : Nat} {o o' : Obj} {g : Nat} {p : Obj} (hg : W.heap[g]? = some p) (hp : p.isCells = true) (hl : W.heap[l]? = some o) (ho : o.isCells = false) : (W.putObj l o').heap[g]? = some p := by
  have hne : g ≠ l := by intro e; subst e; rw [hl] at hg; cases hg; rw [ho] at hp; cases hp
  exact (World.putObj_heap_other hne).trans hg
theorem Firm.blk (B g : Nat) {p : Obj} (hp : p.isCells = true) : Firm B (fun W => W.heap[g]? = some p) := fun _ _ _ _ _ hl ho h => putObj_keep h hp hl ho
theorem Firm.and {B : Nat} {X Y : World → Prop} (h : Firm B X) (k : Firm B Y) : Firm B (fun W => X W ∧ Y W) := fun W l o o' hB hl ho hx => ⟨h W l o o' hB hl ho hx.1, k W l o o' hB hl ho hx.2⟩
theorem Firm.below {B n₀ : Nat} {w : World} (hB : n₀ ≤ B) : Firm B (fun W => Below n₀ w W) := fun W l o o' hl h _ hx =>
  hx.grown (grownBy_putObj' W l o') (by have := (Array.getElem?_eq_some_iff.1 h).1; omega) (fun k e => by cases e; omega)
theorem Firm.pure (B : Nat) (p : Prop) : Firm B (fun _ => p) := fun _ _ _ _ _ _ _ h => h
theorem Firm.ex {B : Nat} {β : Type} {X : β → World → Prop} (h : ∀ b, Firm B (X b)) : Firm B (fun W => ∃ b, X b W) := fun W l o o' hB hl ho ⟨b, hx⟩ => ⟨b, h b W l o o' hB hl ho hx⟩
theorem Firm.own {B : Nat} (base : Nat) (e : TypeId) (size : Nat) (v : Value) (n : Nat) (xs : List Value) : Firm B (fun W => W.ownsRow base e size v n xs) := fun _ _ _ _ _ hl ho h => ownsRow_putObj h _ hl ho

/-- blocks of cells lie as they lay, but those of T -/
def KeepC (T : Nat → Prop) (W W' : World) : Prop := W.heap.size ≤ W'.heap.size ∧ ∀ k o, W.heap[k]? = some o → o.isCells = true → ¬ T k → W'.heap[k]? = some o
theorem KeepC.refl (T : Nat → Prop) (W : World) : KeepC T W W := ⟨Nat.le_refl _, fun _ _ h _ _ => h⟩
theorem KeepC.of_keep {T : Nat → Prop} {W W' : World} (h : Keep T W W') : KeepC T W W' := ⟨h.size, fun k _ hk _ hT => (h.block k (blk_lt hk) hT).trans hk⟩
theorem KeepC.trans {T : Nat → Prop} {A B C : World} (h : KeepC T A B) (k : KeepC T B C) : KeepC T A C := ⟨Nat.le_trans h.1 k.1, fun i o hi ho hT => k.2 i o (h.2 i o hi ho hT) ho hT⟩

theorem keepsOthers_of_keep {S : Nat → Prop} {W W' : World} (h : Keep S W W') (hS : ∀ k o, S k → W.heap[k]? = some o → o.isCells = true) : KeepsOthers W W' :=
  ⟨h.size, fun k o hk ho => h.blk hk (fun hs => by have := hS k o hs hk; rw [ho] at this; cases this)⟩
theorem own_isCells {w : World} {base : Nat} {e : TypeId} {size n : Nat} {v : Value} {xs : List Value} (h : w.ownsRow base e size v n xs) {k : Nat} {o : Obj} (hk : v.ownBlock = some k) (ho : w.heap[k]? = some o) : o.isCells = true := by
  rcases h.2 with ⟨rfl, _⟩ | ⟨g, cap, cur, rfl, _, hgb, _⟩
  · simp [Value.ownBlock] at hk
  · obtain rfl : g = k := by simpa [Value.ownBlock] using hk
    rw [hgb] at ho
    cases ho
    rfl

/-- how a round's body may be left -/
def bodyEnds (T : Nat → Prop) (Post : World → Prop) (Stop : Code → World → Prop) (W : World) : Exit → Act → World → Prop
  | .normal, _, W' => KeepsOthers W W' ∧ Post W' ∧ KeepC T W W'
  | .ret, _, W' => KeepsOthers W W' ∧ Stop .ret W'
  | .exit id, _, W' => KeepsOthers W W' ∧ Stop (.exit id) W'
  | .goto t, _, W' => KeepsOthers W W' ∧ Stop (.goto t) W'
  | .panic _, _, _ => False
  | .outgrown, _, _ => False

variable {F : Fence} {n : Nat} {P : Program}

theorem wpIn_range {α : Type} {g : Operand} {ps : Array Tmp} {assign body : Code} {Q : Exit → Act → World → Prop} {a : Act} {w : World}
    (hro : F.round = none) (h1 : 1 ≤ n) {gf : Nat} {lb : Array Value} (hg : a.eval g = .func (.func gf) #[] lb) (hFg : F.fn gf) (eg : ∀ args w, (callFunc gf args).run P w = .ok (.enter gf args) w)
    (encs : α → Array Value) (hps : ∀ x, (encs x).size = ps.size) (Pre Post : α → World → Prop) (Stop : Code → World → Prop) (End : World → Prop)
    (T : World → Nat → Prop) (hT : ∀ W l o o' k, w.heap.size ≤ l → W.heap[l]? = some o → o.isCells = false → T (W.putObj l o') k → T W k)
    (hPost : ∀ x, Firm w.heap.size (Post x)) (hStop : ∀ c, Firm w.heap.size (Stop c)) (hEnd : Firm w.heap.size End)
    (hiter : ∀ (l : Nat) (Lp Lx : World → Prop) (W1 : World), (∀ W W', Lp W → KeepsOthers W W' → Lp W') → Below w.heap.size w W1 → W1.heap.size = w.heap.size + 2 → Lp W1 →
      (∀ x W, Pre x W → Lp W → YieldAt F (n - 1 - 1) P l (encs x) W fun e W' => (e = .returned (.bool true) ∧ Post x W' ∧ KeepC (T W) W W' ∧ Lp W') ∨ (e = .returned (.bool false) ∧ Lx W')) →
      CallsIn F (n - 1) P gf (#[.func (.yield l) #[] #[]] ++ lb) W1 fun e W' => (∃ v, e = .returned v) ∧ ((End W' ∧ Lp W') ∨ Lx W'))
    (Mid : α → Act → World → Prop) (hMid : ∀ x a', Firm w.heap.size (Mid x a'))
    (hassign : ∀ (l : Nat) (x : α) (W : World) (K : Act → World → Prop), Pre x W → (∀ a' W', KeepsOthers W W' → KeepC (T W) W W' → (∀ k, k < W.heap.size → T W' k → T W k) → Mid x a' W' → K a' W') →
      assign.wpIn (F.inRound l) (n - 1 - 1) P (Exit.then K (fun _ _ _ => False)) { tmps := (ps.zip (encs x)).foldl (fun t (p, v) => t.setIfInBounds p v) a.tmps, defers := [] } W)
    (hbody : ∀ (l : Nat) (x : α) (a' : Act) (W : World), Mid x a' W → body.wpIn (F.inRound l) (n - 1 - 1) P (bodyEnds (T W) (Post x) Stop W) a' W)
    (hdone : ∀ (D : Nat) (W : World), w.heap.size ≤ D → End W → W.heap[D]? = some (.deferred (some [])) → Q .normal { a with defers := { target := .collected D, args := #[] } :: a.defers } W)
    (hstop : ∀ (D : Nat) (c : Code) (W : World), w.heap.size ≤ D → Stop c W → W.heap[D]? = some (.deferred (some [])) → c.wpIn F n P Q { a with defers := { target := .collected D, args := #[] } :: a.defers } W) :
    (Code.rangeFunc g ps assign body).wpIn F n P Q a w := by
  refine wpIn_rangeFunc ?_
  intro fn hfn
  rw [hro]
  obtain ⟨rec, hrec⟩ : ∃ rec : LoopState → Option Code → Loop, rec = fun st pe => { state := st, pending := pe, fn, tmps := a.tmps, params := ps, assign, body, defers := w.heap.size } := ⟨_, rfl⟩
  obtain ⟨W1, hW1⟩ : ∃ W1, (w.alloc (.deferred (some []))).alloc (.loop (rec .ready none)) = W1 := ⟨_, rfl⟩
  have hL1 : W1.heap[w.heap.size + 1]? = some (.loop (rec .ready none)) := by
    rw [← hW1]; have := World.alloc_heap_new (w.alloc (.deferred (some []))) (.loop (rec .ready none)); rwa [World.size_alloc] at this
  have hK1 : W1.heap[w.heap.size]? = some (.deferred (some [])) := by
    rw [← hW1]; exact (Below.heap_alloc _ _ _ (by simp)).trans (World.alloc_heap_new w _)
  have hb1 : Below w.heap.size w W1 := by rw [← hW1]; exact ((Below.refl _ w).alloc (Nat.le_refl _) _).alloc (by simp) _
  have hs1 : W1.heap.size = w.heap.size + 2 := by rw [← hW1]; simp
  refine ⟨w.heap.size + 1, [{ target := .collected w.heap.size, args := #[] }], W1, { target := .fn (.func gf) lb, args := #[.func (.yield (w.heap.size + 1)) #[] #[]] }, W1, gf,
    #[.func (.yield (w.heap.size + 1)) #[] #[]] ++ lb, W1, ?_, ?_, ?_, ?_, fun _ => h1, ?_⟩
  · rw [← hW1, hrec]; exact run_enterLoop_outer _ _ _ _ _
  · simp only [resolve, hg]
    simp [go_sem]
  · intro f' hf'; simp [Target.leads] at hf'; subst hf'; exact hFg
  · simp [invoke, go_sem, eg]
  · refine (hiter (w.heap.size + 1)
      (fun W => W.heap[w.heap.size + 1]? = some (.loop (rec .ready none)) ∧ W.heap[w.heap.size]? = some (.deferred (some [])))
      (fun W => ∃ c, Stop c W ∧ W.heap[w.heap.size + 1]? = some (.loop (rec .done (some c))) ∧ W.heap[w.heap.size]? = some (.deferred (some [])))
      W1 (fun W W' h k => ⟨k.same _ _ h.1 rfl, k.same _ _ h.2 rfl⟩) hb1 hs1 ⟨hL1, hK1⟩ ?_).mono ?_
    · rintro x W hi ⟨hl, hk⟩
      have hy := run_yield (P := P) (args := encs x) hl (by rw [hrec]; exact hps x)
      rw [hrec] at hy
      refine ⟨fn, _, assign, body, hy, roundIn_of_wpIn hfn (hassign _ x W _ hi ?_)⟩
      intro a' Wa hKa hCa hTa hma
      have hla := hKa.same _ _ hl rfl
      have hka := hKa.same _ _ hk rfl
      refine ⟨_, run_beginRound hla (by rw [hrec]), ?_⟩
      have hlt : w.heap.size + 1 < Wa.heap.size := (Array.getElem?_eq_some_iff.1 hla).1
      have hl2 : (Wa.putObj (w.heap.size + 1) (.loop { rec .ready none with state := .busy })).heap[w.heap.size + 1]? = some (.loop { rec .ready none with state := .busy }) := World.putObj_heap_same hlt
      have hk2 : (Wa.putObj (w.heap.size + 1) (.loop { rec .ready none with state := .busy })).heap[w.heap.size]? = some (.deferred (some [])) := (World.putObj_heap_other (by omega)).trans hka
      refine wpIn_mono (hbody _ x a' _ (hMid x a' _ _ _ _ (by omega) hla rfl hma)) ?_
      have fin : ∀ (jump : Option Code) (W3 : World), KeepsOthers (Wa.putObj (w.heap.size + 1) (.loop { rec .ready none with state := .busy })) W3 →
          (Instr.endRound (w.heap.size + 1) jump).run P W3 = .ok (.bool jump.isNone) (W3.putObj (w.heap.size + 1) (.loop (rec (if jump.isNone then .ready else .done) jump))) ∧
          W3.heap[w.heap.size + 1]? = some (.loop { rec .ready none with state := .busy }) ∧
          (W3.putObj (w.heap.size + 1) (.loop (rec (if jump.isNone then .ready else .done) jump))).heap[w.heap.size + 1]? = some (.loop (rec (if jump.isNone then .ready else .done) jump)) ∧
          (W3.putObj (w.heap.size + 1) (.loop (rec (if jump.isNone then .ready else .done) jump))).heap[w.heap.size]? = some (.deferred (some [])) := fun jump W3 hk3 => by
        have hl3 := hk3.same _ _ hl2 rfl
        have h5 := run_endRound (P := P) jump hl3
        rw [hrec] at h5 ⊢
        exact ⟨h5, by rw [hrec] at hl3; exact hl3, World.putObj_heap_same (Array.getElem?_eq_some_iff.1 hl3).1, (World.putObj_heap_other (by omega)).trans (hk3.same _ _ hk2 rfl)⟩
      rintro e a3 W3 hp
      cases e with
      | normal =>
        obtain ⟨hk3, hi3, hc3⟩ := hp
        obtain ⟨hr, hl3, hl4, hk4⟩ := fin none W3 hk3
        refine ⟨_, _, hr, .inl ⟨rfl, hPost x _ _ _ _ (by omega) hl3 rfl hi3, ⟨?_, fun k o hk' ho hTk => ?_⟩, hl4, hk4⟩⟩
        · have h6 := hc3.1
          have h7 := hCa.1
          simp at h6 ⊢
          omega
        · exact putObj_keep (hc3.2 k o (putObj_keep (hCa.2 k o hk' ho hTk) ho hla rfl) ho (fun h => hTk (hTa k (blk_lt hk') (hT _ _ _ _ _ (by omega) hla rfl h)))) ho hl3 rfl
      | ret =>
        obtain ⟨hk3, hi3⟩ := hp
        obtain ⟨hr, hl3, hl4, hk4⟩ := fin (some .ret) W3 hk3
        exact ⟨_, _, hr, .inr ⟨rfl, .ret, hStop _ _ _ _ _ (by omega) hl3 rfl hi3, hl4, hk4⟩⟩
      | exit id =>
        obtain ⟨hk3, hi3⟩ := hp
        obtain ⟨hr, hl3, hl4, hk4⟩ := fin (some (.exit id)) W3 hk3
        exact ⟨_, _, hr, .inr ⟨rfl, .exit id, hStop _ _ _ _ _ (by omega) hl3 rfl hi3, hl4, hk4⟩⟩
      | goto t =>
        obtain ⟨hk3, hi3⟩ := hp
        obtain ⟨hr, hl3, hl4, hk4⟩ := fin (some (.goto t)) W3 hk3
        exact ⟨_, _, hr, .inr ⟨rfl, .goto t, hStop _ _ _ _ _ (by omega) hl3 rfl hi3, hl4, hk4⟩⟩
      | panic ch => exact hp.elim
      | outgrown => exact hp.elim
    · rintro e W2 ⟨⟨v, rfl⟩, (⟨hi, hl, hk⟩ | ⟨c, hi, hl, hk⟩)⟩
      · exact ⟨none, _, by have h5 := run_endLoop (P := P) hl (by rw [hrec]; simp); rw [hrec] at h5; exact h5, hdone _ _ (Nat.le_refl _) (hEnd _ _ _ _ (by omega) hl rfl hi) ((World.putObj_heap_other (by omega)).trans hk)⟩
      · exact ⟨some c, _, by have h5 := run_endLoop (P := P) hl (by rw [hrec]; simp); rw [hrec] at h5; exact h5, hstop _ c _ (Nat.le_refl _) (hStop c _ _ _ _ (by omega) hl rfl hi) ((World.putObj_heap_other (by omega)).trans hk)⟩
end Go.Proofs.Ytejmggfofcfndaa
