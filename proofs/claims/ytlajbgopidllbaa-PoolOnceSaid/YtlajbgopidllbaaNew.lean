/- The contract of pool.New: all pages are free, each ahead of the one behind it. -/
import Derived.Test.YtlajbgopidllbaaPool
namespace Go.Proofs.Ytlajbgopidllbaa
open Go.RowKit

/-- the first k pages are threaded -/
def osK (k : Nat) : Nat → Int := fun j => if j < k then -1 else 0
def nxK (k : Nat) : Nat → Int := fun j => if j < k then (j : Int) + 1 else 0
theorem osK_succ (k : Nat) : upd (osK k) k (-1) = osK (k + 1) := by
  funext j; unfold upd osK
  by_cases h : j = k
  · rw [if_pos h, if_pos (by omega)]
  · rw [if_neg h]
    by_cases h2 : j < k
    · rw [if_pos h2, if_pos (by omega)]
    · rw [if_neg h2, if_neg (by omega)]
theorem nxK_succ (k : Nat) : upd (nxK k) k (k + 1) = nxK (k + 1) := by
  funext j; unfold upd nxK
  by_cases h : j = k
  · subst h; rw [if_pos rfl, if_pos (by omega)]
  · rw [if_neg h]
    by_cases h2 : j < k
    · rw [if_pos h2, if_pos (by omega)]
    · rw [if_neg h2, if_neg (by omega)]

theorem each_any (w : World) (g gp n : Nat) (h : PS w g gp n (osK 0) (nxK 0) 0 0) :
    Calls Try.prog 22 #[ptr g, .func (.func 23) #[ptr g] #[]] w fun e w' => e = .returned (.tuple #[]) ∧ PS w' g gp n (osK n) (nxK n) 0 0 ∧ Keep (fun k => k = gp) w w' := by
  have c0 := blk_cell h.1 0
  have hn := h.2.2.2
  have H := Lib.hid h
  clear h
  go_enter Try.func22, Try.ntmps22
  go_wp2_with fail
  go_loopw [10] (fun v wr => ∃ k : Nat, v = .int .i64 k ∧ k ≤ n ∧ PS wr g gp n (osK k) (nxK k) 0 0 ∧ Keep (fun k => k = gp) w wr) (fun v _ => n - (intOf v).toNat)
  case atStart => exact ⟨0, rfl, Nat.zero_le _, H.out, Keep.refl _ _⟩
  case round =>
    obtain ⟨k, rfl, hk, hp, hkp⟩ := hrel
    have Hp := Lib.hid hp
    clear hp
    by_cases hlt : k < n
    · go_wp2_with fail
      refine (thread_any wr g gp n k (osK k) (nxK k) 0 0 Hp.out hlt).mono ?_
      rintro e w2 ⟨rfl, hp2, hk2⟩
      rw [osK_succ, nxK_succ] at hp2
      have Hp2 := Lib.hid hp2
      clear hp2
      go_wp2_with fail
      go_roundw
      case rel => exact ⟨k + 1, by go_num, hlt, Hp2.out, hkp.trans hk2⟩
      case measure => simp [intOf]; omega
    · obtain rfl : k = n := by omega
      go_wp2_with fail
      go_returns
      exact ⟨rfl, Hp.out, hkp⟩
theorem new_bad (w : World) (n : Int) (h : n < 1 ∨ 1024 < n) : Calls Try.prog 14 #[.int .i64 n] w fun e w' => e = .returned (.tuple #[.pointer none, .int .i64 1]) ∧ w = w' := by
  by_cases h1 : n < 1
  · clear h
    go_enter Try.func14, Try.ntmps14
    go_wp2_with fail
    go_ret2
    exact ⟨rfl, rfl⟩
  · have h2 : 1024 < n := by omega
    clear h
    go_enter Try.func14, Try.ntmps14
    go_wp2_with fail
    go_ret2
    exact ⟨rfl, rfl⟩
theorem Try.infoPage : (Try.prog.info? 52).map (fun i => (i.zero, i.size, i.bytes)) = some (some (.agg #[.int .i64 0, .int .i64 0]), 2, 16) := by kernel_rfl
theorem make_row (w : World) (n : Nat) (h : n ≤ 1024) : ∃ cs : Array Value, (∀ (kl kc : IntKind), (Instr.makeSlice 53 (.int kl n) (.int kc n)).run Try.prog w = .ok (.slice (some ⟨w.heap.size, 0, none⟩) n n) (w.alloc (.cells cs 52))) ∧ cs.size = n * 2 ∧ ∀ i, i < n * 2 → cs[i]? = some (.int .i64 0) := by
  obtain ⟨i0, ei, ez0, ez1, ez2⟩ := info_parts Try.infoPage
  refine ⟨madeCells #[.int .i64 0, .int .i64 0] (n * 2), fun kl kc => ?_, ?_, ?_⟩
  · have := run_make (P := Try.prog) w 53 52 i0 _ Try.underlying53 ei ez0 kl kc n n (by omega) (Int.le_refl _) (by rw [ez2]; omega) (by omega)
    rw [ez1] at this
    simpa [Value.cells] using this
  · simp [madeCells]
  · intro i hi
    simp [madeCells, hi]
    rcases (show i % 2 = 0 ∨ i % 2 = 1 from by omega) with h | h <;> rw [h] <;> rfl
theorem new_any (w : World) (n : Nat) (h1 : 1 ≤ n) (h2 : n ≤ 1024) : Calls Try.prog 14 #[.int .i64 n] w fun e w' => ∃ g gp, e = .returned (.tuple #[ptr g, .int .i64 0]) ∧ w.heap.size ≤ g ∧ w.heap.size ≤ gp ∧ PS w' g gp n (osK n) (nxK n) 0 0 ∧ Below w.heap.size w w' := by
  have hmf : ∀ (fn : Fn) (first cap : Array Value) (w : World), (Instr.makeFunc fn first cap).run Try.prog w = .ok (.func fn first cap) w := fun _ _ _ _ => rfl
  obtain ⟨cs, hmk, hs, hc⟩ := make_row w n h2
  have HR := Lib.hid (row_new w cs 52 (pf (osK 0) (nxK 0)) (n * 2) hs (fun i hi => by rw [hc i hi]; unfold pf osK nxK; split <;> simp))
  clear hc hs
  go_enter Try.func14, Try.ntmps14
  go_wp2_with fail
  refine (each_any _ (w.heap.size + 1) w.heap.size n ⟨?_, ?_, by omega, h2⟩).mono ?_
  · have := blk_new (w.alloc (.cells cs 52)) (.cells #[.slice (some ⟨w.heap.size, 0, none⟩) n n, .int .i64 0, .int .i64 0, .func (.func 21) #[] #[]] 55)
    simpa using this
  · obtain ⟨cs', q1, q2, q3⟩ := HR.out
    exact ⟨cs', blk_alloc q1 _, q2, q3⟩
  rintro e w2 ⟨rfl, hp, hk⟩
  have Hp := Lib.hid hp
  clear hp
  go_wp2_with fail
  go_ret2
  have hk' : Keep (fun k => w.heap.size ≤ k) w w2 := (((Keep.refl _ w).alloc _).alloc _).then hk (fun i hi => .inr (by omega))
  exact ⟨w.heap.size + 1, w.heap.size, rfl, by omega, by omega, Hp.out, hk'.below (fun k hk => by omega)⟩

/-- the free pages, one ahead of the other -/
def Chain (nx : Nat → Int) (n : Nat) : Int → List Nat → Prop
  | h, [] => h = n
  | h, f :: fs => h = f ∧ Chain nx n (nx f) fs
theorem chain_upd (nx : Nat → Int) (n : Nat) (i : Nat) (v : Int) : ∀ (fr : List Nat) (h : Int), i ∉ fr → Chain nx n h fr → Chain (upd nx i v) n h fr := by
  intro fr
  induction fr with
  | nil => intro h _ hc; exact hc
  | cons f fs ih =>
    intro h hi hc
    simp only [List.mem_cons, not_or] at hi
    refine ⟨hc.1, ?_⟩
    have : upd nx i v f = nx f := by unfold upd; rw [if_neg (fun e => hi.1 e.symm)]
    rw [this]
    exact ih _ hi.2 hc.2
theorem chain_range (n : Nat) : ∀ (m k : Nat), k + m = n → Chain (nxK n) n k (List.range' k m) := by
  intro m
  induction m with
  | zero => intro k h; show (k : Int) = n; omega
  | succ m ih =>
    intro k h
    rw [List.range'_succ]
    refine ⟨rfl, ?_⟩
    have : nxK n k = ((k + 1 : Nat) : Int) := by unfold nxK; rw [if_pos (by omega)]; rfl
    rw [this]
    exact ih (k + 1) (by omega)

theorem nodup_len : ∀ (n : Nat) (l : List Nat), l.Nodup → (∀ x, x ∈ l → x < n) → l.length ≤ n := by
  intro n
  induction n with
  | zero =>
    intro l _ h
    cases l with
    | nil => simp
    | cons x l => have := h x List.mem_cons_self; omega
  | succ n ih =>
    intro l hd h
    by_cases hn : n ∈ l
    · have h1 := ih (l.erase n) (hd.erase n) (fun x hx => by
        have h2 := (hd.mem_erase_iff).1 hx
        have := h x h2.2
        have := h2.1
        omega)
      rw [List.length_erase_of_mem hn] at h1
      omega
    · have := ih l hd (fun x hx => by
        have h1 := h x hx
        have : x ≠ n := fun e => hn (by rw [← e]; exact hx)
        omega)
      omega
def PA (w : World) (g gp n : Nat) (os : Nat → Int) (fr : List Nat) : Prop :=
  fr.length ≤ n ∧ (∃ nx head, PS w g gp n os nx head (n - fr.length) ∧ Chain nx n head fr) ∧ fr.Nodup ∧ (∀ f, f ∈ fr → f < n ∧ os f = -1) ∧ ∀ i, i < n → os i = -1 → i ∈ fr
theorem PS.keep {S : Nat → Prop} {w w' : World} {g gp n : Nat} {os nx : Nat → Int} {head held : Int} (h : PS w g gp n os nx head held) (k : Keep S w w') (h1 : ¬ S g) (h2 : ¬ S gp) : PS w' g gp n os nx head held :=
  ⟨k.blk h.1 h1, row_keep h.2.1 k h2, h.2.2⟩
theorem PA.keep {S : Nat → Prop} {w w' : World} {g gp n : Nat} {os : Nat → Int} {fr : List Nat} (h : PA w g gp n os fr) (k : Keep S w w') (h1 : ¬ S g) (h2 : ¬ S gp) : PA w' g gp n os fr := by
  obtain ⟨a, ⟨nx, head, b, c⟩, d⟩ := h
  exact ⟨a, ⟨nx, head, b.keep k h1 h2, c⟩, d⟩
theorem PA.below {w w' : World} {g gp n : Nat} {os : Nat → Int} {fr : List Nat} (h : PA w g gp n os fr) (k : Below w.heap.size w w') : PA w' g gp n os fr :=
  h.keep (S := fun _ => False) (Keep.of_below k) (fun h => h) (fun h => h)
theorem pa_new (w : World) (n : Nat) (h1 : 1 ≤ n) (h2 : n ≤ 1024) : Calls Try.prog 14 #[.int .i64 n] w fun e w' => ∃ g gp, e = .returned (.tuple #[ptr g, .int .i64 0]) ∧ w.heap.size ≤ g ∧ w.heap.size ≤ gp ∧ PA w' g gp n (osK n) (List.range n) ∧ Below w.heap.size w w' := by
  refine (new_any w n h1 h2).mono ?_
  rintro e w' ⟨g, gp, he, a, b, hp, hb⟩
  refine ⟨g, gp, he, a, b, ⟨by simp, ⟨nxK n, 0, ?_, ?_⟩, List.nodup_range, ?_, ?_⟩, hb⟩
  · simpa using hp
  · rw [List.range_eq_range']
    exact chain_range n n 0 (by omega)
  · intro f hf
    have : f < n := by simpa using hf
    exact ⟨this, by unfold osK; rw [if_pos this]⟩
  · intro i hi _; simpa using hi
theorem pa_held (w : World) (g gp n : Nat) (os : Nat → Int) (fr : List Nat) (h : PA w g gp n os fr) : Calls Try.prog 13 #[ptr g] w fun e w' => e = .returned (.int .i64 (n - fr.length)) ∧ w = w' := by
  obtain ⟨a, ⟨nx, head, b, c⟩, d⟩ := h
  exact held_any w g gp n os nx head _ b
theorem pa_free (w : World) (g gp n : Nat) (os : Nat → Int) (fr : List Nat) (h : PA w g gp n os fr) : Calls Try.prog 12 #[ptr g] w fun e w' => e = .returned (.int .i64 fr.length) ∧ Keep (fun _ => False) w w' := by
  obtain ⟨a, ⟨nx, head, b, c⟩, d⟩ := h
  refine (free_any w g gp n os nx head _ b (by omega) (by omega)).mono ?_
  rintro e w' ⟨rfl, k⟩
  exact ⟨by rw [show (n : Int) - (n - fr.length) = fr.length from by omega], k⟩
def ownS (n : Nat) (os : Nat → Int) (i : Int) : Int := if i < 0 ∨ n ≤ i then -1 else os i.toNat
theorem pa_owner (w : World) (g gp n : Nat) (os : Nat → Int) (fr : List Nat) (i : Int) (h : PA w g gp n os fr) : Calls Try.prog 10 #[ptr g, .int .i64 i] w fun e w' => e = .returned (.int .i64 (ownS n os i)) ∧ w = w' := by
  obtain ⟨a, ⟨nx, head, b, c⟩, d⟩ := h
  unfold ownS
  by_cases hi : i < 0 ∨ (n : Int) ≤ i
  · rw [if_pos hi]; exact owner_out w g gp n os nx head _ i b hi
  · rw [if_neg hi]
    obtain ⟨j, rfl⟩ : ∃ j : Nat, i = j := ⟨i.toNat, by omega⟩
    exact owner_in w g gp n os nx head _ j b (by omega)
theorem pa_take_none (w : World) (g gp n : Nat) (os : Nat → Int) (o : Int) (h : PA w g gp n os []) (ho : 0 ≤ o) : Calls Try.prog 16 #[ptr g, .int .i64 o] w fun e w' => e = .returned (.tuple #[.int .i64 0, .int .i64 5]) ∧ Keep (fun _ => False) w w' := by
  obtain ⟨a, ⟨nx, head, b, c⟩, d⟩ := h
  obtain rfl : head = n := c
  exact take_none w g gp n os nx _ o b ho
theorem pa_take (w : World) (g gp n f : Nat) (fs : List Nat) (os : Nat → Int) (o : Int) (h : PA w g gp n os (f :: fs)) (ho : 0 ≤ o) :
    Calls Try.prog 16 #[ptr g, .int .i64 o] w fun e w' => e = .returned (.tuple #[.int .i64 f, .int .i64 0]) ∧ PA w' g gp n (upd os f o) fs ∧ Keep (fun k => k = g ∨ k = gp) w w' := by
  obtain ⟨a, ⟨nx, head, b, c⟩, d1, d2, d3⟩ := h
  obtain ⟨rfl, c2⟩ := c
  have hf := d2 f List.mem_cons_self
  have hl : (f :: fs).length = fs.length + 1 := rfl
  have hn := b.2.2.2
  refine (take_some w g gp n f os nx _ o b ho hf.1 (by omega)).mono ?_
  rintro e w' ⟨rfl, hp, hk⟩
  have hnd := List.nodup_cons.1 d1
  refine ⟨rfl, ⟨by omega, ⟨nx, nx f, ?_, c2⟩, hnd.2, fun x hx => ?_, fun i hi ho' => ?_⟩, hk⟩
  · rw [show (n : Int) - (f :: fs).length + 1 = n - fs.length from by omega] at hp
    exact hp
  · refine ⟨(d2 x (List.mem_cons_of_mem _ hx)).1, ?_⟩
    unfold upd
    rw [if_neg (fun e : x = f => hnd.1 (by rw [← e]; exact hx))]
    exact (d2 x (List.mem_cons_of_mem _ hx)).2
  · unfold upd at ho'
    by_cases e : i = f
    · rw [if_pos e] at ho'; omega
    · rw [if_neg e] at ho'
      rcases List.mem_cons.1 (d3 i hi ho') with h | h
      · exact absurd h e
      · exact h
theorem pa_give (w : World) (g gp n i : Nat) (fr : List Nat) (os : Nat → Int) (h : PA w g gp n os fr) (hi : i < n) (ho : os i ≠ -1) :
    Calls Try.prog 17 #[ptr g, .int .i64 i] w fun e w' => e = .returned (.int .i64 0) ∧ PA w' g gp n (upd os i (-1)) (i :: fr) ∧ Keep (fun k => k = g ∨ k = gp) w w' := by
  obtain ⟨a, ⟨nx, head, b, c⟩, d1, d2, d3⟩ := h
  have hnot : i ∉ fr := fun h => ho (d2 i h).2
  have hlt : fr.length < n := by
    have h1 : (i :: fr).Nodup := List.nodup_cons.2 ⟨hnot, d1⟩
    have := nodup_len n (i :: fr) h1 (fun x hx => by
      rcases List.mem_cons.1 hx with rfl | hx
      · exact hi
      · exact (d2 x hx).1)
    simp at this
    omega
  have hn := b.2.2.2
  refine (give_some w g gp n i os nx head _ b hi ho (by omega)).mono ?_
  rintro e w' ⟨rfl, hp, hk⟩
  have hl : (i :: fr).length = fr.length + 1 := rfl
  refine ⟨rfl, ⟨by omega, ⟨upd nx i head, i, ?_, rfl, ?_⟩, List.nodup_cons.2 ⟨hnot, d1⟩, fun x hx => ?_, fun j hj ho' => ?_⟩, hk⟩
  · rw [show (n : Int) - fr.length - 1 = n - (i :: fr).length from by omega] at hp
    exact hp
  · rw [show upd nx i head i = head from if_pos rfl]
    exact chain_upd nx n i head fr head hnot c
  · unfold upd
    rcases List.mem_cons.1 hx with rfl | hx
    · exact ⟨hi, if_pos rfl⟩
    · refine ⟨(d2 x hx).1, ?_⟩
      split
      · rfl
      · exact (d2 x hx).2
  · unfold upd at ho'
    by_cases e : j = i
    · rw [e]; exact List.mem_cons_self
    · rw [if_neg e] at ho'
      exact List.mem_cons_of_mem _ (d3 j hj ho')
theorem pa_give_out (w : World) (g gp n : Nat) (fr : List Nat) (os : Nat → Int) (i : Int) (h : PA w g gp n os fr) (hi : i < 0 ∨ n ≤ i) : Calls Try.prog 17 #[ptr g, .int .i64 i] w fun e w' => e = .returned (.int .i64 1) ∧ w = w' := by
  obtain ⟨a, ⟨nx, head, b, c⟩, d⟩ := h
  exact give_out w g gp n os nx head _ i b hi
theorem pa_give_none (w : World) (g gp n i : Nat) (fr : List Nat) (os : Nat → Int) (h : PA w g gp n os fr) (hi : i < n) (ho : os i = -1) : Calls Try.prog 17 #[ptr g, .int .i64 i] w fun e w' => e = .returned (.int .i64 9) ∧ w = w' := by
  obtain ⟨a, ⟨nx, head, b, c⟩, d⟩ := h
  exact give_none w g gp n os nx head _ i b hi ho
end Go.Proofs.Ytlajbgopidllbaa
