/- The contracts of plan.May and slices.Clone. -/
import Derived.Test.YtejmggfofcfndaaIndexFMay
import Derived.Test.YtejmggfofcfndaaIndexFNext
namespace Go.Proofs.Ytejmggfofcfndaa
open Go.RowKit

theorem contains_may (B : Nat) (w : World) (v : Value) (l : List Int) (g : Nat) (b : Int) (h : LV B w v l) (hg : w.heap[g]? = some (.cells #[.int .i64 b] 3 (0, 0))) :
    Calls Try.prog 20 #[v, .func (.func 21) #[] #[.pointer (some ⟨g, 0, none⟩)]] w fun e w' => e = .returned (.bool (l.any (badP b))) ∧ w = w' := by
  have hi := Lib.hid (indexF_May B w v l g b h hg)
  obtain ⟨a, c, rfl, hc, hm, _, _⟩ := h
  clear hg
  go_enter Try.func20, Try.ntmps20
  go_wp2_with fail
  refine hi.out.mono ?_
  rintro e w1 ⟨r, rfl, hx, rfl⟩
  have Hx := Lib.hid hx.any
  clear hx
  go_wp2_with fail
  go_ret
  exact ⟨by rw [← Hx.out]; rfl, rfl⟩
theorem any_bad (l : List Int) (b : Int) : (!l.any (badP b)) = mayP l b := by
  unfold mayP
  rw [List.any_eq_not_all_not, Bool.not_not]
  congr 1
  funext x
  simp [badP]
  by_cases h1 : x < 1 <;> by_cases h2 : b ≤ x <;> simp [h1, h2] <;> omega
theorem may_any (B : Nat) (w : World) (v : Value) (l : List Int) (b : Int) (h : LV B w v l) : Calls Try.prog 9 #[v, .int .i64 b] w fun e w' => e = .returned (.bool (mayP l b)) ∧ Below w.heap.size w w' := by
  have hmf : ∀ (fn : Fn) (first cap : Array Value) (w : World), (Instr.makeFunc fn first cap).run Try.prog w = .ok (.func fn first cap) w := fun _ _ _ _ => rfl
  have hb : Below w.heap.size w (w.alloc (.cells #[.int .i64 b] 3)) := (Below.refl _ _).alloc (Nat.le_refl _) _
  have hc := Lib.hid (contains_may B _ v l w.heap.size b (h.keep hb) (blk_new _ _))
  obtain ⟨a, c, rfl, hc0, hm, _, _⟩ := h
  have Hb := Lib.hid hb
  clear hb
  go_enter Try.func9, Try.ntmps9
  go_wp2_with fail
  refine hc.out.mono ?_
  rintro e w1 ⟨rfl, rfl⟩
  have he := Lib.hid (any_bad l b)
  generalize l.any (badP b) = q at he ⊢
  go_wp2_with fail
  go_ret
  exact ⟨by rw [← he.out]; rfl, Hb.out⟩

theorem clone_any (B : Nat) (w : World) (v : Value) (l : List Int) (h : LV B w v l) (hl : l.length ≤ 4096) : Calls Try.prog 22 #[v] w fun e w' => ∃ v', e = .returned v' ∧ w'.ownsRow w.heap.size 3 1 v' l.length (icells l) ∧ Below w.heap.size w w' := by
  have H := Lib.hid h
  obtain ⟨i0, ei, ez0, ez1, ez2⟩ := info_parts Try.infoI
  have hnil := fun (w : World) (a : Option Addr) (n c : Nat) => Lib.run_eql_slice_nil (P := Try.prog) w 22 3 a n c 0 0 Try.underlying22
  obtain ⟨a, c, rfl, hc, hm, hn, _⟩ := h
  cases a with
  | none =>
    have h0 := hn.1 rfl
    have hl0 : l.length = 0 := by omega
    have e : l = [] := List.eq_nil_of_length_eq_zero hl0
    subst e
    subst h0
    go_enter Try.func22, Try.ntmps22
    go_wp2_with fail
    go_ret
    exact ⟨_, rfl, World.ownsRow_nil _ _ _ _, Below.refl _ _⟩
  | some ad =>
    have oE := own_empty w w.heap.size 3 1 (Nat.le_refl _)
    have bE : Below w.heap.size w (w.alloc (.cells #[] 3)) := (Below.refl _ _).alloc (Nat.le_refl _) _
    have Rv := Lib.hid (lv_readV (H.out.keep bE))
    have BE := Lib.hid bE
    clear hn bE
    go_enter Try.func22, Try.ntmps22
    go_wp2_with (at_builtin; refine wpList_append_list _ rfl (.tmp 5) (.tmp 6) 22 rfl w.heap.size 3 i0 (.int .i64 0) 1 8 Try.underlying22 ei ez0 ez1 ez2 rfl (by decide) _ _ _ rfl oE l.length (icells l) Rv.out (by simp [icells]) (icells_one _) (by unfold maxLen; omega) (by omega) (by simp) ?_; intro v3 w3 o3 hg3)
    have b3 := below_append BE.out oE (Keep.refl _ _) hg3 BE.out.size
    simp only [Nat.zero_add, List.nil_append] at o3
    have O3 := Lib.hid o3
    clear o3
    go_wp2_with fail
    go_ret
    exact ⟨_, rfl, O3.out, b3⟩
end Go.Proofs.Ytejmggfofcfndaa
