/- The reference's Put (almeryref19.Put). -/
import Derived.Test.YtamaocdchlioaaaOp4
namespace Go.Proofs.Ytamaocdchlioaaa
open Go.RowKit
set_option linter.unusedVariables false

def encO (p : POp) : List Int := enc p.k p.a p.b p.c p.d
def encTo (l : List POp) : Nat → List Int
  | 0 => []
  | k + 1 => encTo l k ++ encO (l.getD k op0)
def Small (l : List POp) : Prop := (encTo l l.length).length ≤ 60000
theorem encO_len (p : POp) : (encO p).length = 27 + p.d.length := by
  simp only [encO, enc, List.length_append, numB_len, List.length_cons, List.length_nil]
theorem encTo_grow (l : List POp) (k : Nat) : ∀ j, k ≤ j → (encTo l k).length ≤ (encTo l j).length
  | 0, h => by rw [show k = 0 from by omega]; exact Nat.le_refl _
  | j + 1, h => by
    by_cases e : k = j + 1
    · rw [e]; exact Nat.le_refl _
    · have := encTo_grow l k j (by omega)
      rw [show encTo l (j + 1) = encTo l j ++ encO (l.getD j op0) from rfl, List.length_append]
      omega
theorem Small.le {l : List POp} (h : Small l) {k : Nat} (hk : k ≤ l.length) : (encTo l k).length ≤ 60000 := Nat.le_trans (encTo_grow l k _ hk) h
theorem Small.op {l : List POp} (h : Small l) {k : Nat} (hk : k < l.length) : (encTo l k).length + 27 + (l.getD k op0).d.length ≤ 60000 := by
  have h1 := h.le (k := k + 1) hk
  rw [encTo, List.length_append, encO_len] at h1
  omega
/-- what a Put comes to -/
def Puts (l : List POp) (w : World) (v : Value) (er : Int) : Prop := (allMay l ∧ er = 0 ∧ LB w v (encTo l l.length)) ∨ (¬ allMay l ∧ er = 2 ∧ v = .slice none 0 0)
set_option maxHeartbeats 2000000 in
theorem rput_any (w : World) (v : Value) (l : List POp) (h : OV w v l) (hs : Small l) : Calls Try.prog 11 #[v] w fun e w' => ∃ v' er, e = .returned (.tuple #[v', .int .i64 er]) ∧ Puts l w' v' er ∧ Below w.heap.size w w' := by
  obtain ⟨i0, ei, ez0, ez1, ez2⟩ := info_parts Try.infoB
  have H := Lib.hid h
  have HS := Lib.hid hs
  obtain ⟨A, c, rfl, hc, hm, _, _⟩ := h
  unfold maxLen at hm
  clear hs
  go_enter Try.func11, Try.ntmps11
  go_wp2_with fail
  go_loopw [4, 5] (fun ov iv wr => ∃ (k q : Nat), k ≤ l.length ∧ iv = .int .i64 k ∧ q = (encTo l k).length ∧ Hid (MayTo l k) ∧ wr.ownsRow w.heap.size 5 1 ov q (bcells (encTo l k)) ∧ Below w.heap.size w wr) (fun _ iv _ => l.length - (intOf iv).toNat)
  case atStart => exact ⟨0, 0, Nat.zero_le _, rfl, rfl, Lib.hid (fun j hj => absurd hj (Nat.not_lt_zero j)), ⟨rfl, .inl ⟨rfl, rfl⟩⟩, Below.refl _ _⟩
  case round =>
    obtain ⟨k, q, hk, rfl, hq, hno, ho, br⟩ := hrel
    have BR := Lib.hid br
    have O := Lib.hid ho
    have HQ := Lib.hid hq
    have hq2 : q ≤ 60000 := by have := HS.out.le hk; omega
    clear br ho hq
    by_cases hlt : k < l.length
    · have E := H.out.elem hlt
      obtain ⟨b, off, c', dv, hv, h1, h2, hlb, hx⟩ := E
      cases hv
      have HLB := Lib.hid hlb
      obtain ⟨ad, cd, rfl, _, _, _, _⟩ := hlb
      obtain ⟨x0, x1, x2, x3, x4⟩ := hx wr BR.out
      have HX := Lib.hid hx
      have hd3 : (l.getD k op0).d.length ≤ 60000 := by have := HS.out.op hlt; omega
      have hcase : mayP (l.getD k op0) = true ∨ mayP (l.getD k op0) = false := by cases mayP (l.getD k op0) <;> simp
      have HN : Hid (mayP (l.getD k op0) = false → ¬ allMay l) := Lib.hid (fun e ha => by rw [ha k hlt] at e; cases e)
      have HT : Hid (mayP (l.getD k op0) = true → MayTo l (k + 1)) := Lib.hid (fun e => hno.out.step e)
      have HE : Hid (encTo l (k + 1) = encTo l k ++ encO (l.getD k op0)) := Lib.hid rfl
      generalize l.getD k op0 = p at x0 x1 x2 x3 x4 hcase HN HT HX HLB HE hd3
      obtain ⟨n, hn⟩ : ∃ n, n = p.d.length := ⟨_, rfl⟩
      rw [← hn] at x4 HX HLB hd3
      have HNL := Lib.hid hn
      clear hx hno h1 h2 hn
      rcases hcase with hp | hp
      · have Hp := Lib.hid hp
        clear hp
        go_wp2_with fail
        refine (rmay_any _ p.k p.a p.b p.c ad n cd).mono ?_
        rw [show mayK p.k n = true from by rw [HNL.out]; exact Hp.out]
        rintro e w2 ⟨rfl, b2⟩
        have B2 := Lib.hid (BR.out.trans (b2.mono BR.out.size))
        have O2 := Lib.hid (own_below O.out b2)
        clear b2 x0 x1 x2 x3 x4
        obtain ⟨x0, x1, x2, x3, x4⟩ := HX.out w2 B2.out
        go_wp2_with fail
        refine (one_any w2 p.k p.a p.b p.c ad n cd p.d (HLB.out.keep B2.out) HNL.out (by omega)).mono ?_
        rintro e w3 ⟨v3, rfl, l3, b3⟩
        have B3 := Lib.hid (B2.out.trans (b3.mono B2.out.size))
        have O3 := Lib.hid (own_below O2.out b3)
        have R3 : Hid (ReadV w3 v3 (27 + n) (bcells (encO p))) := Lib.hid (by have := lb_readV l3; rw [show (enc p.k p.a p.b p.c p.d).length = 27 + n from by rw [HNL.out]; exact encO_len p] at this; exact this)
        have hz3 := B3.out.size
        clear b3 l3 x0 x1 x2 x3 x4
        go_wp2_with (at_builtin; refine wpList_append_list _ rfl (.tmp 18) (.tmp 23) 25 rfl w.heap.size 5 i0 (.int .u8 0) 1 1 Try.underlying25 ei ez0 ez1 ez2 rfl (by decide) _ q _ rfl O3.out (27 + n) (bcells (encO p)) R3.out (by rw [bcells_len, encO_len, HNL.out]; omega) (bcells_one _) (by unfold maxLen; omega) (by omega) hz3 ?_; intro v4 w4 o4 hg4)
        have b4 := below_append B3.out O3.out (Keep.refl _ _) hg4 B3.out.size
        go_roundw
        case rel => exact ⟨k + 1, q + (27 + n), hlt, by go_num, by rw [HE.out, List.length_append, encO_len, ← HQ.out, ← HNL.out], Lib.hid (HT.out Hp.out), by rw [HE.out, ← bcells_app]; exact o4, b4⟩
        case measure => simp [intOf]; omega
      · have Hp := Lib.hid hp
        clear hp
        go_wp2_with fail
        refine (rmay_any _ p.k p.a p.b p.c ad n cd).mono ?_
        rw [show mayK p.k n = false from by rw [HNL.out]; exact Hp.out]
        rintro e w2 ⟨rfl, b2⟩
        have B2 := Lib.hid (BR.out.trans (b2.mono BR.out.size))
        clear b2 x0 x1 x2 x3 x4
        go_wp2_with fail
        go_ret2
        exact ⟨_, _, rfl, .inr ⟨HN.out Hp.out, rfl, rfl⟩, B2.out⟩
    · obtain rfl : k = l.length := by omega
      go_wp2_with fail
      go_ret2
      exact ⟨_, _, rfl, .inl ⟨hno.out, rfl, lb_of_own (by rw [← HQ.out]; exact O.out)⟩, BR.out⟩
end Go.Proofs.Ytamaocdchlioaaa
