/- Scripts that are the same (almeryref19.Same); bytes as a string. -/
import Derived.Test.YtamaocdchlioaaaOp9
import Derived.Laws.BytesArg
import Derived.Shelf.Bytes.SlSmallAll
namespace Go.Proofs.Ytamaocdchlioaaa
open Go.RowKit
set_option linter.unusedVariables false

/-- string(b) of a list of bytes -/
theorem conv_lb {w : World} {v : Value} {l : List Int} (h : LB w v l) : (convert 25 9 v).run Try.prog w = .ok (.string (strOfNums l)) w := by
  obtain ⟨a, c, rfl, h1, h2, h3, h4⟩ := h
  rcases Nat.eq_zero_or_pos l.length with hn | hn
  · obtain rfl : l = [] := List.eq_nil_of_length_eq_zero hn
    exact run_convert_bytes_zero w _ _ Try.underlying25 Try.underlying5 a c 9 Try.underlying9
  · obtain ⟨b, o, rfl, hc⟩ := h4.resolve_left (by omega)
    exact run_convert_bytes_arg (P := Try.prog) w _ _ Try.underlying25 Try.underlying5 b o l.length c l rfl hc 9 Try.underlying9
theorem byteArray_bne (S : ByteArray) : (S != S) = false := by
  have : (S == S) = true := by
    cases S with
    | mk d =>
      show (d == d) = true
      simp
  simp [bne, this]
set_option maxRecDepth 100000 in
set_option maxHeartbeats 2000000 in
theorem same_any (w : World) (v1 v2 : Value) (l : List POp) (h1 : OV w v1 l) (h2 : OV w v2 l) : Calls Try.prog 14 #[v1, v2] w fun e w' => e = .returned (.bool true) ∧ Below w.heap.size w w' := by
  have H1 := Lib.hid h1
  have H2 := Lib.hid h2
  obtain ⟨A1, c1, rfl, hc1, hm1, _, _⟩ := h1
  obtain ⟨A2, c2, rfl, hc2, hm2, _, _⟩ := h2
  unfold maxLen at hm1 hm2
  go_enter Try.func14, Try.ntmps14
  go_wp2_with fail
  go_loopw [5] (fun iv wr => ∃ k : Nat, k ≤ l.length ∧ iv = .int .i64 k ∧ Below w.heap.size w wr) (fun iv _ => l.length - (intOf iv).toNat)
  case atStart => exact ⟨0, Nat.zero_le _, rfl, Below.refl _ _⟩
  case round =>
    obtain ⟨k, hk, rfl, br⟩ := hrel
    have BR := Lib.hid br
    clear br
    by_cases hlt : k < l.length
    · obtain ⟨b1, off1, c1', dv1, hv1, _, _, hlb1, hx1⟩ := H1.out.elem hlt
      obtain ⟨b2, off2, c2', dv2, hv2, _, _, hlb2, hx2⟩ := H2.out.elem hlt
      cases hv1
      cases hv2
      obtain ⟨x0, x1, x2, x3, x4⟩ := hx1 wr BR.out
      obtain ⟨y0, y1, y2, y3, y4⟩ := hx2 wr BR.out
      have cv1 : ∀ n, (convert 25 9 dv1).run Try.prog (wr.drewN n) = .ok (.string (strOfNums (l.getD k op0).d)) (wr.drewN n) := fun n => conv_lb (hlb1.keep (below_drewN BR.out n))
      have cv2 : ∀ n, (convert 25 9 dv2).run Try.prog (wr.drewN n) = .ok (.string (strOfNums (l.getD k op0).d)) (wr.drewN n) := fun n => conv_lb (hlb2.keep (below_drewN BR.out n))
      clear hx1 hx2 hlb1 hlb2
      generalize l.getD k op0 = p at x0 x1 x2 x3 x4 y0 y1 y2 y3 y4 cv1 cv2
      generalize strOfNums p.d = S at cv1 cv2
      have n0 : (p.k != p.k) = false := bne_self_eq_false _
      have n1 : (p.a != p.a) = false := bne_self_eq_false _
      have n2 : (p.b != p.b) = false := bne_self_eq_false _
      have n3 : (p.c != p.c) = false := bne_self_eq_false _
      have n4 : (S != S) = false := byteArray_bne S
      go_wp2_with fail
      go_quiet (fail)
      go_wp2_with fail
      go_roundw
      case rel => exact ⟨k + 1, hlt, by go_num, below_drewN BR.out _⟩
      case measure => simp [intOf]; omega
    · obtain rfl : k = l.length := by omega
      go_wp2_with fail
      go_ret
      exact ⟨rfl, BR.out⟩
end Go.Proofs.Ytamaocdchlioaaa
