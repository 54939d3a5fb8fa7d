/-
  audit.AuditQuiet, walked: of any rows true.
-/
import Derived.Test.YtcbpmjcolnchkaaGreatDoorT
import Derived.Test.YtcbpmjcolnchkaaGreatDoorF
import Derived.Test.YtcbpmjcolnchkaaGreatDoorN
namespace Go.Proofs.YtcbpmjcolnchkaaGreatDoor
open Go.RowKit
set_option maxRecDepth 100000

theorem speaks_any (w : World) : Calls Tryz.prog 4 #[] w fun e w' => e = .returned (.bool true) ∧ Below w.heap.size w w' := by
  have h1 : ∀ W, (binOp .eql 30 (.float .f64 4617315517961601024) (.float .f64 4617315517961601024)).run Tryz.prog W = Result.ok (.bool true) W := fun W => by kernel_rfl
  go_enter Tryz.func4, Tryz.ntmps4
  go_wp2_with (go_at_call 6; refine (pace_two _ _ (heap_alloc_new _ _)).mono ?_; rintro e w' ⟨rfl, hB⟩)
  go_ret
  exact ⟨rfl, ((Below.refl _ _).alloc (Nat.le_refl _) _).trans (hB.mono (by simp))⟩

theorem RowsAt.later {w w' : World} {A : Option Addr} {rs : List R6} (h : RowsAt w w.heap.size A rs) (hb : Below w.heap.size w w') : RowsAt w' w'.heap.size A rs := by
  intro k r hk
  obtain ⟨b, o, hA, hlt, hc⟩ := (h.below hb) k r hk
  exact ⟨b, o, hA, Nat.lt_of_lt_of_le hlt hb.size, hc⟩

def R6.fix (r : R6) : R6 := { r with a := r.a || r.s == 0 }
def mixed (rs : List R6) (k : Nat) : List R6 := (rs.take k).map R6.fix ++ rs.drop k

theorem mixed_len (rs : List R6) (k : Nat) : (mixed rs k).length = rs.length := by simp [mixed]; omega
theorem mixed_get (rs : List R6) (k : Nat) (hk : k < rs.length) : (mixed rs k)[k]? = some rs[k] := by
  unfold mixed
  rw [List.getElem?_append_right (by simp; omega)]
  simp [show k - min k rs.length = 0 by omega]
theorem mixed_end (rs : List R6) : mixed rs rs.length = rs.map R6.fix := by simp [mixed]
theorem set_mid {α : Type} (A : List α) (B : List α) (C : List α) (j : Nat) (u : α) (h : j < B.length) : (A ++ (B ++ C)).set (A.length + j) u = A ++ (B.set j u ++ C) := by
  rw [List.set_append_right _ _ (by omega), show A.length + j - A.length = j by omega, List.set_append_left _ _ h]
theorem mixed_set (rs : List R6) (k : Nat) (hk : k < rs.length) : (cells6 (mixed rs k)).set (k * 6 + 5) (.bool rs[k].fix.a) = cells6 (mixed rs (k + 1)) := by
  have e1 : cells6 (mixed rs k) = cells6 ((rs.take k).map R6.fix) ++ (rs[k].vals ++ cells6 (rs.drop (k + 1))) := by
    unfold mixed cells6
    rw [List.flatMap_append, List.drop_eq_getElem_cons hk, List.flatMap_cons]
  have e2 : cells6 (mixed rs (k + 1)) = cells6 ((rs.take k).map R6.fix) ++ (rs[k].fix.vals ++ cells6 (rs.drop (k + 1))) := by
    unfold mixed cells6
    rw [List.take_succ_eq_append_getElem hk, List.map_append, List.flatMap_append, List.flatMap_append]
    simp
  have hl : (cells6 ((rs.take k).map R6.fix)).length = k * 6 := by rw [cells6_len]; simp; omega
  rw [e1, e2, ← hl, set_mid _ _ _ _ _ (by simp [R6.vals])]
  rfl

theorem fix_quiet (r : R6) : r.fix.quiet := by
  intro h
  simp only [R6.fix] at h ⊢
  simp [h]

theorem order_nan : (FloatKind.f64.format.order 9221120237041090561 9221120237041090561 != some Ordering.eq) = true := by kernel_rfl

set_option maxHeartbeats 2000000 in
theorem law_any (rs : List R6) (A : Option Addr) (cap : Nat) (win : Int) (w : World) (hr : RowsAt w w.heap.size A rs) (hn : rs.length ≤ 1048576) :
    Calls Tryz.prog 3 #[.slice A rs.length cap, .int .i64 win] w fun e w' => e = .returned (.bool true) ∧ Below w.heap.size w w' := by
  go_enter Tryz.func3, Tryz.ntmps3
  go_wp2_with (go_at_call 4; refine (speaks_any _).mono ?_; rintro e w1 ⟨rfl, hB1⟩)
  refine (rows_any rs A cap _ (hr.later hB1) hn).mono ?_
  rintro e w2 ⟨v1, v2, rfl, hown, hB2⟩
  have hB : Below w.heap.size w w2 := hB1.trans (hB2.mono hB1.size)
  have hbase := hB1.size
  generalize w1.heap.size = base at *
  clear hB1 hB2
  obtain ⟨A1, c1, rfl⟩ : ∃ A c, v1 = .slice A rs.length c := by
    rcases hown.2 with ⟨rfl, h0⟩ | ⟨g, cap, cur, rfl, _⟩
    · exact ⟨none, 0, by rw [h0]⟩
    · exact ⟨_, _, rfl⟩
  go_wp2
  go_loopw [7] (fun i wr => ∃ k : Nat, k ≤ rs.length ∧ i = .int .i64 k ∧ wr.ownsRow base 29 6 (.slice A1 rs.length c1) rs.length (cells6 (mixed rs k)) ∧ Below w.heap.size w wr)
    (fun i _ => rs.length - (intOf i).toNat)
  case atStart => exact ⟨0, Nat.zero_le _, rfl, by simpa [mixed] using hown, hB⟩
  case round =>
    obtain ⟨k, hk, rfl, ho, hBr⟩ := hrel
    clear hown hB
    by_cases hlt : k < rs.length
    · obtain ⟨g, cap', hv, hg, hgl, c0, c1', c2, c3, c4, c5⟩ := own_rows ho k rs[k] (mixed_get rs k hlt)
      simp only [Value.slice.injEq] at hv
      obtain ⟨rfl, _, rfl⟩ := hv
      have hst := ho.stored (k * 6 + 5) (.bool rs[k].fix.a)
      rw [mixed_set rs k hlt] at hst
      have Hst := Lib.hid hst
      have hfr := ho.frozenAt (k * 6 + 5)
      clear hst ho
      have hfix : rs[k].fix.a = (rs[k].a || rs[k].s == 0) := rfl
      have Hfix := Lib.hid hfix
      clear hfix
      generalize rs[k].fix = rf at *
      generalize rs[k] = r at *
      obtain ⟨rc, rn, rx, rp, rss, ra⟩ := r
      simp only at c0 c1' c2 c3 c4 c5 Hfix
      cases ra
      · by_cases hs0 : rss = 0
        · subst hs0
          go_wp2
          go_roundw
          case rel =>
            have h := Hst.out.1
            rw [Hfix.out] at h
            exact ⟨k + 1, by omega, by go_num, by simpa using h, hBr.setCell (p := ⟨g, _, none⟩) (Nat.le_trans hbase hg) _⟩
          case measure => simp [intOf]; omega
        · have hs1 : (rss == 0) = false := by simpa using hs0
          go_wp2
          go_roundw
          case rel =>
            have h := Hst.out.1
            rw [Hfix.out, hs1] at h
            exact ⟨k + 1, by omega, by go_num, by simpa using h, hBr.setCell (p := ⟨g, _, none⟩) (Nat.le_trans hbase hg) _⟩
          case measure => simp [intOf]; omega
      · go_wp2
        go_roundw
        case rel =>
          have h := Hst.out.1
          rw [Hfix.out] at h
          exact ⟨k + 1, by omega, by go_num, by simpa using h, hBr.setCell (p := ⟨g, _, none⟩) (Nat.le_trans hbase hg) _⟩
        case measure => simp [intOf]; omega
    · obtain rfl : k = rs.length := by omega
      rw [mixed_end] at ho
      have hnan := order_nan
      have ho2 : wr.ownsRow base 29 6 (.slice A1 (rs.map R6.fix).length c1) (rs.map R6.fix).length (cells6 (rs.map R6.fix)) := by simpa using ho
      have htw := twice_quiet (rs.map R6.fix) (fun r h => by obtain ⟨q, _, rfl⟩ := List.mem_map.1 h; exact fix_quiet q) _ win wr base ho2 (by simpa using hn)
      have Htw := Lib.hid htw
      rw [List.length_map] at Htw
      clear htw ho2
      go_wp2_with (go_at_call 6; refine (pace_none _ _).mono ?_; rintro e w' ⟨rfl, rfl⟩)
      refine Htw.out.mono ?_
      rintro e w3 ⟨rfl, hB3⟩
      clear Htw ho
      have hB4 : Below w.heap.size w w3 := hBr.trans (hB3.mono hBr.size)
      go_wp2_with (go_at_call 8; refine (rows_none _).mono ?_; rintro e w' ⟨rfl, rfl⟩)
      refine (totals_none _).mono ?_
      rintro e w5 ⟨rfl, hB5⟩
      go_wp2_with fail
      refine (uses_none _).mono ?_
      rintro e w6 ⟨rfl, hB6⟩
      go_wp2
      go_ret
      exact ⟨rfl, (hB4.trans (hB5.mono hB4.size)).trans (hB6.mono (Nat.le_trans hB4.size hB5.size))⟩

#print axioms law_any
end Go.Proofs.YtcbpmjcolnchkaaGreatDoor
