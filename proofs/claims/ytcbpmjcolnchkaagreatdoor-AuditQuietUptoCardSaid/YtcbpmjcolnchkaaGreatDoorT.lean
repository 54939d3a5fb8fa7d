/-
  Rows that change nothing are never done twice: shape.Changes, audit.Row.changes, audit.Twice.
-/
import Derived.Test.YtcbpmjcolnchkaaGreatDoorR
import Derived.BigQuiet
namespace Go.Proofs.YtcbpmjcolnchkaaGreatDoor
open Go.RowKit

def AnyBool (e : Ending) : Prop := ∃ b, e = .returned (.bool b)

set_option maxHeartbeats 400000 in
theorem chg (p : Int) (w : World) : Calls Tryz.prog 27 #[.int .i64 100003, .int .i64 p] w fun e w' => AnyBool e ∧ w = w' := by
  go_enter Tryz.func27, Tryz.ntmps27
  go_wp2
  all_goals go_ret
  all_goals exact ⟨⟨_, rfl⟩, rfl⟩

def R6.quiet (r : R6) : Prop := r.s = 0 → r.a = true

set_option maxRecDepth 100000 in
set_option maxHeartbeats 400000 in
theorem changes_quiet (r : R6) (hq : r.quiet) (w : World) : Calls Tryz.prog 12 #[.agg #[.int .i64 r.c, .int .i64 r.n, .int .i64 r.x, .int .i64 r.p, .int .i64 r.s, .bool r.a]] w fun e w' => e = .returned (.bool false) ∧ Below w.heap.size w w' := by
  go_enter Tryz.func12, Tryz.ntmps12
  go_wp2_with (go_at_call 27; refine (chg _ _).mono ?_; rintro e w' ⟨⟨b, rfl⟩, rfl⟩)
  · have ha : r.a = true := hq (by assumption)
    go_ret
    exact ⟨by simp [ha], (Below.refl _ _).alloc (Nat.le_refl _) _⟩
  all_goals
    go_ret
    exact ⟨by simp, (Below.refl _ _).alloc (Nat.le_refl _) _⟩

theorem cells6_len (l : List R6) : (cells6 l).length = l.length * 6 := by
  unfold cells6
  induction l with
  | nil => rfl
  | cons a l ih => rw [List.flatMap_cons, List.length_append, ih, List.length_cons, show a.vals.length = 6 from rfl]; omega
theorem cells6_part (rs : List R6) (k : Nat) (hlt : k < rs.length) : cells6 rs = cells6 (rs.take k) ++ (rs[k].vals ++ cells6 (rs.drop (k + 1))) := by
  unfold cells6
  conv => lhs; rw [← List.take_append_drop k rs, List.drop_eq_getElem_cons hlt]
  rw [List.flatMap_append, List.flatMap_cons]
theorem own_rows {w : World} {base : Nat} {v : Value} {n : Nat} {rs : List R6} (h : w.ownsRow base 29 6 v n (cells6 rs)) (k : Nat) (r : R6) (hr : rs[k]? = some r) :
    ∃ g cap, v = .slice (some ⟨g, 0, none⟩) n cap ∧ base ≤ g ∧ g < w.heap.size ∧ w.cell? ⟨g, k * 6, none⟩ = some (.int .i64 r.c) ∧ w.cell? ⟨g, k * 6 + 1, none⟩ = some (.int .i64 r.n) ∧ w.cell? ⟨g, k * 6 + 2, none⟩ = some (.int .i64 r.x) ∧
    w.cell? ⟨g, k * 6 + 3, none⟩ = some (.int .i64 r.p) ∧ w.cell? ⟨g, k * 6 + 4, none⟩ = some (.int .i64 r.s) ∧ w.cell? ⟨g, k * 6 + 5, none⟩ = some (.bool r.a) := by
  obtain ⟨hlt, rfl⟩ := List.getElem?_eq_some_iff.1 hr
  have hn : n * 6 = rs.length * 6 := h.1.symm.trans (cells6_len rs)
  obtain ⟨g, cap, hv, hg, hgl⟩ := h.form (by omega)
  have hat : ∀ j, j < 6 → (cells6 rs)[k * 6 + j]? = (rs[k].vals)[j]? := by
    intro j hj
    have hl : (cells6 (rs.take k)).length = k * 6 := by rw [cells6_len]; simp; omega
    rw [cells6_part rs k hlt, List.getElem?_append_right (by omega), hl, show k * 6 + j - k * 6 = j by omega, List.getElem?_append_left (by simp [R6.vals]; omega)]
  subst hv
  have hc : ∀ j u, j < 6 → (rs[k].vals)[j]? = some u → w.cell? ⟨g, k * 6 + j, none⟩ = some u := fun j u hj hu => by
    rw [h.cellAt _ (by omega), hat j hj, hu]
  exact ⟨g, cap, rfl, hg, hgl, hc 0 _ (by decide) rfl, hc 1 _ (by decide) rfl, hc 2 _ (by decide) rfl, hc 3 _ (by decide) rfl, hc 4 _ (by decide) rfl, hc 5 _ (by decide) rfl⟩

set_option maxRecDepth 100000 in
set_option maxHeartbeats 1000000 in
theorem twice_quiet (rs : List R6) (hq : ∀ r ∈ rs, r.quiet) (v : Value) (win : Int) (w : World) (base : Nat) (hown : w.ownsRow base 29 6 v rs.length (cells6 rs)) (hlen : rs.length ≤ 1048576) :
    Calls Tryz.prog 7 #[v, .int .i64 win] w fun e w' => e = .returned (.slice none 0 0) ∧ Below w.heap.size w w' := by
  obtain ⟨A, cap, hv⟩ : ∃ A cap, v = .slice A rs.length cap := by
    rcases hown.2 with ⟨rfl, h0⟩ | ⟨g, cap, cur, rfl, _⟩
    · exact ⟨none, 0, by rw [h0]⟩
    · exact ⟨_, _, rfl⟩
  subst hv
  go_enter Tryz.func7, Tryz.ntmps7
  go_wp2
  go_loopw [5, 12] (fun u i wr => ∃ k : Nat, k ≤ rs.length ∧ u = .slice none 0 0 ∧ i = .int .i64 k ∧ Below w.heap.size w wr)
    (fun _ i _ => rs.length - (intOf i).toNat)
  case atStart => exact ⟨0, Nat.zero_le _, rfl, rfl, Below.refl _ _⟩
  case round =>
    obtain ⟨k, hk, rfl, rfl, hB⟩ := hrel
    by_cases hlt : k < rs.length
    · obtain ⟨g, cap', hv, hg, hgl, c0, c1, c2, c3, c4, c5⟩ := own_rows hown k rs[k] (List.getElem?_eq_getElem hlt)
      have hq := hq rs[k] (List.getElem_mem hlt)
      generalize rs[k] = r at *
      simp only [Value.slice.injEq] at hv
      obtain ⟨rfl, _, rfl⟩ := hv
      rw [← hB.cell (p := ⟨g, _, none⟩) hgl] at c0 c1 c2 c3 c4 c5
      go_wp2_with (go_at_call 12; refine (changes_quiet r hq _).mono ?_; rintro e w' ⟨rfl, hb⟩)
      go_roundw
      case rel => exact ⟨k + 1, by omega, rfl, by go_num, (hB.alloc hB.size _).trans (hb.mono (by have := hB.size; simp; omega))⟩
      case measure => simp [intOf]; omega
    · obtain rfl : k = rs.length := by omega
      go_wp2
      go_ret
      exact ⟨rfl, hB⟩

end Go.Proofs.YtcbpmjcolnchkaaGreatDoor
