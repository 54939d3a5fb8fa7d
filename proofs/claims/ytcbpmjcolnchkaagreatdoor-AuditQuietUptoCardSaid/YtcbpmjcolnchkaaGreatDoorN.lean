/-
  Of nothing: audit.Rows, Totals and Uses of no steps and no rows.
-/
import Derived.Test.YtcbpmjcolnchkaaGreatDoorR
import Derived.Shelf.Abstract
import Derived.LoopN
import Derived.RangeFuncNested
import Derived.RangeFuncBound
import Derived.RangeFuncCalls
import Derived.RangeFuncLeaves
import Derived.OwnWalkIn
import Derived.TacticsInMore
import Derived.LoopNIn
import Derived.LoopIn
namespace Go.Proofs.YtcbpmjcolnchkaaGreatDoor
open Go.RowKit
attribute [local go_sem] Oper.semAt_some
set_option maxRecDepth 100000

theorem next_empty {P : Program} (w : World) (ty : TypeId) (bm since c0 clock : Nat) (seen : Array Nat) (hsc : since ≤ c0) (hb : w.heap[bm]? = some (.map #[] clock)) :
    (Instr.next (.pointer (some ⟨w.heap.size, 0, none⟩)) false ty).run P (w.alloc (.mapIter (some bm) since seen c0)) = Result.ok (.tuple #[.bool false]) (w.alloc (.mapIter (some bm) since seen c0)) := by
  rcases run_next_map (P := P) w ty bm since c0 seen #[] clock hb (by simp) hsc with ⟨_, h⟩ | ⟨e, he, _⟩
  · exact h
  · simp [leftOf] at he
theorem new_cell (w : World) (v : Value) (t : TypeId) : (w.alloc (.cells #[v] t)).cell? ⟨w.heap.size, 0, none⟩ = some v ∧ (w.alloc (.cells #[v] t)).frozen? ⟨w.heap.size, 0, none⟩ = false := by
  have h := heap_alloc_new w (.cells #[v] t)
  constructor
  · simp only [World.cell?, h]; rfl
  · simp only [World.frozen?, h]; rfl

/-- the iterator over the keys of a map in which nothing is -/
theorem keys_stops (F : Fence) (n : Nat) (h : F.fn 33) (hro : F.round = none) (Bm b clock : Nat) (w : World) (hBm : Bm < w.heap.size) (hb : b < w.heap.size)
    (hm : w.cell? ⟨Bm, 0, none⟩ = some (.map (some b))) (hmap : w.heap[b]? = some (.map #[] clock)) :
    SeqStopsK (α := Empty) F n Tryz.prog 33 #[.pointer (some ⟨Bm, 0, none⟩)] (fun x => nomatch x) (fun _ _ => True) (fun _ => True) (fun _ => False) 0 w := by
  intro l J Jx W hW hJ _ _ h0
  have hm' := (hW.cell (p := ⟨Bm, 0, none⟩) hBm).trans hm
  have hmap' := (hW.block b hb).trans hmap
  have hrg := run_range_map (P := Tryz.prog) W 57 3 58 b #[] clock Tryz.underlying57 hmap'
  have hnx : ∀ ty, (Instr.next (.pointer (some ⟨W.heap.size, 0, none⟩)) false ty).run Tryz.prog (W.alloc (.mapIter (some b) clock #[] clock)) = _ := fun ty => next_empty W ty b clock clock clock #[] (Nat.le_refl _) hmap'
  refine callsIn_of_wp Tryz.func33 rfl h ?_ hro
  simp only [Tryz.ntmps33, List.size_toArray, List.length_cons, List.length_nil, Nat.reduceAdd, Nat.reduceSub, Array.replicate_succ, Array.replicate_zero, List.push_toArray, List.append_toArray, List.nil_append, List.cons_append]
  gi_wp2
  refine wpIn_loop_rounds 1 ?_
  rw [roundsIn_succ]
  gi_wp2
  go_end0
  exact ⟨⟨_, rfl⟩, .inl ⟨[], trivial, hJ [] W _ none h0 (World.grownBy_alloc W _ none) (fun r e => by cases e)⟩⟩

/-- slices.AppendSeq[int] of it: nil -/
theorem appendSeq_keys (F : Fence) (n : Nat) (h54 : F.fn 54) (h33 : F.fn 33) (hro : F.round = none) (hn : 1 ≤ n) (Bm b clock : Nat) (w : World) (hBm : Bm < w.heap.size) (hb : b < w.heap.size)
    (hm : w.cell? ⟨Bm, 0, none⟩ = some (.map (some b))) (hmap : w.heap[b]? = some (.map #[] clock)) :
    CallsIn F n Tryz.prog 54 #[.slice none 0 0, .func (.func 33) #[] #[.pointer (some ⟨Bm, 0, none⟩)]] w fun e w' => e = .returned (.slice none 0 0) ∧ Below w.heap.size w w' := by
  refine callsIn_of_wp_marks Tryz.func54 rfl h54 ?_ hro
  simp only [Tryz.ntmps54, List.size_toArray, List.length_cons, List.length_nil, Nat.reduceAdd, Nat.reduceSub, Array.replicate_succ, Array.replicate_zero, List.push_toArray, List.append_toArray, List.nil_append, List.cons_append]
  gi_wp2
  have hs := new_cell w (.slice none 0 0) 33
  refine wpIn_rangeFunc_ownF (α := Empty) hro hn (gf := 33) (lb := #[.pointer (some ⟨Bm, 0, none⟩)]) rfl h33 (enters_of Tryz.func33 (by kernel_rfl) rfl)
    (keys_stops F (n - 1) h33 hro Bm b clock (w.alloc (.cells #[.slice none 0 0] 33)) (by simp; omega) (by simp; omega) ((World.cell?_alloc_lt _ _ _ hBm).trans hm) ((Below.heap_alloc _ _ _ hb).trans hmap))
    (fun _ _ => trivial) (fun _ _ _ _ _ _ _ _ => trivial) (Below.refl _ _) (fun x => nomatch x)
    (fun _ W => (W.cell? ⟨w.heap.size, 0, none⟩ = some (.slice none 0 0) ∧ W.frozen? ⟨w.heap.size, 0, none⟩ = false) ∧ Below w.heap.size w W)
    (fun _ _ _ => False)
    (OwnFrom.and (Own.from (fun s A B row hs hg hr => ⟨cell_kept hs.1 hg hr, (frozen_kept hs.1 hg hr).trans hs.2⟩) _) (ownFrom_below (Nat.le_refl _) (by simp)))
    (fun _ _ _ _ _ hs _ _ => hs)
    ⟨hs, (Below.refl _ _).alloc (Nat.le_refl _) _⟩
    (fun x => nomatch x) ?assign ?body ?done ?stop
  case assign => intro l x; exact nomatch x
  case body => intro l pre x; exact nomatch x
  case done =>
    rintro D ys W hD - ⟨⟨hc, _⟩, hB⟩ hK
    gi_wp2
    refine ⟨by simp, .inl ⟨_, _, rfl, run_takeDeferred hK, ?_⟩⟩
    exact ⟨_, results_tmp rfl _ _ _, rfl, hB.trans (belowK_b (w := w) (Nat.le_refl _) W D _ _ (by simp at hD; omega) hK rfl rfl)⟩
  case stop =>
    rintro D c pre W _ _ h _
    exact h.elim

theorem appendSeq_keys' (Bm b clock : Nat) (w : World) (hBm : Bm < w.heap.size) (hb : b < w.heap.size) (hm : w.cell? ⟨Bm, 0, none⟩ = some (.map (some b))) (hmap : w.heap[b]? = some (.map #[] clock)) :
    Calls Tryz.prog 54 #[.slice none 0 0, .func (.func 33) #[] #[.pointer (some ⟨Bm, 0, none⟩)]] w fun e w' => e = .returned (.slice none 0 0) ∧ Below w.heap.size w w' :=
  (callsIn_wide (n := 3)).1 (appendSeq_keys Fence.wide 3 trivial trivial rfl (by omega) Bm b clock w hBm hb hm hmap)

theorem collect_keys (Bm b clock : Nat) (w : World) (hBm : Bm < w.heap.size) (hb : b < w.heap.size) (hm : w.cell? ⟨Bm, 0, none⟩ = some (.map (some b))) (hmap : w.heap[b]? = some (.map #[] clock)) :
    Calls Tryz.prog 31 #[.func (.func 33) #[] #[.pointer (some ⟨Bm, 0, none⟩)]] w fun e w' => e = .returned (.slice none 0 0) ∧ Below w.heap.size w w' := by
  go_enter Tryz.func31, Tryz.ntmps31
  go_wp2_with (go_at_call 54; refine (appendSeq_keys' Bm b clock _ hBm hb hm hmap).mono ?_; rintro e w' ⟨rfl, hB⟩)
  go_ret
  exact ⟨rfl, hB⟩

theorem insertion_none (w : World) : Calls Tryz.prog 84 #[.slice none 0 0, .int .i64 0, .int .i64 0] w fun e w' => e = .returned (.tuple #[]) ∧ w = w' := by
  go_enter Tryz.func84, Tryz.ntmps84
  go_wp2
  refine wp_loop_rounds 1 ?_
  rw [rounds_succ]
  go_wp2
  go_end0
  exact ⟨rfl, rfl⟩

theorem pdq_none (m : Int) (w : World) : Calls Tryz.prog 55 #[.slice none 0 0, .int .i64 0, .int .i64 0, .int .i64 m] w fun e w' => e = .returned (.tuple #[]) ∧ w = w' := by
  go_enter Tryz.func55, Tryz.ntmps55
  go_wp2
  refine wp_loop_rounds 1 ?_
  rw [rounds_succ]
  go_wp2_with (go_at_call 84; refine (insertion_none _).mono ?_; rintro e w' ⟨rfl, rfl⟩)
  refine bodyPost_ret (results_none rfl _ _ _) rfl ?_
  exact ⟨rfl, rfl⟩

def AnyInt (e : Ending) : Prop := ∃ m, e = .returned (.int .i64 m)
theorem len_none (w : World) : Calls Tryz.prog 56 #[.int .u64 0] w fun e w' => AnyInt e ∧ w = w' := by
  go_enter Tryz.func56, Tryz.ntmps56
  go_wp2
  go_ret
  exact ⟨⟨_, rfl⟩, rfl⟩

theorem sort_none (w : World) : Calls Tryz.prog 32 #[.slice none 0 0] w fun e w' => e = .returned (.tuple #[]) ∧ w = w' := by
  go_enter Tryz.func32, Tryz.ntmps32
  go_wp2_with (first | (go_at_call 56; refine (len_none _).mono ?_; rintro e w' ⟨⟨m, rfl⟩, rfl⟩) | (go_at_call 55; refine (pdq_none _ _).mono ?_; rintro e w' ⟨rfl, rfl⟩))
  go_end0
  exact ⟨rfl, rfl⟩

theorem sorted_keys (Bm b clock : Nat) (w : World) (hBm : Bm < w.heap.size) (hb : b < w.heap.size) (hm : w.cell? ⟨Bm, 0, none⟩ = some (.map (some b))) (hmap : w.heap[b]? = some (.map #[] clock)) :
    Calls Tryz.prog 16 #[.func (.func 33) #[] #[.pointer (some ⟨Bm, 0, none⟩)]] w fun e w' => e = .returned (.slice none 0 0) ∧ Below w.heap.size w w' := by
  go_enter Tryz.func16, Tryz.ntmps16
  go_wp2_with (first | (go_at_call 31; refine (collect_keys Bm b clock _ hBm hb hm hmap).mono ?_; rintro e w' ⟨rfl, hB⟩) | (go_at_call 32; refine (sort_none _).mono ?_; rintro e w' ⟨rfl, rfl⟩))
  go_ret
  exact ⟨rfl, hB⟩

theorem totals_none (w : World) : Calls Tryz.prog 9 #[.slice none 0 0] w fun e w' => e = .returned (.slice none 0 0) ∧ Below w.heap.size w w' := by
  have hmm := @run_makeMap Tryz.prog
  have h1 : ((w.alloc (.map #[] 0)).alloc (.cells #[.map (some w.heap.size)] 57)).cell? ⟨w.heap.size + 1, 0, none⟩ = some (.map (some w.heap.size)) := by
    have h := (new_cell (w.alloc (.map #[] 0)) (.map (some w.heap.size)) 57).1
    rwa [World.size_alloc] at h
  have h2 : ((w.alloc (.map #[] 0)).alloc (.cells #[.map (some w.heap.size)] 57)).heap[w.heap.size]? = some (.map #[] 0) :=
    (Below.heap_alloc _ _ _ (by simp)).trans (heap_alloc_new w _)
  have H1 := Lib.hid h1
  have H2 := Lib.hid h2
  clear h1 h2
  go_enter Tryz.func9, Tryz.ntmps9
  go_wp2
  refine wp_loop_rounds 1 ?_
  rw [rounds_succ]
  go_wp2_with (first | (go_at_call 17; go_in) | (go_at_call 16; refine (sorted_keys (w.heap.size + 1) w.heap.size 0 _ (by simp) (by simp; omega) H1.out H2.out).mono ?_; rintro e w' ⟨rfl, hB⟩))
  refine wp_loop_rounds 1 ?_
  rw [rounds_succ]
  go_wp2
  go_ret
  exact ⟨rfl, (((Below.refl _ _).alloc (Nat.le_refl _) _).alloc (by simp) _).trans (hB.mono (by simp; omega))⟩

/-! the same of a map of uses, sorted by a function -/
theorem vals_stops (F : Fence) (n : Nat) (h : F.fn 45) (hro : F.round = none) (Bm b clock : Nat) (w : World) (hBm : Bm < w.heap.size) (hb : b < w.heap.size)
    (hm : w.cell? ⟨Bm, 0, none⟩ = some (.map (some b))) (hmap : w.heap[b]? = some (.map #[] clock)) :
    SeqStopsK (α := Empty) F n Tryz.prog 45 #[.pointer (some ⟨Bm, 0, none⟩)] (fun x => nomatch x) (fun _ _ => True) (fun _ => True) (fun _ => False) 0 w := by
  intro l J Jx W hW hJ _ _ h0
  have hm' := (hW.cell (p := ⟨Bm, 0, none⟩) hBm).trans hm
  have hmap' := (hW.block b hb).trans hmap
  have hrg := run_range_map (P := Tryz.prog) W 65 3 78 b #[] clock Tryz.underlying65 hmap'
  have hnx : ∀ ty, (Instr.next (.pointer (some ⟨W.heap.size, 0, none⟩)) false ty).run Tryz.prog (W.alloc (.mapIter (some b) clock #[] clock)) = _ := fun ty => next_empty W ty b clock clock clock #[] (Nat.le_refl _) hmap'
  refine callsIn_of_wp Tryz.func45 rfl h ?_ hro
  simp only [Tryz.ntmps45, List.size_toArray, List.length_cons, List.length_nil, Nat.reduceAdd, Nat.reduceSub, Array.replicate_succ, Array.replicate_zero, List.push_toArray, List.append_toArray, List.nil_append, List.cons_append]
  gi_wp2
  refine wpIn_loop_rounds 1 ?_
  rw [roundsIn_succ]
  gi_wp2
  go_end0
  exact ⟨⟨_, rfl⟩, .inl ⟨[], trivial, hJ [] W _ none h0 (World.grownBy_alloc W _ none) (fun r e => by cases e)⟩⟩

theorem appendSeq_vals (F : Fence) (n : Nat) (h72 : F.fn 72) (h45 : F.fn 45) (hro : F.round = none) (hn : 1 ≤ n) (Bm b clock : Nat) (w : World) (hBm : Bm < w.heap.size) (hb : b < w.heap.size)
    (hm : w.cell? ⟨Bm, 0, none⟩ = some (.map (some b))) (hmap : w.heap[b]? = some (.map #[] clock)) :
    CallsIn F n Tryz.prog 72 #[.slice none 0 0, .func (.func 45) #[] #[.pointer (some ⟨Bm, 0, none⟩)]] w fun e w' => e = .returned (.slice none 0 0) ∧ Below w.heap.size w w' := by
  refine callsIn_of_wp_marks Tryz.func72 rfl h72 ?_ hro
  simp only [Tryz.ntmps72, List.size_toArray, List.length_cons, List.length_nil, Nat.reduceAdd, Nat.reduceSub, Array.replicate_succ, Array.replicate_zero, List.push_toArray, List.append_toArray, List.nil_append, List.cons_append]
  gi_wp2
  have hs := new_cell w (.slice none 0 0) 38
  refine wpIn_rangeFunc_ownF (α := Empty) hro hn (gf := 45) (lb := #[.pointer (some ⟨Bm, 0, none⟩)]) rfl h45 (enters_of Tryz.func45 (by kernel_rfl) rfl)
    (vals_stops F (n - 1) h45 hro Bm b clock (w.alloc (.cells #[.slice none 0 0] 38)) (by simp; omega) (by simp; omega) ((World.cell?_alloc_lt _ _ _ hBm).trans hm) ((Below.heap_alloc _ _ _ hb).trans hmap))
    (fun _ _ => trivial) (fun _ _ _ _ _ _ _ _ => trivial) (Below.refl _ _) (fun x => nomatch x)
    (fun _ W => (W.cell? ⟨w.heap.size, 0, none⟩ = some (.slice none 0 0) ∧ W.frozen? ⟨w.heap.size, 0, none⟩ = false) ∧ Below w.heap.size w W)
    (fun _ _ _ => False)
    (OwnFrom.and (Own.from (fun s A B row hs hg hr => ⟨cell_kept hs.1 hg hr, (frozen_kept hs.1 hg hr).trans hs.2⟩) _) (ownFrom_below (Nat.le_refl _) (by simp)))
    (fun _ _ _ _ _ hs _ _ => hs)
    ⟨hs, (Below.refl _ _).alloc (Nat.le_refl _) _⟩
    (fun x => nomatch x) ?assign ?body ?done ?stop
  case assign => intro l x; exact nomatch x
  case body => intro l pre x; exact nomatch x
  case done =>
    rintro D ys W hD - ⟨⟨hc, _⟩, hB⟩ hK
    gi_wp2
    refine ⟨by simp, .inl ⟨_, _, rfl, run_takeDeferred hK, ?_⟩⟩
    exact ⟨_, results_tmp rfl _ _ _, rfl, hB.trans (belowK_b (w := w) (Nat.le_refl _) W D _ _ (by simp at hD; omega) hK rfl rfl)⟩
  case stop =>
    rintro D c pre W _ _ h _
    exact h.elim

theorem appendSeq_vals' (Bm b clock : Nat) (w : World) (hBm : Bm < w.heap.size) (hb : b < w.heap.size) (hm : w.cell? ⟨Bm, 0, none⟩ = some (.map (some b))) (hmap : w.heap[b]? = some (.map #[] clock)) :
    Calls Tryz.prog 72 #[.slice none 0 0, .func (.func 45) #[] #[.pointer (some ⟨Bm, 0, none⟩)]] w fun e w' => e = .returned (.slice none 0 0) ∧ Below w.heap.size w w' :=
  (callsIn_wide (n := 3)).1 (appendSeq_vals Fence.wide 3 trivial trivial rfl (by omega) Bm b clock w hBm hb hm hmap)

theorem collect_vals (Bm b clock : Nat) (w : World) (hBm : Bm < w.heap.size) (hb : b < w.heap.size) (hm : w.cell? ⟨Bm, 0, none⟩ = some (.map (some b))) (hmap : w.heap[b]? = some (.map #[] clock)) :
    Calls Tryz.prog 43 #[.func (.func 45) #[] #[.pointer (some ⟨Bm, 0, none⟩)]] w fun e w' => e = .returned (.slice none 0 0) ∧ Below w.heap.size w w' := by
  go_enter Tryz.func43, Tryz.ntmps43
  go_wp2_with (go_at_call 72; refine (appendSeq_vals' Bm b clock _ hBm hb hm hmap).mono ?_; rintro e w' ⟨rfl, hB⟩)
  go_ret
  exact ⟨rfl, hB⟩

theorem insertionF_none (w : World) : Calls Tryz.prog 105 #[.slice none 0 0, .int .i64 0, .int .i64 0, .func (.func 23) #[] #[]] w fun e w' => e = .returned (.tuple #[]) ∧ w = w' := by
  go_enter Tryz.func105, Tryz.ntmps105
  go_wp2
  refine wp_loop_rounds 1 ?_
  rw [rounds_succ]
  go_wp2
  go_end0
  exact ⟨rfl, rfl⟩

theorem pdqF_none (m : Int) (w : World) : Calls Tryz.prog 73 #[.slice none 0 0, .int .i64 0, .int .i64 0, .int .i64 m, .func (.func 23) #[] #[]] w fun e w' => e = .returned (.tuple #[]) ∧ w = w' := by
  go_enter Tryz.func73, Tryz.ntmps73
  go_wp2
  refine wp_loop_rounds 1 ?_
  rw [rounds_succ]
  go_wp2_with (go_at_call 105; refine (insertionF_none _).mono ?_; rintro e w' ⟨rfl, rfl⟩)
  refine bodyPost_ret (results_none rfl _ _ _) rfl ?_
  exact ⟨rfl, rfl⟩

theorem sortF_none (w : World) : Calls Tryz.prog 44 #[.slice none 0 0, .func (.func 23) #[] #[]] w fun e w' => e = .returned (.tuple #[]) ∧ w = w' := by
  go_enter Tryz.func44, Tryz.ntmps44
  go_wp2_with (first | (go_at_call 56; refine (len_none _).mono ?_; rintro e w' ⟨⟨m, rfl⟩, rfl⟩) | (go_at_call 73; refine (pdqF_none _ _).mono ?_; rintro e w' ⟨rfl, rfl⟩))
  go_end0
  exact ⟨rfl, rfl⟩

theorem sorted_vals (Bm b clock : Nat) (w : World) (hBm : Bm < w.heap.size) (hb : b < w.heap.size) (hm : w.cell? ⟨Bm, 0, none⟩ = some (.map (some b))) (hmap : w.heap[b]? = some (.map #[] clock)) :
    Calls Tryz.prog 21 #[.func (.func 45) #[] #[.pointer (some ⟨Bm, 0, none⟩)], .func (.func 23) #[] #[]] w fun e w' => e = .returned (.slice none 0 0) ∧ Below w.heap.size w w' := by
  go_enter Tryz.func21, Tryz.ntmps21
  go_wp2_with (first | (go_at_call 43; refine (collect_vals Bm b clock _ hBm hb hm hmap).mono ?_; rintro e w' ⟨rfl, hB⟩) | (go_at_call 44; refine (sortF_none _).mono ?_; rintro e w' ⟨rfl, rfl⟩))
  go_ret
  exact ⟨rfl, hB⟩

theorem uses_none (w : World) : Calls Tryz.prog 10 #[.slice none 0 0] w fun e w' => e = .returned (.slice none 0 0) ∧ Below w.heap.size w w' := by
  have hmm := @run_makeMap Tryz.prog
  have h1 : ((w.alloc (.map #[] 0)).alloc (.cells #[.map (some w.heap.size)] 65)).cell? ⟨w.heap.size + 1, 0, none⟩ = some (.map (some w.heap.size)) := by
    have h := (new_cell (w.alloc (.map #[] 0)) (.map (some w.heap.size)) 65).1
    rwa [World.size_alloc] at h
  have h2 : ((w.alloc (.map #[] 0)).alloc (.cells #[.map (some w.heap.size)] 65)).heap[w.heap.size]? = some (.map #[] 0) :=
    (Below.heap_alloc _ _ _ (by simp)).trans (heap_alloc_new w _)
  have H1 := Lib.hid h1
  have H2 := Lib.hid h2
  clear h1 h2
  go_enter Tryz.func10, Tryz.ntmps10
  go_wp2
  refine wp_loop_rounds 1 ?_
  rw [rounds_succ]
  go_wp2_with (first | (go_at_call 22; go_in) | (go_at_call 21; refine (sorted_vals (w.heap.size + 1) w.heap.size 0 _ (by simp) (by simp; omega) H1.out H2.out).mono ?_; rintro e w' ⟨rfl, hB⟩))
  go_ret
  exact ⟨rfl, (((Below.refl _ _).alloc (Nat.le_refl _) _).alloc (by simp) _).trans (hB.mono (by simp; omega))⟩

theorem rows_none (w : World) : Calls Tryz.prog 8 #[.slice none 0 0] w fun e w' => e = .returned (.slice none 0 0) ∧ w = w' := by
  go_enter Tryz.func8, Tryz.ntmps8
  go_wp2
  refine wp_loop_rounds 1 ?_
  rw [rounds_succ]
  go_wp2
  go_ret
  exact ⟨rfl, rfl⟩

end Go.Proofs.YtcbpmjcolnchkaaGreatDoor
