/-
  The pace of two rows, and of none: score.Mean at one number and at none.
-/
import Derived.Test.YtcbpmjcolnchkaaGreatDoorR
import Derived.Laws.FloatArith
import Derived.LoopN
namespace Go.Proofs.YtcbpmjcolnchkaaGreatDoor
open Go.RowKit
set_option maxRecDepth 100000

theorem run_store_float (P : Program) (w : World) (a : Addr) (m : Mode) (k : FloatKind) (b : Nat) : (store a (.float k b) m).run P w = stored P w a (.float k b) m := run_store P w a _ m rfl
attribute [local go_sem] run_store_float

theorem frombits_nan (w : World) : (callFunc 47 #[.int .u64 9221120237041090561]).run Tryz.prog w = Result.ok (.value (.float .f64 9221120237041090561)) w := by kernel_rfl
theorem frombits_five (w : World) : (callFunc 47 #[.int .u64 4617315517961601024]).run Tryz.prog w = Result.ok (.value (.float .f64 4617315517961601024)) w := by kernel_rfl
theorem bits_five (w : World) : (callFunc 74 #[.float .f64 4617315517961601024]).run Tryz.prog w = Result.ok (.value (.int .u64 4617315517961601024)) w := by kernel_rfl
theorem andnot_five : bits .andNot .u64 4617315517961601024 9223372036854775808 = 4617315517961601024 := by decide +kernel
theorem order_five : (FloatKind.f64.format.order 4617315517961601024 4617315517961601024 != some Ordering.eq) = false := by kernel_rfl

theorem f1 : floatOfInt .f64 1 = 4607182418800017408 := by kernel_rfl
theorem f3 : floatOfInt .f64 3 = 4613937818241073152 := by kernel_rfl
theorem f8 : floatOfInt .f64 8 = 4620693217682128896 := by kernel_rfl

theorem nan_any (w : World) : Calls Tryz.prog 26 #[] w fun e w' => e = .returned (.float .f64 9221120237041090561) ∧ w = w' := by
  have h := frombits_nan
  go_enter Tryz.func26, Tryz.ntmps26
  go_wp2
  go_ret
  exact ⟨rfl, rfl⟩

theorem isNaN_five (w : World) : Calls Tryz.prog 24 #[.float .f64 4617315517961601024] w fun e w' => e = .returned (.bool false) ∧ w = w' := by
  have h := order_five
  go_enter Tryz.func24, Tryz.ntmps24
  go_wp2
  go_ret
  exact ⟨rfl, rfl⟩

theorem abs_five (w : World) : Calls Tryz.prog 46 #[.float .f64 4617315517961601024] w fun e w' => e = .returned (.float .f64 4617315517961601024) ∧ w = w' := by
  have h1 := frombits_five
  have h2 := bits_five
  have h3 := andnot_five
  go_enter Tryz.func46, Tryz.ntmps46
  go_wp2
  go_ret
  exact ⟨rfl, rfl⟩

theorem isInf_five (w : World) : Calls Tryz.prog 25 #[.float .f64 4617315517961601024, .int .i64 0] w fun e w' => e = .returned (.bool false) ∧ w = w' := by
  have h : ∀ W, (binOp .gtr 30 (.float .f64 4617315517961601024) (.float .f64 9218868437227405311)).run Tryz.prog W = Result.ok (.bool false) W := fun W => by kernel_rfl
  go_enter Tryz.func25, Tryz.ntmps25
  go_wp2_with (go_at_call 46; refine (abs_five _).mono ?_; rintro e w' ⟨rfl, rfl⟩)
  go_ret
  exact ⟨rfl, rfl⟩

theorem mean_none (w : World) : Calls Tryz.prog 11 #[.slice none 0 0] w fun e w' => e = .returned (.tuple #[.float .f64 9221120237041090561, .int .i64 0]) ∧ w = w' := by
  go_enter Tryz.func11, Tryz.ntmps11
  go_wp2
  refine wp_loop_rounds 1 ?_
  rw [rounds_succ]
  go_wp2_with (go_at_call 26; refine (nan_any _).mono ?_; rintro e w' ⟨rfl, rfl⟩)
  go_ret2
  exact ⟨rfl, rfl⟩

theorem mean_five (w : World) (a : Addr) (c : Nat) (hc : w.cell? a = some (.float .f64 4617315517961601024)) :
    Calls Tryz.prog 11 #[.slice (some a) 1 c] w fun e w' => e = .returned (.tuple #[.float .f64 4617315517961601024, .int .i64 1]) ∧ w = w' := by
  have h1 : ∀ W, (binOp .add 30 (.float .f64 0) (.float .f64 4617315517961601024)).run Tryz.prog W = Result.ok (.float .f64 4617315517961601024) W := fun W => by kernel_rfl
  have h2 : ∀ W, (binOp .quo 30 (.float .f64 4617315517961601024) (.float .f64 4607182418800017408)).run Tryz.prog W = Result.ok (.float .f64 4617315517961601024) W := fun W => by kernel_rfl
  have h3 := f1
  go_enter Tryz.func11, Tryz.ntmps11
  go_wp2
  refine wp_loop_rounds 2 ?_
  rw [rounds_succ]
  go_wp2_with (first | (go_at_call 24; refine (isNaN_five _).mono ?_; rintro e w' ⟨rfl, rfl⟩) | (go_at_call 25; refine (isInf_five _).mono ?_; rintro e w' ⟨rfl, rfl⟩))
  rw [rounds_succ]
  go_wp2
  go_ret2
  exact ⟨rfl, rfl⟩

theorem pace_none (win : Int) (w : World) : Calls Tryz.prog 6 #[.slice none 0 0, .int .i64 win] w fun e w' => e = .returned (.tuple #[.float .f64 9221120237041090561, .int .i64 0]) ∧ w = w' := by
  go_enter Tryz.func6, Tryz.ntmps6
  go_wp2
  refine wp_loop_rounds 1 ?_
  rw [rounds_succ]
  go_wp2_with (go_at_call 11; refine (mean_none _).mono ?_; rintro e w' ⟨rfl, rfl⟩)
  go_ret2
  exact ⟨rfl, rfl⟩

theorem info30 : (Tryz.prog.info? 30).map (fun i => (i.zero, i.size, i.bytes)) = some (some (.float .f64 0), 1, 8) := by kernel_rfl

set_option maxHeartbeats 1000000 in
theorem pace_two (w : World) (g : Nat) (hg : w.heap[g]? = some (.cells #[.int .i64 1, .int .i64 3, .int .i64 0, .int .i64 0, .int .i64 0, .bool false, .int .i64 1, .int .i64 8, .int .i64 0, .int .i64 0, .int .i64 0, .bool false] 29 (0, 0))) :
    Calls Tryz.prog 6 #[.slice (some ⟨g, 0, none⟩) 2 2, .int .i64 1] w fun e w' => e = .returned (.tuple #[.float .f64 4617315517961601024, .int .i64 1]) ∧ Below w.heap.size w w' := by
  obtain ⟨i30, hi30, hz30, hs30, hb30⟩ := info_parts info30
  have hgl : g < w.heap.size := (Array.getElem?_eq_some_iff.1 hg).1
  have cell : ∀ (W : World), Below w.heap.size w W → ∀ j, W.cell? ⟨g, j, none⟩ = (#[Value.int .i64 1, .int .i64 3, .int .i64 0, .int .i64 0, .int .i64 0, .bool false, .int .i64 1, .int .i64 8, .int .i64 0, .int .i64 0, .int .i64 0, .bool false])[j]? := fun W hB j => by
    rw [hB.cell (p := ⟨g, j, none⟩) hgl]; simp [World.cell?, hg]
  have hB0 := Below.refl w.heap.size w
  have c0 := cell w hB0 0
  have c1 := cell w hB0 1
  have c2 := cell w hB0 2
  have c3 := cell w hB0 3
  have c4 := cell w hB0 4
  have c5 := cell w hB0 5
  have c6 := cell w hB0 6
  have c7 := cell w hB0 7
  have c8 := cell w hB0 8
  have c9 := cell w hB0 9
  have c10 := cell w hB0 10
  have c11 := cell w hB0 11
  simp only [List.getElem?_toArray, List.getElem?_cons_zero, List.getElem?_cons_succ] at c0 c1 c2 c3 c4 c5 c6 c7 c8 c9 c10 c11
  clear cell
  have e3 := f3
  have e8 := f8
  have es : ∀ W, (binOp .sub 30 (.float .f64 4620693217682128896) (.float .f64 4613937818241073152)).run Tryz.prog W = Result.ok (.float .f64 4617315517961601024) W := fun W => by kernel_rfl
  go_enter Tryz.func6, Tryz.ntmps6
  go_wp2
  refine wp_loop_rounds 3 ?_
  rw [rounds_succ]
  go_wp2
  refine wp_loop_rounds 1 ?_
  rw [rounds_succ]
  go_wp2
  rw [rounds_succ]
  go_wp2
  refine wp_loop_rounds 2 ?_
  rw [rounds_succ]
  go_wp2_with (at_builtin; refine stop ?_)
  unfold Stop
  refine wpList_append_own_at _ rfl _ _ 44 rfl w.heap.size 30 i30 _ 1 8 Tryz.underlying44 hi30 hz30 hs30 hb30 rfl (by decide) (.slice none 0 0) 0 [] (by rfl) (World.ownsRow_nil _ _ _ _) ⟨w.heap.size + 1 + 1 + 1 + 1, 0, none⟩ 1 1 [.float .f64 4617315517961601024] rfl rfl ?n1 (by simp [Value.oneCell']) (by unfold maxLen; omega) (by omega) ?b1 (fun v1 w1 h1 hg1 _ hl1 => ?_)
  case n1 =>
    have := cell_one_new ((((w.alloc (.cells #[.int .i64 1, .int .i64 3, .int .i64 0, .int .i64 0, .int .i64 0, .bool false] 29)).alloc (.cells #[.int .i64 1, .int .i64 3, .int .i64 0, .int .i64 0, .int .i64 0, .bool false] 29)).alloc (.cells #[.int .i64 1, .int .i64 8, .int .i64 0, .int .i64 0, .int .i64 0, .bool false] 29)).alloc (.cells #[.int .i64 1, .int .i64 3, .int .i64 0, .int .i64 0, .int .i64 0, .bool false] 29)) (.float .f64 4617315517961601024) 30
    simpa using this
  case b1 => simp; omega
  obtain ⟨g1, cap1, rfl, hge1, hlt1⟩ := h1.form (by omega)
  have hc1 := h1.cells (g := g1) rfl 0 (.float .f64 4617315517961601024) rfl
  have hz1 := hg1.size
  simp only [World.size_alloc] at hz1
  have hbx : w1.heap[w.heap.size + 1 + 1]? = some (.cells #[.int .i64 1, .int .i64 8, .int .i64 0, .int .i64 0, .int .i64 0, .bool false] 29 (0, 0)) := by
    rw [hg1.block _ (by simp) (by simp [Value.ownBlock])]
    rw [Below.heap_alloc _ _ _ (by simp), Below.heap_alloc _ _ _ (by simp)]
    simpa using heap_alloc_new ((w.alloc (.cells #[.int .i64 1, .int .i64 3, .int .i64 0, .int .i64 0, .int .i64 0, .bool false] 29)).alloc (.cells #[.int .i64 1, .int .i64 3, .int .i64 0, .int .i64 0, .int .i64 0, .bool false] 29)) (.cells #[.int .i64 1, .int .i64 8, .int .i64 0, .int .i64 0, .int .i64 0, .bool false] 29)
  have y0 : w1.cell? ⟨w.heap.size + 1 + 1, 0, none⟩ = some (.int .i64 1) := by simp [World.cell?, hbx]
  have y1 : w1.cell? ⟨w.heap.size + 1 + 1, 1, none⟩ = some (.int .i64 8) := by simp [World.cell?, hbx]
  have y2 : w1.cell? ⟨w.heap.size + 1 + 1, 2, none⟩ = some (.int .i64 0) := by simp [World.cell?, hbx]
  have y3 : w1.cell? ⟨w.heap.size + 1 + 1, 3, none⟩ = some (.int .i64 0) := by simp [World.cell?, hbx]
  have y4 : w1.cell? ⟨w.heap.size + 1 + 1, 4, none⟩ = some (.int .i64 0) := by simp [World.cell?, hbx]
  have y5 : w1.cell? ⟨w.heap.size + 1 + 1, 5, none⟩ = some (.bool false) := by simp [World.cell?, hbx]
  have hB1 : Below w.heap.size w w1 := ((((((Below.refl _ _).alloc (Nat.le_refl _) _).alloc (by simp) _).alloc (by simp; omega) _).alloc (by simp; omega) _).alloc (by simp; omega) _).grown hg1 (by simp; omega) (fun j hj => by simp [Value.ownBlock] at hj)
  clear hbx hg1 c0 c1 c2 c3 c4 c5 c6 c7 c8 c9 c10 c11 hg
  go_wp2
  rw [rounds_succ]
  go_wp2
  rw [rounds_succ]
  simp only [Addr.add] at hc1
  have hcc : (w1.alloc (.cells #[.int .i64 1, .int .i64 8, .int .i64 0, .int .i64 0, .int .i64 0, .bool false] 29)).cell? ⟨g1, 0, none⟩ = some (.float .f64 4617315517961601024) := (World.cell?_alloc_lt _ _ _ hlt1).trans hc1
  go_wp2_with (go_at_call 11; refine (mean_five _ _ _ hcc).mono ?_; rintro e w' ⟨rfl, rfl⟩)
  go_ret2
  exact ⟨rfl, hB1.alloc hB1.size _⟩

end Go.Proofs.YtcbpmjcolnchkaaGreatDoor
