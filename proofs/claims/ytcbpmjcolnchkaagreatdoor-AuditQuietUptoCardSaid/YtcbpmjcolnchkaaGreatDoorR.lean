/-
  The rows of a list of rows: what coraclelaw24.rows comes to. (first trial)
-/
import Derived.Test.YtcbpmjcolnchkaaGreatDoorChecked
import Derived.WalkKit
import Derived.WalkLawsBesides
import Derived.WalkSpells
import Derived.Maps.AppendAt
import Derived.Deep.AppendLies
import Derived.Outline
import Derived.Lib.Hide
namespace Go.Proofs.YtcbpmjcolnchkaaGreatDoor
open Go.RowKit

/-- Where a walk is to stand still. -/
def Stop (p : Prop) : Prop := p
theorem stop {p : Prop} (h : Stop p) : p := h

theorem new2 (w : World) (a b : Obj) : ((w.alloc a).alloc b).heap[w.heap.size + 1]? = some b := by
  have := heap_alloc_new (w.alloc a) b
  rwa [World.size_alloc] at this

/-- A row of the law's. -/
structure R6 where
  c : Int
  n : Int
  x : Int
  p : Int
  s : Int
  a : Bool

def R6.vals (r : R6) : List Value := [.int .i64 r.c, .int .i64 r.n, .int .i64 r.x, .int .i64 r.p, .int .i64 r.s, .bool r.a]
def R6.vals7 (r : R6) : List Value := [.int .i64 r.c, .int .i64 r.n, .int .i64 r.x, .int .i64 r.p, .int .i64 r.s, .bool r.a, .int .i64 0]
def cells6 (rs : List R6) : List Value := rs.flatMap R6.vals
def cells7 (rs : List R6) : List Value := rs.flatMap R6.vals7

/-- A slice of rows that reads as rs: the element k at its six cells. -/
def RowsAt (w : World) (B : Nat) (A : Option Addr) (rs : List R6) : Prop :=
  ∀ (k : Nat) (r : R6), rs[k]? = some r → ∃ b o, A = some ⟨b, o, none⟩ ∧ b < B ∧
    w.cell? ⟨b, o + k * 6, none⟩ = some (.int .i64 r.c) ∧ w.cell? ⟨b, o + k * 6 + 1, none⟩ = some (.int .i64 r.n) ∧ w.cell? ⟨b, o + k * 6 + 2, none⟩ = some (.int .i64 r.x) ∧
    w.cell? ⟨b, o + k * 6 + 3, none⟩ = some (.int .i64 r.p) ∧ w.cell? ⟨b, o + k * 6 + 4, none⟩ = some (.int .i64 r.s) ∧ w.cell? ⟨b, o + k * 6 + 5, none⟩ = some (.bool r.a)

theorem RowsAt.below {w w' : World} {B : Nat} {A : Option Addr} {rs : List R6} (h : RowsAt w B A rs) (hb : Below B w w') : RowsAt w' B A rs := by
  intro k r hk
  obtain ⟨b, o, hA, hlt, h0, h1, h2, h3, h4, h5⟩ := h k r hk
  exact ⟨b, o, hA, hlt, (hb.cell (p := ⟨b, _, none⟩) hlt).trans h0, (hb.cell (p := ⟨b, _, none⟩) hlt).trans h1, (hb.cell (p := ⟨b, _, none⟩) hlt).trans h2, (hb.cell (p := ⟨b, _, none⟩) hlt).trans h3, (hb.cell (p := ⟨b, _, none⟩) hlt).trans h4, (hb.cell (p := ⟨b, _, none⟩) hlt).trans h5⟩

theorem cells6_snoc (rs : List R6) (k : Nat) (r : R6) (h : rs[k]? = some r) : cells6 (rs.take (k + 1)) = cells6 (rs.take k) ++ r.vals := by
  obtain ⟨hlt, rfl⟩ := List.getElem?_eq_some_iff.1 h
  rw [cells6, List.take_succ_eq_append_getElem hlt, List.flatMap_append]; simp [cells6]
theorem cells7_snoc (rs : List R6) (k : Nat) (r : R6) (h : rs[k]? = some r) : cells7 (rs.take (k + 1)) = cells7 (rs.take k) ++ r.vals7 := by
  obtain ⟨hlt, rfl⟩ := List.getElem?_eq_some_iff.1 h
  rw [cells7, List.take_succ_eq_append_getElem hlt, List.flatMap_append]; simp [cells7]
theorem vals_one (r : R6) : ∀ u ∈ r.vals, u.oneCell' = true := by simp [R6.vals, Value.oneCell']
theorem vals7_one (r : R6) : ∀ u ∈ r.vals7, u.oneCell' = true := by simp [R6.vals7, Value.oneCell']

theorem info29 : (Tryz.prog.info? 29).map (fun i => (i.zero, i.size, i.bytes)) = some (some (.agg #[.int .i64 0, .int .i64 0, .int .i64 0, .int .i64 0, .int .i64 0, .bool false]), 6, 48) := by kernel_rfl
theorem info43 : (Tryz.prog.info? 43).map (fun i => (i.zero, i.size, i.bytes)) = some (some (.agg #[.int .i64 0, .int .i64 0, .int .i64 0, .int .i64 0, .int .i64 0, .bool false, .int .i64 0]), 7, 56) := by kernel_rfl

theorem own_ne {w : World} {base base' : Nat} {e e' : TypeId} {size size' n n' : Nat} {v v' : Value} {xs xs' : List Value} (h : w.ownsRow base e size v n xs) (h' : w.ownsRow base' e' size' v' n' xs') (hne : e ≠ e') :
    v.ownBlock = none ∨ v.ownBlock ≠ v'.ownBlock := by
  rcases h.2 with ⟨rfl, _⟩ | ⟨g, cap, cur, rfl, _, hh, _⟩
  · exact .inl rfl
  · refine .inr fun he => ?_
    rcases h'.2 with ⟨rfl, _⟩ | ⟨g', cap', cur', rfl, _, hh', _⟩
    · simp [Value.ownBlock] at he
    · simp only [Value.ownBlock, Option.some.injEq] at he
      subst he
      rw [hh] at hh'
      injection hh' with hh'
      injection hh' with _ ht
      exact hne ht

set_option maxRecDepth 100000 in
set_option maxHeartbeats 1000000 in
theorem rows_any (rs : List R6) (A : Option Addr) (cap : Nat) (w : World) (hr : RowsAt w w.heap.size A rs) (hn : rs.length ≤ 1048576) :
    Calls Tryz.prog 5 #[.slice A rs.length cap] w fun e w' => ∃ v1 v2, e = .returned (.tuple #[v1, v2]) ∧ w'.ownsRow w.heap.size 29 6 v1 rs.length (cells6 rs) ∧ Below w.heap.size w w' := by
  obtain ⟨i29, hi29, hz29, hs29, hb29⟩ := info_parts info29
  obtain ⟨i43, hi43, hz43, hs43, hb43⟩ := info_parts info43
  go_enter Tryz.func5, Tryz.ntmps5
  go_wp2
  go_loopw [4, 5, 6] (fun v4 v5 i wr => ∃ k : Nat, k ≤ rs.length ∧ i = .int .i64 k ∧ wr.ownsRow w.heap.size 29 6 v4 k (cells6 (rs.take k)) ∧ wr.ownsRow w.heap.size 43 7 v5 k (cells7 (rs.take k)) ∧ Below w.heap.size w wr)
    (fun _ _ i _ => rs.length - (intOf i).toNat)
  case atStart => exact ⟨0, Nat.zero_le _, rfl, World.ownsRow_nil _ _ _ _, World.ownsRow_nil _ _ _ _, Below.refl _ _⟩
  case round =>
    obtain ⟨k, hk, rfl, h4, h5, hB⟩ := hrel
    by_cases hlt : k < rs.length
    · have hget := List.getElem?_eq_getElem hlt
      have hc6 := Lib.hid (cells6_snoc rs k _ hget)
      have hc7 := Lib.hid (cells7_snoc rs k _ hget)
      obtain ⟨b, o, rfl, hb, c0, c1, c2, c3, c4, c5⟩ := (hr.below hB) k rs[k] hget
      clear hget
      generalize rs[k] = r at *
      go_wp2_with (at_builtin; refine stop ?_)
      unfold Stop
      refine wpList_append_own_at _ rfl _ _ 24 rfl w.heap.size 29 i29 _ 6 48 Tryz.underlying24 hi29 hz29 hs29 hb29 rfl (by decide) _ _ _ rfl ((h4.alloc _).alloc _) ⟨wr.heap.size + 1, 0, none⟩ 1 1 r.vals rfl rfl ?n1 (vals_one r) ?l1 ?y1 ?b1 (fun v4 w1 h41 hg1 _ hl1 => ?_)
      case n1 => exact World.news_of_block (new2 _ _ _)
      case l1 => unfold maxLen; omega
      case y1 => omega
      case b1 => have := hB.size; simp; omega
      have hk4 := hg1.size
      simp only [World.size_alloc] at hk4
      have hbox : w1.heap[wr.heap.size]? = some (.cells #[.int .i64 r.c, .int .i64 r.n, .int .i64 r.x, .int .i64 r.p, .int .i64 r.s, .bool r.a] 41 (0, 0)) := by
        rw [hg1.block _ (by simp; omega) (fun e => by have := (h4.lt _ e.symm).2; omega)]
        rw [Below.heap_alloc _ _ _ (by simp)]
        exact heap_alloc_new _ _
      have x0 : w1.cell? ⟨wr.heap.size, 0, none⟩ = some (.int .i64 r.c) := by simp [World.cell?, hbox]
      have x1 : w1.cell? ⟨wr.heap.size, 1, none⟩ = some (.int .i64 r.n) := by simp [World.cell?, hbox]
      have x2 : w1.cell? ⟨wr.heap.size, 2, none⟩ = some (.int .i64 r.x) := by simp [World.cell?, hbox]
      have x3 : w1.cell? ⟨wr.heap.size, 3, none⟩ = some (.int .i64 r.p) := by simp [World.cell?, hbox]
      have x4 : w1.cell? ⟨wr.heap.size, 4, none⟩ = some (.int .i64 r.s) := by simp [World.cell?, hbox]
      have x5 : w1.cell? ⟨wr.heap.size, 5, none⟩ = some (.bool r.a) := by simp [World.cell?, hbox]
      have h51 : w1.ownsRow w.heap.size 43 7 u5 k (cells7 (rs.take k)) := (((h5.alloc _).alloc _).kept hg1 (own_ne h5 h4 (by decide)))
      have hB1 : Below w.heap.size w w1 := ((hB.alloc hB.size _).alloc (by have := hB.size; simp; omega) _).grown hg1 (by have := hB.size; simp; omega) (fun j hj => (h4.lt j hj).1)
      clear hbox h5 c0 c1 c2 c3 c4 c5
      go_wp2_with (at_builtin; refine stop ?_)
      unfold Stop
      refine wpList_append_own_at _ rfl _ _ 25 rfl w.heap.size 43 i43 _ 7 56 Tryz.underlying25 hi43 hz43 hs43 hb43 rfl (by decide) _ _ _ rfl (h51.alloc _) ⟨w1.heap.size, 0, none⟩ 1 1 r.vals7 rfl rfl ?n1 (vals7_one r) ?l1 ?y1 ?b1 (fun v5 w2 h52 hg2 _ hl2 => ?_)
      case n1 => exact World.news_of_block (heap_alloc_new _ _)
      case l1 => unfold maxLen; omega
      case y1 => omega
      case b1 => have := hB1.size; simp; omega
      have h42 : w2.ownsRow w.heap.size 29 6 v4 (k + 1) (cells6 (rs.take k) ++ r.vals) := (h41.alloc _).kept hg2 (own_ne h41 h51 (by decide))
      have hB2 : Below w.heap.size w w2 := (hB1.alloc hB1.size _).grown hg2 (by have := hB1.size; simp; omega) (fun j hj => (h51.lt j hj).1)
      go_wp2
      go_roundw
      case rel => exact ⟨k + 1, by omega, by go_num, by rw [hc6.out]; exact h42, by rw [hc7.out]; exact h52, hB2⟩
      case measure => simp [intOf]; omega
    · obtain rfl : k = rs.length := by omega
      go_wp2
      go_ret2
      exact ⟨_, _, rfl, by rw [List.take_length] at h4; exact h4, hB⟩
end Go.Proofs.YtcbpmjcolnchkaaGreatDoor
