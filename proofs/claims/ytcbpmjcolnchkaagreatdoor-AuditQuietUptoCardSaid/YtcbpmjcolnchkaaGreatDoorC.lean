/-
  audit.AuditQuiet: the second form's statement and its card, out of the law's walk.
-/
import Derived.Test.YtcbpmjcolnchkaaGreatDoorCards
import Derived.Test.YtcbpmjcolnchkaaGreatDoorTie
import Derived.Test.YtcbpmjcolnchkaaGreatDoorL
import Derived.ProofKit
import Derived.OpenShut
import Derived.Below
import Derived.Carry
import Derived.ChangeSame
import Derived.WideKeyArgs
import Derived.Deep.DeepHandedRow
import Derived.Deep.Slices
import Derived.Deep.Fields
import Derived.Lay
import Derived.LaidMore
import Derived.SevenTiedAt
import Derived.Stop.Joined
namespace Go.Proofs.YtcbpmjcolnchkaaGreatDoor
open Go.ChangeShapes Go.WideShapes Go.ChangeAt Go.RowKit Go.Deep
set_option maxRecDepth 100000

theorem own : ownKnob Tryz.prog.godebug = none := by kernel_rfl
theorem c41 : Tryz.prog.cellsOf 41 = 6 := by kernel_rfl
theorem c3 : Tryz.prog.cellsOf 3 = 1 := by kernel_rfl
theorem c4 : Tryz.prog.cellsOf 4 = 1 := by kernel_rfl

section
variable {H : Type} {enc : TypeId × Value → H}

theorem one_row {W : World} {base n : Nat} {spare : Nat → Bool} {held : Bool} {cs : List Value} {x : DataW H × List MemPlace} (h : DataW.trod enc Tryz.prog W base spare held n 41 cs = some x) :
    ∃ r : R6, cs = r.vals := by
  obtain ⟨xs, m, _, _, hlen, hxl, hf⟩ := DataW.trod_struct Tryz.underlying41 h
  rw [c41] at hlen
  match cs, hlen with
  | [a0, a1, a2, a3, a4, a5], _ =>
    have hx : xs.length = 6 := hxl
    have g0 : DataW.trod enc Tryz.prog W base spare held m 3 [a0] = xs[0]? := by
      have g := hf 0 _ rfl
      change DataW.trod enc Tryz.prog W base spare held m 3 (([a0, a1, a2, a3, a4, a5].drop 0).take (Tryz.prog.cellsOf 3)) = xs[0]? at g
      rw [c3] at g
      exact g
    have g1 : DataW.trod enc Tryz.prog W base spare held m 3 [a1] = xs[1]? := by
      have g := hf 1 _ rfl
      change DataW.trod enc Tryz.prog W base spare held m 3 (([a0, a1, a2, a3, a4, a5].drop 1).take (Tryz.prog.cellsOf 3)) = xs[1]? at g
      rw [c3] at g
      exact g
    have g2 : DataW.trod enc Tryz.prog W base spare held m 3 [a2] = xs[2]? := by
      have g := hf 2 _ rfl
      change DataW.trod enc Tryz.prog W base spare held m 3 (([a0, a1, a2, a3, a4, a5].drop 2).take (Tryz.prog.cellsOf 3)) = xs[2]? at g
      rw [c3] at g
      exact g
    have g3 : DataW.trod enc Tryz.prog W base spare held m 3 [a3] = xs[3]? := by
      have g := hf 3 _ rfl
      change DataW.trod enc Tryz.prog W base spare held m 3 (([a0, a1, a2, a3, a4, a5].drop 3).take (Tryz.prog.cellsOf 3)) = xs[3]? at g
      rw [c3] at g
      exact g
    have g4 : DataW.trod enc Tryz.prog W base spare held m 3 [a4] = xs[4]? := by
      have g := hf 4 _ rfl
      change DataW.trod enc Tryz.prog W base spare held m 3 (([a0, a1, a2, a3, a4, a5].drop 4).take (Tryz.prog.cellsOf 3)) = xs[4]? at g
      rw [c3] at g
      exact g
    have g5 : DataW.trod enc Tryz.prog W base spare held m 4 [a5] = xs[5]? := by
      have g := hf 5 _ rfl
      change DataW.trod enc Tryz.prog W base spare held m 4 (([a0, a1, a2, a3, a4, a5].drop 5).take (Tryz.prog.cellsOf 4)) = xs[5]? at g
      rw [c4] at g
      exact g
    rw [List.getElem?_eq_getElem (by omega)] at g0 g1 g2 g3 g4 g5
    obtain ⟨z0, e0, _⟩ := DataW.trod_int Tryz.underlying3 g0
    obtain ⟨z1, e1, _⟩ := DataW.trod_int Tryz.underlying3 g1
    obtain ⟨z2, e2, _⟩ := DataW.trod_int Tryz.underlying3 g2
    obtain ⟨z3, e3, _⟩ := DataW.trod_int Tryz.underlying3 g3
    obtain ⟨z4, e4, _⟩ := DataW.trod_int Tryz.underlying3 g4
    obtain ⟨z5, e5, _⟩ := DataW.trod_bool Tryz.underlying4 g5
    simp only [List.cons.injEq, and_true] at e0 e1 e2 e3 e4 e5
    exact ⟨⟨z0, z1, z2, z3, z4, z5⟩, by subst e0 e1 e2 e3 e4 e5; rfl⟩

theorem open_rows {W : World} {n : Nat} {cs : List Value} {x : DataW H × List MemPlace} (h : DataW.trod enc Tryz.prog W 0 (fun _ => true) true n 22 cs = some x) :
    ∃ (A : Option Addr) (rs : List R6) (cap : Nat), cs = [.slice A rs.length cap] ∧ RowsAt W W.heap.size A rs ∧ (rs.length ≤ Rows.uptoBulk x.1) := by
  rcases open_slice Tryz.underlying22 h with ⟨rfl, rfl⟩ | ⟨a, len, cap, m, k, D, Pl, rfl, _, hl, hm, hmm, rfl, hx⟩
  · exact ⟨none, [], 0, rfl, fun k r hk => by simp at hk, by simp⟩
  simp only [if_true] at hmm
  subst hmm
  have each : ∀ i, i < m → ∃ r : R6, ∀ j, j < 6 → W.cell? ((a.add (i * 6)).add j) = r.vals[j]? := by
    intro i hi
    obtain ⟨cs', hc, ht⟩ := hx i hi
    rw [c41] at hc
    obtain ⟨r, rfl⟩ := one_row ht
    exact ⟨r, (World.cells?_some hc).2.2⟩
  let f : Nat → R6 := fun i => if h : i < m then Classical.choose (each i h) else ⟨0, 0, 0, 0, 0, false⟩
  have hf : ∀ i, i < m → ∀ j, j < 6 → W.cell? ((a.add (i * 6)).add j) = (f i).vals[j]? := by
    intro i hi
    simp only [f, hi, dif_pos]
    exact Classical.choose_spec (each i hi)
  refine ⟨some a, (List.range len).map f, m, by simp, ?_, ?_⟩
  · intro k r hk
    have hk' : k < len ∧ f k = r := by
      rw [List.getElem?_map] at hk
      by_cases h' : k < len
      · rw [List.getElem?_range h'] at hk
        exact ⟨h', by simpa using hk⟩
      · rw [List.getElem?_eq_none (by simpa using h')] at hk; simp at hk
    obtain ⟨hk1, rfl⟩ := hk'
    have hc := hf k (by omega)
    obtain ⟨b, o, sp⟩ := a
    have h0 := hc 0 (by decide)
    have hsp0 := hf 0 (by omega) 0 (by decide)
    have : sp = none := by
      have e : W.cell? (((Addr.mk b o sp).add (0 * 6)).add 0) = some (.int .i64 (f 0).c) := hsp0
      simpa [Addr.add] using World.cell?_spot e
    subst this
    refine ⟨b, o, rfl, ?_, ?_, ?_, ?_, ?_, ?_, ?_⟩
    · have e : W.cell? (((Addr.mk b o none).add (k * 6)).add 0) = some (.int .i64 (f k).c) := h0
      have := World.block_lt_of_cell? W _ e
      rw [add_plain, add_plain] at this
      exact this
    · have := hc 0 (by decide)
      rw [add_plain, add_plain] at this
      simpa [R6.vals] using this
    · have := hc 1 (by decide)
      rw [add_plain, add_plain] at this
      simpa [R6.vals] using this
    · have := hc 2 (by decide)
      rw [add_plain, add_plain] at this
      simpa [R6.vals] using this
    · have := hc 3 (by decide)
      rw [add_plain, add_plain] at this
      simpa [R6.vals] using this
    · have := hc 4 (by decide)
      rw [add_plain, add_plain] at this
      simpa [R6.vals] using this
    · have := hc 5 (by decide)
      rw [add_plain, add_plain] at this
      simpa [R6.vals] using this
  · have : ∀ l : List (DataW H), l.length ≤ Rows.uptoBulkAll l := by
      intro l
      induction l with
      | nil => simp
      | cons y l ih =>
        have : 1 ≤ Rows.uptoBulk y := by
          cases y with
          | lit l => cases l <;> simp [Rows.uptoBulk]
          | nil => simp [Rows.uptoBulk]
          | ptr d => simp [Rows.uptoBulk]
          | slice elems spare => simp [Rows.uptoBulk]
          | agg parts => simp [Rows.uptoBulk]
          | iface t d => simp [Rows.uptoBulk]
          | map entries => simp [Rows.uptoBulk]
          | held h => simp [Rows.uptoBulk]
        simp only [Rows.uptoBulkAll, List.length_cons]; omega
    have h1 := this ((List.range len).map D)
    simp only [Rows.uptoBulk, List.length_map, List.length_range] at h1 ⊢
    omega

/-- The row's last step, of 'Below' alone. -/
theorem post_below {P : Program} {f : Func} {s : ChangeSpec} {apart fresh handsOn again : Bool} {W W' : World} {args : Array Value} {v : Value} {ds gs : List (DataW H)} {before pa pv : List MemPlace}
    (hW : DataW.Whole enc P f.params.toList s.vars apart W args.toList ds gs before)
    (hres : ∀ (b : Nat) (sp : Nat → Bool) (hd : Bool), DataW.TrodAll enc P W' b sp hd f.resultTypes.toList (v.resultList f.resultTypes.size) (s.fn H (ds ++ gs)).results [])
    (hargs : ∀ sp : Nat → Bool, (∀ p ∈ before, sp p.block = true) → DataW.TrodAll enc P W' 0 sp true f.params.toList args.toList (s.fn H (ds ++ gs)).args pa)
    (hvars : ∀ sp : Nat → Bool, (∀ p ∈ before, sp p.block = true) → DataW.TrodVars enc P W' sp s.vars (s.fn H (ds ++ gs)).vars pv)
    (hps : before = pa ++ pv) (hb : Below W.heap.size W W')
    (hok : ∀ (j : Nat) (t : TypeId) (r : Value), f.resultTypes[j]? = some t → (v.resultList f.resultTypes.size)[j]? = some r → Value.okWide P W' .any 0 t r) :
    s.post enc P f apart fresh handsOn again W args v W' := by
  have hlt : ∀ p ∈ before, p.block < W.heap.size := fun p hp => hW.lt p hp
  have hold : ∀ p ∈ before, (fun b => decide (b < W.heap.size)) p.block = true := fun p hp => by simpa using hlt p hp
  refine ⟨ds, gs, before, [], pa, pv, hW, hres _ _ _, hargs _ hold, hvars _ hold, World.keptBut_mono (fun p hp => ⟨hp, ?_⟩) (hb.frame (· ∈ before)), fun _ => ?_⟩
  · rw [hps, List.mem_append] at hp
    exact Or.inr hp
  · obtain ⟨_, _, _, _, _, hz, hn⟩ := hW
    refine ⟨hok, _, _, ([] ++ pa) ++ pv, ⟨[] ++ pa, pv, trodAll_append (hargs _ (fun _ _ => rfl)) (hres _ _ _), hvars _ (fun _ _ => rfl), rfl, ?_, ?_⟩, ?_⟩
    · intro b off hp
      have hin : MemPlace.cell b off ∈ before := by rw [hps]; simpa using hp
      rw [hb.frozen (hlt _ hin)]
      exact hz b off hin
    · intro ha
      have := hn ha
      rw [hps] at this
      simpa using this
    · intro p hp _
      rw [hps]
      simpa using hp
end

theorem contract (H : Type) (enc : TypeId × Value → H) (W : World) (base : Nat) (args : Array Value) (ds gs : List (DataW H)) (before : List MemPlace)
    (hval : ∀ (j : Nat) t v, Tryz.f3.params[j]? = some t → args[j]? = some v → Value.okWide Tryz.prog W .any base t v)
    (hW : DataW.Whole enc Tryz.prog Tryz.f3.params.toList Rows.auditQuietSpec.vars false W args.toList ds gs before) (hk : Rows.uptoSmall H (ds ++ gs) = true) :
    Calls Tryz.prog 3 args W fun e W' => ∃ v, e = .returned v ∧ Rows.auditQuietSpec.post enc Tryz.prog Tryz.f3 false true false false W args v W' := by
  have hW' := hW
  have hlt := hW.lt
  obtain ⟨p, q, hA0, hV, rfl, hfz, hnd⟩ := hW
  have hA : DataW.TrodAll enc Tryz.prog W 0 (fun _ => true) true Tryz.f3.params.toList args.toList ds p := hA0
  rw [Tryz.params3] at hA hval
  obtain ⟨v0, v1, d0, d1, p0, p1, rfl, rfl, rfl, h0, h1⟩ := trodAll_two hA
  obtain ⟨rfl, rfl⟩ := trodVars_none hV
  obtain ⟨win, rfl, rfl, rfl, hwf⟩ := open_int Tryz.underlying3 (hval 1 3 v1 rfl rfl) h1
  clear hA0
  simp only [List.append_nil] at hW' hk hlt
  have h0' := h0
  obtain ⟨n, hn⟩ := h0
  obtain ⟨A, rs, cap, hcs, hrs, hbulk⟩ := open_rows hn
  obtain rfl : v0 = .slice A rs.length cap := by
    have hv := hval 0 22 v0 rfl rfl
    clear hval hA h0' hn hW' hk hlt hfz hnd h1
    cases v0 with
    | agg cs => simp [Value.okWide, Tryz.underlying22, Cell.okWide, Cell.ok] at hv
    | slice A' l c => simpa only [Value.cells, List.cons.injEq, and_true] using hcs
    | _ => simp [Value.cells] at hcs
  have hsmall : Rows.uptoBulkAll [d0, .lit (.int .i64 win)] ≤ 1048576 := of_decide_eq_true hk
  simp only [Rows.uptoBulkAll] at hsmall
  simp only at hbulk
  refine (law_any rs A cap win W hrs (by omega)).mono fun e W' ⟨he, hg⟩ => ?_
  subst he
  exact ⟨_, rfl, post_below (pa := p0) (pv := []) hW' (fun _ _ _ => trodAll_mk1 (shut_bool Tryz.underlying4 _))
    (fun sp hsp => by
      rw [Tryz.params3]
      have e0 : DataW.Trod enc Tryz.prog W' 0 sp true 22 (.slice A rs.length cap) d0 p0 :=
        WideElems.Trod_stays (by kernel_rfl) (by kernel_rfl) (of_decide_eq_true (by kernel_rfl)) h0' (fun x hx => hg.same (hlt x (by simpa using hx))) (fun x hx => hsp x (by simpa using hx))
      have := trodAll_cons_mk e0 (trodAll_cons_mk (shut_int Tryz.underlying3 hwf) trodAll_mk0)
      simp only [List.append_nil] at this
      exact this)
    (fun _ _ => rfl) (by simp) hg (ok_one (by kernel_rfl) rfl (okWide_bool_mk Tryz.underlying4 _))⟩

noncomputable def w0 (os : Os) : World := World.laidAll Tryz.prog os Rows.auditQuietUptoRow.laid
def args0 : Array Value := #[.slice none 0 0, .int .i64 0]

theorem laid_met (os : Os) : laidMet Tryz.prog Rows.auditQuietUptoRow.laid ((w0 os).forCall (fun _ _ => 0) ⟨#[], args0, []⟩).memory :=
  laidMet_laidAll _ (by kernel_rfl) (by kernel_rfl)
theorem reads (os : Os) {H : Type} (enc : TypeId × Value → H) : ∃ places, DataW.whole enc Tryz.prog ((w0 os).forCall (fun _ _ => 0) ⟨#[], args0, []⟩).memory Tryz.f3.params.toList Rows.auditQuietSpec.vars false args0.toList 8 = some ([.nil, .lit (.int .i64 0)], [], places) :=
  ⟨[], by kernel_rfl⟩
theorem shaped (os : Os) : ((w0 os).forCall (fun _ _ => 0) ⟨#[], args0, []⟩).Shaped Tryz.prog :=
  World.shaped_of_ZipB (by kernel_rfl) (by kernel_rfl)
theorem okIn (os : Os) : Input.okWideB Tryz.prog ((w0 os).forCall (fun _ _ => 0) ⟨#[], args0, []⟩) 3 ⟨#[], args0, []⟩ = true := by kernel_rfl

theorem liftedUpto (os : Os) (started : os.Started) (H : Type) (enc : TypeId × Value → H) (F : Stop.Interp) :
    ReturnsInHanded {} Tryz.checked os 3 .any ((Rows.OpenSpec.upto Rows.auditQuietSpec).preRow enc Tryz.prog Tryz.f3 Rows.auditQuietUptoRow.domain false Rows.auditQuietUptoRow.laid) (((Rows.OpenSpec.upto Rows.auditQuietSpec).at F).post enc Tryz.prog Tryz.f3 false true false false) := by
  obtain ⟨places, hx⟩ := reads os enc
  refine returnsInHanded_of_row (C := Tryz.checked) (s := Rows.OpenSpec.upto Rows.auditQuietSpec) own started (by kernel_rfl) Tryz.func3
    ⟨w0 os, fun _ _ => 0, ⟨#[], args0, []⟩, World.laidAll_os _ _ _, shaped os, (Input.okWide_of_okWideB (base := 0) (okIn os)).1, (Input.okWide_of_okWideB (okIn os)).2,
      OpenSpec.preRow_of_cond 8 hx (by kernel_rfl) (fun k hk => by cases hk; kernel_rfl) (by kernel_rfl) (laid_met os),
      by simp only [Assume.holds]; exact ⟨by simp, by simp, fun _ => Modest.zero, by simp, by simp⟩⟩ ?_
  intro W base args ds gs before hval hW _ hcond _ _ _ _
  exact contract H enc W base args ds gs before hval hW (hcond _ rfl)

theorem saidUpto : Rows.AuditQuietUptoSaid :=
  OpenClaim.holds_of_cond 3 Tryz.f3 rfl rfl rfl rfl rfl rfl rfl ⟨rfl, rfl, rfl, rfl, rfl⟩ rfl rfl rfl rfl rfl (by kernel_rfl) Tryz.func3 (by kernel_rfl)
    (of_decide_eq_true (by kernel_rfl)) (by unfold Func.isWrapper; first | (rw [if_pos (by decide +kernel)]; kernel_rfl) | (rw [if_neg (by decide +kernel)]; exact ⟨rfl, rfl⟩))
    (fun os started H enc _ F => by rw [OpenClaim.pre_eq_preRow]; exact liftedUpto os started H enc F)

theorem plain (f : FuncId) (fn : Func) (hf : Tryz.pinned.checked.prog.funcNamed "coracle/coraclelaw24.AuditQuiet" = some f) (hfn : Tryz.pinned.checked.prog.funcs[f]? = some fn) :
    true = Tryz.pinned.checked.prog.looks [] ∧ ∀ (j : Nat) t, fn.params[j]? = some t → Tryz.pinned.checked.prog.wantsStandIn t = false := by
  obtain rfl : f = 3 := Option.some.inj ((show Tryz.prog.funcNamed "coracle/coraclelaw24.AuditQuiet" = some 3 by kernel_rfl).symm.trans hf) |>.symm
  obtain rfl : fn = Tryz.f3 := (Option.some.inj (Tryz.func3.symm.trans hfn)).symm
  refine ⟨by kernel_rfl, fun j t ht => ?_⟩
  rw [Tryz.params3] at ht
  have hm : t ∈ [22, 3] := by simpa using Array.mem_of_getElem? ht
  have hall : ([22, 3].all fun u => !Tryz.prog.wantsStandIn u) = true := by kernel_rfl
  exact (show Tryz.prog.wantsStandIn t = false by simpa using List.all_eq_true.1 hall t hm)

theorem cardUpto : Rows.AuditQuietUptoCardSaid :=
  Claim7.holds_tied_plain_at .later [] _ _ _ _ saidUpto (fun _ h => by cases h) (by kernel_rfl) (fun _ h => by cases h) auditQuietUpto_row_tie rfl ⟨rfl, rfl⟩ (by kernel_rfl) rfl plain (by kernel_rfl)
#print axioms cardUpto
end Go.Proofs.YtcbpmjcolnchkaaGreatDoor
