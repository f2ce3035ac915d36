/- SliceStarts: in which slots the sections of a burst begin, and end, as they are read of its packets; for every run, without a condition (the table of widths being what the program's text lays). -/
import Derived.Test.YthmddhbccifcoaaDoorCards
import Derived.Test.YthmddhbccifcoaaDoorTie
import Derived.Test.YthmddhbccifcoaaDoorGLP
import Derived.Test.YthmddhbccifcoaaDoorGLL
import Derived.Test.YthmddhbccifcoaaDoorGLM
import Derived.ProofKit
import Derived.Lib.SmallJoins
import Derived.OpenShut
import Derived.Deep.DeepHandedRow
import Derived.Lib.LaidTab
set_option linter.unusedVariables false
set_option linter.unusedSimpArgs false
namespace Go.Proofs.YthmddhbccifcoaaDoor.cardStarts
open Go.ChangeShapes Go.WideShapes Go.ChangeAt Go.RowKit
open Go.Proofs.YthmddhbccifcoaaDoor.Clar Go.Proofs.YthmddhbccifcoaaDoorW.PrintWords Go.Proofs.YthmddhbccifcoaaDoor.PSliceLays

theorem own : ownKnob Tryd.prog.godebug = none := by kernel_rfl
theorem laidOut : laidOutB Tryd.prog = true := by kernel_rfl
theorem gTab : Tryd.prog.globalNamed "clarion/packet.widths" = some 0 := by kernel_rfl
theorem gTabType : (Tryd.prog.globals[0]?).map (·.type) = some 110 := by kernel_rfl
theorem cellsTab : Tryd.prog.cellsOf 110 = 8 := by kernel_rfl
theorem cellsInt : Tryd.prog.cellsOf 3 = 1 := by kernel_rfl
theorem table {W : World} (h : laidMetH Tryd.prog Rows.sliceStartsRow.laid W) : Lib.TabIs Tryd.prog W "clarion/packet.widths" .i64 [8, 1, 1, 1, 13, 2, 2, 4] :=
  Lib.tabIs_of_head (rest := []) gTab gTabType Tryd.underlying110 Tryd.underlying3 cellsInt cellsTab h
theorem wd {W : World} (h : laidMetH Tryd.prog Rows.sliceStartsRow.laid W) : Wd W := by
  intro i hi
  have := (table h).cell gTab i hi
  rw [this]
  match i, hi with
  | 0, _ => rfl
  | 1, _ => rfl
  | 2, _ => rfl
  | 3, _ => rfl
  | 4, _ => rfl
  | 5, _ => rfl
  | 6, _ => rfl
  | 7, _ => rfl
theorem read_ok : ReadOk := fun s pid ps w res hs hok hn hr =>
  refRead_any s pid ps w res hs (fun p hp => (hok p hp).1) hn (fun p hp W => decode_any p (hok p hp).1 (hok p hp).2 W) (fun t W ht => whole_any t W ht) hr
set_option maxRecDepth 100000 in
/-- What the walk gives, for every argument and every world that holds the table. -/
theorem contract (H : Type) (enc : TypeId × Value → H) (W : World) (base : Nat) (args : Array Value) (ds gs : List (DataW H)) (before : List MemPlace)
    (hval : ∀ (j : Nat) t v, Tryd.f4.params[j]? = some t → args[j]? = some v → Value.okWide Tryd.prog W .any base t v)
    (hW : DataW.Whole enc Tryd.prog Tryd.f4.params.toList Rows.sliceStartsSpec.vars false W args.toList ds gs before) (hL : laidMetH Tryd.prog Rows.sliceStartsRow.laid W) :
    Calls Tryd.prog 4 args W fun e W' => ∃ v, e = .returned v ∧ Rows.sliceStartsSpec.post enc Tryd.prog Tryd.f4 false true false false W args v W' := by
  have hW' := hW
  obtain ⟨p, q, hA0, hV, rfl, hfz, hnd⟩ := hW
  have hA : DataW.TrodAll enc Tryd.prog W 0 (fun _ => true) true Tryd.f4.params.toList args.toList ds p := hA0
  rw [Tryd.params4] at hA hval
  obtain ⟨v0, vs0, d0, ds0, p0, q0, hargs, rfl, rfl, h0, r0⟩ := trodAll_cons hA
  obtain ⟨rfl, rfl, rfl⟩ := trodAll_nil r0
  obtain rfl : args = #[v0] := by cases args; simp_all
  obtain ⟨rfl, rfl⟩ := trodVars_none hV
  have k0 := h0
  have lt0 : ∀ x ∈ p0, x.block < W.heap.size := by obtain ⟨m, hm⟩ := k0; exact DataW.trod_lt m _ _ _ hm
  have hrow : ∃ (x : S45) (A : Option Addr) (c : Nat), v0 = .agg #[.int .i64 x.f0, .int .i64 x.f1, .slice A x.f2.length c] ∧ x.f2.length ≤ c ∧ k50.C W A x.f2.length x.f2 := by
    obtain ⟨u0, u1, u2, y0, y1, y2, n, rfl, -, -, t0, t1, t2⟩ := Go.Joins.open_agg3 Tryd.underlying45 (by kernel_rfl) (by kernel_rfl) (hval 0 45 v0 rfl rfl) h0
    obtain ⟨n0, e0, _, _⟩ := DataW.trod_int Tryd.underlying3 t0
    obtain ⟨n1, e1, _, _⟩ := DataW.trod_int Tryd.underlying3 t1
    obtain ⟨A2, cp2, l2, e2, g1, g2⟩ := open_pieces t2
    simp only [List.cons.injEq, and_true] at e0 e1
    subst e0 e1 e2
    exact ⟨⟨n0, n1, l2⟩, A2, cp2, rfl, g1, g2⟩
  obtain ⟨x, A, c, rfl, hlc, hC⟩ := hrow
  clear hA0
  refine (sliceStarts_any read_ok x A c W hC hlc (wd hL)).mono fun e W' ⟨he, bel⟩ => ?_
  subst he
  exact ⟨_, rfl, _, _, _, [], _, [], hW', trodAll_mk1 (shut_bool Tryd.underlying4 _), trodAll_cons_mk (Below.trod laidOut (by kernel_rfl) (of_decide_eq_true (by kernel_rfl)) k0 bel lt0) trodAll_mk0, rfl, bel.frame _, fun h => by cases h⟩
/-- A world for the witness: the settled one, the table (block 0) holding what its initialiser lays. -/
noncomputable def laidWorld (os : Os) : World :=
  { World.holding Tryd.prog os ⟨#[], #[], []⟩ with heap := (World.holding Tryd.prog os ⟨#[], #[], []⟩).heap.modify 0 fun
      | .cells _ t frozen => .cells #[.int .i64 8, .int .i64 1, .int .i64 1, .int .i64 1, .int .i64 13, .int .i64 2, .int .i64 2, .int .i64 4] t frozen
      | o => o }
theorem laid_met (os : Os) : laidMet Tryd.prog Rows.sliceStartsRow.laid ((laidWorld os).forCall (fun _ _ => 0) ⟨#[], #[.agg #[.int .i64 0, .int .i64 0, .slice none 0 0]], []⟩).memory :=
  laidMet_of_run' 8 (by kernel_rfl) (by kernel_rfl)
theorem reads (os : Os) {H : Type} (enc : TypeId × Value → H) : ∃ places, DataW.whole enc Tryd.prog ((laidWorld os).forCall (fun _ _ => 0) ⟨#[], #[.agg #[.int .i64 0, .int .i64 0, .slice none 0 0]], []⟩).memory Tryd.f4.params.toList Rows.sliceStartsSpec.vars false #[Value.agg #[.int .i64 0, .int .i64 0, .slice none 0 0]].toList 8 = some ([.agg [.lit (.int .i64 0), .lit (.int .i64 0), .nil]], [], places) :=
  ⟨[], by kernel_rfl⟩
set_option maxRecDepth 100000 in
theorem lifted (os : Os) (started : os.Started) (H : Type) (enc : TypeId × Value → H) (F : Stop.Interp) :
    ReturnsInHanded {} Tryd.checked os 4 .any ((OpenSpec.ofChange Rows.sliceStartsSpec).preRow enc Tryd.prog Tryd.f4 Rows.sliceStartsRow.domain false Rows.sliceStartsRow.laid) (((OpenSpec.ofChange Rows.sliceStartsSpec).at F).post enc Tryd.prog Tryd.f4 false true false false) := by
  obtain ⟨places, hx⟩ := reads os enc
  refine returnsInHanded_of_row (C := Tryd.checked) (s := OpenSpec.ofChange Rows.sliceStartsSpec) own started (by kernel_rfl) Tryd.func4
    (witness_row_at (enc := enc) (C := Tryd.checked) false (laidWorld os) #[.agg #[.int .i64 0, .int .i64 0, .slice none 0 0]] rfl (by kernel_rfl) (by kernel_rfl) (by kernel_rfl)
      (OpenSpec.preRow_of_cond 8 hx (by kernel_rfl) (fun k hk => by cases hk) (by kernel_rfl) (laid_met os))) ?_
  intro W base args ds gs before hval hW _ _ _ hL _ _
  exact contract H enc W base args ds gs before hval hW hL
theorem said : Rows.SliceStartsSaid :=
  OpenClaim.holds_of_cond 4 Tryd.f4 rfl rfl rfl rfl rfl rfl rfl ⟨rfl, rfl, rfl, rfl, rfl⟩ rfl rfl rfl rfl rfl (by kernel_rfl) Tryd.func4 (by kernel_rfl)
    (of_decide_eq_true (by kernel_rfl)) (by unfold Func.isWrapper; first | (rw [if_pos (by decide +kernel)]; kernel_rfl) | (rw [if_neg (by decide +kernel)]; exact ⟨rfl, rfl⟩))
    (fun os started H enc _ F => by rw [OpenClaim.pre_eq_preRow]; exact lifted os started H enc F)
theorem plain (f : FuncId) (fn : Func) (hf : Tryd.pinned.checked.prog.funcNamed "clarion/clarionlaw20.SliceStarts" = some f) (hfn : Tryd.pinned.checked.prog.funcs[f]? = some fn) :
    false = Tryd.pinned.checked.prog.looks [] ∧ ∀ (j : Nat) t, fn.params[j]? = some t → Tryd.pinned.checked.prog.wantsStandIn t = false := by
  obtain rfl : f = 4 := Option.some.inj ((show Tryd.prog.funcNamed "clarion/clarionlaw20.SliceStarts" = some 4 by kernel_rfl).symm.trans hf) |>.symm
  obtain rfl : fn = Tryd.f4 := (Option.some.inj (Tryd.func4.symm.trans hfn)).symm
  refine ⟨by kernel_rfl, fun j t ht => ?_⟩
  rw [Tryd.params4] at ht
  obtain rfl : t = 45 := by simpa using Array.mem_of_getElem? ht
  exact (show Tryd.prog.wantsStandIn 45 = false by kernel_rfl)
/-- THE CARD. -/
theorem card : Rows.SliceStartsCardSaid :=
  Claim7.holds_tied_plain_at .later [] _ _ _ _ said (fun _ h => by cases h) (by kernel_rfl) (fun _ h => by cases h) sliceStarts_row_tie rfl ⟨rfl, rfl⟩ (by kernel_rfl) rfl plain (by kernel_rfl)
end Go.Proofs.YthmddhbccifcoaaDoor.cardStarts
namespace Go.Proofs.YthmddhbccifcoaaDoor
theorem sliceStarts_holds : Rows.SliceStartsCardSaid := cardStarts.card
#print axioms sliceStarts_holds
end Go.Proofs.YthmddhbccifcoaaDoor
