-- PRINTED BY print.sh 35421559b90ae4d0a3588c463048766b98c2df88dd9212a6774a882060cdf62d: not written by this session
import Derived.Test.YthmddhbccifcoaaDoorPSliceLaysx0
import Derived.Test.YthmddhbccifcoaaDoorPSliceLaysx1
namespace Go.Proofs.YthmddhbccifcoaaDoor.PSliceLays
open Go.RowKit Go.Proofs.YthmddhbccifcoaaDoorW.PrintWords Go.Proofs.YthmddhbccifcoaaDoorW.PrintLast Go.Proofs.YthmddhbccifcoaaDoorW.PrintMore
attribute [local go_sem] max2_int min2_int max_two min_two max_three min_three max_four min_four   -- for this text's walks alone
set_option linter.unusedVariables false
set_option linter.unusedSimpArgs false

/-! ### clarionref07_Make4: function 30 -/
def clarionref07_Make4.j0 : Nat → ByteArray → ByteArray → Int → ByteArray → Int → Bool → Option (ByteArray × Int)
  | 0, _, _, _, _, _, _ => none
  | k + 1, x0, x1, x2, x3, x10, x21 => if x21 = true then (some ((⟨#[]⟩ : ByteArray), 1)) else (if x10 > 4080 then (some ((⟨#[]⟩ : ByteArray), 15)) else ((clarionref07_text.f k (([69, 0, wrap64 (Int.tdiv x10 256), Int.tmod x10 256, 0, 0, 0, 0, 64, x2] : List Int))).bind fun t114 => (if t114.size + 2 ≤ 9223372036854775807 then (if (t114 ++ (⟨#[0, 0]⟩ : ByteArray)).size + x0.size ≤ 9223372036854775807 then (if ((t114 ++ (⟨#[0, 0]⟩ : ByteArray)) ++ x0).size + x1.size ≤ 9223372036854775807 then ((clarionref07_Sum.f k (((t114 ++ (⟨#[0, 0]⟩ : ByteArray)) ++ x0) ++ x1)).bind fun t115 => ((clarionref07_text.f k (([wrap64 (Int.tdiv t115 256), Int.tmod t115 256] : List Int))).bind fun t119 => (if t114.size + t119.size ≤ 9223372036854775807 then (if (t114 ++ t119).size + x0.size ≤ 9223372036854775807 then (if ((t114 ++ t119) ++ x0).size + x1.size ≤ 9223372036854775807 then (if (((t114 ++ t119) ++ x0) ++ x1).size + x3.size ≤ 9223372036854775807 then (some ((((t114 ++ t119) ++ x0) ++ x1) ++ x3, 0)) else (none)) else (none)) else (none)) else (none)))) else (none)) else (none)) else (none))))
def clarionref07_Make4.f (k : Nat) (a0 : ByteArray) (a1 : ByteArray) (a2 : Int) (a3 : ByteArray) : Option (ByteArray × Int) := if a2 < 0 then (clarionref07_Make4.j0 k a0 a1 a2 a3 (wrap64 (20 + (a3.size : Int))) true) else (clarionref07_Make4.j0 k a0 a1 a2 a3 (wrap64 (20 + (a3.size : Int))) (decide (a2 > 255)))
theorem clarionref07_Make4.mono_l : ∀ k, (∀ y0 y1 y2 y3 y4 y5, LeO (clarionref07_Make4.j0 k y0 y1 y2 y3 y4 y5) (clarionref07_Make4.j0 (k + 1) y0 y1 y2 y3 y4 y5))
  | 0 => fun _ _ _ _ _ _ r h => by simp [clarionref07_Make4.j0] at h
  | k + 1 => by
    have ih0 := clarionref07_Make4.mono_l k
    · intro y0 y1 y2 y3 y4 y5
      unfold clarionref07_Make4.j0
      repeat' first
      | (with_reducible exact ih0 _ _ _ _ _ _)
      | (with_reducible exact clarionref07_Sum.mono _ _)
      | (with_reducible exact clarionref07_text.mono _ _)
      | (with_reducible exact LeO.refl _)
      | (with_reducible exact LeO.none _)
      | (with_reducible refine LeO.ite ?_ ?_)
      | (with_reducible refine LeO.bind ?_ (fun _ => ?_))
      | exact ih0 _ _ _ _ _ _
      | exact clarionref07_Sum.mono _ _
      | exact clarionref07_text.mono _ _
      | exact LeO.none _
      | refine LeO.ite ?_ ?_
      | refine LeO.bind ?_ (fun _ => ?_)
theorem clarionref07_Make4.mono : ∀ a0 a1 a2 a3 k, LeO (clarionref07_Make4.f k a0 a1 a2 a3) (clarionref07_Make4.f (k + 1) a0 a1 a2 a3) := by
  intro a0 a1 a2 a3 k
  have ih0 := clarionref07_Make4.mono_l k
  unfold clarionref07_Make4.f
  repeat' first
      | (with_reducible exact ih0 _ _ _ _ _ _)
      | (with_reducible exact clarionref07_Sum.mono _ _)
      | (with_reducible exact clarionref07_text.mono _ _)
      | (with_reducible exact LeO.refl _)
      | (with_reducible exact LeO.none _)
      | (with_reducible refine LeO.ite ?_ ?_)
      | (with_reducible refine LeO.bind ?_ (fun _ => ?_))
      | exact ih0 _ _ _ _ _ _
      | exact clarionref07_Sum.mono _ _
      | exact clarionref07_text.mono _ _
      | exact LeO.none _
      | refine LeO.ite ?_ ?_
      | refine LeO.bind ?_ (fun _ => ?_)
set_option maxHeartbeats 8000000 in
set_option maxRecDepth 100000 in
theorem clarionref07_Make4.calls (k : Nat) (a0 : ByteArray) (a1 : ByteArray) (a2 : Int) (a3 : ByteArray) (r1 : ByteArray) (r2 : Int) (w : World) (h : clarionref07_Make4.f k a0 a1 a2 a3 = some (r1, r2)) :
    Calls Tryd.prog 30 #[.string a0, .string a1, .int .i64 a2, .string a3] w fun e w' => e = .returned (.tuple #[.string r1, .int .i64 r2]) ∧ Below w.heap.size w w' := by
  have HB := Aside0.mk (Below.refl w.heap.size w)
  have H : (if a2 < 0 then (clarionref07_Make4.j0 k a0 a1 a2 a3 (wrap64 (20 + (a3.size : Int))) true) else (clarionref07_Make4.j0 k a0 a1 a2 a3 (wrap64 (20 + (a3.size : Int))) (decide (a2 > 255)))) = some (r1, r2) := h
  clear h
  have HC5 := Aside0.mk H
  clear H
  go_enter Tryd.func30, Tryd.ntmps30
  go_upto_region 2 with (fail)
  go_cut [21] (fun v21 wc => ∃ (kq : Nat) (x21_4 : Bool), v21 = .bool x21_4 ∧ Aside0 (clarionref07_Make4.j0 kq a0 a1 a2 a3 (wrap64 (20 + (a3.size : Int))) x21_4 = some (r1, r2)) ∧ Aside0 (kq ≤ k) ∧ Aside0 (Below w.heap.size w wc))
  case first =>
    have H := HC5.out
    clear HC5
    by_cases c6 : a2 < 0
    · rw [if_pos c6] at H
      have c6b0 : decide (a2 < 0) = true := decide_eq_true c6
      clear c6
      (first | rw [c6b0] | (simp only [i64_w, i32_w]; rw [c6b0]) | skip)
      have H' := Aside0.mk H
      clear H
      go_wp2
      go_meet
      case rel => exact ⟨_, (true), (by first | rfl | (simp; done) | (simp [*]; done)), H', ⟨by first | omega | exact Nat.le_refl _⟩, ⟨by repeat (first | (with_reducible first | exact HB.out | apply below_alloc | apply pw_below_drewN | apply below_drew1) | exact HB.out)⟩⟩
    · rw [if_neg c6] at H
      have c6b0 : decide (a2 < 0) = false := decide_eq_false c6
      clear c6
      (first | rw [c6b0] | (simp only [i64_w, i32_w]; rw [c6b0]) | skip)
      have H' := Aside0.mk H
      clear H
      go_wp2
      go_meet
      case rel => exact ⟨_, (decide (a2 > 255)), (by first | rfl | (simp; done) | (simp [*]; done)), H', ⟨by first | omega | exact Nat.le_refl _⟩, ⟨by repeat (first | (with_reducible first | exact HB.out | apply below_alloc | apply pw_below_drewN | apply below_drew1) | exact HB.out)⟩⟩
  case rest =>
    clear HC5
    try clear p2
    try clear c3
    try clear c6
    try clear c6b0
    try clear p6
    obtain ⟨kq, x21_4, rfl, HA, HJ4, HB⟩ := hcut
    cases kq with
    | zero => exact absurd HA.out (by simp [clarionref07_Make4.j0])
    | succ kj4 =>
      have H := HA.out
      clear HA
      simp only [clarionref07_Make4.j0] at H
      by_cases c7 : x21_4 = true
      · subst c7
        have H1 : (some ((⟨#[]⟩ : ByteArray), 1)) = some (r1, r2) := by rw [if_pos rfl] at H; exact H
        clear H
        have H := H1
        clear H1
        simp only [Option.some.injEq, Prod.mk.injEq] at H
        obtain ⟨rfl, rfl⟩ := H
        go_wp2
        go_ret2
        exact ⟨by first | rfl | (simp [errW_none, errW_some] <;> rfl) | (simp [*, errW_none, errW_some] <;> rfl), by repeat (first | (with_reducible first | exact HB.out | apply below_alloc | apply pw_below_drewN | apply below_drew1) | exact HB.out)⟩
      · replace c7 := Bool.eq_false_iff.mpr c7
        subst c7
        have H1 : (if (wrap64 (20 + (a3.size : Int))) > 4080 then (some ((⟨#[]⟩ : ByteArray), 15)) else ((clarionref07_text.f kj4 (([69, 0, wrap64 (Int.tdiv (wrap64 (20 + (a3.size : Int))) 256), Int.tmod (wrap64 (20 + (a3.size : Int))) 256, 0, 0, 0, 0, 64, a2] : List Int))).bind fun t114 => (if t114.size + 2 ≤ 9223372036854775807 then (if (t114 ++ (⟨#[0, 0]⟩ : ByteArray)).size + a0.size ≤ 9223372036854775807 then (if ((t114 ++ (⟨#[0, 0]⟩ : ByteArray)) ++ a0).size + a1.size ≤ 9223372036854775807 then ((clarionref07_Sum.f kj4 (((t114 ++ (⟨#[0, 0]⟩ : ByteArray)) ++ a0) ++ a1)).bind fun t115 => ((clarionref07_text.f kj4 (([wrap64 (Int.tdiv t115 256), Int.tmod t115 256] : List Int))).bind fun t119 => (if t114.size + t119.size ≤ 9223372036854775807 then (if (t114 ++ t119).size + a0.size ≤ 9223372036854775807 then (if ((t114 ++ t119) ++ a0).size + a1.size ≤ 9223372036854775807 then (if (((t114 ++ t119) ++ a0) ++ a1).size + a3.size ≤ 9223372036854775807 then (some ((((t114 ++ t119) ++ a0) ++ a1) ++ a3, 0)) else (none)) else (none)) else (none)) else (none)))) else (none)) else (none)) else (none)))) = some (r1, r2) := by rw [if_neg (show ¬ (false = true) by decide)] at H; exact H
        clear H
        have H := H1
        clear H1
        by_cases c8 : (wrap64 (20 + (a3.size : Int))) > 4080
        · rw [if_pos c8] at H
          have c8b0 : decide (4080 < (wrap64 (20 + (a3.size : Int)))) = true := decide_eq_true c8
          clear c8
          simp only [Option.some.injEq, Prod.mk.injEq] at H
          obtain ⟨rfl, rfl⟩ := H
          go_wp2
          go_ret2
          exact ⟨by first | rfl | (simp [errW_none, errW_some] <;> rfl) | (simp [*, errW_none, errW_some] <;> rfl), by repeat (first | (with_reducible first | exact HB.out | apply below_alloc | apply pw_below_drewN | apply below_drew1) | exact HB.out)⟩
        · rw [if_neg c8] at H
          have c8b0 : decide (4080 < (wrap64 (20 + (a3.size : Int)))) = false := decide_eq_false c8
          clear c8
          obtain ⟨y111, hy111⟩ : ∃ y_ : List Int, y_ = (([69, 0, wrap64 (Int.tdiv (wrap64 (20 + (a3.size : Int))) 256), Int.tmod (wrap64 (20 + (a3.size : Int))) 256, 0, 0, 0, 0, 64, a2] : List Int)) := ⟨_, rfl⟩
          replace H : ((clarionref07_text.f kj4 y111).bind fun t114 => (if t114.size + 2 ≤ 9223372036854775807 then (if (t114 ++ (⟨#[0, 0]⟩ : ByteArray)).size + a0.size ≤ 9223372036854775807 then (if ((t114 ++ (⟨#[0, 0]⟩ : ByteArray)) ++ a0).size + a1.size ≤ 9223372036854775807 then ((clarionref07_Sum.f kj4 (((t114 ++ (⟨#[0, 0]⟩ : ByteArray)) ++ a0) ++ a1)).bind fun t115 => ((clarionref07_text.f kj4 (([wrap64 (Int.tdiv t115 256), Int.tmod t115 256] : List Int))).bind fun t119 => (if t114.size + t119.size ≤ 9223372036854775807 then (if (t114 ++ t119).size + a0.size ≤ 9223372036854775807 then (if ((t114 ++ t119) ++ a0).size + a1.size ≤ 9223372036854775807 then (if (((t114 ++ t119) ++ a0) ++ a1).size + a3.size ≤ 9223372036854775807 then (some ((((t114 ++ t119) ++ a0) ++ a1) ++ a3, 0)) else (none)) else (none)) else (none)) else (none)))) else (none)) else (none)) else (none))) = some (r1, r2) := by first | (rw [hy111]; with_reducible exact H) | (have H2_ := (Option.bind_some _ _).symm.trans H; rw [hy111]; with_reducible exact H2_) | (have H2_ := (Option.bind_some _ _).symm.trans H; with_reducible exact H2_) | with_reducible exact H | (rw [hy111]; exact H) | exact H
          have Ny111 := Aside0.mk hy111
          clear hy111
          replace H := Option.bind_eq_some_iff.mp H
          obtain ⟨t114, A90, H⟩ := H
          replace H : (if t114.size + 2 ≤ 9223372036854775807 then (if (t114 ++ (⟨#[0, 0]⟩ : ByteArray)).size + a0.size ≤ 9223372036854775807 then (if ((t114 ++ (⟨#[0, 0]⟩ : ByteArray)) ++ a0).size + a1.size ≤ 9223372036854775807 then ((clarionref07_Sum.f kj4 (((t114 ++ (⟨#[0, 0]⟩ : ByteArray)) ++ a0) ++ a1)).bind fun t115 => ((clarionref07_text.f kj4 (([wrap64 (Int.tdiv t115 256), Int.tmod t115 256] : List Int))).bind fun t119 => (if t114.size + t119.size ≤ 9223372036854775807 then (if (t114 ++ t119).size + a0.size ≤ 9223372036854775807 then (if ((t114 ++ t119) ++ a0).size + a1.size ≤ 9223372036854775807 then (if (((t114 ++ t119) ++ a0) ++ a1).size + a3.size ≤ 9223372036854775807 then (some ((((t114 ++ t119) ++ a0) ++ a1) ++ a3, 0)) else (none)) else (none)) else (none)) else (none)))) else (none)) else (none)) else (none)) = some (r1, r2) := H
          have A9 := Aside0.mk A90
          clear A90
          by_cases c10 : t114.size + 2 ≤ 9223372036854775807
          · rw [if_pos c10] at H
            have c10b0 := eq_true c10
            have c10b1 : decide (t114.size + 2 ≤ 9223372036854775807) = true := decide_eq_true c10
            try have c10b2 : (9223372036854775807 < t114.size + 2) = False := eq_false (Nat.not_lt.2 c10)
            by_cases c11 : (t114 ++ (⟨#[0, 0]⟩ : ByteArray)).size + a0.size ≤ 9223372036854775807
            · rw [if_pos c11] at H
              have c11b0 := eq_true c11
              have c11b1 : decide ((t114 ++ (⟨#[0, 0]⟩ : ByteArray)).size + a0.size ≤ 9223372036854775807) = true := decide_eq_true c11
              try have c11b2 : (9223372036854775807 < (t114 ++ (⟨#[0, 0]⟩ : ByteArray)).size + a0.size) = False := eq_false (Nat.not_lt.2 c11)
              by_cases c12 : ((t114 ++ (⟨#[0, 0]⟩ : ByteArray)) ++ a0).size + a1.size ≤ 9223372036854775807
              · rw [if_pos c12] at H
                have c12b0 := eq_true c12
                have c12b1 : decide (((t114 ++ (⟨#[0, 0]⟩ : ByteArray)) ++ a0).size + a1.size ≤ 9223372036854775807) = true := decide_eq_true c12
                try have c12b2 : (9223372036854775807 < ((t114 ++ (⟨#[0, 0]⟩ : ByteArray)) ++ a0).size + a1.size) = False := eq_false (Nat.not_lt.2 c12)
                replace H := Option.bind_eq_some_iff.mp H
                obtain ⟨t115, A130, H⟩ := H
                replace H : ((clarionref07_text.f kj4 (([wrap64 (Int.tdiv t115 256), Int.tmod t115 256] : List Int))).bind fun t119 => (if t114.size + t119.size ≤ 9223372036854775807 then (if (t114 ++ t119).size + a0.size ≤ 9223372036854775807 then (if ((t114 ++ t119) ++ a0).size + a1.size ≤ 9223372036854775807 then (if (((t114 ++ t119) ++ a0) ++ a1).size + a3.size ≤ 9223372036854775807 then (some ((((t114 ++ t119) ++ a0) ++ a1) ++ a3, 0)) else (none)) else (none)) else (none)) else (none))) = some (r1, r2) := H
                have A13 := Aside0.mk A130
                clear A130
                obtain ⟨y116, hy116⟩ : ∃ y_ : List Int, y_ = (([wrap64 (Int.tdiv t115 256), Int.tmod t115 256] : List Int)) := ⟨_, rfl⟩
                replace H : ((clarionref07_text.f kj4 y116).bind fun t119 => (if t114.size + t119.size ≤ 9223372036854775807 then (if (t114 ++ t119).size + a0.size ≤ 9223372036854775807 then (if ((t114 ++ t119) ++ a0).size + a1.size ≤ 9223372036854775807 then (if (((t114 ++ t119) ++ a0) ++ a1).size + a3.size ≤ 9223372036854775807 then (some ((((t114 ++ t119) ++ a0) ++ a1) ++ a3, 0)) else (none)) else (none)) else (none)) else (none))) = some (r1, r2) := by first | (rw [hy116]; with_reducible exact H) | (have H2_ := (Option.bind_some _ _).symm.trans H; rw [hy116]; with_reducible exact H2_) | (have H2_ := (Option.bind_some _ _).symm.trans H; with_reducible exact H2_) | with_reducible exact H | (rw [hy116]; exact H) | exact H
                have Ny116 := Aside0.mk hy116
                clear hy116
                replace H := Option.bind_eq_some_iff.mp H
                obtain ⟨t119, A140, H⟩ := H
                replace H : (if t114.size + t119.size ≤ 9223372036854775807 then (if (t114 ++ t119).size + a0.size ≤ 9223372036854775807 then (if ((t114 ++ t119) ++ a0).size + a1.size ≤ 9223372036854775807 then (if (((t114 ++ t119) ++ a0) ++ a1).size + a3.size ≤ 9223372036854775807 then (some ((((t114 ++ t119) ++ a0) ++ a1) ++ a3, 0)) else (none)) else (none)) else (none)) else (none)) = some (r1, r2) := H
                have A14 := Aside0.mk A140
                clear A140
                by_cases c15 : t114.size + t119.size ≤ 9223372036854775807
                · rw [if_pos c15] at H
                  have c15b0 := eq_true c15
                  have c15b1 : decide (t114.size + t119.size ≤ 9223372036854775807) = true := decide_eq_true c15
                  try have c15b2 : (9223372036854775807 < t114.size + t119.size) = False := eq_false (Nat.not_lt.2 c15)
                  by_cases c16 : (t114 ++ t119).size + a0.size ≤ 9223372036854775807
                  · rw [if_pos c16] at H
                    have c16b0 := eq_true c16
                    have c16b1 : decide ((t114 ++ t119).size + a0.size ≤ 9223372036854775807) = true := decide_eq_true c16
                    try have c16b2 : (9223372036854775807 < (t114 ++ t119).size + a0.size) = False := eq_false (Nat.not_lt.2 c16)
                    by_cases c17 : ((t114 ++ t119) ++ a0).size + a1.size ≤ 9223372036854775807
                    · rw [if_pos c17] at H
                      have c17b0 := eq_true c17
                      have c17b1 : decide (((t114 ++ t119) ++ a0).size + a1.size ≤ 9223372036854775807) = true := decide_eq_true c17
                      try have c17b2 : (9223372036854775807 < ((t114 ++ t119) ++ a0).size + a1.size) = False := eq_false (Nat.not_lt.2 c17)
                      by_cases c18 : (((t114 ++ t119) ++ a0) ++ a1).size + a3.size ≤ 9223372036854775807
                      · rw [if_pos c18] at H
                        have c18b0 := eq_true c18
                        have c18b1 : decide ((((t114 ++ t119) ++ a0) ++ a1).size + a3.size ≤ 9223372036854775807) = true := decide_eq_true c18
                        try have c18b2 : (9223372036854775807 < (((t114 ++ t119) ++ a0) ++ a1).size + a3.size) = False := eq_false (Nat.not_lt.2 c18)
                        simp only [Option.some.injEq, Prod.mk.injEq] at H
                        obtain ⟨rfl, rfl⟩ := H
                        go_wp2_with (first | ((with_reducible refine gate_dst (N := 29) rfl ?_); refine Kd.R_lit (Kd.int .i64) _ 3 ?hg (N := 29) ?hd (xs := ([69, 0, wrap64 (Int.tdiv (wrap64 (20 + (a3.size : Int))) 256), Int.tmod (wrap64 (20 + (a3.size : Int))) 256, 0, 0, 0, 0, 64, a2] : List Int)) (inner := [.int .i64 69, .int .i64 0, .int .i64 (wrap64 (Int.tdiv (wrap64 (20 + (a3.size : Int))) 256)), .int .i64 (Int.tmod (wrap64 (20 + (a3.size : Int))) 256), .int .i64 0, .int .i64 0, .int .i64 0, .int .i64 0, .int .i64 64, .int .i64 a2]) (ok := fun _ => True) (okp := fun _ => True) ?hr ?hp (fun _ hk => hk) trivial (Below.refl _ _) (Nat.le_refl _) (by simp) ?_; (case hd => rfl); (case hg => rfl); (case hr => first | (go_simp; done) | (go_simp; rfl)); (case hp => exact (Reps.one (show Kd.M (Kd.int .i64) _ _ _ 69 [.int .i64 69] from rfl) (Reps.one (show Kd.M (Kd.int .i64) _ _ _ 0 [.int .i64 0] from rfl) (Reps.one (show Kd.M (Kd.int .i64) _ _ _ (wrap64 (Int.tdiv (wrap64 (20 + (a3.size : Int))) 256)) [.int .i64 (wrap64 (Int.tdiv (wrap64 (20 + (a3.size : Int))) 256))] from rfl) (Reps.one (show Kd.M (Kd.int .i64) _ _ _ (Int.tmod (wrap64 (20 + (a3.size : Int))) 256) [.int .i64 (Int.tmod (wrap64 (20 + (a3.size : Int))) 256)] from rfl) (Reps.one (show Kd.M (Kd.int .i64) _ _ _ 0 [.int .i64 0] from rfl) (Reps.one (show Kd.M (Kd.int .i64) _ _ _ 0 [.int .i64 0] from rfl) (Reps.one (show Kd.M (Kd.int .i64) _ _ _ 0 [.int .i64 0] from rfl) (Reps.one (show Kd.M (Kd.int .i64) _ _ _ 0 [.int .i64 0] from rfl) (Reps.one (show Kd.M (Kd.int .i64) _ _ _ 64 [.int .i64 64] from rfl) (Reps.one (show Kd.M (Kd.int .i64) _ _ _ a2 [.int .i64 a2] from rfl) (Reps.none _ _)))))))))))); intro v112 w19 ho20 hb hg_ hnew_; clear hg_ hnew_; (first | rw [← Ny111.out] at ho20 | (simp only [Int.reduceToNat] at ho20; rw [← Ny111.out] at ho20)); have n0_ := Aside0.mk (Kd.R_lower ho20 (below_size (by repeat (first | (with_reducible first | exact HB.out | apply below_alloc | apply pw_below_drewN | apply below_drew1) | exact HB.out)))); have n1_ := Aside0.mk (below_step (by repeat (first | (with_reducible first | exact HB.out | apply below_alloc | apply pw_below_drewN | apply below_drew1) | exact HB.out)) hb); clear HB; have HO113 := n0_; have HB := n1_; clear n0_ n1_; clear hb ho20; obtain ⟨Ao21, co21, eo21⟩ := Kd.R_slice HO113.out; subst eo21) | ((with_reducible refine gate_callee (f := 42) rfl ?_); refine goesL_ (some 30) rfl rfl Tryd.func42 (by kernel_rfl) rfl #[.slice Ao21 y111.length co21] rfl (by (try simp only [List.map_toArray, List.map_cons, List.map_nil]); first | done | rfl | (simp only [List.length_drop, List.length_take]; rfl)) ?_; (with_reducible refine (clarionref07_text.calls kj4 _ _ y111 t114 _ ?side1 ?side2 A9.out).mono ?_); (case side1 => repeat (first | exact (Kd.R_reads' HO113.out).2.2 | (with_reducible refine Kd.C_alloc ?_ _) | (with_reducible refine Kd.C_drewN ?_ _) | (with_reducible refine Kd.C_drew ?_))); (case side2 => exact (Kd.R_reads' HO113.out).2.1); rintro e w22 ⟨rfl, hb⟩; refine ⟨_, rfl, ?_⟩; have n0_ := Aside0.mk (Kd.R_below (by (with_reducible repeat (first | apply Kd.R_alloc | apply Kd.R_drewN | apply Kd.R_drew)); exact HO113.out) hb); have n1_ := Aside0.mk (below_step (by repeat (first | (with_reducible first | exact HB.out | apply below_alloc | apply pw_below_drewN | apply below_drew1) | exact HB.out)) hb); clear HO113; clear HB; have HO113 := n0_; have HB := n1_; clear n0_ n1_; (try clear hb); (try clear hb2); (try clear hk); (try clear hi)) | ((with_reducible refine gate_callee (f := 43) rfl ?_); refine goesL_ (some 37) rfl rfl Tryd.func43 (by kernel_rfl) rfl #[.string (((t114 ++ (⟨#[0, 0]⟩ : ByteArray)) ++ a0) ++ a1)] rfl (by (try simp only [List.map_toArray, List.map_cons, List.map_nil]); first | done | rfl | (simp only [List.length_drop, List.length_take]; rfl)) ?_; (with_reducible refine (clarionref07_Sum.calls kj4 (((t114 ++ (⟨#[0, 0]⟩ : ByteArray)) ++ a0) ++ a1) t115 _ A13.out).mono ?_); rintro e w' ⟨rfl, ⟨nd, rfl⟩⟩; refine ⟨_, rfl, ?_⟩) | ((with_reducible refine gate_dst (N := 43) rfl ?_); refine Kd.R_lit (Kd.int .i64) _ 3 ?hg (N := 43) ?hd (xs := ([wrap64 (Int.tdiv t115 256), Int.tmod t115 256] : List Int)) (inner := [.int .i64 (wrap64 (Int.tdiv t115 256)), .int .i64 (Int.tmod t115 256)]) (ok := fun _ => True) (okp := fun _ => True) ?hr ?hp (fun _ hk => hk) trivial (Below.refl _ _) (Nat.le_refl _) (by simp) ?_; (case hd => rfl); (case hg => rfl); (case hr => first | (go_simp; done) | (go_simp; rfl)); (case hp => exact (Reps.one (show Kd.M (Kd.int .i64) _ _ _ (wrap64 (Int.tdiv t115 256)) [.int .i64 (wrap64 (Int.tdiv t115 256))] from rfl) (Reps.one (show Kd.M (Kd.int .i64) _ _ _ (Int.tmod t115 256) [.int .i64 (Int.tmod t115 256)] from rfl) (Reps.none _ _)))); intro v117 w23 ho24 hb hg_ hnew_; clear hg_ hnew_; (first | rw [← Ny116.out] at ho24 | (simp only [Int.reduceToNat] at ho24; rw [← Ny116.out] at ho24)); have n0_ := Aside0.mk (Kd.R_elder' (by (with_reducible repeat (first | apply Kd.R_alloc | apply Kd.R_drewN | apply Kd.R_drew)); exact HO113.out) (Kd.R_base ho24) hb); have n1_ := Aside0.mk (Kd.R_lower (Kd.R_new' ho24 (Kd.R_lt (by (with_reducible repeat (first | apply Kd.R_alloc | apply Kd.R_drewN | apply Kd.R_drew)); exact HO113.out))) (below_size (by repeat (first | (with_reducible first | exact HB.out | apply below_alloc | apply pw_below_drewN | apply below_drew1) | exact HB.out)))); have n2_ := Aside0.mk (below_step (by repeat (first | (with_reducible first | exact HB.out | apply below_alloc | apply pw_below_drewN | apply below_drew1) | exact HB.out)) hb); clear HO113; clear HB; have HO113 := n0_; have HO118 := n1_; have HB := n2_; clear n0_ n1_ n2_; clear hb ho24; obtain ⟨Ao25, co25, eo25⟩ := Kd.R_slice HO118.out; subst eo25) | ((with_reducible refine gate_callee (f := 42) rfl ?_); refine goesL_ (some 44) rfl rfl Tryd.func42 (by kernel_rfl) rfl #[.slice Ao25 y116.length co25] rfl (by (try simp only [List.map_toArray, List.map_cons, List.map_nil]); first | done | rfl | (simp only [List.length_drop, List.length_take]; rfl)) ?_; (with_reducible refine (clarionref07_text.calls kj4 _ _ y116 t119 _ ?side1 ?side2 A14.out).mono ?_); (case side1 => repeat (first | exact (Kd.R_reads' HO118.out).2.2 | (with_reducible refine Kd.C_alloc ?_ _) | (with_reducible refine Kd.C_drewN ?_ _) | (with_reducible refine Kd.C_drew ?_))); (case side2 => exact (Kd.R_reads' HO118.out).2.1); rintro e w26 ⟨rfl, hb⟩; refine ⟨_, rfl, ?_⟩; have n0_ := Aside0.mk (Kd.R_below (by (with_reducible repeat (first | apply Kd.R_alloc | apply Kd.R_drewN | apply Kd.R_drew)); exact HO113.out) hb); have n1_ := Aside0.mk (Kd.R_below (by (with_reducible repeat (first | apply Kd.R_alloc | apply Kd.R_drewN | apply Kd.R_drew)); exact HO118.out) hb); have n2_ := Aside0.mk (below_step (by repeat (first | (with_reducible first | exact HB.out | apply below_alloc | apply pw_below_drewN | apply below_drew1) | exact HB.out)) hb); clear HO113; clear HO118; clear HB; have HO113 := n0_; have HO118 := n1_; have HB := n2_; clear n0_ n1_ n2_; (try clear hb); (try clear hb2); (try clear hk); (try clear hi)))
                        go_ret2
                        exact ⟨by first | rfl | (simp [errW_none, errW_some] <;> rfl) | (simp [*, errW_none, errW_some] <;> rfl), by repeat (first | (with_reducible first | exact HB.out | apply below_alloc | apply pw_below_drewN | apply below_drew1) | exact HB.out)⟩
                      · rw [if_neg c18] at H
                        exact absurd H (by simp)
                    · rw [if_neg c17] at H
                      exact absurd H (by simp)
                  · rw [if_neg c16] at H
                    exact absurd H (by simp)
                · rw [if_neg c15] at H
                  exact absurd H (by simp)
              · rw [if_neg c12] at H
                exact absurd H (by simp)
            · rw [if_neg c11] at H
              exact absurd H (by simp)
          · rw [if_neg c10] at H
            exact absurd H (by simp)

/-! ### clarionref05_Four: function 45 -/
def clarionref05_Four.f (a0 : Int) : Option (ByteArray) := some (strOfNums (([((Int.tdiv a0 16777216) % 4294967296) % 256, ((Int.tdiv a0 65536) % 4294967296) % 256, ((Int.tdiv a0 256) % 4294967296) % 256, (Int.tmod a0 256) % 256] : List Int)))
set_option maxHeartbeats 8000000 in
set_option maxRecDepth 100000 in
theorem clarionref05_Four.calls (a0 : Int) (r : ByteArray) (w : World) (h : clarionref05_Four.f a0 = some r) :
    Calls Tryd.prog 45 #[.int .u32 a0] w fun e w' => e = .returned (.string r) ∧ Below w.heap.size w w' := by
  have HB := Aside0.mk (Below.refl w.heap.size w)
  have H : (some (strOfNums (([((Int.tdiv a0 16777216) % 4294967296) % 256, ((Int.tdiv a0 65536) % 4294967296) % 256, ((Int.tdiv a0 256) % 4294967296) % 256, (Int.tmod a0 256) % 256] : List Int)))) = some r := h
  clear h
  obtain ⟨y120, hy120⟩ : ∃ y_ : List Int, y_ = (([((Int.tdiv a0 16777216) % 4294967296) % 256, ((Int.tdiv a0 65536) % 4294967296) % 256, ((Int.tdiv a0 256) % 4294967296) % 256, (Int.tmod a0 256) % 256] : List Int)) := ⟨_, rfl⟩
  replace H : (some (strOfNums y120)) = some r := by first | (rw [hy120]; with_reducible exact H) | (have H2_ := (Option.bind_some _ _).symm.trans H; rw [hy120]; with_reducible exact H2_) | (have H2_ := (Option.bind_some _ _).symm.trans H; with_reducible exact H2_) | with_reducible exact H | (rw [hy120]; exact H) | exact H
  have Ny120 := Aside0.mk hy120
  clear hy120
  obtain rfl := Option.some.inj H
  go_enter Tryd.func45, Tryd.ntmps45
  go_wp2_with (first | ((with_reducible refine gate_dst (N := 17) rfl ?_); refine Kd.R_lit (Kd.int .u8) _ 5 ?hg (N := 17) ?hd (xs := ([((Int.tdiv a0 16777216) % 4294967296) % 256, ((Int.tdiv a0 65536) % 4294967296) % 256, ((Int.tdiv a0 256) % 4294967296) % 256, (Int.tmod a0 256) % 256] : List Int)) (inner := [.int .u8 (((Int.tdiv a0 16777216) % 4294967296) % 256), .int .u8 (((Int.tdiv a0 65536) % 4294967296) % 256), .int .u8 (((Int.tdiv a0 256) % 4294967296) % 256), .int .u8 ((Int.tmod a0 256) % 256)]) (ok := fun _ => True) (okp := fun _ => True) ?hr ?hp (fun _ hk => hk) trivial (Below.refl _ _) (Nat.le_refl _) (by simp) ?_; (case hd => rfl); (case hg => rfl); (case hr => first | (go_simp; done) | (go_simp; rfl)); (case hp => exact (Reps.one (show Kd.M (Kd.int .u8) _ _ _ (((Int.tdiv a0 16777216) % 4294967296) % 256) [.int .u8 (((Int.tdiv a0 16777216) % 4294967296) % 256)] from rfl) (Reps.one (show Kd.M (Kd.int .u8) _ _ _ (((Int.tdiv a0 65536) % 4294967296) % 256) [.int .u8 (((Int.tdiv a0 65536) % 4294967296) % 256)] from rfl) (Reps.one (show Kd.M (Kd.int .u8) _ _ _ (((Int.tdiv a0 256) % 4294967296) % 256) [.int .u8 (((Int.tdiv a0 256) % 4294967296) % 256)] from rfl) (Reps.one (show Kd.M (Kd.int .u8) _ _ _ ((Int.tmod a0 256) % 256) [.int .u8 ((Int.tmod a0 256) % 256)] from rfl) (Reps.none _ _)))))); intro v121 w2 ho3 hb hg_ hnew_; clear hg_ hnew_; (first | rw [← Ny120.out] at ho3 | (simp only [Int.reduceToNat] at ho3; rw [← Ny120.out] at ho3)); have n0_ := Aside0.mk (Kd.R_lower ho3 (below_size (by repeat (first | (with_reducible first | exact HB.out | apply below_alloc | apply pw_below_drewN | apply below_drew1) | exact HB.out)))); have n1_ := Aside0.mk (below_step (by repeat (first | (with_reducible first | exact HB.out | apply below_alloc | apply pw_below_drewN | apply below_drew1) | exact HB.out)) hb); clear HB; have HO122 := n0_; have HB := n1_; clear n0_ n1_; clear hb ho3; have hcv4 := own_string (P := Tryd.prog) Tryd.underlying42 Tryd.underlying5 Tryd.underlying9 (Kd.own_of_R HO122.out)))
  go_ret
  exact ⟨by first | rfl | (simp [errW_none, errW_some] <;> rfl) | (simp [*, errW_none, errW_some] <;> rfl), by repeat (first | (with_reducible first | exact HB.out | apply below_alloc | apply pw_below_drewN | apply below_drew1) | exact HB.out)⟩

/-! ### clarionref05_More: function 59 -/
mutual
def clarionref05_More.l0 : Nat → Int → ByteArray → Int → Option (Int)
  | 0, _, _, _ => none
  | k + 1, x0, x1, x5 => if x5 < (x1.size : Int) then (clarionref05_More.l1 k x0 x1 x5 128 0) else (some x0)
def clarionref05_More.l1 : Nat → Int → ByteArray → Int → Int → Int → Option (Int)
  | 0, _, _, _, _, _ => none
  | k + 1, x0, x1, x5, x6, x7 => if x7 < 8 then (if 0 ≤ x5 then (if x5 < (x1.size : Int) then (if x6 = 0 then (none) else (if ((decide (x0 ≥ 2147483648)) != ((Int.tmod (wrap64 (Int.tdiv (wrap64 (bt x1 x5)) x6)) 2) == 1)) = true then (clarionref05_More.l1 k (Go.bits .xor .u32 ((x0 * 2) % 4294967296) 79764919) x1 x5 (wrap64 (Int.tdiv x6 2)) (wrap64 (x7 + 1))) else (clarionref05_More.l1 k ((x0 * 2) % 4294967296) x1 x5 (wrap64 (Int.tdiv x6 2)) (wrap64 (x7 + 1))))) else (none)) else (none)) else (clarionref05_More.l0 k x0 x1 (wrap64 (x5 + 1)))
end
def clarionref05_More.f (k : Nat) (a0 : Int) (a1 : ByteArray) : Option (Int) := clarionref05_More.l0 k a0 a1 0
theorem clarionref05_More.mono_l : ∀ k, (∀ y0 y1 y2, LeO (clarionref05_More.l0 k y0 y1 y2) (clarionref05_More.l0 (k + 1) y0 y1 y2)) ∧ (∀ y0 y1 y2 y3 y4, LeO (clarionref05_More.l1 k y0 y1 y2 y3 y4) (clarionref05_More.l1 (k + 1) y0 y1 y2 y3 y4))
  | 0 => ⟨fun _ _ _ r h => by simp [clarionref05_More.l0] at h, fun _ _ _ _ _ r h => by simp [clarionref05_More.l1] at h⟩
  | k + 1 => by
    obtain ⟨ih0, ih1⟩ := clarionref05_More.mono_l k
    refine ⟨?_, ?_⟩
    · intro y0 y1 y2
      unfold clarionref05_More.l0
      repeat' first
      | (with_reducible exact ih0 _ _ _)
      | (with_reducible exact ih1 _ _ _ _ _)
      | (with_reducible exact LeO.refl _)
      | (with_reducible exact LeO.none _)
      | (with_reducible refine LeO.ite ?_ ?_)
      | (with_reducible refine LeO.bind ?_ (fun _ => ?_))
      | exact ih0 _ _ _
      | exact ih1 _ _ _ _ _
      | exact LeO.none _
      | refine LeO.ite ?_ ?_
      | refine LeO.bind ?_ (fun _ => ?_)
    · intro y0 y1 y2 y3 y4
      unfold clarionref05_More.l1
      repeat' first
      | (with_reducible exact ih0 _ _ _)
      | (with_reducible exact ih1 _ _ _ _ _)
      | (with_reducible exact LeO.refl _)
      | (with_reducible exact LeO.none _)
      | (with_reducible refine LeO.ite ?_ ?_)
      | (with_reducible refine LeO.bind ?_ (fun _ => ?_))
      | exact ih0 _ _ _
      | exact ih1 _ _ _ _ _
      | exact LeO.none _
      | refine LeO.ite ?_ ?_
      | refine LeO.bind ?_ (fun _ => ?_)
theorem clarionref05_More.mono : ∀ a0 a1 k, LeO (clarionref05_More.f k a0 a1) (clarionref05_More.f (k + 1) a0 a1) := by
  intro a0 a1 k
  obtain ⟨ih0, ih1⟩ := clarionref05_More.mono_l k
  unfold clarionref05_More.f
  repeat' first
      | (with_reducible exact ih0 _ _ _)
      | (with_reducible exact ih1 _ _ _ _ _)
      | (with_reducible exact LeO.refl _)
      | (with_reducible exact LeO.none _)
      | (with_reducible refine LeO.ite ?_ ?_)
      | (with_reducible refine LeO.bind ?_ (fun _ => ?_))
      | exact ih0 _ _ _
      | exact ih1 _ _ _ _ _
      | exact LeO.none _
      | refine LeO.ite ?_ ?_
      | refine LeO.bind ?_ (fun _ => ?_)
set_option maxHeartbeats 8000000 in
set_option maxRecDepth 100000 in
theorem clarionref05_More.calls (k : Nat) (a0 : Int) (a1 : ByteArray) (r : Int) (w : World) (h : clarionref05_More.f k a0 a1 = some r) :
    Calls Tryd.prog 59 #[.int .u32 a0, .string a1] w fun e w' => e = .returned (.int .u32 r) ∧ Drawn0 w w' := by
  have H : (clarionref05_More.l0 k a0 a1 0) = some r := h
  clear h
  have H' := Aside0.mk H
  clear H
  go_enter Tryd.func59, Tryd.ntmps59
  go_wp2
  go_loopg [0, 5] k (fun kq v0 v5 w' => ∃ (x0_1 : Int) (x5_1 : Int), v0 = .int .u32 x0_1 ∧ v5 = .int .i64 x5_1 ∧ Aside0 (clarionref05_More.l0 kq x0_1 a1 x5_1 = some r) ∧ Aside0 (kq ≤ k) ∧ Drawn0 w w')
  case atStart => exact ⟨(a0), (0), (by first | rfl | (simp; done) | (simp [*]; done)), (by first | rfl | (simp; done) | (simp [*]; done)), H', ⟨Nat.le_refl _⟩, by repeat (first | exact Drawn0.refl _ | apply Drawn0.step)⟩
  case round =>
    clear H'
    try clear p2
    obtain ⟨x0_1, x5_1, rfl, rfl, HA, HK1, ⟨m1, rfl⟩⟩ := hrel
    cases gk with
    | zero => exact absurd HA.out (by simp [clarionref05_More.l0])
    | succ k1 =>
      have H := HA.out
      clear HA
      simp only [clarionref05_More.l0] at H
      by_cases c3 : x5_1 < (a1.size : Int)
      · rw [if_pos c3] at H
        have c3b0 : decide (x5_1 < (a1.size : Int)) = true := decide_eq_true c3
        clear c3
        have H' := Aside0.mk H
        clear H
        go_wp2
        go_loopg [0, 6, 7] k1 (fun kq v0 v6 v7 w' => ∃ (x0_2 : Int) (x6_2 : Int) (x7_2 : Int), v0 = .int .u32 x0_2 ∧ v6 = .int .i64 x6_2 ∧ v7 = .int .i64 x7_2 ∧ Aside0 (clarionref05_More.l1 kq x0_2 a1 x5_1 x6_2 x7_2 = some r) ∧ Aside0 (kq ≤ k1) ∧ Drawn0 w w')
        case atStart => exact ⟨(x0_1), (128), (0), (by first | rfl | (simp; done) | (simp [*]; done)), (by first | rfl | (simp; done) | (simp [*]; done)), (by first | rfl | (simp; done) | (simp [*]; done)), H', ⟨Nat.le_refl _⟩, by repeat (first | exact Drawn0.refl _ | apply Drawn0.step)⟩
        case round =>
          clear H'
          try clear p2
          try clear c3
          try clear c3b0
          try clear p2
          obtain ⟨x0_2, x6_2, x7_2, rfl, rfl, rfl, HA, HK2, ⟨m2, rfl⟩⟩ := hrel
          cases gk with
          | zero => exact absurd HA.out (by simp [clarionref05_More.l1])
          | succ k2 =>
            have H := HA.out
            clear HA
            simp only [clarionref05_More.l1] at H
            by_cases c4 : x7_2 < 8
            · rw [if_pos c4] at H
              have c4b0 : decide (x7_2 < 8) = true := decide_eq_true c4
              clear c4
              by_cases c5 : 0 ≤ x5_1
              · rw [if_pos c5] at H
                have c5b0 : decide (0 ≤ x5_1) = true := decide_eq_true c5
                clear c5
                by_cases c6 : x5_1 < (a1.size : Int)
                · rw [if_pos c6] at H
                  have c6b0 : decide (x5_1 < (a1.size : Int)) = true := decide_eq_true c6
                  clear c6
                  by_cases c8 : x6_2 = 0
                  · rw [if_pos c8] at H
                    exact absurd H (by simp)
                  · rw [if_neg c8] at H
                    have c8b0 : (x6_2 == 0) = false := beq_eq_false_iff_ne.mpr c8
                    have c8b1 : (x6_2 != 0) = true := bne_iff_ne.mpr c8
                    by_cases c9 : ((decide (x0_2 ≥ 2147483648)) != ((Int.tmod (wrap64 (Int.tdiv (wrap64 (bt a1 x5_1)) x6_2)) 2) == 1)) = true
                    · rw [if_pos c9] at H
                      have c9b0 : ((decide (x0_2 ≥ 2147483648)) != ((Int.tmod (wrap64 (Int.tdiv (wrap64 (bt a1 x5_1)) x6_2)) 2) == 1)) = true := c9
                      (try (have c9b1 : decide ((decide (x0_2 ≥ 2147483648)) = ((Int.tmod (wrap64 (Int.tdiv (wrap64 (bt a1 x5_1)) x6_2)) 2) == 1)) = false := by simpa using c9))
                      (try (have c9b2 : ((decide (x0_2 ≥ 2147483648)) == ((Int.tmod (wrap64 (Int.tdiv (wrap64 (bt a1 x5_1)) x6_2)) 2) == 1)) = false := by simpa using c9))
                      (try (have c9b3 : ¬ ((decide (x0_2 ≥ 2147483648)) = ((Int.tmod (wrap64 (Int.tdiv (wrap64 (bt a1 x5_1)) x6_2)) 2) == 1)) := by simpa using c9))
                      clear c9
                      have H' := Aside0.mk H
                      clear H
                      have p7 : 0 ≤ (x5_1 : Int) := of_decide_eq_true (by first | (with_reducible assumption) | assumption)
                      have q7 : x5_1 < (a1.size : Int) := of_decide_eq_true (by first | (with_reducible assumption) | assumption)
                      have hx7 := bt_at a1 x5_1
                      replace p7 := eq_true p7
                      replace q7 := eq_true q7
                      go_wp2
                      go_roundg k2
                      case measure => have := HK1.out; have := HK2.out; omega
                      case rel => exact ⟨(Go.bits .xor .u32 ((x0_2 * 2) % 4294967296) 79764919), (wrap64 (Int.tdiv x6_2 2)), (wrap64 (x7_2 + 1)), (by first | rfl | (simp; done) | (simp [*]; done)), (by first | rfl | (simp; done) | (simp [*]; done)), (by first | rfl | (simp; done) | (simp [*]; done)), H', ⟨by have := HK1.out; have := HK2.out; omega⟩, by repeat (first | exact Drawn0.refl _ | apply Drawn0.step)⟩
                    · rw [if_neg c9] at H
                      have c9b0 : ((decide (x0_2 ≥ 2147483648)) != ((Int.tmod (wrap64 (Int.tdiv (wrap64 (bt a1 x5_1)) x6_2)) 2) == 1)) = false := by simpa using c9
                      (try (have c9b1 : decide ((decide (x0_2 ≥ 2147483648)) = ((Int.tmod (wrap64 (Int.tdiv (wrap64 (bt a1 x5_1)) x6_2)) 2) == 1)) = true := by simpa using c9))
                      (try (have c9b2 : ((decide (x0_2 ≥ 2147483648)) == ((Int.tmod (wrap64 (Int.tdiv (wrap64 (bt a1 x5_1)) x6_2)) 2) == 1)) = true := by simpa using c9))
                      clear c9
                      have H' := Aside0.mk H
                      clear H
                      have p7 : 0 ≤ (x5_1 : Int) := of_decide_eq_true (by first | (with_reducible assumption) | assumption)
                      have q7 : x5_1 < (a1.size : Int) := of_decide_eq_true (by first | (with_reducible assumption) | assumption)
                      have hx7 := bt_at a1 x5_1
                      replace p7 := eq_true p7
                      replace q7 := eq_true q7
                      go_wp2
                      go_roundg k2
                      case measure => have := HK1.out; have := HK2.out; omega
                      case rel => exact ⟨((x0_2 * 2) % 4294967296), (wrap64 (Int.tdiv x6_2 2)), (wrap64 (x7_2 + 1)), (by first | rfl | (simp; done) | (simp [*]; done)), (by first | rfl | (simp; done) | (simp [*]; done)), (by first | rfl | (simp; done) | (simp [*]; done)), H', ⟨by have := HK1.out; have := HK2.out; omega⟩, by repeat (first | exact Drawn0.refl _ | apply Drawn0.step)⟩
                · rw [if_neg c6] at H
                  exact absurd H (by simp)
              · rw [if_neg c5] at H
                exact absurd H (by simp)
            · rw [if_neg c4] at H
              have c4b0 : decide (x7_2 < 8) = false := decide_eq_false c4
              clear c4
              have H' := Aside0.mk H
              clear H
              go_wp2
              go_roundg k2
              case measure => have := HK1.out; have := HK2.out; omega
              case rel => exact ⟨(x0_2), (wrap64 (x5_1 + 1)), (by first | rfl | (simp; done) | (simp [*]; done)), (by first | rfl | (simp; done) | (simp [*]; done)), H', ⟨by have := HK1.out; have := HK2.out; omega⟩, by repeat (first | exact Drawn0.refl _ | apply Drawn0.step)⟩
      · rw [if_neg c3] at H
        have c3b0 : decide (x5_1 < (a1.size : Int)) = false := decide_eq_false c3
        clear c3
        obtain rfl := Option.some.inj H
        go_wp2
        go_ret
        exact ⟨by first | rfl | (simp; done) | (simp [*]; done), by repeat (first | exact Drawn0.refl _ | apply Drawn0.step)⟩

/-! ### clarionref05_Sum: function 46 -/
def clarionref05_Sum.f (k : Nat) (a0 : ByteArray) : Option (Int) := (clarionref05_More.f k 4294967295 a0).bind fun t123 => (some t123)
theorem clarionref05_Sum.mono : ∀ a0 k, LeO (clarionref05_Sum.f k a0) (clarionref05_Sum.f (k + 1) a0) := by
  intro a0 k
  unfold clarionref05_Sum.f
  repeat' first
      | (with_reducible exact clarionref05_More.mono _ _ _)
      | (with_reducible exact LeO.refl _)
      | (with_reducible exact LeO.none _)
      | (with_reducible refine LeO.ite ?_ ?_)
      | (with_reducible refine LeO.bind ?_ (fun _ => ?_))
      | exact clarionref05_More.mono _ _ _
      | exact LeO.none _
      | refine LeO.ite ?_ ?_
      | refine LeO.bind ?_ (fun _ => ?_)
set_option maxHeartbeats 8000000 in
set_option maxRecDepth 100000 in
theorem clarionref05_Sum.calls (k : Nat) (a0 : ByteArray) (r : Int) (w : World) (h : clarionref05_Sum.f k a0 = some r) :
    Calls Tryd.prog 46 #[.string a0] w fun e w' => e = .returned (.int .u32 r) ∧ Drawn0 w w' := by
  have H : ((clarionref05_More.f k 4294967295 a0).bind fun t123 => (some t123)) = some r := h
  clear h
  replace H := Option.bind_eq_some_iff.mp H
  obtain ⟨t123, A20, H⟩ := H
  replace H : (some t123) = some r := H
  have A2 := Aside0.mk A20
  clear A20
  obtain rfl := Option.some.inj H
  go_enter Tryd.func46, Tryd.ntmps46
  go_wp2_with (first | ((with_reducible refine gate_callee (f := 59) rfl ?_); refine goesL_ (some 4) rfl rfl Tryd.func59 (by kernel_rfl) rfl #[.int .u32 4294967295, .string a0] rfl (by (try simp only [List.map_toArray, List.map_cons, List.map_nil]); first | done | rfl | (simp only [List.length_drop, List.length_take]; rfl)) ?_; (with_reducible refine (clarionref05_More.calls k 4294967295 a0 t123 _ A2.out).mono ?_); rintro e w' ⟨rfl, ⟨nd, rfl⟩⟩; refine ⟨_, rfl, ?_⟩))
  go_ret
  exact ⟨by first | rfl | (simp; done) | (simp [*]; done), by repeat (first | exact Drawn0.refl _ | apply Drawn0.step)⟩

/-! ### clarionref05_Seal: function 32 -/
def clarionref05_Seal.f (k : Nat) (a0 : ByteArray) : Option (ByteArray) := (clarionref05_Sum.f k a0).bind fun t124 => ((clarionref05_Four.f t124).bind fun t125 => (if a0.size + t125.size ≤ 9223372036854775807 then (some (a0 ++ t125)) else (none)))
theorem clarionref05_Seal.mono : ∀ a0 k, LeO (clarionref05_Seal.f k a0) (clarionref05_Seal.f (k + 1) a0) := by
  intro a0 k
  unfold clarionref05_Seal.f
  repeat' first
      | (with_reducible exact clarionref05_Sum.mono _ _)
      | (with_reducible exact LeO.refl _)
      | (with_reducible exact LeO.none _)
      | (with_reducible refine LeO.ite ?_ ?_)
      | (with_reducible refine LeO.bind ?_ (fun _ => ?_))
      | exact clarionref05_Sum.mono _ _
      | exact LeO.none _
      | refine LeO.ite ?_ ?_
      | refine LeO.bind ?_ (fun _ => ?_)
set_option maxHeartbeats 8000000 in
set_option maxRecDepth 100000 in
theorem clarionref05_Seal.calls (k : Nat) (a0 : ByteArray) (r : ByteArray) (w : World) (h : clarionref05_Seal.f k a0 = some r) :
    Calls Tryd.prog 32 #[.string a0] w fun e w' => e = .returned (.string r) ∧ Below w.heap.size w w' := by
  have HB := Aside0.mk (Below.refl w.heap.size w)
  have H : ((clarionref05_Sum.f k a0).bind fun t124 => ((clarionref05_Four.f t124).bind fun t125 => (if a0.size + t125.size ≤ 9223372036854775807 then (some (a0 ++ t125)) else (none)))) = some r := h
  clear h
  replace H := Option.bind_eq_some_iff.mp H
  obtain ⟨t124, A20, H⟩ := H
  replace H : ((clarionref05_Four.f t124).bind fun t125 => (if a0.size + t125.size ≤ 9223372036854775807 then (some (a0 ++ t125)) else (none))) = some r := H
  have A2 := Aside0.mk A20
  clear A20
  replace H := Option.bind_eq_some_iff.mp H
  obtain ⟨t125, A30, H⟩ := H
  replace H : (if a0.size + t125.size ≤ 9223372036854775807 then (some (a0 ++ t125)) else (none)) = some r := H
  have A3 := Aside0.mk A30
  clear A30
  by_cases c4 : a0.size + t125.size ≤ 9223372036854775807
  · rw [if_pos c4] at H
    have c4b0 := eq_true c4
    have c4b1 : decide (a0.size + t125.size ≤ 9223372036854775807) = true := decide_eq_true c4
    try have c4b2 : (9223372036854775807 < a0.size + t125.size) = False := eq_false (Nat.not_lt.2 c4)
    obtain rfl := Option.some.inj H
    go_enter Tryd.func32, Tryd.ntmps32
    go_wp2_with (first | ((with_reducible refine gate_callee (f := 46) rfl ?_); refine goesL_ (some 5) rfl rfl Tryd.func46 (by kernel_rfl) rfl #[.string a0] rfl (by (try simp only [List.map_toArray, List.map_cons, List.map_nil]); first | done | rfl | (simp only [List.length_drop, List.length_take]; rfl)) ?_; (with_reducible refine (clarionref05_Sum.calls k a0 t124 _ A2.out).mono ?_); rintro e w' ⟨rfl, ⟨nd, rfl⟩⟩; refine ⟨_, rfl, ?_⟩) | ((with_reducible refine gate_callee (f := 45) rfl ?_); refine goesL_ (some 6) rfl rfl Tryd.func45 (by kernel_rfl) rfl #[.int .u32 t124] rfl (by (try simp only [List.map_toArray, List.map_cons, List.map_nil]); first | done | rfl | (simp only [List.length_drop, List.length_take]; rfl)) ?_; (with_reducible refine (clarionref05_Four.calls t124 t125 _ A3.out).mono ?_); rintro e w5 ⟨rfl, hb⟩; refine ⟨_, rfl, ?_⟩; have n0_ := Aside0.mk (below_step (by repeat (first | (with_reducible first | exact HB.out | apply below_alloc | apply pw_below_drewN | apply below_drew1) | exact HB.out)) hb); clear HB; have HB := n0_; clear n0_; (try clear hb); (try clear hb2); (try clear hk); (try clear hi)))
    go_ret
    exact ⟨by first | rfl | (simp [errW_none, errW_some] <;> rfl) | (simp [*, errW_none, errW_some] <;> rfl), by repeat (first | (with_reducible first | exact HB.out | apply below_alloc | apply pw_below_drewN | apply below_drew1) | exact HB.out)⟩
  · rw [if_neg c4] at H
    exact absurd H (by simp)

/-! ### clarionref10_text: function 44 -/
def clarionref10_text.l0 : Nat → List Int → ByteArray → Int → Option (ByteArray)
  | 0, _, _, _ => none
  | k + 1, x0, x3, x4 => if x4 < (x0.length : Int) then (if 0 ≤ x4 then ((some (([(rd x0 x4) % 256] : List Int) : List Int)).bind fun y127 => (if x3.size + (strOfNums y127).size ≤ 9223372036854775807 then (clarionref10_text.l0 k x0 (x3 ++ (strOfNums y127)) (wrap64 (x4 + 1))) else (none))) else (none)) else (some x3)
def clarionref10_text.f (k : Nat) (l0 : List Int) : Option (ByteArray) := clarionref10_text.l0 k l0 (⟨#[]⟩ : ByteArray) 0
theorem clarionref10_text.mono_l : ∀ k, (∀ y0 y1 y2, LeO (clarionref10_text.l0 k y0 y1 y2) (clarionref10_text.l0 (k + 1) y0 y1 y2))
  | 0 => fun _ _ _ r h => by simp [clarionref10_text.l0] at h
  | k + 1 => by
    have ih0 := clarionref10_text.mono_l k
    · intro y0 y1 y2
      unfold clarionref10_text.l0
      repeat' first
      | (with_reducible exact ih0 _ _ _)
      | (with_reducible exact LeO.refl _)
      | (with_reducible exact LeO.none _)
      | (with_reducible refine LeO.ite ?_ ?_)
      | (with_reducible refine LeO.bind ?_ (fun _ => ?_))
      | exact ih0 _ _ _
      | exact LeO.none _
      | refine LeO.ite ?_ ?_
      | refine LeO.bind ?_ (fun _ => ?_)
theorem clarionref10_text.mono : ∀ a0 k, LeO (clarionref10_text.f k a0) (clarionref10_text.f (k + 1) a0) := by
  intro a0 k
  have ih0 := clarionref10_text.mono_l k
  unfold clarionref10_text.f
  repeat' first
      | (with_reducible exact ih0 _ _ _)
      | (with_reducible exact LeO.refl _)
      | (with_reducible exact LeO.none _)
      | (with_reducible refine LeO.ite ?_ ?_)
      | (with_reducible refine LeO.bind ?_ (fun _ => ?_))
      | exact ih0 _ _ _
      | exact LeO.none _
      | refine LeO.ite ?_ ?_
      | refine LeO.bind ?_ (fun _ => ?_)
set_option maxHeartbeats 8000000 in
set_option maxRecDepth 100000 in
theorem clarionref10_text.calls (k : Nat) (A0 : Option Addr) (c0 : Nat) (l0 : List Int) (r : ByteArray) (w : World) (hr0 : Kd.C (Kd.int .i64) w A0 l0.length l0) (hc0 : l0.length ≤ c0) (h : clarionref10_text.f k l0 = some r) :
    Calls Tryd.prog 44 #[.slice A0 l0.length c0] w fun e w' => e = .returned (.string r) ∧ Below w.heap.size w w' := by
  have HR0 := Aside0.mk hr0
  have HC0 := Aside0.mk hc0
  clear hr0 hc0
  have HB := Aside0.mk (Below.refl w.heap.size w)
  have H : (clarionref10_text.l0 k l0 (⟨#[]⟩ : ByteArray) 0) = some r := h
  clear h
  have H' := Aside0.mk H
  clear H
  go_enter Tryd.func44, Tryd.ntmps44
  go_wp2
  go_loopg [3, 4] k (fun kq v3 v4 w' => ∃ (x3_1 : ByteArray) (x4_1 : Int), v3 = .string x3_1 ∧ v4 = .int .i64 x4_1 ∧ Aside0 (clarionref10_text.l0 kq l0 x3_1 x4_1 = some r) ∧ Aside0 (kq ≤ k) ∧ Aside0 (Below w.heap.size w w'))
  case atStart => exact ⟨((⟨#[]⟩ : ByteArray)), (0), (by first | rfl | (simp; done) | (simp [*]; done)), (by first | rfl | (simp; done) | (simp [*]; done)), H', ⟨Nat.le_refl _⟩, ⟨by repeat (first | (with_reducible first | exact HB.out | apply below_alloc | apply pw_below_drewN | apply below_drew1) | exact HB.out)⟩⟩
  case round =>
    clear H'
    obtain ⟨x3_1, x4_1, rfl, rfl, HA, HK1, HB⟩ := hrel
    cases gk with
    | zero => exact absurd HA.out (by simp [clarionref10_text.l0])
    | succ k1 =>
      have H := HA.out
      clear HA
      simp only [clarionref10_text.l0] at H
      by_cases c2 : x4_1 < (l0.length : Int)
      · rw [if_pos c2] at H
        have c2b0 : decide (x4_1 < (l0.length : Int)) = true := decide_eq_true c2
        clear c2
        by_cases c3 : 0 ≤ x4_1
        · rw [if_pos c3] at H
          have c3b0 : decide (0 ≤ x4_1) = true := decide_eq_true c3
          clear c3
          obtain ⟨y127, hy127⟩ : ∃ y_ : List Int, y_ = (([(rd l0 x4_1) % 256] : List Int)) := ⟨_, rfl⟩
          replace H : (if x3_1.size + (strOfNums y127).size ≤ 9223372036854775807 then (clarionref10_text.l0 k1 l0 (x3_1 ++ (strOfNums y127)) (wrap64 (x4_1 + 1))) else (none)) = some r := by first | (rw [hy127]; with_reducible exact H) | (have H2_ := (Option.bind_some _ _).symm.trans H; rw [hy127]; with_reducible exact H2_) | (have H2_ := (Option.bind_some _ _).symm.trans H; with_reducible exact H2_) | with_reducible exact H | (rw [hy127]; exact H) | exact H
          have Ny127 := Aside0.mk hy127
          clear hy127
          by_cases c4 : x3_1.size + (strOfNums y127).size ≤ 9223372036854775807
          · rw [if_pos c4] at H
            have c4b0 := eq_true c4
            have c4b1 : decide (x3_1.size + (strOfNums y127).size ≤ 9223372036854775807) = true := decide_eq_true c4
            try have c4b2 : (9223372036854775807 < x3_1.size + (strOfNums y127).size) = False := eq_false (Nat.not_lt.2 c4)
            have H' := Aside0.mk H
            clear H
            have p126 : 0 ≤ (x4_1 : Int) := of_decide_eq_true (by first | (with_reducible assumption) | assumption)
            have q126 : x4_1 < (l0.length : Int) := of_decide_eq_true (by first | (with_reducible assumption) | assumption)
            obtain ⟨ad126, e126, hx126_0⟩ := Kd.at_int HR0.out x4_1 p126 q126
            cases e126
            replace hx126_0 := (HB.out.cell (World.block_lt_of_cell? w _ hx126_0)).trans hx126_0
            replace p126 := eq_true p126
            replace q126 := eq_true q126
            go_wp2_with (first | ((with_reducible refine gate_dst (N := 17) rfl ?_); refine Kd.R_lit (Kd.int .u8) _ 5 ?hg (N := 17) ?hd (xs := ([(rd l0 x4_1) % 256] : List Int)) (inner := [.int .u8 ((rd l0 x4_1) % 256)]) (ok := fun _ => True) (okp := fun _ => True) ?hr ?hp (fun _ hk => hk) trivial (Below.refl _ _) (Nat.le_refl _) (by simp) ?_; (case hd => rfl); (case hg => rfl); (case hr => first | (go_simp; done) | (go_simp; rfl)); (case hp => exact (Reps.one (show Kd.M (Kd.int .u8) _ _ _ ((rd l0 x4_1) % 256) [.int .u8 ((rd l0 x4_1) % 256)] from rfl) (Reps.none _ _))); intro v128 w5 ho6 hb hg_ hnew_; clear hg_ hnew_; (first | rw [← Ny127.out] at ho6 | (simp only [Int.reduceToNat] at ho6; rw [← Ny127.out] at ho6)); have n0_ := Aside0.mk (Kd.R_lower ho6 (below_size (by repeat (first | (with_reducible first | exact HB.out | apply below_alloc | apply pw_below_drewN | apply below_drew1) | exact HB.out)))); have n1_ := Aside0.mk (below_step (by repeat (first | (with_reducible first | exact HB.out | apply below_alloc | apply pw_below_drewN | apply below_drew1) | exact HB.out)) hb); clear HB; have HO129 := n0_; have HB := n1_; clear n0_ n1_; clear hb ho6; have hcv7 := own_string (P := Tryd.prog) Tryd.underlying42 Tryd.underlying5 Tryd.underlying9 (Kd.own_of_R HO129.out)))
            go_roundg k1
            case measure => have := HK1.out; omega
            case rel => exact ⟨(x3_1 ++ (strOfNums y127)), (wrap64 (x4_1 + 1)), (by first | rfl | (simp; done) | (simp [*]; done)), (by first | rfl | (simp; done) | (simp [*]; done)), H', ⟨by have := HK1.out; omega⟩, ⟨by repeat (first | (with_reducible first | exact HB.out | apply below_alloc | apply pw_below_drewN | apply below_drew1) | exact HB.out)⟩⟩
          · rw [if_neg c4] at H
            exact absurd H (by simp)
        · rw [if_neg c3] at H
          exact absurd H (by simp)
      · rw [if_neg c2] at H
        have c2b0 : decide (x4_1 < (l0.length : Int)) = false := decide_eq_false c2
        clear c2
        obtain rfl := Option.some.inj H
        go_wp2
        go_ret
        exact ⟨by first | rfl | (simp [errW_none, errW_some] <;> rfl) | (simp [*, errW_none, errW_some] <;> rfl), by repeat (first | (with_reducible first | exact HB.out | apply below_alloc | apply pw_below_drewN | apply below_drew1) | exact HB.out)⟩

end Go.Proofs.YthmddhbccifcoaaDoor.PSliceLays
