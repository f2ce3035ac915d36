/- What a reader of bits (package bits, type In) gives, where nothing is wrong. -/
/- section.Need and packer.Check, by what they answer. -/
/- packer.Check, by what it answers. -/
/- packer.Pack, by what it answers. -/
import Derived.Test.YthmddhbccifcoaaDoorGLA
import Derived.Test.YthmddhbccifcoaaDoorGLB
import Derived.Deep.LoopGhost
set_option linter.unusedVariables false
set_option linter.unusedSimpArgs false
namespace Go.Proofs.YthmddhbccifcoaaDoor.Clar
open Go.RowKit Go.Proofs.YthmddhbccifcoaaDoorW.PrintWords Go.Proofs.YthmddhbccifcoaaDoorW.PrintLast Go.Proofs.YthmddhbccifcoaaDoorW.PrintMore

abbrev InAt (w : World) (g : Nat) (at_ err : Int) (s : ByteArray) : Prop := w.heap[g]? = some (.cells #[.int .i64 at_, .int .i64 err, .string s] 138 (0, 0))

theorem text_any (g : Nat) (at_ err : Int) (s : ByteArray) (w : World) (h : InAt w g at_ err s) :
    Calls Tryd.prog 73 #[.pointer (some ⟨g, 0, none⟩)] w fun e w' => e = .returned (.string s) ∧ w = w' := by
  have h2 := (blk_cell h 2)
  clear h
  go_enter Tryd.func73, Tryd.ntmps73
  go_wp2
  go_ret
  exact ⟨rfl, rfl⟩
theorem at_any (g : Nat) (at_ err : Int) (s : ByteArray) (w : World) (h : InAt w g at_ err s) :
    Calls Tryd.prog 74 #[.pointer (some ⟨g, 0, none⟩)] w fun e w' => e = .returned (.int .i64 at_) ∧ w = w' := by
  have h2 := (blk_cell h 0)
  clear h
  go_enter Tryd.func74, Tryd.ntmps74
  go_wp2
  go_ret
  exact ⟨rfl, rfl⟩
theorem left_any (g : Nat) (at_ err : Int) (s : ByteArray) (w : World) (h : InAt w g at_ err s) (hs : s.size ≤ 140737488351232) (h0 : 0 ≤ at_) (h1 : at_ ≤ 8 * s.size) :
    Calls Tryd.prog 72 #[.pointer (some ⟨g, 0, none⟩)] w fun e w' => e = .returned (.int .i64 (s.size * 8 - at_)) ∧ w = w' := by
  have H := Lib.hid h
  clear h
  go_enter Tryd.func72, Tryd.ntmps72
  go_wp2_with (first | (go_at_call 73; refine (text_any _ _ _ _ _ H.out).mono ?_; rintro e w' ⟨rfl, rfl⟩) | (go_at_call 74; refine (at_any _ _ _ _ _ H.out).mono ?_; rintro e w' ⟨rfl, rfl⟩))
  go_ret
  exact ⟨rfl, rfl⟩
theorem may_ok (g : Nat) (at_ n : Int) (s : ByteArray) (w : World) (h : InAt w g at_ 0 s) (hs : s.size ≤ 140737488351232) (h0 : 0 ≤ at_) (h1 : at_ ≤ 8 * s.size) (h2 : n ≤ 8 * s.size - at_) :
    Calls Tryd.prog 70 #[.pointer (some ⟨g, 0, none⟩), .int .i64 n, .bool true] w fun e w' => e = .returned (.bool true) ∧ w = w' := by
  have hc := blk_cell h 1
  have H := Lib.hid h
  have hg : decide ((s.size * 8 - at_ : Int) < n) = false := by simp; omega
  clear h
  go_enter Tryd.func70, Tryd.ntmps70
  go_wp2_with (go_at_call 72; refine (left_any _ _ _ _ _ H.out hs h0 h1).mono ?_; rintro e w' ⟨rfl, rfl⟩)
  go_ret
  exact ⟨rfl, rfl⟩

set_option maxHeartbeats 400000 in
theorem get_ok (g : Nat) (at_ n : Nat) (s : ByteArray) (w : World) (h : InAt w g at_ 0 s) (hs : s.size ≤ 140737488351232) (h2 : at_ + n ≤ 8 * s.size) (hn : n ≤ 64) :
    Calls Tryd.prog 67 #[.pointer (some ⟨g, 0, none⟩), .int .i64 n] w fun e w' => e = .returned (.int .u64 (bitsVal s at_ n)) ∧ InAt w' g (at_ + n : Nat) 0 s ∧ w.grownBy w' (some g) := by
  have H := Lib.hid h
  have hn1 : decide ((0 : Int) ≤ n) = true := by simp
  have hn2 : decide ((n : Int) ≤ 64) = true := by simp; omega
  clear h
  go_enter Tryd.func67, Tryd.ntmps67
  go_wp2_with (go_at_call 70; refine (may_ok _ _ _ _ _ H.out hs (by omega) (by omega) (by omega)).mono ?_; rintro e w' ⟨rfl, rfl⟩)
  go_loopw [5, 6, 18] (fun x b i w' => ∃ k : Nat, k ≤ n ∧ i = .int .i64 k ∧ x = .int .u64 (bitsVal s at_ k) ∧ Aside0 (InAt w' g (at_ + k : Nat) 0 s) ∧ Aside0 (w.grownBy w' (some g))) (fun _ _ i _ => n - (intOf i).toNat)
  case atStart => exact ⟨0, Nat.zero_le _, rfl, rfl, ⟨H.out⟩, ⟨World.grownBy.refl w _⟩⟩
  case round =>
    obtain ⟨k, hk, rfl, rfl, HI, HG⟩ := hrel
    have hc0 := blk_cell HI.out 0
    have hc1 := blk_cell HI.out 1
    have hc2 := blk_cell HI.out 2
    have hf0 := blk_frozen HI.out 0
    by_cases hlt : k < n
    · obtain ⟨p, hp⟩ : ∃ p, p = at_ + k := ⟨_, rfl⟩
      rw [← hp] at hc0
      have hp1 : p / 8 < s.size := by omega
      have hp2 : (p : Int) / 8 < s.size := by omega
      have hp3 : (0 : Int) ≤ (p : Int) / 8 := by omega
      have hp4 : (0 : Int) ≤ 7 - (p : Int) % 8 := by omega
      have hp5 : p < 1125899906842624 := by omega
      have HP := Lib.hid hp
      clear hp
      go_wp2
      go_quiet (fail)
      go_wp2
      go_roundw
      case rel =>
        refine ⟨k + 1, by omega, by go_num, ?_, ⟨?_⟩, ⟨only_setCell (only_drewN HG.out _) (.inl rfl) _⟩⟩
        · rw [get_step s at_ p k HP.out (by omega) hp1]
        · rw [show ((p : Int) + 1) = ((at_ + (k + 1) : Nat) : Int) by have := HP.out; omega]
          exact blk_set (blk_drewN HI.out _) 0 _
      case measure => simp [intOf]; omega
    · go_wp2
      go_ret
      obtain rfl : k = n := by omega
      exact ⟨rfl, HI.out, HG.out⟩
theorem get_at (g : Nat) (n : Int) (m at_ at' : Nat) (s : ByteArray) (w : World) (hn : n = m) (hat : at' = at_ + m) (h : InAt w g at_ 0 s) (hs : s.size ≤ 140737488351232) (h2 : at_ + m ≤ 8 * s.size) (hm : m ≤ 64) :
    Calls Tryd.prog 67 #[.pointer (some ⟨g, 0, none⟩), .int .i64 n] w fun e w' => e = .returned (.int .u64 (bitsVal s at_ m)) ∧ InAt w' g at' 0 s ∧ w.grownBy w' (some g) := by
  subst hn hat
  exact get_ok g at_ m s w h hs h2 hm
theorem read_any (s : ByteArray) (w : World) :
    Calls Tryd.prog 66 #[.string s] w fun e w' => e = .returned (.pointer (some ⟨w.heap.size, 0, none⟩)) ∧ InAt w' w.heap.size (0 : Nat) 0 s ∧ Below w.heap.size w w' := by
  go_enter Tryd.func66, Tryd.ntmps66
  go_wp2
  go_ret
  exact ⟨rfl, blk_new _ _, below_alloc (Below.refl _ _) _⟩
end Go.Proofs.YthmddhbccifcoaaDoor.Clar
namespace Go.Proofs.YthmddhbccifcoaaDoor.Clar
open Go.RowKit Go.Proofs.YthmddhbccifcoaaDoorW.PrintWords Go.Proofs.YthmddhbccifcoaaDoorW.PrintLast Go.Proofs.YthmddhbccifcoaaDoorW.PrintMore

/-- How many bytes a section has that begins so, and what is wrong. -/
def needOf (t : ByteArray) : Int × Int :=
  if t.size < 3 then (0, 10)
  else if bt t 1 / 128 % 2 = 1 ∧ bt t 1 / 16 % 4 = 3 ∧ 9 ≤ bt t 1 % 16 * 256 + bt t 2 ∧ bt t 1 % 16 * 256 + bt t 2 ≤ 4093 then (bt t 1 % 16 * 256 + bt t 2 + 3, 0)
  else (0, 12)

theorem bits_syn (t : ByteArray) : ((bitsVal t 8 1 : Nat) : Int) = bt t 1 / 128 % 2 := by
  have := bt_range t 1
  simp only [bitsVal, bitAt]
  simp
  omega
theorem bits_two (t : ByteArray) : ((bitsVal t 10 2 : Nat) : Int) = bt t 1 / 16 % 4 := by
  have := bt_range t 1
  simp only [bitsVal, bitAt]
  simp
  omega
theorem bits_len (t : ByteArray) : ((bitsVal t 12 12 : Nat) : Int) = bt t 1 % 16 * 256 + bt t 2 := by
  have := bt_range t 1
  have := bt_range t 2
  simp only [bitsVal, bitAt]
  simp
  omega

set_option maxHeartbeats 400000 in
theorem need_short (t : ByteArray) (w : World) (h : t.size < 3) :
    Calls Tryd.prog 57 #[.string t] w fun e w' => e = .returned (.tuple #[.int .i64 (needOf t).1, .int .i64 (needOf t).2]) ∧ Below w.heap.size w w' := by
  have H : needOf t = (0, 10) := by unfold needOf; rw [if_pos h]
  rw [H]
  clear H
  have hc : decide ((t.size : Int) < 3) = true := by simp; omega
  go_enter Tryd.func57, Tryd.ntmps57
  go_wp2
  go_ret2
  exact ⟨rfl, Below.refl _ _⟩
set_option maxHeartbeats 400000 in
theorem need_nosyn (t : ByteArray) (w : World) (hs : t.size ≤ 140737488351232) (h : ¬ t.size < 3) (h1 : ¬ bt t 1 / 128 % 2 = 1) :
    Calls Tryd.prog 57 #[.string t] w fun e w' => e = .returned (.tuple #[.int .i64 (needOf t).1, .int .i64 (needOf t).2]) ∧ Below w.heap.size w w' := by
  have H : needOf t = (0, 12) := by unfold needOf; rw [if_neg h, if_neg (by omega)]
  rw [H]
  clear H
  have hc : decide ((t.size : Int) < 3) = false := by simp; omega
  have hy : ((bitsVal t 8 1 : Nat) : Int) = bt t 1 / 128 % 2 := bits_syn t
  have hx : (((bitsVal t 8 1 : Nat) : Int) == 1) = false := by rw [beq_eq_false_iff_ne, hy]; exact h1
  clear hy
  go_enter Tryd.func57, Tryd.ntmps57
  go_wp2_with (fail)
  refine (read_any t _).mono ?_
  rintro e w1 ⟨rfl, hI, hB⟩
  have HI1 := Aside0.mk hI
  have HB1 := Aside0.mk hB
  clear hI hB
  go_wp2_with (fail)
  refine (get_at _ 8 8 0 8 t _ rfl rfl HI1.out hs (by omega) (by omega)).mono ?_
  rintro e w2 ⟨rfl, hI, hG⟩
  have HI2 := Aside0.mk hI
  have HB2 := Aside0.mk (pw_below_grown HB1.out _ HB1.out.size hG (fun k hk => by cases hk; exact Nat.le_refl _))
  clear hI hG HI1 HB1
  go_wp2_with (fail)
  refine (get_at _ 1 1 8 9 t _ rfl rfl HI2.out hs (by omega) (by omega)).mono ?_
  rintro e w3 ⟨rfl, hI, hG⟩
  have HI3 := Aside0.mk hI
  have HB3 := Aside0.mk (pw_below_grown HB2.out _ HB2.out.size hG (fun k hk => by cases hk; exact Nat.le_refl _))
  clear hI hG HI2 HB2
  go_wp2_with (fail)
  refine (get_at _ 1 1 9 10 t _ rfl rfl HI3.out hs (by omega) (by omega)).mono ?_
  rintro e w4 ⟨rfl, hI, hG⟩
  have HI4 := Aside0.mk hI
  have HB4 := Aside0.mk (pw_below_grown HB3.out _ HB3.out.size hG (fun k hk => by cases hk; exact Nat.le_refl _))
  clear hI hG HI3 HB3
  go_wp2_with (fail)
  refine (get_at _ 12 12 10 22 t _ rfl rfl HI4.out hs (by omega) (by omega)).mono ?_
  rintro e w5 ⟨rfl, hI, hG⟩
  have HI5 := Aside0.mk hI
  have HB5 := Aside0.mk (pw_below_grown HB4.out _ HB4.out.size hG (fun k hk => by cases hk; exact Nat.le_refl _))
  clear hI hG HI4 HB4
  go_wp2
  go_ret2
  exact ⟨rfl, HB5.out⟩
set_option maxHeartbeats 800000 in
theorem need_syn (t : ByteArray) (w : World) (hs : t.size ≤ 140737488351232) (h : ¬ t.size < 3) (h1 : bt t 1 / 128 % 2 = 1) :
    Calls Tryd.prog 57 #[.string t] w fun e w' => e = .returned (.tuple #[.int .i64 (needOf t).1, .int .i64 (needOf t).2]) ∧ Below w.heap.size w w' := by
  obtain ⟨n, hn⟩ : ∃ n, n = bitsVal t 12 12 := ⟨_, rfl⟩
  have hn4 : n < 4096 := by rw [hn]; exact bitsVal_lt t 12 12
  have H : needOf t = if bt t 1 / 16 % 4 = 3 ∧ 9 ≤ n ∧ n ≤ 4093 then ((n : Int) + 3, 0) else (0, 12) := by
    unfold needOf; rw [if_neg h, ← bits_len t, ← hn]
    by_cases hq : bt t 1 / 16 % 4 = 3 ∧ 9 ≤ n ∧ n ≤ 4093
    · rw [if_pos hq, if_pos ⟨h1, hq.1, by omega, by omega⟩]
    · rw [if_neg hq, if_neg (fun hh => hq ⟨hh.2.1, by omega, by omega⟩)]
  have hc : decide ((t.size : Int) < 3) = false := by simp; omega
  have hx : (((bitsVal t 8 1 : Nat) : Int) == 1) = true := by rw [beq_iff_eq, bits_syn]; exact h1
  have hw : IntKind.i64.wrap (n : Int) = n := by simp [IntKind.wrap, IntKind.bits, IntKind.signed]; omega
  have HN := Lib.hid hn
  have H' := Lib.hid H
  clear hn H
  by_cases h2 : bt t 1 / 16 % 4 = 3
  all_goals by_cases h3 : n < 9
  all_goals by_cases h4 : 4093 < n
  all_goals first | (exfalso; omega) | skip
  all_goals
    first
    | have hz : (((bitsVal t 10 2 : Nat) : Int) == 3) = true := by rw [beq_iff_eq, bits_two]; assumption
    | have hz : (((bitsVal t 10 2 : Nat) : Int) == 3) = false := by rw [beq_eq_false_iff_ne, bits_two]; assumption
    first
    | have hz3 : decide ((n : Int) < 9) = true := by simp; omega
    | have hz3 : decide ((n : Int) < 9) = false := by simp; omega
    first
    | have hz4 : decide ((4093 : Int) < n) = true := by simp; omega
    | have hz4 : decide ((4093 : Int) < n) = false := by simp; omega
    rw [H'.out]
    first
    | rw [if_pos ⟨by assumption, by omega, by omega⟩]
    | rw [if_neg (by intro ⟨_, _, _⟩; first | contradiction | omega)]
    clear h2 h3 h4
    go_enter Tryd.func57, Tryd.ntmps57
    go_wp2_with (fail)
    refine (read_any t _).mono ?_
    rintro e w1 ⟨rfl, hI, hB⟩
    have HI1 := Aside0.mk hI
    have HB1 := Aside0.mk hB
    clear hI hB
    go_wp2_with (fail)
    refine (get_at _ 8 8 0 8 t _ rfl rfl HI1.out hs (by omega) (by omega)).mono ?_
    rintro e w2 ⟨rfl, hI, hG⟩
    have HI2 := Aside0.mk hI
    have HB2 := Aside0.mk (pw_below_grown HB1.out _ HB1.out.size hG (fun k hk => by cases hk; exact Nat.le_refl _))
    clear hI hG HI1 HB1
    go_wp2_with (fail)
    refine (get_at _ 1 1 8 9 t _ rfl rfl HI2.out hs (by omega) (by omega)).mono ?_
    rintro e w3 ⟨rfl, hI, hG⟩
    have HI3 := Aside0.mk hI
    have HB3 := Aside0.mk (pw_below_grown HB2.out _ HB2.out.size hG (fun k hk => by cases hk; exact Nat.le_refl _))
    clear hI hG HI2 HB2
    go_wp2_with (fail)
    refine (get_at _ 1 1 9 10 t _ rfl rfl HI3.out hs (by omega) (by omega)).mono ?_
    rintro e w4 ⟨rfl, hI, hG⟩
    have HI4 := Aside0.mk hI
    have HB4 := Aside0.mk (pw_below_grown HB3.out _ HB3.out.size hG (fun k hk => by cases hk; exact Nat.le_refl _))
    clear hI hG HI3 HB3
    go_wp2_with (fail)
    refine (get_at _ 2 2 10 12 t _ rfl rfl HI4.out hs (by omega) (by omega)).mono ?_
    rintro e w5 ⟨rfl, hI, hG⟩
    have HI5 := Aside0.mk hI
    have HB5 := Aside0.mk (pw_below_grown HB4.out _ HB4.out.size hG (fun k hk => by cases hk; exact Nat.le_refl _))
    clear hI hG HI4 HB4
    go_wp2_with (fail)
    refine (get_at _ 12 12 12 24 t _ rfl rfl HI5.out hs (by omega) (by omega)).mono ?_
    rintro e w6 ⟨rfl, hI, hG⟩; rw [← HN.out]
    have HI6 := Aside0.mk hI
    have HB6 := Aside0.mk (pw_below_grown HB5.out _ HB5.out.size hG (fun k hk => by cases hk; exact Nat.le_refl _))
    clear hI hG HI5 HB5
    go_wp2
    go_ret2
    exact ⟨rfl, HB6.out⟩
theorem need_any (t : ByteArray) (w : World) (hs : t.size ≤ 140737488351232) :
    Calls Tryd.prog 57 #[.string t] w fun e w' => e = .returned (.tuple #[.int .i64 (needOf t).1, .int .i64 (needOf t).2]) ∧ Below w.heap.size w w' := by
  by_cases h : t.size < 3
  · exact need_short t w h
  · by_cases h1 : bt t 1 / 128 % 2 = 1
    · exact need_syn t w hs h h1
    · exact need_nosyn t w hs h h1
end Go.Proofs.YthmddhbccifcoaaDoor.Clar
namespace Go.Proofs.YthmddhbccifcoaaDoor.Clar
open Go.RowKit Go.Proofs.YthmddhbccifcoaaDoorW.PrintWords Go.Proofs.YthmddhbccifcoaaDoorW.PrintLast Go.Proofs.YthmddhbccifcoaaDoorW.PrintMore

/-- What is wrong with the bytes of a section. -/
def checkOf (t : ByteArray) : Int :=
  if (needOf t).2 ≠ 0 then (needOf t).2
  else if (t.size : Int) < (needOf t).1 then 10
  else if (needOf t).1 < (t.size : Int) then 11
  else if bt t 0 = 255 then 12
  else 0

theorem needOf_len (t : ByteArray) (h : (needOf t).2 = 0) : 12 ≤ (needOf t).1 ∧ (needOf t).1 ≤ 4096 := by
  have := bt_range t 1
  have := bt_range t 2
  unfold needOf at h ⊢
  by_cases h1 : t.size < 3
  · rw [if_pos h1] at h; simp at h
  · rw [if_neg h1] at h ⊢
    by_cases h2 : bt t 1 / 128 % 2 = 1 ∧ bt t 1 / 16 % 4 = 3 ∧ 9 ≤ bt t 1 % 16 * 256 + bt t 2 ∧ bt t 1 % 16 * 256 + bt t 2 ≤ 4093
    · rw [if_pos h2]; simp only; omega
    · rw [if_neg h2] at h; simp at h
theorem needOf_err (t : ByteArray) : (needOf t).2 = 0 ∨ (needOf t).2 = 10 ∨ (needOf t).2 = 12 := by
  unfold needOf
  split
  · exact .inr (.inl rfl)
  · split
    · exact .inl rfl
    · exact .inr (.inr rfl)

theorem checkOf_size (t : ByteArray) (h : checkOf t = 0) : 12 ≤ t.size ∧ t.size ≤ 4096 := by
  unfold checkOf at h
  by_cases h1 : (needOf t).2 = 0
  · rw [if_neg (by simpa using h1)] at h
    have := needOf_len t h1
    by_cases h2 : (t.size : Int) < (needOf t).1
    · rw [if_pos h2] at h; omega
    · rw [if_neg h2] at h
      by_cases h3 : (needOf t).1 < (t.size : Int)
      · rw [if_pos h3] at h; omega
      · omega
  · rw [if_pos h1] at h; exact absurd h h1

set_option maxHeartbeats 400000 in
theorem check_any (t : ByteArray) (w : World) (hs : t.size ≤ 140737488351232) :
    Calls Tryd.prog 38 #[.string t] w fun e w' => e = .returned (.int .i64 (checkOf t)) ∧ Below w.heap.size w w' := by
  have hl := needOf_len t
  obtain ⟨n, hn⟩ : ∃ n, n = (needOf t).1 := ⟨_, rfl⟩
  obtain ⟨e0, he⟩ : ∃ e0, e0 = (needOf t).2 := ⟨_, rfl⟩
  have H : checkOf t = if e0 ≠ 0 then e0 else if (t.size : Int) < n then 10 else if n < (t.size : Int) then 11 else if bt t 0 = 255 then 12 else 0 := by
    unfold checkOf; rw [hn, he]
  rw [← hn, ← he] at hl
  have HN := Lib.hid hn
  have HE := Lib.hid he
  clear hn he
  by_cases h1 : e0 = 0
  · subst h1
    have hl1 := hl rfl
    clear hl
    by_cases h2 : (t.size : Int) < n
    · have HR := Lib.hid (show checkOf t = 10 by rw [H, if_neg (by simp), if_pos h2])
      clear H
      go_enter Tryd.func38, Tryd.ntmps38
      go_wp2_with (fail)
      refine (need_any t _ hs).mono ?_
      rintro e w1 ⟨rfl, hB⟩
      have HB := Aside0.mk hB
      clear hB
      rw [← HN.out, ← HE.out]
      go_wp2
      go_ret
      exact ⟨by rw [HR.out]; rfl, HB.out⟩
    · by_cases h3 : n < (t.size : Int)
      · have HR := Lib.hid (show checkOf t = 11 by rw [H, if_neg (by simp), if_neg h2, if_pos h3])
        clear H
        go_enter Tryd.func38, Tryd.ntmps38
        go_wp2_with (fail)
        refine (need_any t _ hs).mono ?_
        rintro e w1 ⟨rfl, hB⟩
        have HB := Aside0.mk hB
        clear hB
        rw [← HN.out, ← HE.out]
        go_wp2
        go_ret
        exact ⟨by rw [HR.out]; rfl, HB.out⟩
      · have hz := first_byte t (by omega) 255
        by_cases h4 : bt t 0 = 255
        · rw [show decide (bt t 0 = (((255 : UInt8).toNat : Nat) : Int)) = true by simpa using h4] at hz
          have HR := Lib.hid (show checkOf t = 12 by rw [H, if_neg (by simp), if_neg h2, if_neg h3, if_pos h4])
          clear H h4
          go_enter Tryd.func38, Tryd.ntmps38
          go_wp2_with (fail)
          refine (need_any t _ hs).mono ?_
          rintro e w1 ⟨rfl, hB⟩
          have HB := Aside0.mk hB
          clear hB
          rw [← HN.out, ← HE.out]
          go_wp2
          go_ret
          exact ⟨by rw [HR.out]; rfl, HB.out⟩
        · rw [show decide (bt t 0 = (((255 : UInt8).toNat : Nat) : Int)) = false by simpa using h4] at hz
          have HR := Lib.hid (show checkOf t = 0 by rw [H, if_neg (by simp), if_neg h2, if_neg h3, if_neg h4])
          clear H h4
          go_enter Tryd.func38, Tryd.ntmps38
          go_wp2_with (fail)
          refine (need_any t _ hs).mono ?_
          rintro e w1 ⟨rfl, hB⟩
          have HB := Aside0.mk hB
          clear hB
          rw [← HN.out, ← HE.out]
          go_wp2
          go_ret
          exact ⟨by rw [HR.out]; rfl, HB.out⟩
  · have HR := Lib.hid (show checkOf t = e0 by rw [H, if_pos h1])
    clear H hl
    have hz : (e0 == 0) = false := by simpa using h1
    go_enter Tryd.func38, Tryd.ntmps38
    go_wp2_with (fail)
    refine (need_any t _ hs).mono ?_
    rintro e w1 ⟨rfl, hB⟩
    have HB := Aside0.mk hB
    clear hB
    rw [← HN.out, ← HE.out]
    go_wp2
    go_ret
    exact ⟨by rw [HR.out]; rfl, HB.out⟩
end Go.Proofs.YthmddhbccifcoaaDoor.Clar
namespace Go.Proofs.YthmddhbccifcoaaDoor.Clar
open Go.RowKit Go.Proofs.YthmddhbccifcoaaDoorW.PrintWords Go.Proofs.YthmddhbccifcoaaDoorW.PrintLast Go.Proofs.YthmddhbccifcoaaDoorW.PrintMore

/-- A packet. -/
structure Pk where
  pid : Int
  start : Bool
  count : Int
  bad : Bool
  body : ByteArray
def pkCells (p : Pk) : List Value := [.int .i64 p.pid, .bool p.start, .int .i64 p.count, .bool p.bad, .string p.body]
def rowOf (ps : List Pk) : List Value := ps.flatMap pkCells
theorem rowOf_length (ps : List Pk) : (rowOf ps).length = ps.length * 5 := by
  induction ps with
  | nil => rfl
  | cons p ps ih => simp only [rowOf, List.flatMap_cons, List.length_append, List.length_cons] at ih ⊢; rw [ih]; simp [pkCells]; omega
/-- Bodies as packets. -/
def pks (pid : Int) : Nat → List (Bool × List UInt8) → List Pk
  | _, [] => []
  | c, b :: r => ⟨pid, b.1, c, false, ⟨b.2.toArray⟩⟩ :: pks pid ((c + 1) % 16) r
theorem pks_length (pid : Int) (c : Nat) (l : List (Bool × List UInt8)) : (pks pid c l).length = l.length := by
  induction l generalizing c with
  | nil => rfl
  | cons b r ih => simp [pks, ih]
def packErr : List ByteArray → Int
  | [] => 0
  | s :: r => if checkOf s ≠ 0 then checkOf s else packErr r
theorem packErr_at (l : List ByteArray) (k : Nat) (hk : k < l.length) (h : ∀ j, j < k → checkOf (l.getD j ByteArray.empty) = 0) (he : checkOf (l.getD k ByteArray.empty) ≠ 0) : packErr l = checkOf (l.getD k ByteArray.empty) := by
  induction l generalizing k with
  | nil => simp at hk
  | cons s l ih =>
    cases k with
    | zero => simp only [packErr]; rw [if_pos (by simpa using he)]; simp
    | succ k =>
      have h0 : checkOf s = 0 := by simpa using h 0 (by omega)
      simp only [packErr]
      rw [if_neg (by simp [h0]), ih k (by simpa using hk) (fun j hj => by simpa using h (j + 1) (by omega)) (by simpa using he)]
      simp
theorem packErr_none (l : List ByteArray) (h : ∀ j, j < l.length → checkOf (l.getD j ByteArray.empty) = 0) : packErr l = 0 := by
  induction l with
  | nil => rfl
  | cons s l ih =>
    have h0 : checkOf s = 0 := by simpa using h 0 (by simp)
    simp only [packErr]
    rw [if_neg (by simp [h0]), ih fun j hj => by simpa using h (j + 1) (by simpa using hj)]
theorem rowOf_snoc (ps : List Pk) (p : Pk) : rowOf (ps ++ [p]) = rowOf ps ++ pkCells p := by simp [rowOf]
theorem weight_le (l : List ByteArray) (h : ∀ j, j < l.length → checkOf (l.getD j ByteArray.empty) = 0) : weight [] l ≤ 4097 * l.length := by
  induction l with
  | nil => simp [weight]
  | cons s l ih =>
    have h1 := checkOf_size s (by simpa using h 0 (by simp))
    have h2 := ih fun j hj => by simpa using h (j + 1) (by simpa using hj)
    simp only [weight, List.length_nil, List.map_cons, List.sum_cons, List.length_cons] at h2 ⊢
    omega
theorem pkCells_one (p : Pk) : ∀ u ∈ pkCells p, u.oneCell' = true := by
  intro u hu
  simp only [pkCells, List.mem_cons, List.not_mem_nil, or_false] at hu
  rcases hu with rfl | rfl | rfl | rfl | rfl <;> rfl
theorem infoPk : (Tryd.prog.info? 92).map (fun i => (i.zero, i.size, i.bytes)) = some (some (.agg #[.int .i64 0, .bool false, .int .i64 0, .bool false, .string ⟨#[]⟩]), 5, 48) := by kernel_rfl
set_option maxHeartbeats 4000000 in
set_option maxRecDepth 100000 in
theorem pack_any (pid : Int) (cnt : Nat) (A : Option Addr) (c : Nat) (l : List ByteArray) (w : World) (hl : SR w A l) (hc : l.length ≤ c) (hp0 : 0 ≤ pid) (hp1 : pid < 8191) (hcnt : cnt < 16)
    (hn : l.length ≤ 1000) (hs : ∀ s ∈ l, s.size ≤ 140737488351232) :
    Calls Tryd.prog 23 #[.int .i64 pid, .int .i64 cnt, .slice A l.length c] w fun e w' => ∃ v : Value, Below w.heap.size w w' ∧
      ((packErr l ≠ 0 ∧ e = .returned (.tuple #[.slice none 0 0, .int .i64 0, .int .i64 (packErr l)])) ∨
       (packErr l = 0 ∧ e = .returned (.tuple #[v, .int .i64 ((cnt + (packF l).length) % 16 : Nat), .int .i64 0]) ∧ w'.ownsRow w.heap.size 92 5 v (packF l).length (rowOf (pks pid cnt (packF l))))) := by
  have hd1 : decide (pid < 0) = false := by simp; omega
  have hd2 : decide ((8191 : Int) ≤ pid) = false := by simp; omega
  have hd3 : decide ((cnt : Int) < 0) = false := by simp
  have hd4 : decide ((16 : Int) ≤ cnt) = false := by simp; omega
  have HL := Aside0.mk hl
  have HC := Aside0.mk hc
  have HS := Aside0.mk hs
  clear hl hc hs
  go_enter Tryd.func23, Tryd.ntmps23
  go_wp2
  go_loopw [10, 11, 32] (fun s e i w' => ∃ k : Nat, k ≤ l.length ∧ i = .int .i64 k ∧ Aside0 (∀ j, j < k → checkOf (l.getD j ByteArray.empty) = 0) ∧ Aside0 (Below w.heap.size w w')) (fun _ _ i _ => l.length - (intOf i).toNat)
  case atStart => exact ⟨0, Nat.zero_le _, rfl, ⟨fun j hj => absurd hj (by omega)⟩, ⟨Below.refl _ _⟩⟩
  case round =>
    obtain ⟨k, hk, rfl, HK, HB⟩ := hrel
    by_cases hlt : k < l.length
    · obtain ⟨ad, rfl, hx⟩ := HL.out.at_ k (by omega) (by omega)
      obtain ⟨s, hsk⟩ : ∃ s, l.getD k ByteArray.empty = s := ⟨_, rfl⟩
      have hx1 : wr.cell? (ad.add k) = some (.string s) := by rw [← hsk]; exact (HB.out.cell (World.block_lt_of_cell? _ _ hx)).trans hx
      have hss : s.size ≤ 140737488351232 := HS.out s (by rw [← hsk, List.getD_eq_getElem?_getD, List.getElem?_eq_getElem hlt]; simp)
      have HSK := Aside0.mk hsk
      clear hx hsk
      by_cases he : checkOf s = 0
      · have HE := Aside0.mk he
        clear he
        go_wp2_with (go_at_call 38; refine (check_any _ _ hss).mono ?_; rintro e w1 ⟨rfl, hb⟩; rw [HE.out]; have HB1 := Aside0.mk (below_step HB.out hb); clear hb)
        go_roundw
        case rel =>
          refine ⟨k + 1, by omega, by go_num, ⟨fun j hj => ?_⟩, HB1⟩
          by_cases hjk : j < k
          · exact HK.out j hjk
          · rw [show j = k by omega, HSK.out]; exact HE.out
        case measure => simp [intOf]; omega
      · have HE := Aside0.mk he
        obtain ⟨e0, he0⟩ : ∃ e0, checkOf s = e0 := ⟨_, rfl⟩
        have hz : (e0 == 0) = false := by rw [← he0]; simpa using he
        have HE0 := Aside0.mk he0
        have HP : Aside0 (packErr l = e0) := ⟨by rw [packErr_at l k hlt HK.out (by rw [HSK.out]; exact he), HSK.out, he0]⟩
        clear he he0
        go_wp2_with (go_at_call 38; refine (check_any _ _ hss).mono ?_; rintro e w1 ⟨rfl, hb⟩; rw [HE0.out]; have HB1 := Aside0.mk (below_step HB.out hb); clear hb)
        go_ret3
        exact ⟨undef, HB1.out, .inl ⟨by rw [HP.out]; intro h; rw [h] at hz; simp at hz, by rw [HP.out]; rfl⟩⟩
    · obtain rfl : k = l.length := by omega
      have HP : Aside0 (packErr l = 0) := ⟨packErr_none l HK.out⟩
      have hwl := weight_le l HK.out
      go_wp2_with (fail)
      clear HK
      obtain ⟨g, hg⟩ : ∃ g, wr.heap.size = g := ⟨_, rfl⟩
      obtain ⟨W, hW⟩ : ∃ W, wr.alloc (.cells #[.string { data := #[] }, .slice A l.length c] 95) = W := ⟨_, rfl⟩
      rw [hW, hg]
      have HST : Aside0 (StAt W g ⟨#[]⟩ A l.length c) := ⟨by rw [← hW, ← hg]; exact blk_new _ _⟩
      have HB1 : Aside0 (Below w.heap.size w W) := ⟨by rw [← hW]; exact below_alloc HB.out _⟩
      have HG : w.heap.size ≤ g := by rw [← hg]; exact HB.out.size
      obtain ⟨kk, hkk⟩ : ∃ kk, weight [] l = kk := ⟨_, rfl⟩
      rw [hkk] at hwl
      have hkb : kk ≤ 4097000 := by omega
      clear hwl
      go_loopg [1, 13] kk (fun kq v1 v13 w' => ∃ (ct : Nat) (ps : List Pk) (left : ByteArray) (A' : Option Addr) (c' : Nat) (l' : List ByteArray), v1 = .int .i64 ct ∧ ct < 16 ∧ Aside0 (w'.ownsRow w.heap.size 92 5 v13 ps.length (rowOf ps)) ∧
        Aside0 (StAt w' g left A' l'.length c') ∧ Aside0 (SR w A' l') ∧ Aside0 (l'.length ≤ c') ∧ Aside0 (Below w.heap.size w w') ∧ Aside0 (ps ++ pks pid ct (packN kq left.data.toList l') = pks pid cnt (packF l)) ∧ Aside0 ((ct + (packN kq left.data.toList l').length) % 16 = (cnt + (packF l).length) % 16) ∧
        Aside0 (weight left.data.toList l' ≤ kq) ∧ Aside0 (ps.length + kq ≤ kk))
      case atStart =>
        refine ⟨cnt, [], ⟨#[]⟩, A, c, l, rfl, hcnt, ⟨own_nil _ _ _ _⟩, HST, HL, HC, HB1, ⟨?_⟩, ⟨?_⟩, ⟨?_⟩, ⟨?_⟩⟩
        · rw [← hkk]; rfl
        · rw [← hkk]; rfl
        · rw [← hkk]; exact Nat.le_refl _
        · simp
      case round =>
        clear hkk HST HB1 hW hg
        have hwg : w.heap.size ≤ g := HG
        obtain ⟨ct, ps, left, A', c', l', rfl, hct, HO, HST, HL', HC', HB, HR, HCE, HW, HN⟩ := hrel
        have hc0 := blk_cell HST.out 0
        have hc1 := blk_cell HST.out 1
        obtain ⟨i0, hi, hz0, hz1, hz2⟩ := info_parts infoPk
        have hgk : ps.length + gk ≤ kk := HN.out
        by_cases hleft : left.data.toList = []
        · have hz : (left.toList == []) = true := by rw [Go.ByteArray.toList_eq, hleft]; rfl
          by_cases hl' : l' = []
          · subst hl'
            go_wp2_with (fail)
            go_ret3
            have e0 : packN gk left.data.toList [] = [] := by rw [hleft]; exact packN_nil _
            have h1 := HR.out
            have h2 := HCE.out
            rw [e0] at h1 h2
            simp only [pks, List.append_nil] at h1
            have h3 : (cnt + (packF l).length) % 16 = ct := by rw [← h2]; simp; omega
            have h4 : (packF l).length = ps.length := by rw [h1, pks_length]
            refine ⟨u13, HB.out, .inr ⟨HP.out, ?_, ?_⟩⟩
            · rw [h3]; rfl
            · rw [← h1, h4]; exact HO.out
          · have HLF : Aside0 (left.data.toList ≠ [] ∨ l' ≠ []) := ⟨.inr hl'⟩
            have hz4 : 0 < l'.length := List.length_pos_iff.2 hl'
            clear hl' hleft
            obtain ⟨k1, rfl⟩ : ∃ k1, gk = k1 + 1 := by
              have h1 := nextF_weight left.data.toList l' HLF.out
              have h2 := HW.out
              exact ⟨gk - 1, by omega⟩
            go_wp2_with (fail)
            refine (next_any g left A' c' l' w wr HST.out HL'.out HC'.out HB.out HG (HLF.out.imp (fun h => Nat.pos_of_ne_zero fun e => h (List.eq_nil_of_length_eq_zero e)) id)).mono ?_
            rintro e W2 ⟨rfl, left2, A2, c2, hst2, hleft2, hl2, hc2, hB2, hG2⟩
            have HO2 := Aside0.mk (HO.out.kept hG2 (.inr (own_blk_ne HO.out HST.out (by decide))))
            have HST2 := Aside0.mk hst2
            have HB2 := Aside0.mk hB2
            have HC2 := Aside0.mk hc2
            have HL2 := Aside0.mk hl2
            have HLE2 := Aside0.mk hleft2
            clear hst2 hleft2 hl2 hc2 hB2 hG2 HO HST HB HL' HC'
            obtain ⟨nx, hnx⟩ : ∃ nx, nextF left.data.toList l' = nx := ⟨_, rfl⟩
            rw [hnx] at HST2 HC2 HL2 HLE2 ⊢
            have HNX := Aside0.mk hnx
            clear hnx
            go_wp2_with (at_builtin; refine wpList_append_own _ rfl _ _ 69 rfl w.heap.size 92 i0 (.agg #[.int .i64 0, .bool false, .int .i64 0, .bool false, .string ⟨#[]⟩]) 5 48 Tryd.underlying69 hi hz0 hz1 hz2 rfl (by decide) _ _ _ rfl (HO2.out.alloc _) ⟨W2.heap.size, 0, none⟩ 1 1 (pkCells ⟨pid, nx.2.1, ct, false, ⟨nx.1.toArray⟩⟩) rfl rfl ?d1 ?d2 ?d3 ?d4 ?d5 ?_)
            case d1 => exact new_cells _ _ _
            case d2 => exact pkCells_one _
            case d3 => unfold maxLen; omega
            case d4 => omega
            case d5 => have := HB2.out.size; simp; omega
            intro v3 w3 hown3 hgr3 _
            have HST3 := Aside0.mk (blk_grown (blk_alloc HST2.out _) hgr3 fun e => own_blk_ne HO2.out HST2.out (by decide) e.symm)
            have HB3 : Aside0 (Below w.heap.size w w3) := ⟨(below_alloc HB2.out _).grown hgr3 (by have := HB2.out.size; simp; omega) fun k hk => (HO2.out.lt k hk).1⟩
            have HO3 : Aside0 (w3.ownsRow w.heap.size 92 5 v3 (ps ++ [(⟨pid, nx.2.1, ct, false, ⟨nx.1.toArray⟩⟩ : Pk)]).length (rowOf (ps ++ [(⟨pid, nx.2.1, ct, false, ⟨nx.1.toArray⟩⟩ : Pk)]))) := ⟨by rw [rowOf_snoc, List.length_append]; exact hown3⟩
            clear hown3 hgr3 HO2 HST2 HB2 hc0 hc1 hz
            go_wp2
            go_roundg k1
            case measure => omega
            case rel =>
              have hw2 := nextF_weight left.data.toList l' HLF.out
              have hpk : packN (k1 + 1) left.data.toList l' = ((nextF left.data.toList l').2.1, (nextF left.data.toList l').1) :: packN k1 (nextF left.data.toList l').2.2.1 (nextF left.data.toList l').2.2.2 := by
                simp only [packN]; rw [if_neg fun h => HLF.out.elim (fun h1 => h1 h.1) fun h2 => h2 h.2]
              rw [HNX.out] at hpk hw2
              have h1 := HR.out
              have h2 := HCE.out
              rw [hpk] at h1 h2
              refine ⟨(ct + 1) % 16, ps ++ [(⟨pid, nx.2.1, ct, false, ⟨nx.1.toArray⟩⟩ : Pk)], left2, A2, c2, nx.2.2.2, by go_num, by omega, HO3, HST3, HL2, HC2, HB3, ⟨?_⟩, ⟨?_⟩, ⟨?_⟩, ⟨?_⟩⟩
              · rw [HLE2.out, ← h1]; simp [pks]
              · rw [HLE2.out, ← h2]; simp only [List.length_cons]; omega
              · rw [HLE2.out]; have := HW.out; omega
              · have := HN.out; simp; omega
        · have hz : (left.toList == []) = false := by rw [Go.ByteArray.toList_eq]; exact beq_eq_false_iff_ne.2 hleft
          have HLF : Aside0 (left.data.toList ≠ [] ∨ l' ≠ []) := ⟨.inl hleft⟩
          clear hleft
          obtain ⟨k1, rfl⟩ : ∃ k1, gk = k1 + 1 := by
            have h1 := nextF_weight left.data.toList l' HLF.out
            have h2 := HW.out
            exact ⟨gk - 1, by omega⟩
          go_wp2_with (fail)
          refine (next_any g left A' c' l' w wr HST.out HL'.out HC'.out HB.out HG (HLF.out.imp (fun h => Nat.pos_of_ne_zero fun e => h (List.eq_nil_of_length_eq_zero e)) id)).mono ?_
          rintro e W2 ⟨rfl, left2, A2, c2, hst2, hleft2, hl2, hc2, hB2, hG2⟩
          have HO2 := Aside0.mk (HO.out.kept hG2 (.inr (own_blk_ne HO.out HST.out (by decide))))
          have HST2 := Aside0.mk hst2
          have HB2 := Aside0.mk hB2
          have HC2 := Aside0.mk hc2
          have HL2 := Aside0.mk hl2
          have HLE2 := Aside0.mk hleft2
          clear hst2 hleft2 hl2 hc2 hB2 hG2 HO HST HB HL' HC'
          obtain ⟨nx, hnx⟩ : ∃ nx, nextF left.data.toList l' = nx := ⟨_, rfl⟩
          rw [hnx] at HST2 HC2 HL2 HLE2 ⊢
          have HNX := Aside0.mk hnx
          clear hnx
          go_wp2_with (at_builtin; refine wpList_append_own _ rfl _ _ 69 rfl w.heap.size 92 i0 (.agg #[.int .i64 0, .bool false, .int .i64 0, .bool false, .string ⟨#[]⟩]) 5 48 Tryd.underlying69 hi hz0 hz1 hz2 rfl (by decide) _ _ _ rfl (HO2.out.alloc _) ⟨W2.heap.size, 0, none⟩ 1 1 (pkCells ⟨pid, nx.2.1, ct, false, ⟨nx.1.toArray⟩⟩) rfl rfl ?c1 ?c2 ?c3 ?c4 ?c5 ?_)
          case c1 => exact new_cells _ _ _
          case c2 => exact pkCells_one _
          case c3 => unfold maxLen; omega
          case c4 => omega
          case c5 => have := HB2.out.size; simp; omega
          intro v3 w3 hown3 hgr3 _
          have HST3 := Aside0.mk (blk_grown (blk_alloc HST2.out _) hgr3 fun e => own_blk_ne HO2.out HST2.out (by decide) e.symm)
          have HB3 : Aside0 (Below w.heap.size w w3) := ⟨(below_alloc HB2.out _).grown hgr3 (by have := HB2.out.size; simp; omega) fun k hk => (HO2.out.lt k hk).1⟩
          have HO3 : Aside0 (w3.ownsRow w.heap.size 92 5 v3 (ps ++ [(⟨pid, nx.2.1, ct, false, ⟨nx.1.toArray⟩⟩ : Pk)]).length (rowOf (ps ++ [(⟨pid, nx.2.1, ct, false, ⟨nx.1.toArray⟩⟩ : Pk)]))) := ⟨by rw [rowOf_snoc, List.length_append]; exact hown3⟩
          clear hown3 hgr3 HO2 HST2 HB2 hc0 hc1 hz
          go_wp2
          go_roundg k1
          case measure => omega
          case rel =>
            have hw2 := nextF_weight left.data.toList l' HLF.out
            have hpk : packN (k1 + 1) left.data.toList l' = ((nextF left.data.toList l').2.1, (nextF left.data.toList l').1) :: packN k1 (nextF left.data.toList l').2.2.1 (nextF left.data.toList l').2.2.2 := by
              simp only [packN]; rw [if_neg fun h => HLF.out.elim (fun h1 => h1 h.1) fun h2 => h2 h.2]
            rw [HNX.out] at hpk hw2
            have h1 := HR.out
            have h2 := HCE.out
            rw [hpk] at h1 h2
            refine ⟨(ct + 1) % 16, ps ++ [(⟨pid, nx.2.1, ct, false, ⟨nx.1.toArray⟩⟩ : Pk)], left2, A2, c2, nx.2.2.2, by go_num, by omega, HO3, HST3, HL2, HC2, HB3, ⟨?_⟩, ⟨?_⟩, ⟨?_⟩, ⟨?_⟩⟩
            · rw [HLE2.out, ← h1]; simp [pks]
            · rw [HLE2.out, ← h2]; simp only [List.length_cons]; omega
            · rw [HLE2.out]; have := HW.out; omega
            · have := HN.out; simp; omega
end Go.Proofs.YthmddhbccifcoaaDoor.Clar
