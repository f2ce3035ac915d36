/- The reference's Decode on what Encode makes; its whole. -/
import Derived.Test.YthmddhbccifcoaaDoorGLF
import Derived.Test.YthmddhbccifcoaaDoorPSliceLaysx8
import Derived.StillTailTactics
import Derived.BigRegion
set_option linter.unusedVariables false
set_option linter.unusedSimpArgs false
namespace Go.Proofs.YthmddhbccifcoaaDoor.Clar
open Go.RowKit Go.Proofs.YthmddhbccifcoaaDoorW.PrintWords Go.Proofs.YthmddhbccifcoaaDoorW.PrintLast Go.Proofs.YthmddhbccifcoaaDoorW.PrintMore Go.Proofs.YthmddhbccifcoaaDoor.PSliceLays

theorem whole_any (s : ByteArray) (w : World) (hs : s.size ≤ 1000000000) :
    Calls Tryd.prog 29 #[.string s] w fun e w' => e = .returned (.int .i64 (wholeB s)) ∧ Below w.heap.size w w' := by
  have h : clarionref20_whole.f s = some ((wholeB s : Nat) : Int) := by
    unfold clarionref20_whole.f wholeB
    have h1 := bt_range s 1
    have h2 := bt_range s 2
    by_cases h0 : s.size < 3
    · rw [if_pos (by omega), if_pos h0]; rfl
    · rw [if_neg (by omega), if_pos (by omega), if_pos (by omega), if_neg h0]
      congr 1
      rw [show wrap64 (bt s 1) = bt s 1 by unfold wrap64; omega, Int.tmod_eq_emod_of_nonneg h1.1]
      unfold wrap64
      omega
  exact (clarionref20_whole.calls s _ w h).mono fun e w' hh => ⟨hh.1, hh.2.below⟩
theorem enc_at (p : Pk) (i : Nat) (s : ByteArray) (hs : (⟨(encL p).toArray⟩ : ByteArray) = s) (h : i < s.size) : (s[i]'h).toNat = ((encL p)[i]?.getD 0).toNat := by
  subst hs
  have h' : i < (encL p).length := by simpa [ByteArray.size] using h
  rw [List.getElem?_eq_getElem h']
  rfl
set_option maxHeartbeats 4000000 in
set_option maxRecDepth 100000 in
theorem decode_any (p : Pk) (h : pkOk p) (hne : p.body.size ≠ 0) (w : World) :
    Calls Tryd.prog 28 #[.string ⟨(encL p).toArray⟩] w fun e w' => e = .returned (.tuple #[.agg (pkCells p).toArray, .int .i64 0]) ∧ Below w.heap.size w w' := by
  have hlen := encL_length p h
  obtain ⟨h1, h2, h3, h4, h5⟩ := h
  obtain ⟨s, hs⟩ : ∃ s : ByteArray, (⟨(encL p).toArray⟩ : ByteArray) = s := ⟨_, rfl⟩
  have hsz : s.size = 188 := by rw [← hs]; show (List.toArray _).size = _; rw [List.size_toArray, hlen]
  have b1 := b2i_lt p.bad
  have b2 := b2i_lt p.start
  have b3 := whatOf_lt p
  obtain ⟨X0, hX0⟩ : ∃ X, (s[0]'(by omega)).toNat = X := ⟨_, rfl⟩
  obtain ⟨X1, hX1⟩ : ∃ X, (s[1]'(by omega)).toNat = X := ⟨_, rfl⟩
  obtain ⟨X2, hX2⟩ : ∃ X, (s[2]'(by omega)).toNat = X := ⟨_, rfl⟩
  obtain ⟨X3, hX3⟩ : ∃ X, (s[3]'(by omega)).toNat = X := ⟨_, rfl⟩
  obtain ⟨X4, hX4⟩ : ∃ X, (s[4]'(by omega)).toNat = X := ⟨_, rfl⟩
  have t0 : X0 = 71 := by rw [← hX0, enc_at p 0 s hs]; rfl
  have t1 : X1 = b2i p.bad * 128 + b2i p.start * 64 + p.pid.toNat / 256 := by
    rw [← hX1, enc_at p 1 s hs]
    show (UInt8.ofNat (b2i p.bad * 128 + b2i p.start * 64 + p.pid.toNat / 256)).toNat = _
    simp; omega
  have t2 : X2 = p.pid.toNat % 256 := by
    rw [← hX2, enc_at p 2 s hs]
    show (UInt8.ofNat (p.pid.toNat % 256)).toNat = _
    simp
  have t3 : X3 = whatOf p * 16 + p.count.toNat := by
    rw [← hX3, enc_at p 3 s hs]
    show (UInt8.ofNat (whatOf p * 16 + p.count.toNat)).toNat = _
    simp; omega
  have hemp : p.body.toList.isEmpty = false := by
    rw [Go.ByteArray.toList_eq]
    have : 0 < p.body.data.toList.length := by rw [Array.length_toList]; exact Nat.pos_of_ne_zero hne
    cases hh : p.body.data.toList with
    | nil => rw [hh] at this; simp at this
    | cons a l => rfl
  have a1 : (X1 : Int) % 32 * 256 + X2 = p.pid := by omega
  have a2 : ((X1 : Int) / 64 % 2 == 1) = p.start := by
    have : (X1 : Int) / 64 % 2 = (b2i p.start : Int) := by omega
    rw [this]; cases p.start <;> rfl
  have a3 : ((X1 : Int) / 128 == 1) = p.bad := by
    have : (X1 : Int) / 128 = (b2i p.bad : Int) := by omega
    rw [this]; cases p.bad <;> rfl
  have a4 : (X3 : Int) % 16 = p.count := by omega
  have l1 : X1 < 256 := by omega
  have l2 : X2 < 256 := by omega
  have l3 : X3 < 256 := by omega
  subst t0
  unfold pkCells
  rw [hs]
  by_cases hfull : p.body.size = 184
  · have a5 : (X3 : Int) / 16 % 4 = 1 := by
      have : whatOf p = 1 := by unfold whatOf; rw [hemp, hfull]; rfl
      omega
    have l4 : X4 < 256 := by rw [← hX4]; exact (s[4]'_).toNat_lt
    have hbody : s.extract 4 188 = p.body := by
      rw [← hs]
      have e : encL p = headL p ++ p.body.data.toList := by unfold encL stuffedL; rw [if_pos hfull, List.nil_append]
      refine (bytes_eq ?_).trans (bytes_eq (s := p.body) rfl).symm
      rw [data_extract, e]
      simp only
      rw [List.take_of_length_le (by rw [List.length_append, Array.length_toList]; show 4 + p.body.size ≤ _; omega)]
      rfl
    clear t1 t2 t3 hs hlen hemp
    go_enter Tryd.func28, Tryd.ntmps28
    go_wp2_with (fail)
    go_region
    go_wp2
    exact bodyPost_ret (v := .tuple #[.agg #[.int .i64 p.pid, .bool p.start, .int .i64 p.count, .bool p.bad, .string p.body], .int .i64 0]) (by simp [results, Tryd.results28, go_sem]) rfl ⟨rfl, (((Below.refl _ w).alloc (Nat.le_refl _) _).alloc (by simp) _).drew⟩
  · have a5 : (X3 : Int) / 16 % 4 = 3 := by
      have : whatOf p = 3 := by
        unfold whatOf
        rw [hemp, decide_eq_true (by omega)]; rfl
      omega
    have hx4 : X4 = 183 - p.body.size := by
      rw [← hX4, enc_at p 4 s hs]
      have e : (encL p)[4]? = (stuffedL p.body.size ++ p.body.data.toList)[0]? := rfl
      rw [e]
      unfold stuffedL
      rw [if_neg hfull]
      by_cases h183 : p.body.size = 183
      · rw [if_pos h183, h183]; rfl
      · rw [if_neg h183]
        show (UInt8.ofNat (183 - p.body.size)).toNat = _
        simp; omega
    have l4 : X4 ≤ 182 := by omega
    have hbody : s.extract (5 + X4) 188 = p.body := by
      rw [← hs]
      refine (bytes_eq ?_).trans (bytes_eq (s := p.body) rfl).symm
      rw [data_extract]
      simp only
      rw [List.take_of_length_le (by rw [hlen]; omega)]
      have e : encL p = (headL p ++ stuffedL p.body.size) ++ p.body.data.toList := by unfold encL; rw [List.append_assoc]
      rw [e]
      refine List.drop_left' ?_
      rw [List.length_append, stuffedL_length _ h5]
      show 4 + _ = _
      omega
    clear t1 t2 t3 hs hlen hemp hx4
    go_enter Tryd.func28, Tryd.ntmps28
    go_wp2_with (fail)
    go_region
    go_wp2
    exact bodyPost_ret (v := .tuple #[.agg #[.int .i64 p.pid, .bool p.start, .int .i64 p.count, .bool p.bad, .string p.body], .int .i64 0]) (by simp [results, Tryd.results28, go_sem]) rfl ⟨rfl, (((Below.refl _ w).alloc (Nat.le_refl _) _).alloc (by simp) _).drew⟩
end Go.Proofs.YthmddhbccifcoaaDoor.Clar
