/- packet.stuffed, packet.flag, packet.Check, packet.Encode, packet.Empty. -/
/- packet.Encode, packet.Empty. -/
/- packer.Bytes. -/
import Derived.Test.YthmddhbccifcoaaDoorGLB
import Derived.Test.YthmddhbccifcoaaDoorGLC
set_option linter.unusedVariables false
set_option linter.unusedSimpArgs false
namespace Go.Proofs.YthmddhbccifcoaaDoor.Clar
open Go.RowKit Go.Proofs.YthmddhbccifcoaaDoorW.PrintWords Go.Proofs.YthmddhbccifcoaaDoorW.PrintLast Go.Proofs.YthmddhbccifcoaaDoorW.PrintMore

def stuffedL (n : Nat) : List UInt8 := if n = 184 then [] else if n = 183 then [0] else UInt8.ofNat (183 - n) :: 0 :: List.replicate (182 - n) 255
theorem conv_two (W : World) (b : Nat) (n m : Int) (h : W.heap[b]? = some (.cells #[.int .u8 n, .int .u8 m] 5 (0, 0))) : (convert 42 9 (.slice (some ⟨b, 0, none⟩) 2 2)).run Tryd.prog W = .ok (.string (strOfNums [n, m])) W := by
  refine own_string (base := 0) (e' := 5) (n := 2) Tryd.underlying42 Tryd.underlying5 Tryd.underlying9 ?_
  exact ⟨by simp [nums], .inr ⟨b, 2, _, rfl, Nat.zero_le _, h, Nat.le_refl _, by unfold maxLen; omega, by simp, by simp [nums]⟩⟩

set_option maxHeartbeats 2000000 in
set_option maxRecDepth 100000 in
theorem stuffed_any (n : Nat) (w : World) (hn : n ≤ 184) :
    Calls Tryd.prog 52 #[.int .i64 n] w fun e w' => e = .returned (.string ⟨(stuffedL n).toArray⟩) ∧ Below w.heap.size w w' := by
  by_cases h1 : n = 184
  · subst h1
    go_enter Tryd.func52, Tryd.ntmps52
    go_wp2
    go_ret
    exact ⟨rfl, Below.refl _ _⟩
  by_cases h2 : n = 183
  · subst h2
    go_enter Tryd.func52, Tryd.ntmps52
    go_wp2
    go_ret
    exact ⟨rfl, Below.refl _ _⟩
  obtain ⟨q, hq⟩ : ∃ q : Nat, 183 - n = q := ⟨_, rfl⟩
  obtain ⟨r, hr⟩ : ∃ r : Nat, 182 - n = r := ⟨_, rfl⟩
  have e1 : ((n : Int) == 184) = false := by simp; omega
  have e2 : (183 : Int) - n = q := by omega
  have e3 : ((q : Int) == 0) = false := by simp; omega
  have e4 : ((q : Int) - 1) = r := by omega
  have e5 : IntKind.i64.wrap (r : Int) = r := by rw [IntKind.wrap_i64]; omega
  have hwr : IntKind.u8.wrap (q : Int) = (q : Int) := by rw [IntKind.wrap_u8']; omega
  obtain ⟨two, htwo⟩ : ∃ two : ByteArray, strOfNums [(q : Int), 0] = two := ⟨_, rfl⟩
  have hs1 : two.size ≤ 2 := by rw [← htwo]; exact Nat.le_refl _
  have HTWO := Aside0.mk htwo
  have hrl : r ≤ 1000 := by omega
  have HE : Aside0 (⟨(stuffedL n).toArray⟩ = two ++ (⟨(List.replicate r 255).toArray⟩ : ByteArray)) := ⟨by
    unfold stuffedL
    rw [if_neg h1, if_neg h2, hq, hr, ← htwo]
    refine (bytes_eq ?_).symm
    simp only [ByteArray.data_append, Array.toList_append, strOfNums_data]
    rfl⟩
  have HR := Aside0.mk hr
  have HQ := Aside0.mk hq
  have hrs : (⟨(List.replicate r 255).toArray⟩ : ByteArray).size ≤ 1000 := by simpa [ByteArray.size] using hrl
  obtain ⟨rs, hrse⟩ : ∃ rs : ByteArray, (⟨(List.replicate r 255).toArray⟩ : ByteArray) = rs := ⟨_, rfl⟩
  have hrep : ∀ W : World, Calls Tryd.prog 37 #[.string ⟨#[255]⟩, .int .i64 r] W fun e w' => e = .returned (.string rs) ∧ Below W.heap.size W w' := by
    intro W
    have := repeat_ff r W hrl
    rwa [hrse] at this
  rw [hrse] at HE hrs
  have HREP := Aside0.mk hrep
  clear htwo hr hq hrse hrep
  go_enter Tryd.func52, Tryd.ntmps52
  go_wp2_with (fail)
  have hcv1 := conv_two (w.alloc (.cells #[.int .u8 q, .int .u8 0] 5)).drew w.heap.size q 0 (blk_drew (blk_new _ _))
  rw [HTWO.out] at hcv1
  go_region_with (go_at_call 37; refine (HREP.out _).mono ?_; rintro e w2 ⟨rfl, hb⟩; (first | (have hcv2 := conv_two w2 w.heap.size q 0 (blk_below (blk_drew (blk_new w _)) hb); rw [HTWO.out] at hcv2; have hp2 : Aside0 (Below w.heap.size w w2) := ⟨below_then2 ((Below.refl _ w).alloc (Nat.le_refl _) (.cells #[.int .u8 q, .int .u8 0] 5)).drew hb ((Below.refl _ w).alloc (Nat.le_refl _) (.cells #[.int .u8 q, .int .u8 0] 5)).size⟩) | have hp2 : Aside0 (Below w.heap.size w w2) := ⟨below_then2 (Below.refl _ w).drew hb (Nat.le_refl _)⟩); clear hb; have hcv3 := conv_two (w2.alloc (.cells #[.int .u8 q, .int .u8 0] 5)) w2.heap.size q 0 (blk_new _ _); rw [HTWO.out] at hcv3)
  all_goals
    go_wp2
    go_ret
    refine ⟨by rw [HE.out]; rfl, ?_⟩
    first | exact hp2.out | exact hp2.out.alloc hp2.out.size _

def b2i (b : Bool) : Nat := if b then 1 else 0
theorem flag_any (b : Bool) (w : World) : Calls Tryd.prog 49 #[.bool b] w fun e w' => e = .returned (.int .i64 (b2i b)) ∧ w = w' := by
  cases b
  all_goals
    go_enter Tryd.func49, Tryd.ntmps49
    go_wp2
    go_ret
    exact ⟨rfl, rfl⟩
def pkOk (p : Pk) : Prop := 0 ≤ p.pid ∧ p.pid < 8192 ∧ 0 ≤ p.count ∧ p.count < 16 ∧ p.body.size ≤ 184
theorem pcheck_any (p : Pk) (w : World) (h : pkOk p) : Calls Tryd.prog 48 #[.agg (pkCells p).toArray] w fun e w' => e = .returned (.int .i64 0) ∧ Below w.heap.size w w' := by
  obtain ⟨h1, h2, h3, h4, h5⟩ := h
  obtain ⟨pid, start, count, bad, body⟩ := p
  simp only at h1 h2 h3 h4 h5
  have e1 : decide (pid < 0) = false := by simp; omega
  have e2 : decide (8192 ≤ pid) = false := by simp; omega
  have e3 : decide (count < 0) = false := by simp; omega
  have e4 : decide (15 < count) = false := by simp; omega
  have e5 : decide ((184 : Int) < body.size) = false := by simp; omega
  unfold pkCells
  go_enter Tryd.func48, Tryd.ntmps48
  go_wp2
  go_ret
  exact ⟨rfl, (Below.refl _ _).alloc (Nat.le_refl _) _⟩
end Go.Proofs.YthmddhbccifcoaaDoor.Clar
namespace Go.Proofs.YthmddhbccifcoaaDoor.Clar
open Go.RowKit Go.Proofs.YthmddhbccifcoaaDoorW.PrintWords Go.Proofs.YthmddhbccifcoaaDoorW.PrintLast Go.Proofs.YthmddhbccifcoaaDoorW.PrintMore

def widthsL : List Nat := [8, 1, 1, 1, 13, 2, 2, 4]
/-- The table of widths holds what its initialiser lays. -/
def Wd (w : World) : Prop := ∀ i, i < 8 → w.cell? ⟨0, i, none⟩ = some (.int .i64 (widthsL.getD i 0 : Nat))
theorem Wd.lt {w : World} (h : Wd w) : 0 < w.heap.size := by
  have := h 0 (by omega)
  unfold World.cell? at this
  cases hh : w.heap[0]? with
  | none => simp [hh] at this
  | some o => exact (Array.getElem?_eq_some_iff.1 hh).1
def whatOf (p : Pk) : Nat := b2i (!p.body.toList.isEmpty) + 2 * b2i (decide ((p.body.size : Int) < 184))
theorem b2i_lt (b : Bool) : b2i b < 2 := by cases b <;> decide
def hdrX (p : Pk) : List Nat := [71, b2i p.bad, b2i p.start, 0, p.pid.toNat, 0, whatOf p, p.count.toNat]
def hdrBits (p : Pk) (k : Nat) : List Nat := (((hdrX p).zip widthsL).take k).flatMap fun x => bitsOf x.1 x.2
theorem index8 (a b c d e f g h : Value) (W : World) (k : Nat) (hk : k < 8) : (Instr.index 110 (.agg #[a, b, c, d, e, f, g, h]) (.int .i64 k)).run Tryd.prog W = .ok ([a, b, c, d, e, f, g, h].getD k undef) W := by
  rcases (show k = 0 ∨ k = 1 ∨ k = 2 ∨ k = 3 ∨ k = 4 ∨ k = 5 ∨ k = 6 ∨ k = 7 by omega) with rfl | rfl | rfl | rfl | rfl | rfl | rfl | rfl <;> kernel_rfl
theorem OutAt.below {w w' : World} {B o : Nat} {bs : List Nat} (h : OutAt w B o bs) (hb : Below w.heap.size w w') : OutAt w' B o bs := by
  obtain ⟨hBo, v, hk, hown⟩ := h
  exact ⟨hBo, v, blk_below hk hb, pw_own_below hown hb⟩
theorem hdrBits_succ (p : Pk) (k : Nat) (hk : k < 8) : hdrBits p (k + 1) = hdrBits p k ++ bitsOf ((hdrX p).getD k 0) (widthsL.getD k 0) := by
  rcases (show k = 0 ∨ k = 1 ∨ k = 2 ∨ k = 3 ∨ k = 4 ∨ k = 5 ∨ k = 6 ∨ k = 7 by omega) with rfl | rfl | rfl | rfl | rfl | rfl | rfl | rfl <;> simp [hdrBits, hdrX, widthsL]
theorem hdrBits_length (p : Pk) (k : Nat) (hk : k ≤ 8) : (hdrBits p k).length ≤ 64 * k := by
  induction k with
  | zero => simp [hdrBits]
  | succ k ih =>
    have := ih (by omega)
    rw [hdrBits_succ p k (by omega), List.length_append, bitsOf_length]
    have : widthsL.getD k 0 ≤ 64 := by
      rcases (show k = 0 ∨ k = 1 ∨ k = 2 ∨ k = 3 ∨ k = 4 ∨ k = 5 ∨ k = 6 ∨ k = 7 by omega) with rfl | rfl | rfl | rfl | rfl | rfl | rfl | rfl <;> decide
    omega
theorem enc_text (p : Pk) (st : ByteArray) (b0 o : Nat) (h1 : st.size ≤ 184) (h2 : p.body.size ≤ 184) (w wr w2 : World) (hO : OutAt wr b0 o (hdrBits p 8)) (hB : Below b0 w wr)
    (hw : b0 ≤ w.heap.size) (hb : Below wr.drew.heap.size wr.drew w2) :
    Calls Tryd.prog 51 #[.pointer (some ⟨o, 0, none⟩), .slice (some ⟨w2.heap.size, 0, none⟩) 2 2] (w2.alloc (.cells #[.string st, .string p.body] 9)) fun e w' => e = .returned (.tuple #[]) ∧ OutAt w' b0 o (hdrBits p 8 ++ textBits (st.data.toList ++ p.body.data.toList)) ∧ Below b0 w w' := by
  have hs2 : b0 ≤ w2.heap.size := by have := hB.size; have := hb.size; have e : wr.drew.heap.size = wr.heap.size := rfl; omega
  have := outText_any b0 o w2.heap.size (hdrBits p 8) [st, p.body] (fun b hb => by
    obtain ⟨y, _, hy⟩ := List.mem_flatMap.1 hb
    exact bitsOf_lt _ _ b hy) (w2.alloc (.cells #[.string st, .string p.body] 9)) ((OutAt.below (w := wr.drew) hO hb).alloc _) (by simp; omega) (blk_new _ _) (by simp) (by
      have := hdrBits_length p 8 (Nat.le_refl _)
      simp only [List.flatMap_cons, List.flatMap_nil, List.append_nil, List.length_append]
      have e1 : st.data.toList.length = st.size := Array.length_toList
      have e2 : p.body.data.toList.length = p.body.size := Array.length_toList
      omega)
  refine this.mono ?_
  rintro e w' ⟨rfl, h1, h2, -⟩
  refine ⟨rfl, by simpa using h1, ?_⟩
  exact ((hB.trans ((Below.refl _ wr).drew.trans (hb.mono (by have := hB.size; show b0 ≤ wr.heap.size; omega)))).alloc hs2 _).trans h2
set_option maxHeartbeats 2000000 in
set_option maxRecDepth 100000 in
theorem encode_any (p : Pk) (w : World) (h : pkOk p) (hW : Wd w) :
    Calls Tryd.prog 36 #[.agg (pkCells p).toArray] w fun e w' => e = .returned (.tuple #[.string ⟨(bytesOfBits (hdrBits p 8 ++ textBits (stuffedL p.body.size ++ p.body.data.toList))).toArray⟩, .int .i64 0]) ∧ Below w.heap.size w w' := by
  have hck : ∀ W : World, Calls Tryd.prog 48 #[.agg (pkCells p).toArray] W fun e w' => e = .returned (.int .i64 0) ∧ Below W.heap.size W w' := fun W => pcheck_any p W h
  obtain ⟨h1, h2, h3, h4, h5⟩ := h
  have HP := Aside0.mk hck
  obtain ⟨wh, hwh⟩ : ∃ wh, whatOf p = wh := ⟨_, rfl⟩
  obtain ⟨hx, hhx⟩ : ∃ hx, hdrX p = hx := ⟨_, rfl⟩
  have HX := Aside0.mk hhx
  have HWH := Aside0.mk hwh
  unfold pkCells at HP ⊢
  have hor : bits .or .i64 (wrap64 (b2i (!p.body.toList.isEmpty) : Nat)) (wrap64 ((b2i (decide ((p.body.size : Int) < 184)) : Nat) * 2)) = (wh : Int) := by
    rw [← hwh]
    unfold whatOf
    cases (!p.body.toList.isEmpty) <;> cases (decide ((p.body.size : Int) < 184)) <;> decide +kernel
  obtain ⟨st, hste⟩ : ∃ st : ByteArray, (⟨(stuffedL p.body.size).toArray⟩ : ByteArray) = st := ⟨_, rfl⟩
  have hlst : st.size ≤ 184 := by
    rw [← hste]; unfold stuffedL
    split
    · exact Nat.zero_le _
    · split
      · exact (by decide : (1:Nat) ≤ 184)
      · show (List.toArray _).size ≤ 184
        rw [List.size_toArray, List.length_cons, List.length_cons, List.length_replicate]; omega
  have hlb := h5
  have HSTE := Aside0.mk hste
  clear hck hwh hhx
  go_enter Tryd.func36, Tryd.ntmps36
  go_wp2_with (fail)
  refine (HP.out _).mono ?_
  rintro e W1 ⟨rfl, hB1⟩
  have hb1 := (blk_below (blk_new w (.cells #[.int .i64 p.pid, .bool p.start, .int .i64 p.count, .bool p.bad, .string p.body] 92)) hB1)
  have HB1 : Aside0 (Below w.heap.size w W1) := ⟨below_then2 ((Below.refl _ w).alloc (Nat.le_refl _) (.cells #[.int .i64 p.pid, .bool p.start, .int .i64 p.count, .bool p.bad, .string p.body] 92)) hB1 ((Below.refl _ w).alloc (Nat.le_refl _) (.cells #[.int .i64 p.pid, .bool p.start, .int .i64 p.count, .bool p.bad, .string p.body] 92)).size⟩
  clear hB1
  have hc0 := blk_cell hb1 0
  have hc1 := blk_cell hb1 1
  have hc2 := blk_cell hb1 2
  have hc3 := blk_cell hb1 3
  have hc4 := blk_cell hb1 4
  have HBK := Aside0.mk hb1
  clear hb1
  go_wp2_with (fail)
  go_quiet ((go_at_call 49; exact quiet_left (flag_any _ _)))
  clear hor
  obtain ⟨W2, hW2⟩ : ∃ W2, W1.drewN nq = W2 := ⟨_, rfl⟩
  rw [hW2]
  have HW2 := Aside0.mk hW2
  clear hW2
  have hb2 := blk_drewN HBK.out nq
  have HB2 : Aside0 (Below w.heap.size w W2) := ⟨by rw [← HW2.out]; exact pw_below_drewN HB1.out _⟩
  rw [HW2.out] at hb2
  clear HW2 HBK HB1 hc0 hc1 hc2 hc3 hc4
  go_wp2_with (fail)
  obtain ⟨W3, hW3⟩ : ∃ W3, W2.alloc (.cells #[.slice none 0 0, .int .i64 0] 109) = W3 := ⟨_, rfl⟩
  obtain ⟨o, ho⟩ : ∃ o, W2.heap.size = o := ⟨_, rfl⟩
  obtain ⟨b0, hb0⟩ : ∃ b0, w.heap.size = b0 := ⟨_, rfl⟩
  have h3 : W3.heap[b0]? = some (.cells #[.int .i64 p.pid, .bool p.start, .int .i64 p.count, .bool p.bad, .string p.body] 92 (0, 0)) ∧ Below w.heap.size w W3 ∧ OutAt W3 b0 o [] ∧ b0 ≠ o ∧ b0 ≤ W3.heap.size := by
    rw [← hW3, ← ho, ← hb0]
    refine ⟨blk_alloc hb2 _, HB2.out.alloc HB2.out.size _, ⟨HB2.out.size, .slice none 0 0, blk_new _ _, own_nil _ _ _ _⟩, ?_, ?_⟩
    · have := blk_lt hb2; omega
    · have := HB2.out.size; simp; omega
  rw [hW3, ho, hb0]
  obtain ⟨hb3, hB3, hO3, hne, hsz⟩ := h3
  have HB3 := Aside0.mk hB3
  have HO3 := Aside0.mk hO3
  have HBK := Aside0.mk hb3
  have hc0 := blk_cell hb3 0
  have hc1 := blk_cell hb3 1
  have hc2 := blk_cell hb3 2
  have hc3 := blk_cell hb3 3
  have hc4 := blk_cell hb3 4
  clear hb3 hB3 hO3 hW3 ho HB2 hb2
  have Hb0 := Aside0.mk hb0
  clear hb0
  go_quiet ((go_at_call 49; exact quiet_left (flag_any _ _)))
  clear hc0 hc1 hc2 hc3 hc4
  go_wp2_with (fail)
  obtain ⟨W4, hW4⟩ : ∃ W4, W3.drewN nq = W4 := ⟨_, rfl⟩
  have h4 : W4.heap[b0]? = some (.cells #[.int .i64 p.pid, .bool p.start, .int .i64 p.count, .bool p.bad, .string p.body] 92 (0, 0)) ∧ Below b0 w W4 ∧ OutAt W4 b0 o [] ∧ b0 ≤ W4.heap.size := by
    rw [← hW4]
    exact ⟨blk_drewN HBK.out nq, by rw [← Hb0.out]; exact pw_below_drewN HB3.out _, HO3.out, hsz⟩
  rw [hW4]
  have H4 := Aside0.mk h4
  clear h4 hW4 HBK HB3 HO3 hsz
  obtain ⟨arr, harr⟩ : ∃ arr : Array Value, #[.int .i64 71, .int .i64 (b2i p.bad), .int .i64 (b2i p.start), .int .i64 0, .int .i64 p.pid, .int .i64 0, .int .i64 wh, .int .i64 p.count] = arr := ⟨_, rfl⟩
  rw [harr]
  have HARR : Aside0 (∀ (k : Nat) (W : World), k < 8 → (Instr.index 110 (.agg arr) (.int .i64 k)).run Tryd.prog W = .ok (.int .i64 ((hx.getD k 0 : Nat) : Int)) W) := ⟨by
    intro k W hk
    rw [← harr, ← HX.out, index8 _ _ _ _ _ _ _ _ W k hk]
    unfold hdrX
    rw [HWH.out]
    have e1 : p.pid = (p.pid.toNat : Int) := by omega
    have e2 : p.count = (p.count.toNat : Int) := by omega
    rcases (show k = 0 ∨ k = 1 ∨ k = 2 ∨ k = 3 ∨ k = 4 ∨ k = 5 ∨ k = 6 ∨ k = 7 by omega) with rfl | rfl | rfl | rfl | rfl | rfl | rfl | rfl <;> simp <;> omega⟩
  have HXB : Aside0 (∀ k, k < 8 → hx.getD k 0 < 2 ^ 64) := ⟨by
    intro k hk
    rw [← HX.out]
    unfold hdrX
    have e0 := b2i_lt p.bad
    have e1 := b2i_lt p.start
    have e2 : whatOf p < 4 := by unfold whatOf; have := b2i_lt (!p.body.toList.isEmpty); have := b2i_lt (decide ((p.body.size : Int) < 184)); omega
    rcases (show k = 0 ∨ k = 1 ∨ k = 2 ∨ k = 3 ∨ k = 4 ∨ k = 5 ∨ k = 6 ∨ k = 7 by omega) with rfl | rfl | rfl | rfl | rfl | rfl | rfl | rfl <;> simp <;> omega⟩
  have HARS := Aside0.mk harr
  clear harr
  go_loopw [7, 8, 38] (fun _ _ i w' => ∃ k : Nat, k ≤ 8 ∧ i = .int .i64 k ∧ Aside0 (OutAt w' b0 o (hdrBits p k) ∧ Below b0 w w' ∧ w'.heap[b0]? = some (.cells #[.int .i64 p.pid, .bool p.start, .int .i64 p.count, .bool p.bad, .string p.body] 92 (0, 0)))) (fun _ _ i _ => 8 - (intOf i).toNat)
  case atStart => exact ⟨0, by omega, rfl, ⟨H4.out.2.2.1, H4.out.2.1, H4.out.1⟩⟩
  case round =>
    obtain ⟨k, hk, rfl, HQ⟩ := hrel
    by_cases hlt : k < 8
    · have hidx := HARR.out k wr hlt
      obtain ⟨x, hxk⟩ : ∃ x, hx.getD k 0 = x := ⟨_, rfl⟩
      have hx64 : x < 2 ^ 64 := by rw [← hxk]; exact HXB.out k hlt
      rw [hxk] at hidx
      have hwc : wr.cell? ⟨0, k, none⟩ = some (.int .i64 (widthsL.getD k 0 : Nat)) := by
        have h0 := HQ.out.2.1.cell (p := ⟨0, k, none⟩) (by show 0 < b0; rw [← Hb0.out]; exact hW.lt)
        rw [h0]; exact hW k hlt
      obtain ⟨N, hN⟩ : ∃ N, widthsL.getD k 0 = N := ⟨_, rfl⟩
      rw [hN] at hwc
      have hN64 : N ≤ 64 := by
        rw [← hN]
        rcases (show k = 0 ∨ k = 1 ∨ k = 2 ∨ k = 3 ∨ k = 4 ∨ k = 5 ∨ k = 6 ∨ k = 7 by omega) with rfl | rfl | rfl | rfl | rfl | rfl | rfl | rfl <;> decide
      have hput := put_any b0 o (hdrBits p k) x N hx64 hN64 (fun b hb => by
        obtain ⟨y, _, hy⟩ := List.mem_flatMap.1 hb
        exact bitsOf_lt _ _ b hy) wr HQ.out.1 (by rw [← Hb0.out]; exact Nat.le_trans (Nat.le_refl _) (by have := HQ.out.2.1.size; omega)) (by
        have := hdrBits_length p k (by omega)
        omega)
      have hwx : IntKind.u64.wrap (x : Int) = (x : Int) := u64_wrap_nat _ (by simpa using hx64)
      go_wp2_with (fail)
      refine hput.mono ?_
      rintro e w1 ⟨rfl, hO1, hB1, hK1⟩
      have HN : Aside0 (OutAt w1 b0 o (hdrBits p (k + 1)) ∧ Below b0 w w1 ∧ w1.heap[b0]? = some (.cells #[.int .i64 p.pid, .bool p.start, .int .i64 p.count, .bool p.bad, .string p.body] 92 (0, 0))) := ⟨by
        refine ⟨?_, HQ.out.2.1.trans hB1, hK1 _ _ HQ.out.2.2 (by simpa using hne) (by intro c fz hh; cases hh)⟩
        have e2 := hdrBits_succ p k hlt
        rw [HX.out, hxk, hN] at e2
        rw [e2]; exact hO1⟩
      clear hO1 hB1 hK1 hput
      go_wp2_with (fail)
      go_roundw
      case rel => exact ⟨k + 1, by omega, by go_num, HN⟩
      case measure => simp [intOf]; omega
    · obtain rfl : k = 8 := by omega
      go_wp2_with (fail)
      have hst : ∀ W : World, Calls Tryd.prog 52 #[.int .i64 p.body.size] W fun e w' => e = .returned (.string st) ∧ Below W.heap.size W w' := by
        intro W
        have := stuffed_any p.body.size W h5
        rwa [hste] at this
      have HST := Aside0.mk hst
      clear hst
      have hd0 := blk_cell (blk_drew HQ.out.2.2) 4
      go_region_with (first | (go_at_call 52; refine (HST.out _).mono ?_; rintro e w2 ⟨rfl, hb⟩; have hd2 := blk_cell (blk_below (blk_drew HQ.out.2.2) hb) 4; have HT2 := Aside0.mk (enc_text p st b0 o hlst hlb w wr w2 HQ.out.1 HQ.out.2.1 (Nat.le_of_eq Hb0.out.symm) hb); clear hb) | (go_at_call 51; refine (HT2.out).mono ?_; rintro e w3 ⟨rfl, hO3, hB3⟩))
      all_goals
        go_wp2_with (fail)
        refine (outString_any b0 o _ w3 hO3).mono ?_
        rintro e w4 ⟨rfl, rfl⟩
        go_wp2_with (fail)
        go_ret2
        refine ⟨?_, ?_⟩
        · rw [← HSTE.out]; rfl
        · rw [Hb0.out]; exact hB3

/-- A packet's bytes. -/
def headL (p : Pk) : List UInt8 := [71, UInt8.ofNat (b2i p.bad * 128 + b2i p.start * 64 + p.pid.toNat / 256), UInt8.ofNat (p.pid.toNat % 256), UInt8.ofNat (whatOf p * 16 + p.count.toNat)]
def encL (p : Pk) : List UInt8 := headL p ++ (stuffedL p.body.size ++ p.body.data.toList)
theorem whatOf_lt (p : Pk) : whatOf p < 4 := by unfold whatOf; have := b2i_lt (!p.body.toList.isEmpty); have := b2i_lt (decide ((p.body.size : Int) < 184)); omega
theorem hdr_text (p : Pk) (h : pkOk p) : hdrBits p 8 = textBits (headL p) := by
  obtain ⟨h1, h2, h3, h4, h5⟩ := h
  have b1 := b2i_lt p.bad
  have b2 := b2i_lt p.start
  have b3 := whatOf_lt p
  obtain ⟨pid, hp⟩ : ∃ n, p.pid.toNat = n := ⟨_, rfl⟩
  obtain ⟨c, hc⟩ : ∃ n, p.count.toNat = n := ⟨_, rfl⟩
  have hp2 : pid < 8192 := by omega
  have hc2 : c < 16 := by omega
  have e : hdrBits p 8 = bitsOf 71 8 ++ (bitsOf (b2i p.bad) 1 ++ bitsOf (b2i p.start) 1 ++ bitsOf 0 1 ++ bitsOf pid 13) ++ (bitsOf 0 2 ++ bitsOf (whatOf p) 2 ++ bitsOf c 4) := by
    simp [hdrBits, hdrX, widthsL, hp, hc]
  have e1 : bitsOf (b2i p.bad) 1 ++ bitsOf (b2i p.start) 1 ++ bitsOf 0 1 ++ bitsOf pid 13 = bitsOf (b2i p.bad * 128 + b2i p.start * 64 + pid / 256) 8 ++ bitsOf (pid % 256) 8 := by
    rw [bitsOf_append _ _ _ _ (by omega), bitsOf_append _ _ _ _ (by decide), bitsOf_append _ _ _ _ (by simpa using hp2), bitsOf_append _ _ _ _ (by simpa using Nat.mod_lt pid (by decide : 0 < 256))]
    exact congrArg (fun x => bitsOf x 16) (by omega)
  have e2 : bitsOf 0 2 ++ bitsOf (whatOf p) 2 ++ bitsOf c 4 = bitsOf (whatOf p * 16 + c) 8 := by
    rw [bitsOf_append _ _ _ _ (by omega), bitsOf_append _ _ _ _ (by simpa using hc2)]
    exact congrArg (fun x => bitsOf x 8) (by omega)
  rw [e, e1, e2]
  simp only [textBits, headL, List.flatMap_cons, List.flatMap_nil, List.append_nil, hp, hc]
  rw [show (UInt8.ofNat (b2i p.bad * 128 + b2i p.start * 64 + pid / 256)).toNat = b2i p.bad * 128 + b2i p.start * 64 + pid / 256 by simp; omega, show (UInt8.ofNat (pid % 256)).toNat = pid % 256 by simp, show (UInt8.ofNat (whatOf p * 16 + c)).toNat = whatOf p * 16 + c by simp; omega]
  simp
theorem bytes_enc (p : Pk) (h : pkOk p) (l : List UInt8) : bytesOfBits (hdrBits p 8 ++ textBits l) = headL p ++ l := by
  rw [hdr_text p h, ← textBits_append]
  have := bytesOfBits_text (headL p ++ l) []
  rw [List.append_nil] at this
  rw [this, bytesOfBits_nil, List.append_nil]
theorem encode_is (p : Pk) (w : World) (h : pkOk p) (hW : Wd w) :
    Calls Tryd.prog 36 #[.agg (pkCells p).toArray] w fun e w' => e = .returned (.tuple #[.string ⟨(encL p).toArray⟩, .int .i64 0]) ∧ Below w.heap.size w w' := by
  have := encode_any p w h hW
  rwa [bytes_enc p h] at this
theorem stuffedL_length (n : Nat) (h : n ≤ 184) : (stuffedL n).length = 184 - n := by
  unfold stuffedL
  split
  · subst n; rfl
  · split
    · subst n; rfl
    · simp; omega
theorem encL_length (p : Pk) (h : pkOk p) : (encL p).length = 188 := by
  have h5 := h.2.2.2.2
  have : p.body.data.toList.length = p.body.size := Array.length_toList
  unfold encL
  rw [List.length_append, List.length_append, stuffedL_length _ h5, this]
  simp only [headL, List.length_cons, List.length_nil]
  omega
/-- A packet that is nothing. -/
def nullPk : Pk := ⟨8191, false, 0, false, ⟨(List.replicate 184 255).toArray⟩⟩
def emptyL : List UInt8 := encL nullPk
theorem Wd.below {w w' : World} (h : Wd w) (hb : Below w.heap.size w w') : Wd w' := fun i hi => (hb.cell (p := ⟨0, i, none⟩) h.lt).trans (h i hi)
theorem nullPk_ok : pkOk nullPk := by
  refine ⟨by decide, by decide, by decide, by decide, ?_⟩
  show (List.toArray _).size ≤ 184
  rw [List.size_toArray, List.length_replicate]
  exact Nat.le_refl _
set_option maxHeartbeats 2000000 in
theorem empty_any (w : World) (hW : Wd w) :
    Calls Tryd.prog 22 #[] w fun e w' => e = .returned (.string ⟨emptyL.toArray⟩) ∧ Below w.heap.size w w' := by
  have HR := fun W => repeat_ff 184 W (by decide)
  obtain ⟨st, hst⟩ : ∃ st : ByteArray, (⟨(List.replicate 184 255).toArray⟩ : ByteArray) = st := ⟨_, rfl⟩
  rw [hst] at HR
  have HE := fun W h => encode_is nullPk W nullPk_ok h
  unfold nullPk at HE
  rw [hst] at HE
  unfold pkCells at HE
  obtain ⟨en, hen⟩ : ∃ en : ByteArray, (⟨(encL ⟨8191, false, 0, false, st⟩).toArray⟩ : ByteArray) = en := ⟨_, rfl⟩
  rw [hen] at HE
  have HEN := Aside0.mk hen
  have HST := Aside0.mk hst
  clear hst hen
  have HR := Aside0.mk HR
  have HE := Aside0.mk HE
  go_enter Tryd.func22, Tryd.ntmps22
  go_wp2_with (fail)
  refine (HR.out w).mono ?_
  rintro e w1 ⟨rfl, hb1⟩
  go_wp2_with (fail)
  refine (HE.out w1 (hW.below hb1)).mono ?_
  rintro e w2 ⟨rfl, hb2⟩
  go_wp2_with (fail)
  go_ret
  refine ⟨?_, below_then2 hb1 hb2 hb1.size⟩
  rw [← HEN.out, ← HST.out]
  rfl
end Go.Proofs.YthmddhbccifcoaaDoor.Clar
namespace Go.Proofs.YthmddhbccifcoaaDoor.Clar
open Go.RowKit Go.Proofs.YthmddhbccifcoaaDoorW.PrintWords Go.Proofs.YthmddhbccifcoaaDoorW.PrintLast Go.Proofs.YthmddhbccifcoaaDoorW.PrintMore

theorem rowOf_at (ps : List Pk) (k : Nat) (p : Pk) (h : ps[k]? = some p) (j : Nat) (u : Value) (hu : (pkCells p)[j]? = some u) : (rowOf ps)[k * 5 + j]? = some u := by
  induction ps generalizing k with
  | nil => simp at h
  | cons q ps ih =>
    have hl : (pkCells q).length = 5 := rfl
    cases k with
    | zero =>
      obtain rfl : q = p := by simpa using h
      have hj : j < 5 := (List.getElem?_eq_some_iff.1 hu).1
      simp only [rowOf, List.flatMap_cons]
      rw [List.getElem?_append_left (by rw [hl]; omega), show 0 * 5 + j = j by omega]
      exact hu
    | succ k =>
      simp only [rowOf, List.flatMap_cons]
      rw [List.getElem?_append_right (by rw [hl]; omega), hl, show (k + 1) * 5 + j - 5 = k * 5 + j by omega]
      exact ih k (by simpa using h)
theorem encs_length (ps : List Pk) (h : ∀ p ∈ ps, pkOk p) : (ps.flatMap encL).length = 188 * ps.length := by
  induction ps with
  | nil => rfl
  | cons p ps ih =>
    rw [List.flatMap_cons, List.length_append, encL_length p (h p (by simp)), ih fun q hq => h q (by simp [hq]), List.length_cons]
    omega
set_option maxHeartbeats 2000000 in
set_option maxRecDepth 100000 in
theorem pbytes_any (B g cap : Nat) (ps : List Pk) (w : World) (hown : w.ownsRow B 92 5 (.slice (some ⟨g, 0, none⟩) ps.length cap) ps.length (rowOf ps)) (hok : ∀ p ∈ ps, pkOk p) (hW : Wd w) (hn : ps.length ≤ 5000000) :
    Calls Tryd.prog 24 #[.slice (some ⟨g, 0, none⟩) ps.length cap] w fun e w' => e = .returned (.tuple #[.string ⟨(ps.flatMap encL).toArray⟩, .int .i64 0]) ∧ Below w.heap.size w w' := by
  have HR : Aside0 (∀ k p, ps[k]? = some p → ∀ j u, (pkCells p)[j]? = some u → w.cell? ⟨g, k * 5 + j, none⟩ = some u) := ⟨fun k p h j u hu => by
    have := hown.cells (g := g) rfl (k * 5 + j) u (rowOf_at ps k p h j u hu)
    rwa [add_plain] at this⟩
  have hgl : ps ≠ [] → g < w.heap.size := fun hne => by
    obtain ⟨g', cap', e, h1, h2⟩ := hown.form (by have := List.length_pos_iff.2 hne; omega)
    cases e
    exact h2
  have HO := Aside0.mk hok
  clear hown hok
  go_enter Tryd.func24, Tryd.ntmps24
  go_wp2_with (fail)
  obtain ⟨W0, hW0⟩ : ∃ W0, w.alloc (.cells #[.pointer none, .slice none 0 0] 61) = W0 := ⟨_, rfl⟩
  obtain ⟨b, hb⟩ : ∃ b, w.heap.size = b := ⟨_, rfl⟩
  have h0 : Bd W0 b b [] ∧ Below b w W0 := by
    rw [← hW0, ← hb]
    exact ⟨Bd.new w, (Below.refl _ w).alloc (Nat.le_refl _) _⟩
  rw [hW0, hb]
  have H0 := Aside0.mk h0
  have HB := Aside0.mk hb
  clear h0 hW0 hb
  go_loopw [6, 7, 8, 11] (fun _ _ _ i w' => ∃ k : Nat, k ≤ ps.length ∧ i = .int .i64 k ∧ Aside0 (Bd w' b b ((ps.take k).flatMap encL) ∧ Below b w w')) (fun _ _ _ i _ => ps.length - (intOf i).toNat)
  case atStart => exact ⟨0, by omega, rfl, ⟨H0.out.1, H0.out.2⟩⟩
  case round =>
    obtain ⟨k, hk, rfl, HQ⟩ := hrel
    by_cases hlt : k < ps.length
    · obtain ⟨p, hp⟩ : ∃ p, ps[k]? = some p := ⟨ps[k], List.getElem?_eq_getElem hlt⟩
      have hcell : ∀ j u, (pkCells p)[j]? = some u → wr.cell? ⟨g, k * 5 + j, none⟩ = some u := fun j u hu => (HQ.out.2.cell (p := ⟨g, k * 5 + j, none⟩) (by show g < b; rw [← HB.out]; exact hgl (by rintro rfl; simp at hlt))).trans (HR.out k p hp j u hu)
      have hc0 : wr.cell? ⟨g, k * 5, none⟩ = _ := hcell 0 _ rfl
      have hc1 := hcell 1 _ rfl
      have hc2 := hcell 2 _ rfl
      have hc3 := hcell 3 _ rfl
      have hc4 := hcell 4 _ rfl
      clear hcell
      go_wp2_with (fail)
      have henc := encode_is p
      unfold pkCells at henc
      obtain ⟨en, hen⟩ : ∃ en : ByteArray, (⟨(encL p).toArray⟩ : ByteArray) = en := ⟨_, rfl⟩
      rw [hen] at henc
      refine (henc _ (HO.out p (List.mem_of_getElem? hp)) (hW.below ?_)).mono ?_
      · rw [HB.out]; exact HQ.out.2.alloc (by have := HQ.out.2.size; have := HB.out; omega) _
      rintro e w2 ⟨rfl, hb2⟩
      have hlen : ((ps.take k).flatMap encL).length ≤ 188 * k := by
        rw [encs_length _ fun p hp => HO.out p (List.mem_of_mem_take hp), List.length_take]; omega
      have hens : en.size = 188 := by rw [← hen]; show (List.toArray _).size = 188; rw [List.size_toArray, encL_length p (HO.out p (List.mem_of_getElem? hp))]
      have hbd2 := (HQ.out.1.alloc (.cells #[.int .i64 p.pid, .bool p.start, .int .i64 p.count, .bool p.bad, .string p.body] 92)).below hb2
      have hbel2 : Below b w w2 := by
        have := HQ.out.2.size
        have := HB.out
        exact (HQ.out.2.alloc (by omega) _).trans (hb2.mono (by simp; omega))
      go_wp2_with (fail)
      refine (bd_write b b _ en w2 hbd2 (by omega) (by have := hbel2.size; have := HB.out; omega)).mono ?_
      rintro e w3 ⟨rfl, hbd3, hb3, -⟩
      have HN : Aside0 (Bd w3 b b ((ps.take (k + 1)).flatMap encL) ∧ Below b w w3) := ⟨by
        refine ⟨?_, hbel2.trans hb3⟩
        rw [List.take_add_one, hp, List.flatMap_append]
        have e : en.data.toList = encL p := by rw [← hen]
        rw [e] at hbd3
        simpa using hbd3⟩
      clear hbd2 hbel2 hbd3 hb3 hb2 hc0 hc1 hc2 hc3 hc4 henc
      go_wp2_with (fail)
      go_roundw
      case rel => exact ⟨k + 1, by omega, by go_num, HN⟩
      case measure => simp [intOf]; omega
    · obtain rfl : k = ps.length := by omega
      go_wp2_with (fail)
      refine (bd_string b b _ wr HQ.out.1 (by have := HQ.out.2.size; have := HB.out; omega)).mono ?_
      rintro e w3 ⟨rfl, -, hb3, -⟩
      have hf := HQ.out.2.trans hb3
      rw [List.take_length]
      go_wp2_with (fail)
      go_ret2
      exact ⟨rfl, by rw [HB.out]; exact hf⟩
end Go.Proofs.YthmddhbccifcoaaDoor.Clar
