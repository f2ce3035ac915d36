/- Common lemmas for the walks of this seat: numbers as bits, and worlds in which one block alone has turned. -/
/- Bits, the highest one of each byte first: no program in sight. -/
/- What a writer of bits (package bits, type Out) does. -/
/- What bits.Out.Put does: the iterator bits.falling, and the range over it. -/
import Derived.Test.YthmddhbccifcoaaDoorProg
import Derived.Test.YthmddhbccifcoaaDoorWWords
import Derived.Test.YthmddhbccifcoaaDoorWMore
import Derived.LaidEqlPtr
import Derived.Lib.Hide
import Derived.Outline
import Derived.Deep.QuietTactic
import Derived.BigQuiet
import Derived.Laws.BitsAllLaws
import Derived.Laws.Bits64b
import Derived.Lib.IndexBytes
import Derived.WalkMore
import Derived.ScopeJumps
import Derived.Lib.UnsafeStr
import Derived.Lib.OthersKept
import Derived.RegionTactic
import Derived.BigRegion
import Derived.RangeFuncNested
import Derived.RangeFuncBound
import Derived.RangeFuncCalls
import Derived.RangeFuncLeaves
import Derived.Shelf.Abstract
import Derived.OwnWalkIn
import Derived.TacticsInMore
import Derived.LoopNIn
import Derived.LoopIn
set_option linter.unusedVariables false
set_option linter.unusedSimpArgs false
namespace Go.Proofs.YthmddhbccifcoaaDoor.Clar
open Go.RowKit Go.Proofs.YthmddhbccifcoaaDoorW.PrintWords Go.Proofs.YthmddhbccifcoaaDoorW.PrintLast Go.Proofs.YthmddhbccifcoaaDoorW.PrintMore

/-! ### Only one block has turned -/
theorem only_drewN {a w : World} {row : Option Nat} (h : a.grownBy w row) (n : Nat) : a.grownBy (w.drewN n) row := ⟨h.os, h.tape, h.output, h.size, h.block⟩
theorem only_drew {a w : World} {row : Option Nat} (h : a.grownBy w row) : a.grownBy w.drew row := ⟨h.os, h.tape, h.output, h.size, h.block⟩
theorem only_alloc {a w : World} {row : Option Nat} (h : a.grownBy w row) (o : Obj) : a.grownBy (w.alloc o) row :=
  ⟨h.os, h.tape, h.output, Nat.le_trans h.size (by simp), fun i hi hne => (Below.heap_alloc w o i (Nat.lt_of_lt_of_le hi h.size)).trans (h.block i hi hne)⟩
theorem only_setCell {a w : World} {g : Nat} (h : a.grownBy w (some g)) {p : Addr} (hp : p.block = g ∨ a.heap.size ≤ p.block) (u : Value) : a.grownBy (w.setCell p u) (some g) :=
  ⟨h.os, h.tape, h.output, by simpa [World.setCell] using h.size, fun i hi hne => (Below.heap_setCell w p u i (by
    rintro rfl
    rcases hp with hp | hp
    · exact hne (by rw [hp])
    · omega)).trans (h.block i hi hne)⟩

/-! ### A quiet call whose contract keeps the caller's world -/
theorem quiet_left {P : Program} {f : FuncId} {args : Array Value} {w : World} {n : Nat} {v : Value}
    (h : Calls P f args (w.drewN n) fun e w' => e = .returned v ∧ w.drewN n = w') : Calls P f args (w.drewN n) fun e w'' => e = .returned v ∧ ∃ m, w'' = w.drewN m :=
  h.mono fun _ _ ⟨he, hm⟩ => ⟨he, n, hm.symm⟩

/-! ### A scope that is gone through by jumps back to one label; a frame of which a few slots are known -/
theorem least_of {p : Nat → Prop} (h : ∃ n, p n) : ∃ n, p n ∧ ∀ m, p m → n ≤ m := by
  obtain ⟨n, hn⟩ := h
  induction n using Nat.strongRecOn with
  | _ n ih =>
    by_cases hs : ∃ m, m < n ∧ p m
    · obtain ⟨m, hm, hp⟩ := hs
      exact ih m hm hp
    · exact ⟨n, hn, fun m hm => Nat.le_of_not_lt fun hlt => hs ⟨m, hlt, hm⟩⟩
open Classical in
/-- What holds at each jump is counted by a number that every pass lowers. -/
theorem wp_scope_from {P : Program} {a : Act} {w : World} {Q : Exit → Act → World → Prop} {c rest : Code} (l : Nat) (J : Nat → Act → World → Prop) (hf : findLabel c l = some rest)
    (pass : ∀ n a w, J n a w → rest.wp P (Exit.jump l (fun a' w' => ∃ m, m < n ∧ J m a' w') Q) a w)
    (first : (∀ n a w, J n a w → rest.wp P (Exit.jump l (fun a' w' => ∃ m, J m a' w') Q) a w) → c.wp P (Exit.jump l (fun a' w' => ∃ m, J m a' w') Q) a w) : (Code.scope c).wp P Q a w := by
  have weak : ∀ {n : Nat} {e : Exit} {a' : Act} {w' : World} {J1 J2 : Act → World → Prop}, (∀ a w, J1 a w → J2 a w) → Exit.jump l J1 Q e a' w' → Exit.jump l J2 Q e a' w' := by
    intro n e a' w' J1 J2 h12 h
    cases e with
    | goto l' => exact ⟨h.1, h12 _ _ h.2⟩
    | normal => exact h
    | exit id => exact h
    | ret => exact h
    | panic ch => exact h
    | outgrown => exact h
  refine wp_scope_jumps l (fun a w => ∃ m, J m a w) (fun a w => if h : ∃ m, J m a w then (least_of h).choose else 0) hf (first fun n a w hJ => wp_mono (pass n a w hJ) fun e a' w' h => weak (n := 0) (fun a w ⟨m, _, h⟩ => ⟨m, h⟩) h) ?_
  intro a w hJ
  refine wp_mono (pass (least_of hJ).choose a w (least_of hJ).choose_spec.1) fun e a' w' h => weak (n := 0) ?_ h
  rintro a w ⟨m, hm, h⟩
  refine ⟨⟨m, h⟩, ?_⟩
  rw [dif_pos ⟨m, h⟩, dif_pos hJ]
  exact Nat.lt_of_le_of_lt ((least_of ⟨m, h⟩).choose_spec.2 m h) hm
theorem wp_scope_lab {P : Program} {a : Act} {w : World} {Q : Exit → Act → World → Prop} {c X : Code} (l : Nat) (J : Nat → Act → World → Prop) (hf : findLabel c l = some (Code.skip.seq X))
    (pass : ∀ n a w, J n a w → X.wp P (Exit.jump l (fun a' w' => ∃ m, m < n ∧ J m a' w') Q) a w)
    (first : (∀ n a w, J n a w → X.wp P (Exit.jump l (fun a' w' => ∃ m, J m a' w') Q) a w) → c.wp P (Exit.jump l (fun a' w' => ∃ m, J m a' w') Q) a w) : (Code.scope c).wp P Q a w := by
  refine wp_scope_from l J hf (fun n a w h => wp_seq (wp_skip (pass n a w h))) fun _ => first fun n a w h => wp_mono (pass n a w h) ?_
  intro e a' w' h
  cases e with
  | goto l' => exact ⟨h.1, by obtain ⟨m, _, h⟩ := h.2; exact ⟨m, h⟩⟩
  | normal => exact h
  | exit id => exact h
  | ret => exact h
  | panic ch => exact h
  | outgrown => exact h
theorem frame_lit (t : Array Value) (n : Nat) (h : t.size = n) : t = ((List.range n).map fun i => t.getD i undef).toArray := by
  apply Array.ext
  · simp [h]
  · intro i h1 h2
    simp [Array.getD, h1]

/-! ### Bits -/
def bitAt (s : ByteArray) (p : Nat) : Nat := (bt s (p / 8 : Nat)).toNat / 2 ^ (7 - p % 8) % 2
def bitsVal (s : ByteArray) (p : Nat) : Nat → Nat
  | 0 => 0
  | n + 1 => 2 * bitsVal s p n + bitAt s (p + n)
theorem bitAt_lt (s : ByteArray) (p : Nat) : bitAt s p < 2 := Nat.mod_lt _ (by omega)
theorem bitsVal_lt (s : ByteArray) (p n : Nat) : bitsVal s p n < 2 ^ n := by
  induction n with
  | zero => simp [bitsVal]
  | succ n ih => have := bitAt_lt s (p + n); simp only [bitsVal, Nat.pow_succ]; omega
theorem u8_and_one (y : Nat) (h : y < 256) : bits .and .u8 (y : Int) 1 = ((y % 2 : Nat) : Int) := by
  rw [show (1 : Int) = ((1 : Nat) : Int) from rfl, u8_and_nat y 1 h (by omega), nat_mask1]
theorem u64_wrap_nat (y : Nat) (h : y < 18446744073709551616) : IntKind.u64.wrap (y : Int) = (y : Int) := by
  rw [IntKind.wrap_u64]; omega
theorem u64_push_bit (x b : Nat) (hx : x < 2 ^ 63) (hb : b < 2) : bits .or .u64 (IntKind.u64.wrap ((x : Int) * 2)) (b : Int) = ((2 * x + b : Nat) : Int) := by
  have hx' : x < 9223372036854775808 := by simpa using hx
  rw [show ((x : Int) * 2) = ((2 * x : Nat) : Int) by omega, u64_wrap_nat _ (by omega), u64_or_nat _ _ (by omega) (by omega), nat_join 1 _ _ (by omega) (by omega)]
theorem get_step (s : ByteArray) (p q k : Nat) (hq : q = p + k) (hk : k < 64) (h : q / 8 < s.size) :
    bits .or .u64 (IntKind.u64.wrap ((bitsVal s p k : Int) * 2)) (IntKind.u64.wrap (bits .and .u8 (((s[q / 8]'h).toNat : Int) / 2 ^ (7 - q % 8)) 1)) = ((bitsVal s p (k + 1) : Nat) : Int) := by
  subst hq
  have hb : (bt s ((p + k) / 8 : Nat)).toNat = (s[(p + k) / 8]'h).toNat := by
    have e : (((p + k) / 8 : Nat) : Int).toNat = (p + k) / 8 := rfl
    unfold bt
    rw [dif_pos (by rw [e]; exact h)]
    rfl
  have h8 : (s[(p + k) / 8]'h).toNat < 256 := (s[(p + k) / 8]'h).toNat_lt
  have e1 : (((s[(p + k) / 8]'h).toNat : Int) / 2 ^ (7 - (p + k) % 8)) = (((s[(p + k) / 8]'h).toNat / 2 ^ (7 - (p + k) % 8) : Nat) : Int) := by simp
  have hlt : (s[(p + k) / 8]'h).toNat / 2 ^ (7 - (p + k) % 8) < 256 := Nat.lt_of_le_of_lt (Nat.div_le_self _ _) h8
  have hba := bitAt_lt s (p + k)
  rw [e1, u8_and_one _ hlt]
  have e2 : (s[(p + k) / 8]'h).toNat / 2 ^ (7 - (p + k) % 8) % 2 = bitAt s (p + k) := by unfold bitAt; rw [hb]
  rw [e2, u64_wrap_nat _ (by omega)]
  refine u64_push_bit _ _ (Nat.lt_of_lt_of_le (bitsVal_lt s p k) (Nat.pow_le_pow_right (by omega) (by omega))) hba

/-! ### Bytes -/
theorem bt_list (s : ByteArray) (i : Nat) : bt s i = ((s.data.toList[i]?.getD 0).toNat : Int) := by
  unfold bt
  by_cases h : i < s.size
  · rw [dif_pos (by simpa using h)]
    have e : s.data.toList[i]? = some (s[i]'h) := Lib.data_getElem? s i h
    rw [e]; rfl
  · rw [dif_neg (by simpa using h), List.getElem?_eq_none (by rw [Array.length_toList]; exact Nat.not_lt.1 h)]; rfl
theorem data_extract (s : ByteArray) (i j : Nat) : (s.extract i j).data.toList = (s.data.toList.take j).drop i := by
  simp [ByteArray.data_extract, List.drop_take]
theorem first_byte (t : ByteArray) (h : 1 ≤ t.size) (c : UInt8) : ((t.extract 0 1).toList == [c]) = decide (bt t 0 = (c.toNat : Int)) := by
  rw [Go.ByteArray.toList_eq, data_extract, show (0 : Int) = ((0 : Nat) : Int) from rfl, bt_list t 0]
  have hl : 1 ≤ t.data.toList.length := by rw [Array.length_toList]; exact h
  cases e : t.data.toList with
  | nil => rw [e] at hl; simp at hl
  | cons a l =>
    simp
    rw [Bool.eq_iff_iff]
    simp
    exact ⟨fun h => by rw [h], fun h => UInt8.toNat_inj.mp (by omega)⟩
theorem size_extract0 (s : ByteArray) (k : Nat) (h : k ≤ s.size) : (s.extract 0 k).size = k := by simp [ByteArray.size_extract]; omega
theorem below_then2 {B B' : Nat} {w w1 w2 : World} (h : Below B w w1) (k : Below B' w1 w2) (hB : B ≤ B') : Below B w w2 := h.trans (k.mono hB)
theorem grown_below {w w1 w2 : World} {row : Option Nat} (h : w.grownBy w1 row) (k : Below w.heap.size w1 w2) : w.grownBy w2 row :=
  ⟨k.os.trans h.os, k.tape.trans h.tape, k.output.trans h.output, Nat.le_trans h.size k.size, fun i hi hn => (k.block i hi).trans (h.block i hi hn)⟩
theorem grown_trans2 {a b c : World} {row : Option Nat} (h : a.grownBy b row) (k : b.grownBy c row) : a.grownBy c row :=
  ⟨k.os.trans h.os, k.tape.trans h.tape, k.output.trans h.output, Nat.le_trans h.size k.size, fun i hi hn => (k.block i (Nat.lt_of_lt_of_le hi h.size) hn).trans (h.block i hi hn)⟩
theorem new_cells (W : World) (cs : List Value) (t : TypeId) : ∀ j u, cs[j]? = some u → (W.alloc (.cells cs.toArray t)).cell? ((⟨W.heap.size, 0, none⟩ : Addr).add j) = some u := by
  intro j u h
  rw [add_plain, blk_cell (blk_new W _) j]
  simpa using h
theorem own_blk_ne {w : World} {base : Nat} {e : TypeId} {size n : Nat} {v : Value} {xs : List Value} {g : Nat} {t : TypeId} {cs : Array Value} (h : w.ownsRow base e size v n xs) (hg : w.heap[g]? = some (.cells cs t (0, 0))) (hne : e ≠ t) : v.ownBlock ≠ some g := by
  rcases h.2 with ⟨rfl, _⟩ | ⟨g', cap, cur, rfl, _, hh, _⟩
  · simp [Value.ownBlock]
  · intro he
    have : g' = g := by simpa [Value.ownBlock] using he
    subst this
    exact blk_ne (t := e) hh hg hne rfl

end Go.Proofs.YthmddhbccifcoaaDoor.Clar
namespace Go.Proofs.YthmddhbccifcoaaDoor.Clar

/-- The lowest n bits of a number, the highest one first. -/
def bitsOf (x : Nat) : Nat → List Nat
  | 0 => []
  | n + 1 => x / 2 ^ n % 2 :: bitsOf x n
theorem bitsOf_length (x n : Nat) : (bitsOf x n).length = n := by
  induction n with
  | zero => rfl
  | succ n ih => simp [bitsOf, ih]
theorem bitsOf_lt (x n : Nat) : ∀ b ∈ bitsOf x n, b < 2 := by
  induction n with
  | zero => intro b h; simp [bitsOf] at h
  | succ n ih =>
    intro b h
    simp only [bitsOf, List.mem_cons] at h
    rcases h with rfl | h
    · exact Nat.mod_lt _ (by omega)
    · exact ih b h
/-- Up to eight bits as a byte, bits 0 behind. -/
def byteOf (l : List Nat) : Nat := l.foldl (fun a b => 2 * a + b) 0 * 2 ^ (8 - l.length)
/-- Bits as bytes, bits 0 behind. -/
def bytesOfN : Nat → List Nat → List UInt8
  | 0, _ => []
  | n + 1, l => if l = [] then [] else UInt8.ofNat (byteOf (l.take 8)) :: bytesOfN n (l.drop 8)
def bytesOfBits (l : List Nat) : List UInt8 := bytesOfN l.length l
theorem bytesOfN_nil (n : Nat) : bytesOfN n [] = [] := by cases n <;> simp [bytesOfN]
theorem bytesOfN_more (n k : Nat) (l : List Nat) (h : l.length ≤ n) (h2 : l.length ≤ k) : bytesOfN n l = bytesOfN k l := by
  induction n generalizing k l with
  | zero =>
    have : l = [] := List.eq_nil_of_length_eq_zero (by omega)
    subst this
    rw [bytesOfN_nil, bytesOfN_nil]
  | succ n ih =>
    by_cases hl : l = []
    · subst hl; rw [bytesOfN_nil, bytesOfN_nil]
    · have hp := List.length_pos_iff.2 hl
      obtain ⟨j, rfl⟩ : ∃ j, k = j + 1 := ⟨k - 1, by omega⟩
      simp only [bytesOfN, if_neg hl]
      rw [ih j _ (by simp only [List.length_drop]; omega) (by simp only [List.length_drop]; omega)]
theorem bytesOfBits_cons (l : List Nat) (h : l ≠ []) : bytesOfBits l = UInt8.ofNat (byteOf (l.take 8)) :: bytesOfBits (l.drop 8) := by
  have hp := List.length_pos_iff.2 h
  obtain ⟨n, hn⟩ : ∃ n, l.length = n + 1 := ⟨l.length - 1, by omega⟩
  unfold bytesOfBits
  rw [hn]
  simp only [bytesOfN, if_neg h]
  rw [bytesOfN_more n (l.drop 8).length (l.drop 8) (by simp only [List.length_drop]; omega) (Nat.le_refl _)]
theorem bytesOfBits_nil : bytesOfBits [] = [] := rfl
theorem foldl_bits (l : List Nat) (a : Nat) : l.foldl (fun a b => 2 * a + b) a = a * 2 ^ l.length + l.foldl (fun a b => 2 * a + b) 0 := by
  induction l generalizing a with
  | nil => simp
  | cons b l ih =>
    simp only [List.foldl_cons, List.length_cons]
    rw [ih (2 * a + b), ih (2 * 0 + b), Nat.pow_succ, Nat.add_mul, Nat.mul_zero, Nat.zero_add, ← Nat.add_assoc]
    congr 2
    rw [Nat.mul_comm 2 a, Nat.mul_assoc, Nat.mul_comm 2]
theorem foldl_bitsOf (x n : Nat) (h : x < 2 ^ n) : (bitsOf x n).foldl (fun a b => 2 * a + b) 0 = x := by
  have key : ∀ n, (bitsOf x n).foldl (fun a b => 2 * a + b) 0 = x % 2 ^ n := by
    intro n
    induction n with
    | zero => simp [bitsOf, Nat.mod_one]
    | succ n ih =>
      simp only [bitsOf, List.foldl_cons]
      rw [foldl_bits, bitsOf_length, ih, Nat.mul_zero, Nat.zero_add, Nat.pow_succ]
      have h1 := Nat.div_add_mod x (2 ^ n)
      have h2 : x % (2 ^ n * 2) = 2 ^ n * (x / 2 ^ n % 2) + x % 2 ^ n := by rw [Nat.mod_mul]; omega
      rw [h2, Nat.mul_comm]
  rw [key n, Nat.mod_eq_of_lt h]
/-- A bit more: a new byte. -/
theorem bytesOfBits_new (l : List Nat) (b : Nat) (h : l.length % 8 = 0) : bytesOfBits (l ++ [b]) = bytesOfBits l ++ [UInt8.ofNat (byteOf [b])] := by
  induction hn : l.length using Nat.strongRecOn generalizing l with
  | _ n ih =>
    by_cases hl : l = []
    · subst hl; rfl
    · have hp := List.length_pos_iff.2 hl
      rw [bytesOfBits_cons (l ++ [b]) (by simp), bytesOfBits_cons l hl]
      rw [List.take_append_of_le_length (by omega), List.drop_append_of_le_length (by omega)]
      rw [ih (l.drop 8).length (by simp only [List.length_drop]; omega) (l.drop 8) (by simp only [List.length_drop]; omega) rfl]
      rfl
theorem bytesOfBits_length (l : List Nat) : (bytesOfBits l).length = (l.length + 7) / 8 := by
  induction hn : l.length using Nat.strongRecOn generalizing l with
  | _ n ih =>
    by_cases hl : l = []
    · subst hl; subst hn; rfl
    · have hp := List.length_pos_iff.2 hl
      rw [bytesOfBits_cons l hl, List.length_cons, ih (l.drop 8).length (by simp only [List.length_drop]; omega) (l.drop 8) rfl]
      simp only [List.length_drop]; omega
/-- A bit more: in the last byte. -/
theorem bytesOfBits_in (l : List Nat) (b : Nat) (h : l.length % 8 ≠ 0) :
    bytesOfBits (l ++ [b]) = (bytesOfBits l).take ((bytesOfBits l).length - 1) ++ [UInt8.ofNat (byteOf (l.drop (l.length / 8 * 8) ++ [b]))] ∧
    bytesOfBits l = (bytesOfBits l).take ((bytesOfBits l).length - 1) ++ [UInt8.ofNat (byteOf (l.drop (l.length / 8 * 8)))] := by
  induction hn : l.length using Nat.strongRecOn generalizing l with
  | _ n ih =>
    have hl : l ≠ [] := by rintro rfl; simp at h
    have hp := List.length_pos_iff.2 hl
    by_cases h8 : l.length < 8
    · rw [bytesOfBits_cons (l ++ [b]) (by simp), bytesOfBits_cons l hl]
      rw [List.take_of_length_le (l := l) (by omega), List.take_of_length_le (l := l ++ [b]) (by simp; omega), List.drop_of_length_le (l := l) (by omega), List.drop_of_length_le (l := l ++ [b]) (by simp; omega)]
      rw [bytesOfBits_nil, ← hn, show l.length / 8 * 8 = 0 by omega]
      simp
    · have hd : (l.drop 8).length = l.length - 8 := List.length_drop
      obtain ⟨h1, h2⟩ := ih (l.drop 8).length (by omega) (l.drop 8) (by omega) rfl
      rw [bytesOfBits_cons (l ++ [b]) (by simp), bytesOfBits_cons l hl]
      rw [List.take_append_of_le_length (by omega), List.drop_append_of_le_length (by omega)]
      have hlen := bytesOfBits_length (l.drop 8)
      have hpos : 0 < (bytesOfBits (l.drop 8)).length := by rw [hlen]; omega
      obtain ⟨m, hm⟩ : ∃ m, (bytesOfBits (l.drop 8)).length = m + 1 := ⟨_, (Nat.succ_pred_eq_of_pos hpos).symm⟩
      rw [hd] at h1 h2
      have e1 : (l.drop 8).drop ((l.length - 8) / 8 * 8) = l.drop (l.length / 8 * 8) := by
        rw [List.drop_drop]; congr 1; omega
      rw [e1] at h1 h2
      rw [hm] at h1 h2
      simp only [Nat.add_sub_cancel] at h1 h2
      rw [← hn]
      simp only [List.length_cons, hm, Nat.add_sub_cancel, List.take_succ_cons]
      rw [h1]
      refine ⟨rfl, ?_⟩
      rw [List.cons_append, ← h2]
/-- A whole byte ahead. -/
theorem bytesOfBits_byte (x : Nat) (l : List Nat) (h : x < 256) : bytesOfBits (bitsOf x 8 ++ l) = UInt8.ofNat x :: bytesOfBits l := by
  have hlen : (bitsOf x 8).length = 8 := bitsOf_length x 8
  rw [bytesOfBits_cons _ (by intro h; have := congrArg List.length h; simp [hlen] at this)]
  rw [List.take_append_of_le_length (by omega), List.drop_append_of_le_length (by omega), List.take_of_length_le (by omega), List.drop_of_length_le (by omega)]
  unfold byteOf
  rw [foldl_bitsOf x 8 h, hlen]
  simp
/-- Two numbers' bits are one number's. -/
theorem bitsOf_append (a b m n : Nat) (hb : b < 2 ^ n) : bitsOf a m ++ bitsOf b n = bitsOf (a * 2 ^ n + b) (m + n) := by
  induction m with
  | zero =>
    simp only [bitsOf, List.nil_append, Nat.zero_add]
    have key : ∀ k, k ≤ n → bitsOf b k = bitsOf (a * 2 ^ n + b) k := by
      intro k
      induction k with
      | zero => intro _; rfl
      | succ k ih =>
        intro hk
        simp only [bitsOf]
        rw [ih (by omega)]
        have e : (a * 2 ^ n + b) / 2 ^ k = a * 2 ^ (n - k) + b / 2 ^ k := by
          rw [show n = (n - k) + k by omega, Nat.pow_add, ← Nat.mul_assoc, Nat.mul_comm, Nat.mul_add_div (Nat.two_pow_pos k), show n - k + k - k = n - k by omega]
        rw [e, show n - k = (n - k - 1) + 1 by omega, Nat.pow_succ, ← Nat.mul_assoc, Nat.mul_comm _ 2, Nat.mul_add_mod]
    exact key n (Nat.le_refl n)
  | succ m ih =>
    rw [show m + 1 + n = (m + n) + 1 by omega]
    simp only [bitsOf, List.cons_append]
    rw [ih]
    congr 2
    rw [show m + n = n + m by omega, Nat.pow_add, ← Nat.div_div_eq_div_mul, Nat.mul_comm a, Nat.mul_add_div (Nat.two_pow_pos n), Nat.div_eq_of_lt hb, Nat.add_zero]
theorem fold_lt (l : List Nat) (h : ∀ b ∈ l, b < 2) : l.foldl (fun a b => 2 * a + b) 0 < 2 ^ l.length := by
  induction l with
  | nil => simp
  | cons b l ih =>
    have h1 := ih fun x hx => h x (by simp [hx])
    have h2 := h b (by simp)
    simp only [List.foldl_cons, List.length_cons]
    rw [foldl_bits, Nat.pow_succ]
    have : (2 * 0 + b) * 2 ^ l.length ≤ 1 * 2 ^ l.length := Nat.mul_le_mul_right _ (by omega)
    omega
theorem byteOf_lt (l : List Nat) (h : ∀ b ∈ l, b < 2) (hl : l.length ≤ 8) : byteOf l < 256 := by
  have h1 := fold_lt l h
  unfold byteOf
  have h2 : 2 ^ l.length * 2 ^ (8 - l.length) = 256 := by rw [← Nat.pow_add, show l.length + (8 - l.length) = 8 by omega]
  calc _ < 2 ^ l.length * 2 ^ (8 - l.length) := Nat.mul_lt_mul_of_pos_right h1 (Nat.two_pow_pos _)
    _ = 256 := h2
theorem byteOf_snoc (l : List Nat) (b : Nat) (hl : l.length < 8) : byteOf (l ++ [b]) = byteOf l + b * 2 ^ (7 - l.length) ∧ byteOf l % 2 ^ (8 - l.length) = 0 := by
  unfold byteOf
  simp only [List.foldl_append, List.foldl_cons, List.foldl_nil, List.length_append, List.length_cons, List.length_nil]
  refine ⟨?_, Nat.mul_mod_left _ _⟩
  rw [show 8 - l.length = (8 - (l.length + (0 + 1))) + 1 by omega, show 7 - l.length = 8 - (l.length + (0 + 1)) by omega, Nat.pow_succ, Nat.add_mul]
  congr 1
  rw [Nat.mul_comm 2, Nat.mul_assoc, Nat.mul_comm 2]
end Go.Proofs.YthmddhbccifcoaaDoor.Clar
namespace Go.Proofs.YthmddhbccifcoaaDoor.Clar
open Go.RowKit Go.Proofs.YthmddhbccifcoaaDoorW.PrintWords Go.Proofs.YthmddhbccifcoaaDoorW.PrintLast Go.Proofs.YthmddhbccifcoaaDoorW.PrintMore

/-- Block o is a bits.Out of the call's own (from block B on) that holds these bits. -/
def OutAt (w : World) (B o : Nat) (bs : List Nat) : Prop :=
  B ≤ o ∧ ∃ v, w.heap[o]? = some (.cells #[v, .int .i64 bs.length] 109 (0, 0)) ∧ w.ownsRow B 5 1 v (bytesOfBits bs).length (Lib.byteCells (bytesOfBits bs))
theorem infoU8 : (Tryd.prog.info? 5).map (fun i => (i.zero, i.size, i.bytes)) = some (some (.int .u8 0), 1, 1) := by kernel_rfl

theorem blk_row_frozen {w : World} {base : Nat} {e : TypeId} {n : Nat} {v : Value} {xs : List Value} (h : w.ownsRow base e 1 v n xs) {g : Nat} (hg : v.ownBlock = some g) (i : Nat) : w.frozen? ⟨g, i, none⟩ = false := by
  rcases h.2 with ⟨rfl, _⟩ | ⟨g', cap, cur, rfl, _, hh, _⟩
  · simp [Value.ownBlock] at hg
  · have : g' = g := by simpa [Value.ownBlock] using hg
    subst this
    exact blk_frozen hh i
theorem own_kind {w : World} {base : Nat} {e : TypeId} {size n : Nat} {v : Value} {xs : List Value} (h : w.ownsRow base e size v n xs) : ∀ g, v.ownBlock = some g → ∃ c fz, w.heap[g]? = some (.cells c e fz) := by
  intro g hg
  rcases h.2 with ⟨rfl, _⟩ | ⟨g', cap, cur, rfl, _, hh, _⟩
  · simp [Value.ownBlock] at hg
  · have : g' = g := by simpa [Value.ownBlock] using hg
    subst this
    exact ⟨cur, _, hh⟩
theorem add_end {W : World} {B o g2 m cap n j : Nat} {y : Int} {xs : List Value} {bs : List Nat} {b : Nat} (hBo : B ≤ o) (hg2 : B ≤ g2) (hne : g2 ≠ o)
    (hk : W.heap[o]? = some (.cells #[.slice (some ⟨g2, 0, none⟩) m cap, .int .i64 n] 109 (0, 0))) (hown : W.ownsRow B 5 1 (.slice (some ⟨g2, 0, none⟩) m cap) m xs)
    (hn : n = bs.length) (hm : m = (bytesOfBits (bs ++ [b])).length) (hx : xs.set j (.int .u8 y) = Lib.byteCells (bytesOfBits (bs ++ [b]))) :
    OutAt ((W.setCell ⟨g2, j, none⟩ (.int .u8 y)).setCell ⟨o, 1, none⟩ (.int .i64 ((n : Int) + 1))) B o (bs ++ [b]) ∧ Below B W ((W.setCell ⟨g2, j, none⟩ (.int .u8 y)).setCell ⟨o, 1, none⟩ (.int .i64 ((n : Int) + 1))) ∧
      Lib.OthersKept 5 (some o) W ((W.setCell ⟨g2, j, none⟩ (.int .u8 y)).setCell ⟨o, 1, none⟩ (.int .i64 ((n : Int) + 1))) := by
  obtain ⟨h1, h2⟩ := hown.stored j (.int .u8 y)
  have hk2 := blk_far hk (p := ⟨g2, j, none⟩) (Ne.symm hne) (.int .u8 y)
  refine ⟨⟨hBo, .slice (some ⟨g2, 0, none⟩) m cap, ?_, ?_⟩, ((Below.refl B W).setCell hg2 _).setCell hBo _, ((Lib.OthersKept.refl _ _ W).grown h2 (own_kind hown)).setCell ⟨o, 1, none⟩ rfl _⟩
  · have := blk_set hk2 1 (.int .i64 ((n : Int) + 1))
    rw [show (((bs ++ [b]).length : Nat) : Int) = (n : Int) + 1 by simp; omega]
    exact this
  · rw [← hx, ← hm]
    exact ownsRow_setCell_other h1 (by simp [Value.ownBlock, hne]) _

set_option maxHeartbeats 2000000 in
set_option maxRecDepth 100000 in
theorem add_new (B o : Nat) (bs : List Nat) (b : Nat) (hb : b < 2) (w : World) (h : OutAt w B o bs) (hB : B ≤ w.heap.size) (hlen : bs.length ≤ 1000000000) (h8 : bs.length % 8 = 0) :
    Calls Tryd.prog 61 #[.pointer (some ⟨o, 0, none⟩), .int .u8 b] w fun e w' => e = .returned (.tuple #[]) ∧ OutAt w' B o (bs ++ [b]) ∧ Below B w w' ∧ Lib.OthersKept 5 (some o) w w' := by
  obtain ⟨hBo, v, hk, hown⟩ := h
  obtain ⟨i0, hi, hz0, hz1, hz2⟩ := info_parts infoU8
  have hc0 := blk_cell hk 0
  have hc1 := blk_cell hk 1
  have hf0 := blk_frozen hk 0
  have hf1 := blk_frozen hk 1
  obtain ⟨n, hn⟩ : ∃ n, bs.length = n := ⟨_, rfl⟩
  obtain ⟨m, hm⟩ : ∃ m, (bytesOfBits bs).length = m := ⟨_, rfl⟩
  rw [hn] at hc0 hc1 h8 hk
  rw [hm] at hown
  have hm1 : m ≤ 1000000000 := by rw [← hm, bytesOfBits_length]; omega
  have hn1 : n ≤ 1000000000 := by omega
  have hd : ((n : Int) % 8 == 0) = true := by simp; omega
  have HK := Aside0.mk hk
  have HO := Aside0.mk hown
  have HN := Aside0.mk hn
  have HM := Aside0.mk hm
  clear hk hown hn hm hlen
  go_enter Tryd.func61, Tryd.ntmps61
  go_wp2_with (at_builtin; refine wpList_append_own _ rfl _ _ 42 rfl B 5 i0 (.int .u8 0) 1 1 Tryd.underlying42 hi hz0 hz1 hz2 rfl (by decide) _ _ _ rfl (HO.out.alloc _) ⟨w.heap.size, 0, none⟩ 1 1 [.int .u8 0] rfl rfl ?c1 ?c2 ?c3 ?c4 ?c5 ?_)
  case c1 => exact new_cells _ _ _
  case c2 => intro u hu; simp at hu; subst hu; rfl
  case c3 => unfold maxLen; omega
  case c4 => omega
  case c5 => simp; omega
  intro v' w1 hown1 hgr1 _
  obtain ⟨g2, cap, rfl, hg2, hg2l⟩ := hown1.form (by omega)
  have hk1 := blk_grown (blk_alloc HK.out (.cells #[.int .u8 0] 5)) hgr1 (fun e => own_blk_ne HO.out HK.out (by decide) e.symm)
  have hne : g2 ≠ o := fun e => own_blk_ne hown1 hk1 (by decide) (by rw [← e]; rfl)
  have hlast := hown1.cells (g := g2) rfl m (.int .u8 0) (by rw [List.getElem?_append_right (by rw [Lib.byteCells_length, HM.out]; exact Nat.le_refl _), Lib.byteCells_length, HM.out]; simp)
  rw [add_plain] at hlast
  have hfz := blk_row_frozen hown1 (g := g2) rfl m
  have hc0' := blk_cell hk1 0
  have hc1' := blk_cell hk1 1
  have hf0' := blk_frozen hk1 0
  have hf1' := blk_frozen hk1 1
  have HB1 : Aside0 (Below B w w1) := ⟨((Below.refl B w).alloc hB _).grown hgr1 (by simp; omega) fun k hk => (HO.out.lt k hk).1⟩
  have HKO : Aside0 (Lib.OthersKept 5 (some o) w w1) := ⟨((Lib.OthersKept.refl _ _ w).alloc _).grown hgr1 (own_kind (HO.out.alloc _))⟩
  have HK1 := Aside0.mk hk1
  have HO1 := Aside0.mk hown1
  clear hk1 hown1 hgr1 hc0 hc1 hf0 hf1
  have hp1 : (0 : Int) ≤ 7 - (n : Int) % 8 := by omega
  have hp2 : (n : Int) % 8 = 0 := by omega
  have H8 := Aside0.mk h8
  clear h8
  go_wp2
  go_region
  go_wp2
  go_end0
  refine ⟨rfl, ?_⟩
  have hy : bits .or .u8 0 ((b : Int) * 128) = ((byteOf [b] : Nat) : Int) := by
    rcases (show b = 0 ∨ b = 1 by omega) with rfl | rfl <;> rfl
  rw [hy]
  have hbs : bytesOfBits (bs ++ [b]) = bytesOfBits bs ++ [UInt8.ofNat (byteOf [b])] := bytesOfBits_new bs b (by rw [HN.out]; exact H8.out)
  have hlt : byteOf [b] < 256 := by rcases (show b = 0 ∨ b = 1 by omega) with rfl | rfl <;> decide
  have hf := add_end (W := w1.setCell ⟨o, 0, none⟩ (.slice (some ⟨g2, 0, none⟩) (m + 1) cap)) (j := m) (n := n) (y := (byteOf [b] : Nat)) (bs := bs) (b := b) hBo hg2 hne (blk_set HK1.out 0 _) (ownsRow_setCell_other HO1.out (by simp [Value.ownBlock, hne]) _) HN.out.symm (by rw [hbs, List.length_append, HM.out]; rfl) (by
    rw [hbs, Lib.byteCells_append, List.set_append_right _ _ (by rw [Lib.byteCells_length, HM.out]; exact Nat.le_refl _), Lib.byteCells_length, HM.out]
    simp [Lib.byteCells, Nat.mod_eq_of_lt hlt])
  exact ⟨hf.1, ((HB1.out.setCell hBo _).trans hf.2.1).drew, ((HKO.out.setCell ⟨o, 0, none⟩ rfl _).trans hf.2.2).drew⟩

set_option maxHeartbeats 2000000 in
set_option maxRecDepth 100000 in
theorem add_in (B o : Nat) (bs : List Nat) (b : Nat) (hb : b < 2) (hbs : ∀ x ∈ bs, x < 2) (w : World) (h : OutAt w B o bs) (hlen : bs.length ≤ 1000000000) (h8 : bs.length % 8 ≠ 0) :
    Calls Tryd.prog 61 #[.pointer (some ⟨o, 0, none⟩), .int .u8 b] w fun e w' => e = .returned (.tuple #[]) ∧ OutAt w' B o (bs ++ [b]) ∧ Below B w w' ∧ Lib.OthersKept 5 (some o) w w' := by
  obtain ⟨hBo, v, hk, hown⟩ := h
  obtain ⟨n, hn⟩ : ∃ n, bs.length = n := ⟨_, rfl⟩
  obtain ⟨m, hm⟩ : ∃ m, (bytesOfBits bs).length = m + 1 := ⟨(bytesOfBits bs).length - 1, by rw [bytesOfBits_length]; omega⟩
  rw [hn] at hk h8 hlen
  rw [hm] at hown
  obtain ⟨g2, cap, rfl, hg2, hg2l⟩ := hown.form (by omega)
  obtain ⟨last, hlast⟩ : ∃ last, byteOf (bs.drop (n / 8 * 8)) = last := ⟨_, rfl⟩
  have hdl : (bs.drop (n / 8 * 8)).length = n % 8 := by rw [List.length_drop, hn]; omega
  have hdb : ∀ x ∈ bs.drop (n / 8 * 8), x < 2 := fun x hx => hbs x (List.mem_of_mem_drop hx)
  have hl256 : last < 256 := by rw [← hlast]; exact byteOf_lt _ hdb (by omega)
  obtain ⟨hin1, hin2⟩ := bytesOfBits_in bs b (by rw [hn]; exact h8)
  rw [hn, hm, hlast, Nat.add_sub_cancel] at hin2
  rw [hn, hm, Nat.add_sub_cancel] at hin1
  obtain ⟨hs1, hs2⟩ := byteOf_snoc (bs.drop (n / 8 * 8)) b (by omega)
  rw [hlast, hdl] at hs1 hs2
  have hm2 : m ≤ 1000000000 := by have := bytesOfBits_length bs; omega
  have htk : ((bytesOfBits bs).take m).length = m := by rw [List.length_take]; omega
  have hcl : w.cell? ⟨g2, m, none⟩ = some (.int .u8 (last : Int)) := by
    have := hown.cells (g := g2) rfl m (.int .u8 (last : Int)) (by
      rw [hin2, Lib.byteCells_append, List.getElem?_append_right (by rw [Lib.byteCells_length, htk]; exact Nat.le_refl _), Lib.byteCells_length, htk]
      simp [Lib.byteCells, Nat.mod_eq_of_lt hl256])
    rwa [add_plain] at this
  have hfz := blk_row_frozen hown (g := g2) rfl m
  have hne : g2 ≠ o := fun e => own_blk_ne hown hk (by decide) (by rw [← e]; rfl)
  have hc0 := blk_cell hk 0
  have hc1 := blk_cell hk 1
  have hf0 := blk_frozen hk 0
  have hf1 := blk_frozen hk 1
  have hd : ((n : Int) % 8 == 0) = false := by simp; omega
  have hp1 : (0 : Int) ≤ 7 - (n : Int) % 8 := by omega
  have HK := Aside0.mk hk
  have HO := Aside0.mk hown
  have HN := Aside0.mk hn
  have HM := Aside0.mk hm
  have HI1 := Aside0.mk hin1
  have HI2 := Aside0.mk hin2
  have HS1 := Aside0.mk hs1
  have HS2 := Aside0.mk hs2
  have HT := Aside0.mk htk
  have H8 := Aside0.mk h8
  clear hk hown hn hm hin1 hin2 hs1 hs2 htk hdl hdb hlast hbs h8
  go_enter Tryd.func61, Tryd.ntmps61
  go_wp2
  go_region
  go_wp2
  go_end0
  refine ⟨rfl, ?_⟩
  have hpw : 2 ^ (8 - n % 8) = 2 * 2 ^ (7 - n % 8) := by rw [show 8 - n % 8 = (7 - n % 8) + 1 by omega, Nat.pow_succ, Nat.mul_comm]
  have hpw2 : 2 ^ (8 - n % 8) ≤ 128 := Nat.le_trans (Nat.pow_le_pow_right (by omega) (show 8 - n % 8 ≤ 7 by have := H8.out; omega)) (by decide)
  have hsm : b * 2 ^ (7 - n % 8) < 2 ^ (8 - n % 8) := by
    rcases (show b = 0 ∨ b = 1 by omega) with rfl | rfl
    · rw [Nat.zero_mul]; exact Nat.two_pow_pos _
    · have := Nat.two_pow_pos (7 - n % 8); omega
  have hy : bits .or .u8 (last : Int) ((b : Int) * 2 ^ (7 - n % 8) % 256) = ((last + b * 2 ^ (7 - n % 8) : Nat) : Int) := by
    rw [show ((b : Int) * 2 ^ (7 - n % 8) % 256) = ((b * 2 ^ (7 - n % 8) : Nat) : Int) by
      have e : ((b * 2 ^ (7 - n % 8) : Nat) : Int) = (b : Int) * 2 ^ (7 - n % 8) := by simp
      rw [← e]; omega]
    rw [u8_or_nat _ _ hl256 (by omega), nat_join (8 - n % 8) _ _ HS2.out hsm]
  rw [hy, ← HS1.out]
  have hlt : byteOf (bs.drop (n / 8 * 8) ++ [b]) < 256 := by
    rw [HS1.out]
    obtain ⟨q, hq⟩ : ∃ q, last = 2 ^ (8 - n % 8) * q := ⟨last / 2 ^ (8 - n % 8), by have := Nat.div_add_mod last (2 ^ (8 - n % 8)); have := HS2.out; omega⟩
    obtain ⟨r, hr⟩ : ∃ r, 256 = 2 ^ (8 - n % 8) * r := ⟨2 ^ (n % 8), by rw [← Nat.pow_add, show 8 - n % 8 + n % 8 = 8 by omega]⟩
    have h1 : q < r := Nat.lt_of_mul_lt_mul_left (a := 2 ^ (8 - n % 8)) (by omega)
    have h2 : 2 ^ (8 - n % 8) * (q + 1) ≤ 2 ^ (8 - n % 8) * r := Nat.mul_le_mul_left _ h1
    rw [Nat.mul_add] at h2
    omega
  have hf := add_end (j := m) (n := n) (y := (byteOf (bs.drop (n / 8 * 8) ++ [b]) : Nat)) (bs := bs) (b := b) hBo hg2 hne HK.out HO.out HN.out.symm (by rw [HI1.out, List.length_append, HT.out]; rfl) (by
    rw [HI1.out, HI2.out, Lib.byteCells_append, Lib.byteCells_append, List.take_append_of_le_length (by rw [HT.out]; exact Nat.le_refl _), List.take_take, Nat.min_self, List.set_append_right _ _ (by rw [Lib.byteCells_length, HT.out]; exact Nat.le_refl _), Lib.byteCells_length, HT.out]
    simp [Lib.byteCells, Nat.mod_eq_of_lt hlt])
  exact ⟨hf.1, hf.2.1.drew, hf.2.2.drew⟩
theorem add_any (B o : Nat) (bs : List Nat) (b : Nat) (hb : b < 2) (hbs : ∀ x ∈ bs, x < 2) (w : World) (h : OutAt w B o bs) (hB : B ≤ w.heap.size) (hlen : bs.length ≤ 1000000000) :
    Calls Tryd.prog 61 #[.pointer (some ⟨o, 0, none⟩), .int .u8 b] w fun e w' => e = .returned (.tuple #[]) ∧ OutAt w' B o (bs ++ [b]) ∧ Below B w w' ∧ Lib.OthersKept 5 (some o) w w' := by
  by_cases h8 : bs.length % 8 = 0
  · exact add_new B o bs b hb w h hB hlen h8
  · exact add_in B o bs b hb hbs w h hlen h8
end Go.Proofs.YthmddhbccifcoaaDoor.Clar
namespace Go.Proofs.YthmddhbccifcoaaDoor.Clar
open Go.RowKit Go.Proofs.YthmddhbccifcoaaDoorW.PrintWords Go.Proofs.YthmddhbccifcoaaDoorW.PrintLast Go.Proofs.YthmddhbccifcoaaDoorW.PrintMore
attribute [local go_sem] Oper.semAt_some

theorem falling_any (x n : Int) (w : World) :
    Calls Tryd.prog 60 #[.int .u64 x, .int .i64 n] w fun e w' =>
      e = .returned (.func (.func 68) #[] #[.pointer (some ⟨w.heap.size + 1, 0, none⟩), .pointer (some ⟨w.heap.size, 0, none⟩)]) ∧
      w' = (w.alloc (.cells #[.int .u64 x] 112)).alloc (.cells #[.int .i64 n] 3) := by
  go_enter Tryd.func60, Tryd.ntmps60
  go_wp2
  go_ret
  exact ⟨rfl, rfl⟩

theorem u64_and_one (x c : Nat) (hx : x < 2 ^ 64) : bits .and .u64 ((x : Int) / 2 ^ c) 1 % 256 = (x : Int) / 2 ^ c % 2 := by
  have h1 : x / 2 ^ c < 18446744073709551616 := Nat.lt_of_le_of_lt (Nat.div_le_self _ _) (by simpa using hx)
  have h2 : ((x : Int) / 2 ^ c) = ((x / 2 ^ c : Nat) : Int) := by simp
  rw [h2, show (1 : Int) = ((1 : Nat) : Int) from rfl, u64_and_nat _ 1 h1 (by omega), nat_mask1]
  omega
set_option maxHeartbeats 2000000 in
set_option maxRecDepth 100000 in
theorem fall1_any (l bn bx N x : Nat) (hx : x < 2 ^ 64) (hN : N ≤ 64) (hne : bn ≠ bx) (J : Nat → World → Prop)
    (hst : ∀ c W v, J c W → J c (W.setCell ⟨bn, 0, none⟩ v))
    (hY : ∀ c W, c < N → J (c + 1) W → YieldAt Fence.wide 1 Tryd.prog l #[.int .u8 ((x / 2 ^ c % 2 : Nat) : Int)] W fun e W' => e = .returned (.bool true) ∧ J c W' ∧ W'.heap[bn]? = W.heap[bn]? ∧ W'.heap[bx]? = W.heap[bx]?)
    (W : World) (hbn : W.heap[bn]? = some (.cells #[.int .i64 N] 3 (0, 0))) (hbx : W.heap[bx]? = some (.cells #[.int .u64 x] 112 (0, 0))) (h0 : J N W) :
    CallsIn Fence.wide 2 Tryd.prog 68 #[.func (.yield l) #[] #[], .pointer (some ⟨bn, 0, none⟩), .pointer (some ⟨bx, 0, none⟩)] W fun e W' => (∃ v, e = .returned v) ∧ J 0 W' := by
  refine callsIn_of_wp Tryd.func68 rfl trivial ?_ rfl
  simp only [Tryd.ntmps68, List.size_toArray, List.length_cons, List.length_nil, Nat.reduceAdd, Nat.reduceSub, Array.replicate_succ, Array.replicate_zero, List.push_toArray, List.append_toArray, List.nil_append, List.cons_append]
  gi_wp2
  gi_loopw [4] (fun _ wr => ∃ c : Nat, c ≤ N ∧ wr.heap[bn]? = some (.cells #[.int .i64 c] 3 (0, 0)) ∧ wr.heap[bx]? = some (.cells #[.int .u64 x] 112 (0, 0)) ∧ J c wr)
    (fun _ wr => (intOf ((wr.cell? ⟨bn, 0, none⟩).getD undef)).toNat)
  case atStart => exact ⟨N, Nat.le_refl _, hbn, hbx, h0⟩
  case round =>
    obtain ⟨c, hc, hn, hx1, hJ⟩ := hrel
    have hc0 := blk_cell hn 0
    have hf0 := blk_frozen hn 0
    cases c with
    | zero =>
      gi_wp2
      go_end0
      exact ⟨⟨_, rfl⟩, hJ⟩
    | succ c =>
      obtain ⟨W1, hW1⟩ : ∃ W1, wr.setCell ⟨bn, 0, none⟩ (.int .i64 c) = W1 := ⟨_, rfl⟩
      have hn1 : W1.heap[bn]? = some (.cells #[.int .i64 c] 3 (0, 0)) := by rw [← hW1]; exact blk_set hn 0 _
      have hb1 : W1.heap[bx]? = some (.cells #[.int .u64 x] 112 (0, 0)) := by rw [← hW1]; exact blk_far hx1 (p := ⟨bn, 0, none⟩) (Ne.symm hne) _
      have hJ1 : J (c + 1) W1 := by rw [← hW1]; exact hst _ _ _ hJ
      obtain ⟨fn, tmps, assign, body, hy, hR⟩ := hY c W1 (by omega) hJ1
      have hd0 := blk_cell hn1 0
      have hd1 := blk_cell hb1 0
      have he0 := blk_frozen hn1 0
      have hbit : bits .and .u64 ((x : Int) / 2 ^ c) 1 % 256 = (x : Int) / 2 ^ c % 2 := u64_and_one x c hx
      rw [show ((x / 2 ^ c % 2 : Nat) : Int) = (x : Int) / 2 ^ c % 2 by simp] at hy
      gi_wp2
      refine hR.mono ?_
      rintro e W3 ⟨rfl, hJ3, hn3, hx3⟩
      rw [hn1] at hn3
      rw [hb1] at hx3
      have hk0 := blk_cell hn3 0
      gi_wp2
      go_roundw
      case rel => exact ⟨c, by omega, hn3, hx3, hJ3⟩
      case measure =>
        rw [hk0, hc0]
        show (c : Int).toNat < ((c + 1 : Nat) : Int).toNat
        omega

theorem OutAt.putObj {w : World} {B o : Nat} {bs : List Nat} (h : OutAt w B o bs) {l : Nat} {ob : Obj} (hl : w.heap[l]? = some ob) (hc : ob.isCells = false) (ob' : Obj) : OutAt (w.putObj l ob') B o bs := by
  obtain ⟨hBo, v, hk, hown⟩ := h
  refine ⟨hBo, v, ?_, ownsRow_putObj hown ob' hl hc⟩
  rw [World.putObj_heap_other]
  · exact hk
  · rintro rfl
    rw [hk] at hl
    cases hl
    simp [Obj.isCells] at hc
theorem OutAt.alloc {w : World} {B o : Nat} {bs : List Nat} (h : OutAt w B o bs) (ob : Obj) : OutAt (w.alloc ob) B o bs := by
  obtain ⟨hBo, v, hk, hown⟩ := h
  exact ⟨hBo, v, blk_alloc hk ob, hown.alloc ob⟩
theorem OutAt.drew {w : World} {B o : Nat} {bs : List Nat} (h : OutAt w B o bs) : OutAt w.drew B o bs := h
theorem OutAt.setCell {w : World} {B o : Nat} {bs : List Nat} (h : OutAt w B o bs) {c : Array Value} {t : TypeId} {fz : Nat × Nat} {p : Addr} (hp : w.heap[p.block]? = some (.cells c t fz)) (h1 : p.block ≠ o) (h2 : t ≠ 5) (u : Value) : OutAt (w.setCell p u) B o bs := by
  obtain ⟨hBo, v, hk, hown⟩ := h
  exact ⟨hBo, v, blk_far hk (Ne.symm h1) u, ownsRow_setCell_other hown (fun e => by
    obtain ⟨c', fz', h'⟩ := own_kind hown _ e
    rw [hp] at h'
    cases h'
    exact h2 rfl) u⟩
/-- What stood in w0 and is no row of bytes, nor block o, stands. -/
theorem others_putObj {e : TypeId} {b : Option Nat} {a w : World} (h : Lib.OthersKept e b a w) {l : Nat} (hl : a.heap.size ≤ l) (ob : Obj) : Lib.OthersKept e b a (w.putObj l ob) := by
  intro k x hk hb hx
  have := (Array.getElem?_eq_some_iff.1 hk).1
  rw [World.putObj_heap_other (by omega)]
  exact h k x hk hb hx
theorem others_setNew {e : TypeId} {b : Option Nat} {a w : World} (h : Lib.OthersKept e b a w) {p : Addr} (hp : a.heap.size ≤ p.block) (u : Value) : Lib.OthersKept e b a (w.setCell p u) := by
  intro k x hk hb hx
  have := (Array.getElem?_eq_some_iff.1 hk).1
  rw [Below.heap_setCell _ _ _ _ (by omega)]
  exact h k x hk hb hx

structure PutAt (w0 : World) (B o N : Nat) (bs : List Nat) (x : Nat) (lp : Loop) (c : Nat) (W : World) : Prop where
  out : OutAt W B o (bs ++ (bitsOf x N).take (N - c))
  box : W.heap[w0.heap.size]? = some (.cells #[.pointer (some ⟨o, 0, none⟩)] 121 (0, 0))
  nbox : ∃ v, W.heap[w0.heap.size + 2]? = some (.cells #[v] 3 (0, 0))
  dfr : W.heap[w0.heap.size + 3]? = some (.deferred (some []))
  lop : W.heap[w0.heap.size + 4]? = some (.loop lp)
  bel : Below B w0 W
  oth : Lib.OthersKept 5 (some o) w0 W
  xbox : W.heap[w0.heap.size + 1]? = some (.cells #[.int .u64 x] 112 (0, 0))
theorem bitsOf_take_succ (x N c : Nat) (h : c < N) : (bitsOf x N).take (N - c) = (bitsOf x N).take (N - (c + 1)) ++ [x / 2 ^ c % 2] := by
  induction N with
  | zero => omega
  | succ N ih =>
    by_cases hc : c = N
    · subst hc
      rw [show c + 1 - c = 1 by omega, show c + 1 - (c + 1) = 0 by omega]
      simp [bitsOf]
    · rw [show N + 1 - c = (N - c) + 1 by omega, show N + 1 - (c + 1) = (N - (c + 1)) + 1 by omega]
      simp only [bitsOf, List.take_succ_cons, List.cons_append]
      rw [ih (by omega)]

/-- A range over a closure, in an activation of the wide fence: what its calls keep (I), and where the walk goes on. -/
theorem wide_rangeFunc {P : Program} {n : Nat} {g : Tmp} {ps : Array Tmp} {assign body : Code} {Q : Exit → Act → World → Prop} {a : Act} {w : World} (f : FuncId) (cap : Array Value) (hg : a.tmps[g]?.getD undef = .func (.func f) #[] cap) (hinv : ∀ l W, (invoke (.fn (.func f) cap) #[.func (.yield l) #[] #[]]).run P W = .ok (.enter f ((#[Value.func (Fn.yield l) #[] #[]] : Array Value) ++ cap)) W) (I : Loop → World → Prop)
    (hcall : ∀ fn lp, lp = { state := .ready, pending := none, fn, tmps := a.tmps, params := ps, assign, body, defers := w.heap.size } →
      CallsIn Fence.wide (n - 1) P f ((#[Value.func (Fn.yield (w.heap.size + 1)) #[] #[]] : Array Value) ++ cap) ((w.alloc (.deferred (some []))).alloc (.loop lp)) fun e W2 => (∃ v, e = .returned v) ∧ W2.heap[w.heap.size + 1]? = some (.loop lp) ∧ I lp W2)
    (hdone : ∀ lp lp' W2, W2.heap[w.heap.size + 1]? = some (.loop lp) → I lp W2 → Q .normal { a with defers := [{ target := .collected w.heap.size, args := #[] }] ++ a.defers } (W2.putObj (w.heap.size + 1) (.loop lp'))) :
    (Code.rangeFunc (.tmp g) ps assign body).wpIn Fence.wide n P Q a w := by
  refine wpIn_rangeFunc ?_
  intro fn hfn
  obtain ⟨lp, hlp⟩ : ∃ lp : Loop, lp = { state := .ready, pending := none, fn, tmps := a.tmps, params := ps, assign, body, defers := w.heap.size } := ⟨_, rfl⟩
  have hc := hcall fn lp hlp
  rw [show (Fence.wide.round) = none from rfl]
  obtain ⟨W1, hW1⟩ : ∃ W1, (w.alloc (.deferred (some []))).alloc (.loop lp) = W1 := ⟨_, rfl⟩
  rw [hW1] at hc
  refine ⟨w.heap.size + 1, [{ target := .collected w.heap.size, args := #[] }], W1, { target := .fn (.func f) cap, args := #[.func (.yield (w.heap.size + 1)) #[] #[]] }, W1, f, (#[Value.func (Fn.yield (w.heap.size + 1)) #[] #[]] : Array Value) ++ cap, W1, ?_, ?_, ?_, ?_, fun h => by simp [Fence.wide] at h, hc.mono ?_⟩
  · rw [← hW1, hlp]; exact run_enterLoop_outer _ _ _ _ _
  · simp [resolve, hg, go_sem]
  · intro f' _; exact trivial
  · exact hinv _ _
  · rintro e W2 ⟨⟨v, rfl⟩, h1, h2⟩
    refine ⟨none, _, ?_, hdone lp { lp with state := .exhausted } W2 h1 h2⟩
    have := run_endLoop (P := P) h1 (by rw [hlp]; simp)
    rw [this, hlp]

set_option maxHeartbeats 2000000 in
set_option maxRecDepth 100000 in
theorem put_any (B o : Nat) (bs : List Nat) (x N : Nat) (hx : x < 2 ^ 64) (hN : N ≤ 64) (hbs : ∀ b ∈ bs, b < 2) (w : World) (h : OutAt w B o bs) (hB : B ≤ w.heap.size) (hlen : bs.length ≤ 1000000) :
    Calls Tryd.prog 50 #[.pointer (some ⟨o, 0, none⟩), .int .u64 x, .int .i64 N] w fun e w' => e = .returned (.int .i64 0) ∧ OutAt w' B o (bs ++ bitsOf x N) ∧ Below B w w' ∧ Lib.OthersKept 5 (some o) w w' := by
  refine (callsIn_wide (n := 4)).1 ?_
  refine callsIn_of_wp_marks Tryd.func50 rfl trivial ?_ rfl
  simp only [Tryd.ntmps50, List.size_toArray, List.length_cons, List.length_nil, Nat.reduceAdd, Nat.reduceSub, Array.replicate_succ, Array.replicate_zero, List.push_toArray, List.append_toArray, List.nil_append, List.cons_append]
  gi_wp2_with (refine ⟨trivial, ?_⟩; gi_at_call 60; refine (callsIn_wide.2 (falling_any _ _ _)).mono ?_; rintro e w' ⟨rfl, rfl⟩)
  obtain ⟨W0, hW0⟩ : ∃ W0, ((w.alloc (.cells #[.pointer (some ⟨o, 0, none⟩)] 121)).alloc (.cells #[.int .u64 x] 112)).alloc (.cells #[.int .i64 N] 3) = W0 := ⟨_, rfl⟩
  have hs : W0.heap.size = w.heap.size + 3 := by rw [← hW0]; simp
  have hob : o < w.heap.size := by obtain ⟨_, v, hk, _⟩ := h; exact (Array.getElem?_eq_some_iff.1 hk).1
  have hP0 : OutAt W0 B o bs ∧ W0.heap[w.heap.size]? = some (.cells #[.pointer (some ⟨o, 0, none⟩)] 121 (0, 0)) ∧ W0.heap[w.heap.size + 1]? = some (.cells #[.int .u64 x] 112 (0, 0)) ∧ W0.heap[w.heap.size + 2]? = some (.cells #[.int .i64 N] 3 (0, 0)) ∧ Below B w W0 ∧ Lib.OthersKept 5 (some o) w W0 := by
    rw [← hW0]
    refine ⟨((h.alloc _).alloc _).alloc _, blk_alloc (blk_alloc (blk_new w _) _) _, ?_, ?_, (((Below.refl B w).alloc hB _).alloc (by simp; omega) _).alloc (by simp; omega) _, (((Lib.OthersKept.refl _ _ w).alloc _).alloc _).alloc _⟩
    · refine blk_alloc ?_ _
      have := blk_new (w.alloc (.cells #[.pointer (some ⟨o, 0, none⟩)] 121)) (.cells #[.int .u64 x] 112)
      simpa using this
    · have := blk_new ((w.alloc (.cells #[.pointer (some ⟨o, 0, none⟩)] 121)).alloc (.cells #[.int .u64 x] 112)) (.cells #[.int .i64 N] 3)
      simpa using this
  rw [hW0]
  clear hW0
  obtain ⟨hO0, hb0, hx0, hn0, hB0, hK0⟩ := hP0
  refine wide_rangeFunc 68 _ rfl (fun l W => by simp [invoke, go_sem]) (fun lp W => PutAt w B o N bs x lp 0 W) ?_ ?_
  · intro fn lp hlp
    have ha1 := congrArg Loop.assign hlp
    have ha2 := congrArg Loop.body hlp
    have ha3 := congrArg Loop.params hlp
    have ha4 := congrArg Loop.tmps hlp
    have ha5 := congrArg Loop.state hlp
    have ha6 := congrArg Loop.pending hlp
    dsimp only at ha1 ha2 ha3 ha4 ha5 ha6
    clear hlp
    rw [hs]
    obtain ⟨W1, hW1⟩ : ∃ W1, (W0.alloc (.deferred (some []))).alloc (.loop lp) = W1 := ⟨_, rfl⟩
    have hI0 : PutAt w B o N bs x lp N W1 ∧ W1.heap[w.heap.size + 1]? = some (.cells #[.int .u64 x] 112 (0, 0)) ∧ W1.heap[w.heap.size + 2]? = some (.cells #[.int .i64 N] 3 (0, 0)) := by
      rw [← hW1]
      refine ⟨⟨?_, blk_alloc (blk_alloc hb0 _) _, ⟨_, blk_alloc (blk_alloc hn0 _) _⟩, ?_, ?_, (hB0.alloc (by omega) _).alloc (by simp; omega) _, (hK0.alloc _).alloc _, blk_alloc (blk_alloc hx0 _) _⟩, blk_alloc (blk_alloc hx0 _) _, blk_alloc (blk_alloc hn0 _) _⟩
      · rw [Nat.sub_self, List.take_zero, List.append_nil]; exact (hO0.alloc _).alloc _
      · have := blk_alloc (blk_new W0 (.deferred (some []))) (.loop lp)
        rwa [hs] at this
      · have := blk_new (W0.alloc (.deferred (some []))) (.loop lp)
        rw [World.size_alloc, hs] at this
        exact this
    rw [hW1]
    clear hW1
    refine callsIn_wide.2 (Calls.mono (callsIn_wide.1 (fall1_any (w.heap.size + 4) (w.heap.size + 2) (w.heap.size + 1) N x hx hN (by omega) (PutAt w B o N bs x lp) ?st ?yield W1 hI0.2.2 hI0.2.1 hI0.1)) fun e W2 h => ⟨h.1, h.2.lop, h.2⟩)
    case st =>
      intro c W v hJ
      obtain ⟨v1, hv1⟩ := hJ.nbox
      exact ⟨hJ.out.setCell (p := ⟨w.heap.size + 2, 0, none⟩) hv1 (by simp; omega) (by decide) v, blk_far hJ.box (by simp) v, ⟨v, by have := blk_set hv1 0 v; simpa using this⟩, (Below.heap_setCell W ⟨w.heap.size + 2, 0, none⟩ v _ (show w.heap.size + 3 ≠ w.heap.size + 2 by omega)).trans hJ.dfr, (Below.heap_setCell W ⟨w.heap.size + 2, 0, none⟩ v _ (show w.heap.size + 4 ≠ w.heap.size + 2 by omega)).trans hJ.lop, hJ.bel.setCell (by simp; omega) v, others_setNew hJ.oth (by simp) v, blk_far hJ.xbox (p := ⟨w.heap.size + 2, 0, none⟩) (show w.heap.size + 1 ≠ w.heap.size + 2 by omega) v⟩
    case yield =>
      intro c W hc hJ
      obtain ⟨b, hbdef⟩ : ∃ b, x / 2 ^ c % 2 = b := ⟨_, rfl⟩
      have hb2 : b < 2 := by rw [← hbdef]; exact Nat.mod_lt _ (by omega)
      have htk := bitsOf_take_succ x N c hc
      rw [hbdef] at htk ⊢
      refine ⟨lp.fn, _, lp.assign, lp.body, run_yield hJ.lop (by rw [ha3]; rfl), ?_⟩
      rw [ha1, ha2, ha3, ha4]
      refine roundIn_of_wpIn trivial ?_
      have hbr := run_beginRound (P := Tryd.prog) hJ.lop ha5
      have hl : w.heap.size + 4 < W.heap.size := (Array.getElem?_eq_some_iff.1 hJ.lop).1
      obtain ⟨W2, hW2⟩ : ∃ W2, W.putObj (w.heap.size + 4) (.loop { lp with state := .busy }) = W2 := ⟨_, rfl⟩
      rw [hW2] at hbr
      have h2 : OutAt W2 B o (bs ++ (bitsOf x N).take (N - (c + 1))) ∧ W2.heap[w.heap.size]? = some (.cells #[.pointer (some ⟨o, 0, none⟩)] 121 (0, 0)) ∧ (∀ k, k ≠ w.heap.size + 4 → W2.heap[k]? = W.heap[k]?) ∧ W2.heap[w.heap.size + 4]? = some (.loop { lp with state := .busy }) ∧ Below B w W2 ∧ Lib.OthersKept 5 (some o) w W2 ∧ B ≤ W2.heap.size := by
        rw [← hW2]
        refine ⟨hJ.out.putObj hJ.lop rfl _, ?_, fun k hk => World.putObj_heap_other hk, World.putObj_heap_same hl, hJ.bel.trans (belowK_b hB W _ _ _ (by omega) hJ.lop rfl rfl), others_putObj hJ.oth (by omega) _, by simp; omega⟩
        rw [World.putObj_heap_other (by omega)]; exact hJ.box
      clear hW2
      obtain ⟨hO2, hx2, hk2, hl2, hB2, hK2, hs2⟩ := h2
      have hcell := blk_cell hx2 0
      have hg := add_any B o (bs ++ (bitsOf x N).take (N - (c + 1))) b hb2 (fun y hy => by
        rcases List.mem_append.1 hy with hy | hy
        · exact hbs y hy
        · exact bitsOf_lt x N y (List.mem_of_mem_take hy)) W2 hO2 hs2 (by simp; have := bitsOf_length x N; omega)
      gi_wp2
      refine ⟨_, hbr, ?_⟩
      gi_wp2_with (refine ⟨trivial, ?_⟩; gi_at_call 61; refine (CallsIn.inRound (w.heap.size + 4) (callsIn_wide.2 hg)).mono ?_)
      rintro e W3 ⟨rfl, hO3, hB3, hK3⟩
      gi_wp2
      obtain ⟨v1, hv1⟩ := hJ.nbox
      have hl3 := hK3 _ _ hl2 (by simp; omega) (by intro c fz h; cases h)
      have hx3 := hK3 _ _ hx2 (by simp; omega) (by intro c fz h; cases h)
      have hn3 := hK3 _ _ ((hk2 _ (by omega)).trans hv1) (by simp; omega) (by intro c fz h; cases h)
      have hd3 := hK3 _ _ ((hk2 _ (by omega)).trans hJ.dfr) (by simp; omega) (by intro c fz h; cases h)
      have hxx : W3.heap[w.heap.size + 1]? = W.heap[w.heap.size + 1]? := by
        rw [hJ.xbox]
        exact hK3 _ _ ((hk2 _ (by omega)).trans hJ.xbox) (by simp; omega) (by intro c fz h; cases h)
      have hlt : w.heap.size + 4 < W3.heap.size := (Array.getElem?_eq_some_iff.1 hl3).1
      have hend := run_endRound (P := Tryd.prog) none hl3
      refine ⟨_, _, hend, rfl, ⟨?_, ?_, ⟨v1, ?_⟩, ?_, ?_, ?_, ?_, ?_⟩, ?_, ?_⟩
      · have := hO3.putObj hl3 rfl (.loop { lp with state := .ready, pending := none })
        rw [List.append_assoc, ← htk] at this
        exact this
      · rw [World.putObj_heap_other (by omega)]; exact hx3
      · rw [World.putObj_heap_other (by omega)]; exact hn3
      · rw [World.putObj_heap_other (by omega)]; exact hd3
      · have := World.putObj_heap_same (o := .loop { lp with state := .ready, pending := none }) hlt
        rw [show lp = { lp with state := .ready, pending := none } by rw [← ha5, ← ha6]]
        exact this
      · exact (hB2.trans hB3).trans (belowK_b hB W3 _ _ _ (by omega) hl3 rfl rfl)
      · exact others_putObj (hK2.trans hK3) (by omega) _
      · rw [World.putObj_heap_other (by omega), hxx]; exact hJ.xbox
      · rw [World.putObj_heap_other (by omega), hn3, hv1]
      · rw [World.putObj_heap_other (by omega), hxx]
  · intro lp lp' W2 hl hI
    rw [hs] at hl
    have hI' : OutAt (W2.putObj (W0.heap.size + 1) (.loop lp')) B o (bs ++ bitsOf x N) ∧ (W2.putObj (W0.heap.size + 1) (.loop lp')).heap[W0.heap.size]? = some (.deferred (some [])) ∧ Below B w (W2.putObj (W0.heap.size + 1) (.loop lp')) ∧ Lib.OthersKept 5 (some o) w (W2.putObj (W0.heap.size + 1) (.loop lp')) := by
      rw [hs]
      refine ⟨?_, ?_, hI.bel.trans (belowK_b hB W2 _ _ _ (by omega) hl rfl rfl), others_putObj hI.oth (by omega) _⟩
      · have := hI.out.putObj hl rfl (.loop lp')
        rwa [Nat.sub_zero, List.take_of_length_le (by rw [bitsOf_length]; exact Nat.le_refl _)] at this
      · rw [World.putObj_heap_other (by omega)]; exact hI.dfr
    generalize W2.putObj (W0.heap.size + 1) (.loop lp') = W3 at hI' ⊢
    obtain ⟨hO3, hd3, hB3, hK3⟩ := hI'
    gi_wp2
    refine ⟨by simp, .inl ⟨_, _, rfl, run_takeDeferred hd3, ?_⟩⟩
    refine ⟨_, results_tmp rfl _ _ _, rfl, hO3.putObj hd3 rfl _, hB3.trans (belowK_b hB W3 _ _ _ (by omega) hd3 rfl rfl), others_putObj hK3 (by omega) _⟩
end Go.Proofs.YthmddhbccifcoaaDoor.Clar
