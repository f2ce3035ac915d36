/- The library's strings.Repeat and strings.Builder at this program, out of the shelf's contracts: the laying by the shelf's plain mode, turned into marks by mkshelf.py. -/
/- How sections are packed, as plain functions on bytes: no program in sight. -/
/- (*packer.stream).take, by what it answers and what it leaves. -/
/- (*packer.stream).next, by what it answers and what it leaves. -/
/- What bits.Out.Text and bits.Out.String do. -/
import Derived.Shelf.Strings.Builder1
import Derived.Shelf.Strings.Builder2
import Derived.Shelf.Strings.BuilderF
import Derived.Shelf.Strings.BuilderK
import Derived.Shelf.Strings.Repeat
import Derived.Test.YthmddhbccifcoaaDoorProg
import Derived.Test.YthmddhbccifcoaaDoorGLA
import Derived.RegionTactic
import Derived.BigRegion
set_option linter.unusedVariables false
set_option linter.unusedSimpArgs false
namespace Go.Proofs.YthmddhbccifcoaaDoor.Clar
open Go.Shelf
def lays105_ren : Go.Shelf.Ren := ⟨fun | 105 => 37 | 212 => 54 | 99 => 55 | 165 => 56 | 166 => 21 | 170 => 20 | 169 => 25 | 263 => 62 | 264 => 63 | 206 => 64 | 240 => 35 | 241 => 65 | 276 => 47 | 277 => 69 | n => n, fun | 9 => 9 | 3 => 3 | 4 => 4 | 20 => 20 | 0 => 0 | 46 => 115 | 109 => 116 | 5 => 5 | 72 => 61 | 76 => 66 | 51 => 102 | 146 => 126 | 53 => 112 | 148 => 128 | 70 => 59 | 37 => 42 | 75 => 65 | 127 => 98 | 164 => 104 | 80 => 68 | n => n, fun | n => n⟩
theorem lays105 : Go.Proofs.Lays.n105 Tryd.prog lays105_ren := {
  mixed := by kernel_rfl
  f99 := Tryd.func55.trans (congrArg some (by kernel_rfl))
  f105 := Tryd.func37.trans (congrArg some (by kernel_rfl))
  f165 := Tryd.func56.trans (congrArg some (by kernel_rfl))
  f166 := Tryd.func21.trans (congrArg some (by kernel_rfl))
  f169 := Tryd.func25.trans (congrArg some (by kernel_rfl))
  f170 := Tryd.func20.trans (congrArg some (by kernel_rfl))
  f206 := Tryd.func64.trans (congrArg some (by kernel_rfl))
  f212 := Tryd.func54.trans (congrArg some (by kernel_rfl))
  f240 := Tryd.func35.trans (congrArg some (by kernel_rfl))
  f241 := Tryd.func65.trans (congrArg some (by kernel_rfl))
  f263 := Tryd.func62.trans (congrArg some (by kernel_rfl))
  f264 := Tryd.func63.trans (congrArg some (by kernel_rfl))
  f276 := Tryd.func47.trans (congrArg some (by kernel_rfl))
  f277 := Tryd.func69.trans (congrArg some (by kernel_rfl))
  t0 := Tryd.underlying0
  a0 := Tryd.isAgg0
  z0 := Tryd.sizeOf0
  v0 := Tryd.zeroValue0
  t3 := Tryd.underlying3
  a3 := Tryd.isAgg3
  z3 := Tryd.sizeOf3
  v3 := Tryd.zeroValue3
  t4 := Tryd.underlying4
  a4 := Tryd.isAgg4
  z4 := Tryd.sizeOf4
  v4 := Tryd.zeroValue4
  t5 := Tryd.underlying5
  a5 := Tryd.isAgg5
  z5 := Tryd.sizeOf5
  v5 := Tryd.zeroValue5
  t9 := Tryd.underlying9
  a9 := Tryd.isAgg9
  z9 := Tryd.sizeOf9
  v9 := Tryd.zeroValue9
  t20 := Tryd.underlying20
  a20 := Tryd.isAgg20
  z20 := Tryd.sizeOf20
  v20 := Tryd.zeroValue20
  t37 := Tryd.underlying42
  a37 := Tryd.isAgg42
  z37 := Tryd.sizeOf42
  v37 := Tryd.zeroValue42
  t46 := Tryd.underlying115
  a46 := Tryd.isAgg115
  z46 := Tryd.sizeOf115
  v46 := Tryd.zeroValue115
  t51 := Tryd.underlying102
  a51 := Tryd.isAgg102
  z51 := Tryd.sizeOf102
  v51 := Tryd.zeroValue102
  t53 := Tryd.underlying112
  a53 := Tryd.isAgg112
  z53 := Tryd.sizeOf112
  v53 := Tryd.zeroValue112
  t70 := Tryd.underlying59
  a70 := Tryd.isAgg59
  z70 := Tryd.sizeOf59
  v70 := Tryd.zeroValue59
  t72 := Tryd.underlying61
  a72 := Tryd.isAgg61
  z72 := Tryd.sizeOf61
  v72 := Tryd.zeroValue61
  t75 := Tryd.underlying65
  a75 := Tryd.isAgg65
  z75 := Tryd.sizeOf65
  v75 := Tryd.zeroValue65
  t76 := Tryd.underlying66
  a76 := Tryd.isAgg66
  z76 := Tryd.sizeOf66
  v76 := Tryd.zeroValue66
  t109 := Tryd.underlying116
  a109 := Tryd.isAgg116
  z109 := Tryd.sizeOf116
  v109 := Tryd.zeroValue116
  t127 := Tryd.underlying98
  a127 := Tryd.isAgg98
  z127 := Tryd.sizeOf98
  v127 := Tryd.zeroValue98
  t146 := Tryd.underlying126
  a146 := Tryd.isAgg126
  z146 := Tryd.sizeOf126
  v146 := Tryd.zeroValue126
  t148 := Tryd.underlying128
  a148 := Tryd.isAgg128
  z148 := Tryd.sizeOf128
  v148 := Tryd.zeroValue128
  t164 := Tryd.underlying104
  a164 := Tryd.isAgg104
  z164 := Tryd.sizeOf104
  v164 := Tryd.zeroValue104 }
theorem Builder_Extra_105 : Builder.Extra Tryd.prog lays105_ren := {
  sizeBuilder := by kernel_rfl
  liesBuilder := by kernel_rfl
  t5 := Tryd.underlying5
  a5 := Tryd.isAgg5
  z5 := Tryd.sizeOf5
  v5 := Tryd.zeroValue5
  infoByte := by kernel_rfl
  cellsByte := by kernel_rfl
  sizeByte := by kernel_rfl
  neB5 := by decide }
theorem repeat_any (s : ByteArray) (c : Nat) (w : World) (hc : c ≤ 9223372036854775807) (hlen : s.size * c ≤ 140737488355328) :
    Calls Tryd.prog 37 #[.string s, .int .i64 c] w fun e w' => e = .returned (.string ⟨(Lib.repeatL s.data.toList c).toArray⟩) ∧ Go.RowKit.Below w.heap.size w w' := Any.strings_Repeat lays105 Builder_Extra_105 s c w hc hlen
open Go.RowKit

/-- Block b is a strings.Builder of the call's own (from block B on) that holds the bytes l. -/
def Bd (w : World) (B b : Nat) (l : List UInt8) : Prop := Lib.IsBuilderF 61 5 B b (Lib.byteCells l) w
theorem Bd.new (w : World) : Bd (w.alloc (.cells #[.pointer none, .slice none 0 0] 61)) w.heap.size w.heap.size [] := Lib.IsBuilderF.of (Lib.fresh_isBuilder _ _ w)
theorem Bd.blk {w : World} {B b : Nat} {l : List UInt8} (h : Bd w B b l) : B ≤ b ∧ ∃ p v, w.heap[b]? = some (.cells #[p, v] 61 (0, 0)) := by
  rcases h with ⟨hB, v, hb, _⟩ | ⟨hB, v, hb, _⟩
  · exact ⟨hB, _, v, hb⟩
  · exact ⟨hB, _, v, hb⟩
theorem Bd.lt {w : World} {B b : Nat} {l : List UInt8} (h : Bd w B b l) : b < w.heap.size := by
  obtain ⟨_, p, v, hb⟩ := h.blk
  exact (Array.getElem?_eq_some_iff.1 hb).1
theorem bdAt_below {w w' : World} {B b : Nat} {p : Value} {bs : List Value} (h : Lib.BuilderAtF 61 5 B b p bs w) (hb : Below w.heap.size w w') : Lib.BuilderAtF 61 5 B b p bs w' := by
  have hlt := h.lt
  obtain ⟨hB, v, hk, hown, hne⟩ := h
  exact ⟨hB, v, (hb.block b hlt).trans hk, hown.kept (row := none) ⟨hb.os, hb.tape, hb.output, hb.size, fun i hi _ => hb.block i hi⟩ (by cases hv : v.ownBlock <;> simp), hne⟩
theorem Bd.below {w w' : World} {B b : Nat} {l : List UInt8} (h : Bd w B b l) (hb : Below w.heap.size w w') : Bd w' B b l :=
  h.elim (fun x => .inl (bdAt_below x hb)) (fun x => .inr (bdAt_below x hb))
theorem Bd.alloc {w : World} {B b : Nat} {l : List UInt8} (h : Bd w B b l) (o : Obj) : Bd (w.alloc o) B b l := h.below ((Below.refl _ _).alloc (Nat.le_refl _) o)
theorem Bd.drewN {w : World} {B b : Nat} {l : List UInt8} (h : Bd w B b l) (n : Nat) : Bd (w.drewN n) B b l := h
/-- Another block, not of the buffer's make, is written. -/
theorem Bd.far {w : World} {B b : Nat} {l : List UInt8} (h : Bd w B b l) {g : Nat} {cs : Array Value} {t : TypeId} (hg : w.heap[g]? = some (.cells cs t (0, 0))) (h1 : t ≠ 61) (h2 : t ≠ 5) (i : Nat) (u : Value) : Bd (w.setCell ⟨g, i, none⟩ u) B b l := by
  have key : ∀ p, Lib.BuilderAtF 61 5 B b p (Lib.byteCells l) w → Lib.BuilderAtF 61 5 B b p (Lib.byteCells l) (w.setCell ⟨g, i, none⟩ u) := by
    rintro p ⟨hB, v, hk, hown, hne⟩
    refine ⟨hB, v, (Below.heap_setCell _ _ _ _ ?_).trans hk, hown.kept (row := some g) ⟨rfl, rfl, rfl, by simp [World.setCell], fun k _ hk => Below.heap_setCell _ _ _ _ (fun e => hk (by simp [e]))⟩ (Or.inr ?_), hne⟩
    · rintro rfl
      rw [hg] at hk; simp at hk; exact h1 hk.2
    · intro e
      rcases hown.2 with ⟨rfl, _⟩ | ⟨g', cap, cur, fz, rfl, _, hgg, _⟩
      · simp [Value.ownBlock] at e
      · simp [Value.ownBlock] at e
        subst e
        rw [hg] at hgg; simp at hgg; exact h2 hgg.2.1
  exact h.elim (fun x => .inl (key _ x)) (fun x => .inr (key _ x))
theorem byteCells_length (l : List UInt8) : (Lib.byteCells l).length = l.length := by simp [Lib.byteCells]
theorem bd_write (B b : Nat) (l : List UInt8) (s : ByteArray) (w : World) (h : Bd w B b l) (hlen : l.length + s.size ≤ 140737488355328) (hBw : B ≤ w.heap.size) :
    Calls Tryd.prog 21 #[.pointer (some ⟨b, 0, none⟩), .string s] w fun e w' => e = .returned (.tuple #[.int .i64 s.size, .nilIface]) ∧ Bd w' B b (l ++ s.data.toList) ∧ Below B w w' ∧ Lib.OthersKept 5 (some b) w w' := by
  refine (Any.Builder_WriteString_k { lays105 with } Builder_Extra_105 B b _ s w h (by rw [byteCells_length]; exact hlen) hBw).mono ?_
  rintro e w' ⟨rfl, h1, h2, h3⟩
  refine ⟨rfl, .inr ?_, h2, h3⟩
  have e1 : Lib.byteCells (l ++ s.data.toList) = Lib.byteCells l ++ Lib.strCells s := by simp [Lib.byteCells, Lib.strCells]
  rw [e1]; exact h1
theorem bd_len (B b : Nat) (l : List UInt8) (w : World) (h : Bd w B b l) :
    Calls Tryd.prog 20 #[.pointer (some ⟨b, 0, none⟩)] w fun e w' => e = .returned (.int .i64 l.length) ∧ w = w' := by
  refine (Any.Builder_Len_f { lays105 with } B b _ w h).mono ?_
  rintro e w' ⟨rfl, rfl⟩
  exact ⟨by rw [byteCells_length], rfl⟩
theorem bd_string (B b : Nat) (l : List UInt8) (w : World) (h : Bd w B b l) (hBw : B ≤ w.heap.size) :
    Calls Tryd.prog 25 #[.pointer (some ⟨b, 0, none⟩)] w fun e w' => e = .returned (.string ⟨l.toArray⟩) ∧ Bd w' B b l ∧ Below B w w' ∧ Lib.OthersKept 5 (some b) w w' := by
  refine (Any.Builder_String_any_k { lays105 with } Builder_Extra_105 B b l w h hBw).mono ?_
  rintro e w' ⟨rfl, h1, h2, h3⟩
  exact ⟨rfl, h1, h2, h3⟩
end Go.Proofs.YthmddhbccifcoaaDoor.Clar
namespace Go.Proofs.YthmddhbccifcoaaDoor.Clar

/-- Up to m bytes of what is left of a section that is begun, and of those behind; what is left of the one that was begun last; those behind it. -/
def takeL : Nat → List UInt8 → List ByteArray → List UInt8 × List UInt8 × List ByteArray
  | m, left, [] => (left.take m, left.drop m, [])
  | m, left, s :: l => if left.length < m then (left ++ (takeL (m - left.length) s.data.toList l).1, (takeL (m - left.length) s.data.toList l).2) else (left.take m, left.drop m, s :: l)
def takeF (m : Nat) (left : List UInt8) (l : List ByteArray) : List UInt8 × List UInt8 × List ByteArray :=
  match left, l with
  | [], s :: l => takeL m s.data.toList l
  | left, l => takeL m left l
theorem takeF_cons (m : Nat) (s : ByteArray) (l : List ByteArray) : takeF m [] (s :: l) = takeL m s.data.toList l := rfl
theorem takeF_left (m : Nat) (left : List UInt8) (l : List ByteArray) (h : left ≠ [] ∨ l = []) : takeF m left l = takeL m left l := by
  unfold takeF
  split
  · simp at h
  · rfl
/-- One round: what is begun is taken up to m; if that is all of it, and there is more room and more to take, it goes on. -/
theorem takeL_more (m : Nat) (left : List UInt8) (l : List ByteArray) (h : l ≠ []) (hm : left.length < m) : takeL m left l = (left ++ (takeF (m - left.length) [] l).1, (takeF (m - left.length) [] l).2) := by
  cases l with
  | nil => exact absurd rfl h
  | cons s l => simp only [takeL, if_pos hm, takeF_cons]
theorem takeL_done (m : Nat) (left : List UInt8) (l : List ByteArray) (h : l = [] ∨ m ≤ left.length) : takeL m left l = (left.take m, left.drop m, l) := by
  cases l with
  | nil => rfl
  | cons s l =>
    simp only [takeL]
    rw [if_neg (by rcases h with h | h <;> first | cases h | omega)]
theorem takeL_len (m : Nat) (left : List UInt8) (l : List ByteArray) : (takeL m left l).1.length ≤ m := by
  induction l generalizing m left with
  | nil => simp only [takeL, List.length_take]; omega
  | cons s l ih =>
    simp only [takeL]
    split
    · have := ih (m - left.length) s.data.toList
      rw [List.length_append]; omega
    · simp only [List.length_take]; omega
theorem takeF_len (m : Nat) (left : List UInt8) (l : List ByteArray) : (takeF m left l).1.length ≤ m := by
  unfold takeF
  split <;> exact takeL_len _ _ _
/-- Bytes 255 behind, 184 together. -/
def padded (l : List UInt8) : List UInt8 := l ++ List.replicate (184 - l.length) 255
/-- The next body, and whether a section begins in it; what is left. -/
def nextF (left : List UInt8) (l : List ByteArray) : List UInt8 × Bool × List UInt8 × List ByteArray :=
  if 183 ≤ left.length then (left.take 184, false, left.drop 184, l)
  else if 0 < left.length ∧ l = [] then (padded left, false, [], l)
  else (padded (UInt8.ofNat left.length :: (takeF 183 left l).1), true, (takeF 183 left l).2)
/-- What is to be packed yet, counted. -/
def weight (left : List UInt8) (l : List ByteArray) : Nat := left.length + (l.map fun s => s.size + 1).sum
theorem takeL_weight (m : Nat) (left : List UInt8) (l : List ByteArray) : (takeL m left l).1.length + weight (takeL m left l).2.1 (takeL m left l).2.2 ≤ weight left l ∧ (0 < m → left ≠ [] ∨ l ≠ [] → weight (takeL m left l).2.1 (takeL m left l).2.2 < weight left l) := by
  induction l generalizing m left with
  | nil =>
    simp only [takeL, weight, List.length_take, List.length_drop, List.map_nil, List.sum_nil]
    refine ⟨by omega, fun hm h => ?_⟩
    have h1 : 0 < left.length := by
      rcases h with h | h
      · exact List.length_pos_iff.2 h
      · exact absurd rfl h
    omega
  | cons s l ih =>
    simp only [takeL]
    split
    · have h1 := (ih (m - left.length) s.data.toList).1
      have h2 : s.data.toList.length = s.size := rfl
      simp only [weight, List.length_append, List.map_cons, List.sum_cons] at h1 ⊢
      refine ⟨by omega, fun _ _ => by omega⟩
    · rename_i h
      simp only [weight, List.length_take, List.length_drop, List.map_cons, List.sum_cons]
      refine ⟨by omega, fun hm _ => by omega⟩
theorem takeF_weight (m : Nat) (left : List UInt8) (l : List ByteArray) (hm : 0 < m) (h : left ≠ [] ∨ l ≠ []) : weight (takeF m left l).2.1 (takeF m left l).2.2 < weight left l := by
  unfold takeF
  split
  · rename_i s l
    have h1 := (takeL_weight m s.data.toList l).1
    have h2 : s.data.toList.length = s.size := rfl
    simp only [weight, List.map_cons, List.sum_cons, List.length_nil] at h1 ⊢
    omega
  · exact (takeL_weight m left l).2 hm h
theorem nextF_weight (left : List UInt8) (l : List ByteArray) (h : left ≠ [] ∨ l ≠ []) : weight (nextF left l).2.2.1 (nextF left l).2.2.2 < weight left l := by
  unfold nextF
  split
  · simp only [weight, List.length_drop]; omega
  · split
    · rename_i h1 h2
      simp only [weight, List.length_nil]; omega
    · exact takeF_weight 183 left l (by omega) h
theorem padded_len (l : List UInt8) (h : l.length ≤ 184) : (padded l).length = 184 := by simp only [padded, List.length_append, List.length_replicate]; omega
theorem nextF_len (left : List UInt8) (l : List ByteArray) : (nextF left l).1.length ≤ 184 ∧ 0 < (nextF left l).1.length := by
  unfold nextF
  split
  · simp only [List.length_take]; omega
  · split
    · rename_i h1 h2
      rw [padded_len _ (by omega)]; omega
    · have := takeF_len 183 left l
      rw [padded_len _ (by simp only [List.length_cons]; omega)]; omega
/-- The bodies, and whether sections begin in them; up to so many. -/
def packN : Nat → List UInt8 → List ByteArray → List (Bool × List UInt8)
  | 0, _, _ => []
  | n + 1, left, l => if left = [] ∧ l = [] then [] else ((nextF left l).2.1, (nextF left l).1) :: packN n (nextF left l).2.2.1 (nextF left l).2.2.2
theorem packN_nil (n : Nat) : packN n [] [] = [] := by cases n <;> simp [packN]
theorem packN_mono (n k : Nat) (left : List UInt8) (l : List ByteArray) (h : k ≤ n ∧ k = n ∨ weight left l ≤ n ∧ weight left l ≤ k) : packN n left l = packN k left l := by
  induction n generalizing k left l with
  | zero =>
    rcases h with h | h
    · rw [show k = 0 by omega]
    · have h1 : left = [] := List.eq_nil_of_length_eq_zero (by unfold weight at h; omega)
      have h2 : l = [] := by
        cases l with
        | nil => rfl
        | cons s l => simp [weight] at h
      rw [h1, h2, packN_nil, packN_nil]
  | succ n ih =>
    rcases h with h | h
    · rw [h.2]
    · by_cases he : left = [] ∧ l = []
      · rw [he.1, he.2, packN_nil, packN_nil]
      · have hne : left ≠ [] ∨ l ≠ [] := by
          by_cases h1 : left = []
          · exact .inr fun h2 => he ⟨h1, h2⟩
          · exact .inl h1
        have hw := nextF_weight left l hne
        obtain ⟨j, rfl⟩ : ∃ j, k = j + 1 := ⟨k - 1, by omega⟩
        simp only [packN, if_neg he]
        rw [ih j _ _ (.inr ⟨by omega, by omega⟩)]
/-- All bodies. -/
def packF (l : List ByteArray) : List (Bool × List UInt8) := packN (weight [] l) [] l
end Go.Proofs.YthmddhbccifcoaaDoor.Clar
namespace Go.Proofs.YthmddhbccifcoaaDoor.Clar
open Go.RowKit Go.Proofs.YthmddhbccifcoaaDoorW.PrintWords Go.Proofs.YthmddhbccifcoaaDoorW.PrintLast Go.Proofs.YthmddhbccifcoaaDoorW.PrintMore

/-- A slice that came in by world w0 reads as these strings. -/
abbrev SR (w0 : World) (A : Option Addr) (l : List ByteArray) : Prop := ReadsOf Value.string ByteArray.empty w0 A l.length l
abbrev StAt (w : World) (g : Nat) (left : ByteArray) (A : Option Addr) (n c : Nat) : Prop := w.heap[g]? = some (.cells #[.string left, .slice A n c] 95 (0, 0))

/-- What holds at the label. -/
def TakeAt (w0 w : World) (g n : Nat) (res : List UInt8 × List UInt8 × List ByteArray) (k : Nat) (a : Act) (W : World) : Prop :=
  ∃ (t : Array Value) (acc : List UInt8) (left : ByteArray) (A : Option Addr) (c : Nat) (l : List ByteArray), a = ⟨t, []⟩ ∧ t.size = 81 ∧ t.getD 0 undef = .pointer (some ⟨g, 0, none⟩) ∧ t.getD 1 undef = .int .i64 n ∧ t.getD 5 undef = .pointer (some ⟨w.heap.size, 0, none⟩) ∧
    Bd W w.heap.size w.heap.size acc ∧ StAt W g left A l.length c ∧ SR w0 A l ∧ l.length ≤ c ∧ l ≠ [] ∧ Below w0.heap.size w0 W ∧ w.grownBy W (some g) ∧ acc.length < n ∧
    (acc ++ (takeF (n - acc.length) left.data.toList l).1, (takeF (n - acc.length) left.data.toList l).2) = res ∧ k = 2 * l.length + (if left.size = 0 then 0 else 1)

/-- What is left behind. -/
def TakePost (w0 w : World) (g : Nat) (res : List UInt8 × List UInt8 × List ByteArray) (W : World) : Prop :=
  ∃ (left : ByteArray) (A : Option Addr) (c : Nat), StAt W g left A res.2.2.length c ∧ left.data.toList = res.2.1 ∧ SR w0 A res.2.2 ∧ res.2.2.length ≤ c ∧ Below w0.heap.size w0 W ∧ w.grownBy W (some g)

theorem take_end {w0 w W : World} {g : Nat} {res : List UInt8 × List UInt8 × List ByteArray} {out : List UInt8} {left : ByteArray} {A : Option Addr} {c : Nat} {l : List ByteArray} (hr : (out, left.data.toList, l) = res) (hst : StAt W g left A l.length c) (hl : SR w0 A l) (hc : l.length ≤ c) (hB : Below w0.heap.size w0 W) (hG : w.grownBy W (some g)) : TakePost w0 w g res W := by
  subst hr
  exact ⟨left, A, c, hst, rfl, hl, hc, hB, hG⟩

theorem infoStr : (Tryd.prog.info? 9).map (fun i => (i.zero, i.size, i.bytes)) = some (some (.string ⟨#[]⟩), 1, 16) := by kernel_rfl
/-- 's[1:]' of a slice of strings. -/
theorem cut_one (A : Option Addr) (n c : Nat) (hn : 1 ≤ n) : ∃ A' : Option Addr, (∀ W : World, (Instr.slice 33 (.slice A n c) (some (.int .i64 1)) none none).run Tryd.prog W = .ok (.slice A' (n - 1) (c - 1)) W) ∧
      ∀ (w : World) (xs : List ByteArray), n ≤ c → ReadsOf Value.string ByteArray.empty w A n xs → ReadsOf Value.string ByteArray.empty w A' (n - 1) (xs.drop 1) := by
  obtain ⟨i0, hi, _, hz1, _⟩ := info_parts infoStr
  exact print_cut_of Value.string ByteArray.empty 33 9 .i64 Tryd.underlying33 hi hz1 A n c 1 hn

set_option maxHeartbeats 2000000 in
set_option maxRecDepth 100000 in
theorem take_any (g n : Nat) (left : ByteArray) (A : Option Addr) (c : Nat) (l : List ByteArray) (w0 w : World) (hst : StAt w g left A l.length c) (hl : SR w0 A l) (hc : l.length ≤ c) (hB : Below w0.heap.size w0 w) (hg : w0.heap.size ≤ g) (hn0 : 0 < n) (hn : n ≤ 1000) (hne : l ≠ []) :
    Calls Tryd.prog 58 #[.pointer (some ⟨g, 0, none⟩), .int .i64 n] w fun e w' =>
      e = .returned (.string ⟨(takeF n left.data.toList l).1.toArray⟩) ∧ TakePost w0 w g (takeF n left.data.toList l) w' := by
  have hgl := blk_lt hst
  have HST := Aside0.mk hst
  have HL := Aside0.mk hl
  have HC := Aside0.mk hc
  have HB := Aside0.mk hB
  clear hst hl hc hB
  obtain ⟨res, hres⟩ : ∃ res, takeF n left.data.toList l = res := ⟨_, rfl⟩
  rw [hres]
  have HRES := Aside0.mk hres
  clear hres
  go_enter Tryd.func58, Tryd.ntmps58
  go_wp2
  refine wp_scope_lab 0 (TakeAt w0 w g n res) rfl ?pass ?first
  case first =>
    intro hp
    go_wp2
    rename_i K hK
    go_step3
    refine hK _ _ (hp _ _ _ ⟨_, [], left, A, c, l, rfl, rfl, rfl, rfl, rfl, Bd.new _, blk_alloc HST.out _, HL.out, HC.out, hne, HB.out.alloc HB.out.size _, only_alloc (World.grownBy.refl w _) _, hn0, by simpa using HRES.out, rfl⟩)
  case pass =>
    clear HST HL HC HB HRES hne left A c l
    rintro k a W ⟨t, acc, left, A, c, l, rfl, hts, h0, h1, h5, hbd, hst, hl, hc, hne0, hB, hG, hacc, hres, hk⟩
    rw [frame_lit t 81 hts]
    obtain ⟨u, hu⟩ : ∃ u : Nat → Value, ∀ i, t.getD i undef = u i := ⟨_, fun _ => rfl⟩
    simp only [List.range, List.range.loop, List.map_cons, List.map_nil, h0, h1, h5]
    simp only [hu]
    clear h0 h1 h5 hu hts t
    have HL := Aside0.mk hl
    have HC := Aside0.mk hc
    have HB := Aside0.mk hB
    have HG := Aside0.mk hG
    have HBD := Aside0.mk hbd
    have hc0 := blk_cell hst 0
    have hc1 := blk_cell hst 1
    have hf0 := blk_frozen hst 0
    have hf1 := blk_frozen hst 1
    by_cases hload : left.data.toList = [] ∧ l ≠ []
    · obtain ⟨hleft, hne⟩ := hload
      obtain ⟨s, l', rfl⟩ := List.exists_cons_of_ne_nil hne
      rw [hleft, takeF_cons] at hres
      have hz : (left.toList == []) = true := by rw [Go.ByteArray.toList_eq, hleft]; rfl
      have hz2 : left.toList.isEmpty = true := by rw [Go.ByteArray.toList_eq, hleft]; rfl
      have hz3 : decide ((0 : Int) < ((s :: l').length : Nat)) = true := by simp
      obtain ⟨ad, rfl, hs0⟩ := hl.at_ 0 (by omega) (by simp)
      have hs1 : W.cell? ad = some (.string s) := by have := (hB.cell (World.block_lt_of_cell? _ _ hs0)).trans hs0; simpa [rdOf, Addr.add] using this
      obtain ⟨A', hcut, hA'⟩ := cut_one (some ad) (s :: l').length c (by simp)
      have hl' := hA' w0 _ hc hl
      simp only [List.length_cons, Nat.add_sub_cancel, List.drop_succ_cons, List.drop_zero] at hcut hl'
      have HL' := Aside0.mk hl'
      clear hl' hA' hs0
      simp only [List.length_cons] at hc0 hc1 hz3
      have HST := Aside0.mk hst
      have HR := Aside0.mk hres
      have HK := Aside0.mk hk
      clear hres hk hc hl hB hG hbd hst
      go_wp2
      go_region
      go_wp2
      obtain ⟨W1, hW1⟩ : ∃ W1, ((W.setCell ⟨g, 0, none⟩ (.string s)).setCell ⟨g, 1, none⟩ (.slice A' l'.length (c - 1))).drew = W1 := ⟨_, rfl⟩
      rw [hW1]
      have hst1 : StAt W1 g s A' l'.length (c - 1) := by rw [← hW1]; exact blk_drew (blk_set (blk_set HST.out 0 _) 1 _)
      have HBD1 : Aside0 (Bd W1 w.heap.size w.heap.size acc) := ⟨by rw [← hW1]; exact Bd.far (Bd.far HBD.out HST.out (by decide) (by decide) 0 _) (blk_set HST.out 0 _) (by decide) (by decide) 1 _⟩
      have HB1 : Aside0 (Below w0.heap.size w0 W1) := ⟨by rw [← hW1]; exact ((HB.out.setCell hg _).setCell hg _).drew⟩
      have HG1 : Aside0 (w.grownBy W1 (some g)) := ⟨by rw [← hW1]; exact only_drew (only_setCell (only_setCell HG.out (.inl rfl) _) (.inl rfl) _)⟩
      have HC1 : Aside0 (l'.length ≤ c - 1) := ⟨by have := HC.out; simp at this; omega⟩
      clear hc0 hc1 hf0 hf1 hs1 hcut hW1 HST HBD HB HG HC HL hz hz2 hz3
      clear W
      have hc0 := blk_cell hst1 0
      have hc1 := blk_cell hst1 1
      have hf0 := blk_frozen hst1 0
      obtain ⟨a0, ha0⟩ : ∃ a0, acc.length = a0 := ⟨_, rfl⟩
      rw [ha0] at hacc HR
      obtain ⟨m, hm⟩ : ∃ m, n - a0 = m := ⟨_, rfl⟩
      rw [hm] at HR
      have hm0 : 0 < m := by omega
      have hm1 : m ≤ 1000 := by omega
      have HLEN : Aside0 (∀ j, Calls Tryd.prog 20 #[.pointer (some ⟨w.heap.size, 0, none⟩)] (W1.drewN j) fun e w' => e = .returned (.int .i64 a0) ∧ W1.drewN j = w') := ⟨fun j => by have := bd_len _ _ _ _ (HBD1.out.drewN j); rw [ha0] at this; exact this⟩
      have hsub : IntKind.i64.wrap ((n : Int) - a0) = (m : Int) := by simp [IntKind.wrap, IntKind.bits, IntKind.signed]; omega
      have HA0 := Aside0.mk ha0
      have HM := Aside0.mk hm
      clear ha0 hm
      by_cases hk : s.size < m
      · have hd1 : min (m : Int) (s.size : Int) = (s.size : Int) := by omega
        go_quiet ((go_at_call 20; exact quiet_left (HLEN.out _)))
        clear hsub hd1
        go_wp2_with (fail)
        with_reducible refine (bd_write _ _ _ (s) _ (HBD1.out.drewN _) (by have := size_extract0 s s.size (by omega); have := HA0.out; omega) (by have := HG1.out.size; simp; omega)).mono ?_
        rintro e W2 ⟨rfl, hbd2, hb2, -⟩
        have hst2 : StAt W2 g s A' l'.length (c - 1) := (hb2.block g hgl).trans hst1
        have hB2 : Aside0 (Below w0.heap.size w0 W2) := ⟨below_then2 (pw_below_drewN HB1.out _) hb2 (Nat.le_of_lt (Nat.lt_of_le_of_lt hg hgl))⟩
        have HG2 : Aside0 (w.grownBy W2 (some g)) := ⟨grown_below (only_drewN HG1.out _) hb2⟩
        have HBD2 := Aside0.mk hbd2
        have HST2 := Aside0.mk hst2
        clear hbd2 hb2 HBD1 HB1 HG1 hc0 hc1 hf0 hst1
        have hc0 := blk_cell hst2 0
        have hc1 := blk_cell hst2 1
        have hf0 := blk_frozen hst2 0
        clear hst2
        have hz : (ByteArray.empty.toList == []) = true := by rw [Go.ByteArray.toList_eq]; rfl
        by_cases hne : l' = []
        · have hz3 : decide (0 < l'.length) = false := by rw [hne]; rfl
          have hz4 : decide ((0 : Int) < l'.length) = false := by rw [hne]; rfl
          have HR' : Aside0 ((acc ++ s.data.toList, ByteArray.empty.data.toList, l') = res) := ⟨by
            rw [← HR.out, takeL_done _ _ _ (.inl hne), List.take_of_length_le (by simp; exact Nat.le_of_lt hk), List.drop_of_length_le (by simp; exact Nat.le_of_lt hk)]; rfl⟩
          clear hne
          go_wp2_with (fail)
          refine (bd_string _ _ _ _ (Bd.far HBD2.out HST2.out (by decide) (by decide) 0 _) (by have := HG2.out.size; simp; omega)).mono ?_
          rintro e W3 ⟨rfl, -, hb3, -⟩
          have HP := take_end (W := W3) (HR' : Aside0 (_ = res)).out ((hb3.block g hgl).trans (blk_set HST2.out 0 _)) HL'.out HC1.out (below_then2 (hB2.out.setCell hg _) hb3 (Nat.le_of_lt (Nat.lt_of_le_of_lt hg hgl))) (grown_below (only_setCell HG2.out (.inl rfl) _) hb3)
          clear hb3
          go_wp2
          simp only [Exit.jump]
          go_ret
          exact ⟨by rw [← HR'.out]; rfl, HP⟩
        · have hz3 : decide (0 < l'.length) = true := by simp; exact List.length_pos_iff.2 hne
          have hz4 : decide ((0 : Int) < l'.length) = true := by simp; exact List.length_pos_iff.2 hne
          have hlen : (acc ++ s.data.toList).length = a0 + s.size := by rw [List.length_append, HA0.out]; simp
          have HLE := Aside0.mk hlen
          have hz5 : decide ((a0 : Int) + s.size < n) = true := by have := HM.out; simp; omega
          have HR' : Aside0 (((acc ++ s.data.toList) ++ (takeF (n - (acc ++ s.data.toList).length) ByteArray.empty.data.toList l').1, (takeF (n - (acc ++ s.data.toList).length) ByteArray.empty.data.toList l').2) = res) := ⟨by
            rw [← HR.out, takeL_more _ _ _ hne (by simp; exact hk), hlen, show n - (a0 + s.size) = m - s.data.toList.length by have := HM.out; simp; omega, show ByteArray.empty.data.toList = [] from rfl, List.append_assoc]⟩
          have HNE := Aside0.mk hne
          clear hlen hne
          go_wp2_with (go_at_call 20; refine (bd_len _ _ _ _ (Bd.far HBD2.out HST2.out (by decide) (by decide) 0 _)).mono ?_; rintro e w' ⟨rfl, rfl⟩; rw [HLE.out])
          go_step3
          refine ⟨rfl, 2 * l'.length, ?_, _, acc ++ s.data.toList, ByteArray.empty, A', (c - 1), l', rfl, rfl, rfl, rfl, rfl, Bd.far HBD2.out HST2.out (by decide) (by decide) 0 _, blk_set HST2.out 0 _, HL'.out, HC1.out, HNE.out, hB2.out.setCell hg _, only_setCell HG2.out (.inl rfl) _, ?_, HR'.out, by simp⟩
          · have := HK.out; (try simp at this); omega
          · rw [HLE.out]; have := HM.out; omega
      · have hd1 : min (m : Int) (s.size : Int) = (m : Int) := by omega
        have hd2 : m ≤ s.size := by omega
        go_quiet ((go_at_call 20; exact quiet_left (HLEN.out _)))
        clear hsub hd1
        go_wp2_with (fail)
        have e1 : (s.extract 0 m).data.toList = s.data.toList.take m := by rw [data_extract]; simp
        with_reducible refine (bd_write _ _ _ (s.extract 0 m) _ (HBD1.out.drewN _) (by have := size_extract0 s m (by omega); have := HA0.out; omega) (by have := HG1.out.size; simp; omega)).mono ?_
        rintro e W2 ⟨rfl, hbd2, hb2, -⟩
        rw [e1] at hbd2
        have hst2 : StAt W2 g s A' l'.length (c - 1) := (hb2.block g hgl).trans hst1
        have hB2 : Aside0 (Below w0.heap.size w0 W2) := ⟨below_then2 (pw_below_drewN HB1.out _) hb2 (Nat.le_of_lt (Nat.lt_of_le_of_lt hg hgl))⟩
        have HG2 : Aside0 (w.grownBy W2 (some g)) := ⟨grown_below (only_drewN HG1.out _) hb2⟩
        have HBD2 := Aside0.mk hbd2
        have HST2 := Aside0.mk hst2
        clear hbd2 hb2 HBD1 HB1 HG1 hc0 hc1 hf0 hst1
        have hc0 := blk_cell hst2 0
        have hc1 := blk_cell hst2 1
        have hf0 := blk_frozen hst2 0
        clear hst2
        have e0 : (s.extract m s.size).data.toList = s.data.toList.drop m := by rw [data_extract, List.take_of_length_le (by simp)]
        have HR' : Aside0 ((acc ++ s.data.toList.take m, (s.extract m s.size).data.toList, l') = res) := ⟨by
          rw [← HR.out, takeL_done _ _ _ (.inr (by simp; exact hd2)), e0]⟩
        have hlen : (acc ++ s.data.toList.take m).length = n := by rw [List.length_append, HA0.out, List.length_take]; have := HM.out; simp; omega
        have HLE := Aside0.mk hlen
        have E0 := Aside0.mk e0
        clear hlen e1 e0
        have hz6 : decide ((n : Int) < n) = false := by simp
        by_cases hk2 : s.size = m
        · have hz : ((s.extract m s.size).toList == []) = true := by rw [Go.ByteArray.toList_eq, E0.out, List.drop_of_length_le (by simp; omega)]; rfl
          by_cases hne : l' = []
          · have hz3 : decide (0 < l'.length) = false := by rw [hne]; rfl
            have hz4 : decide ((0 : Int) < l'.length) = false := by rw [hne]; rfl
            clear hne hk2
            go_wp2_with (fail)
            refine (bd_string _ _ _ _ (Bd.far HBD2.out HST2.out (by decide) (by decide) 0 _) (by have := HG2.out.size; simp; omega)).mono ?_
            rintro e W3 ⟨rfl, -, hb3, -⟩
            have HP := take_end (W := W3) (HR' : Aside0 (_ = res)).out ((hb3.block g hgl).trans (blk_set HST2.out 0 _)) HL'.out HC1.out (below_then2 (hB2.out.setCell hg _) hb3 (Nat.le_of_lt (Nat.lt_of_le_of_lt hg hgl))) (grown_below (only_setCell HG2.out (.inl rfl) _) hb3)
            clear hb3
            go_wp2
            simp only [Exit.jump]
            go_ret
            exact ⟨by rw [← HR'.out]; rfl, HP⟩
          · have hz3 : decide (0 < l'.length) = true := by simp; exact List.length_pos_iff.2 hne
            have hz4 : decide ((0 : Int) < l'.length) = true := by simp; exact List.length_pos_iff.2 hne
            clear hne hk2
            go_wp2_with (go_at_call 20; refine (bd_len _ _ _ _ (Bd.far HBD2.out HST2.out (by decide) (by decide) 0 _)).mono ?_; rintro e w' ⟨rfl, rfl⟩; rw [HLE.out])
            refine (bd_string _ _ _ _ (Bd.far HBD2.out HST2.out (by decide) (by decide) 0 _) (by have := HG2.out.size; simp; omega)).mono ?_
            rintro e W3 ⟨rfl, -, hb3, -⟩
            have HP := take_end (W := W3) (HR' : Aside0 (_ = res)).out ((hb3.block g hgl).trans (blk_set HST2.out 0 _)) HL'.out HC1.out (below_then2 (hB2.out.setCell hg _) hb3 (Nat.le_of_lt (Nat.lt_of_le_of_lt hg hgl))) (grown_below (only_setCell HG2.out (.inl rfl) _) hb3)
            clear hb3
            go_wp2
            simp only [Exit.jump]
            go_ret
            exact ⟨by rw [← HR'.out]; rfl, HP⟩
        · have hz : ((s.extract m s.size).toList == []) = false := by
            rw [Go.ByteArray.toList_eq, E0.out, beq_eq_false_iff_ne]
            intro e
            have := congrArg List.length e
            simp at this
            have : s.data.size = s.size := rfl
            omega
          clear hk2
          go_wp2_with (fail)
          refine (bd_string _ _ _ _ (Bd.far HBD2.out HST2.out (by decide) (by decide) 0 _) (by have := HG2.out.size; simp; omega)).mono ?_
          rintro e W3 ⟨rfl, -, hb3, -⟩
          have HP := take_end (W := W3) (HR' : Aside0 (_ = res)).out ((hb3.block g hgl).trans (blk_set HST2.out 0 _)) HL'.out HC1.out (below_then2 (hB2.out.setCell hg _) hb3 (Nat.le_of_lt (Nat.lt_of_le_of_lt hg hgl))) (grown_below (only_setCell HG2.out (.inl rfl) _) hb3)
          clear hb3
          go_wp2
          simp only [Exit.jump]
          go_ret
          exact ⟨by rw [← HR'.out]; rfl, HP⟩
    · have hleft : left.data.toList ≠ [] := fun e => hload ⟨e, hne0⟩
      rw [takeF_left _ _ _ (.inl hleft)] at hres
      have hz : (left.toList == []) = false := by rw [Go.ByteArray.toList_eq]; exact beq_eq_false_iff_ne.2 hleft
      have hsz : left.size ≠ 0 := fun e => hleft (List.eq_nil_of_length_eq_zero (by simpa using e))
      rw [if_neg hsz] at hk
      have hst1 := hst
      have HBD1 := HBD
      have HB1 := HB
      have HG1 := HG
      have HC1 := HC
      have HL' := HL
      have HR := Aside0.mk hres
      have HK := Aside0.mk hk
      clear hload hleft hres hk hc hl hB hG hbd hst hsz hne0 HBD HB HG HC HL hf1
      go_wp2
      clear hc0 hc1 hf0 hz
      have hc0 := blk_cell hst1 0
      have hc1 := blk_cell hst1 1
      have hf0 := blk_frozen hst1 0
      obtain ⟨a0, ha0⟩ : ∃ a0, acc.length = a0 := ⟨_, rfl⟩
      rw [ha0] at hacc HR
      obtain ⟨m, hm⟩ : ∃ m, n - a0 = m := ⟨_, rfl⟩
      rw [hm] at HR
      have hm0 : 0 < m := by omega
      have hm1 : m ≤ 1000 := by omega
      have HLEN : Aside0 (∀ j, Calls Tryd.prog 20 #[.pointer (some ⟨w.heap.size, 0, none⟩)] (W.drewN j) fun e w' => e = .returned (.int .i64 a0) ∧ W.drewN j = w') := ⟨fun j => by have := bd_len _ _ _ _ (HBD1.out.drewN j); rw [ha0] at this; exact this⟩
      have hsub : IntKind.i64.wrap ((n : Int) - a0) = (m : Int) := by simp [IntKind.wrap, IntKind.bits, IntKind.signed]; omega
      have HA0 := Aside0.mk ha0
      have HM := Aside0.mk hm
      clear ha0 hm
      by_cases hk : left.size < m
      · have hd1 : min (m : Int) (left.size : Int) = (left.size : Int) := by omega
        go_quiet ((go_at_call 20; exact quiet_left (HLEN.out _)))
        clear hsub hd1
        go_wp2_with (fail)
        with_reducible refine (bd_write _ _ _ (left) _ (HBD1.out.drewN _) (by have := size_extract0 left left.size (by omega); have := HA0.out; omega) (by have := HG1.out.size; simp; omega)).mono ?_
        rintro e W2 ⟨rfl, hbd2, hb2, -⟩
        have hst2 : StAt W2 g left A l.length c := (hb2.block g hgl).trans hst1
        have hB2 : Aside0 (Below w0.heap.size w0 W2) := ⟨below_then2 (pw_below_drewN HB1.out _) hb2 (Nat.le_of_lt (Nat.lt_of_le_of_lt hg hgl))⟩
        have HG2 : Aside0 (w.grownBy W2 (some g)) := ⟨grown_below (only_drewN HG1.out _) hb2⟩
        have HBD2 := Aside0.mk hbd2
        have HST2 := Aside0.mk hst2
        clear hbd2 hb2 HBD1 HB1 HG1 hc0 hc1 hf0 hst1
        have hc0 := blk_cell hst2 0
        have hc1 := blk_cell hst2 1
        have hf0 := blk_frozen hst2 0
        clear hst2
        have hz : (ByteArray.empty.toList == []) = true := by rw [Go.ByteArray.toList_eq]; rfl
        by_cases hne : l = []
        · have hz3 : decide (0 < l.length) = false := by rw [hne]; rfl
          have hz4 : decide ((0 : Int) < l.length) = false := by rw [hne]; rfl
          have HR' : Aside0 ((acc ++ left.data.toList, ByteArray.empty.data.toList, l) = res) := ⟨by
            rw [← HR.out, takeL_done _ _ _ (.inl hne), List.take_of_length_le (by simp; exact Nat.le_of_lt hk), List.drop_of_length_le (by simp; exact Nat.le_of_lt hk)]; rfl⟩
          clear hne
          go_wp2_with (fail)
          refine (bd_string _ _ _ _ (Bd.far HBD2.out HST2.out (by decide) (by decide) 0 _) (by have := HG2.out.size; simp; omega)).mono ?_
          rintro e W3 ⟨rfl, -, hb3, -⟩
          have HP := take_end (W := W3) (HR' : Aside0 (_ = res)).out ((hb3.block g hgl).trans (blk_set HST2.out 0 _)) HL'.out HC1.out (below_then2 (hB2.out.setCell hg _) hb3 (Nat.le_of_lt (Nat.lt_of_le_of_lt hg hgl))) (grown_below (only_setCell HG2.out (.inl rfl) _) hb3)
          clear hb3
          go_wp2
          simp only [Exit.jump]
          go_ret
          exact ⟨by rw [← HR'.out]; rfl, HP⟩
        · have hz3 : decide (0 < l.length) = true := by simp; exact List.length_pos_iff.2 hne
          have hz4 : decide ((0 : Int) < l.length) = true := by simp; exact List.length_pos_iff.2 hne
          have hlen : (acc ++ left.data.toList).length = a0 + left.size := by rw [List.length_append, HA0.out]; simp
          have HLE := Aside0.mk hlen
          have hz5 : decide ((a0 : Int) + left.size < n) = true := by have := HM.out; simp; omega
          have HR' : Aside0 (((acc ++ left.data.toList) ++ (takeF (n - (acc ++ left.data.toList).length) ByteArray.empty.data.toList l).1, (takeF (n - (acc ++ left.data.toList).length) ByteArray.empty.data.toList l).2) = res) := ⟨by
            rw [← HR.out, takeL_more _ _ _ hne (by simp; exact hk), hlen, show n - (a0 + left.size) = m - left.data.toList.length by have := HM.out; simp; omega, show ByteArray.empty.data.toList = [] from rfl, List.append_assoc]⟩
          have HNE := Aside0.mk hne
          clear hlen hne
          go_wp2_with (go_at_call 20; refine (bd_len _ _ _ _ (Bd.far HBD2.out HST2.out (by decide) (by decide) 0 _)).mono ?_; rintro e w' ⟨rfl, rfl⟩; rw [HLE.out])
          go_step3
          refine ⟨rfl, 2 * l.length, ?_, _, acc ++ left.data.toList, ByteArray.empty, A, c, l, rfl, rfl, rfl, rfl, rfl, Bd.far HBD2.out HST2.out (by decide) (by decide) 0 _, blk_set HST2.out 0 _, HL'.out, HC1.out, HNE.out, hB2.out.setCell hg _, only_setCell HG2.out (.inl rfl) _, ?_, HR'.out, by simp⟩
          · have := HK.out; (try simp at this); omega
          · rw [HLE.out]; have := HM.out; omega
      · have hd1 : min (m : Int) (left.size : Int) = (m : Int) := by omega
        have hd2 : m ≤ left.size := by omega
        go_quiet ((go_at_call 20; exact quiet_left (HLEN.out _)))
        clear hsub hd1
        go_wp2_with (fail)
        have e1 : (left.extract 0 m).data.toList = left.data.toList.take m := by rw [data_extract]; simp
        with_reducible refine (bd_write _ _ _ (left.extract 0 m) _ (HBD1.out.drewN _) (by have := size_extract0 left m (by omega); have := HA0.out; omega) (by have := HG1.out.size; simp; omega)).mono ?_
        rintro e W2 ⟨rfl, hbd2, hb2, -⟩
        rw [e1] at hbd2
        have hst2 : StAt W2 g left A l.length c := (hb2.block g hgl).trans hst1
        have hB2 : Aside0 (Below w0.heap.size w0 W2) := ⟨below_then2 (pw_below_drewN HB1.out _) hb2 (Nat.le_of_lt (Nat.lt_of_le_of_lt hg hgl))⟩
        have HG2 : Aside0 (w.grownBy W2 (some g)) := ⟨grown_below (only_drewN HG1.out _) hb2⟩
        have HBD2 := Aside0.mk hbd2
        have HST2 := Aside0.mk hst2
        clear hbd2 hb2 HBD1 HB1 HG1 hc0 hc1 hf0 hst1
        have hc0 := blk_cell hst2 0
        have hc1 := blk_cell hst2 1
        have hf0 := blk_frozen hst2 0
        clear hst2
        have e0 : (left.extract m left.size).data.toList = left.data.toList.drop m := by rw [data_extract, List.take_of_length_le (by simp)]
        have HR' : Aside0 ((acc ++ left.data.toList.take m, (left.extract m left.size).data.toList, l) = res) := ⟨by
          rw [← HR.out, takeL_done _ _ _ (.inr (by simp; exact hd2)), e0]⟩
        have hlen : (acc ++ left.data.toList.take m).length = n := by rw [List.length_append, HA0.out, List.length_take]; have := HM.out; simp; omega
        have HLE := Aside0.mk hlen
        have E0 := Aside0.mk e0
        clear hlen e1 e0
        have hz6 : decide ((n : Int) < n) = false := by simp
        by_cases hk2 : left.size = m
        · have hz : ((left.extract m left.size).toList == []) = true := by rw [Go.ByteArray.toList_eq, E0.out, List.drop_of_length_le (by simp; omega)]; rfl
          by_cases hne : l = []
          · have hz3 : decide (0 < l.length) = false := by rw [hne]; rfl
            have hz4 : decide ((0 : Int) < l.length) = false := by rw [hne]; rfl
            clear hne hk2
            go_wp2_with (fail)
            refine (bd_string _ _ _ _ (Bd.far HBD2.out HST2.out (by decide) (by decide) 0 _) (by have := HG2.out.size; simp; omega)).mono ?_
            rintro e W3 ⟨rfl, -, hb3, -⟩
            have HP := take_end (W := W3) (HR' : Aside0 (_ = res)).out ((hb3.block g hgl).trans (blk_set HST2.out 0 _)) HL'.out HC1.out (below_then2 (hB2.out.setCell hg _) hb3 (Nat.le_of_lt (Nat.lt_of_le_of_lt hg hgl))) (grown_below (only_setCell HG2.out (.inl rfl) _) hb3)
            clear hb3
            go_wp2
            simp only [Exit.jump]
            go_ret
            exact ⟨by rw [← HR'.out]; rfl, HP⟩
          · have hz3 : decide (0 < l.length) = true := by simp; exact List.length_pos_iff.2 hne
            have hz4 : decide ((0 : Int) < l.length) = true := by simp; exact List.length_pos_iff.2 hne
            clear hne hk2
            go_wp2_with (go_at_call 20; refine (bd_len _ _ _ _ (Bd.far HBD2.out HST2.out (by decide) (by decide) 0 _)).mono ?_; rintro e w' ⟨rfl, rfl⟩; rw [HLE.out])
            refine (bd_string _ _ _ _ (Bd.far HBD2.out HST2.out (by decide) (by decide) 0 _) (by have := HG2.out.size; simp; omega)).mono ?_
            rintro e W3 ⟨rfl, -, hb3, -⟩
            have HP := take_end (W := W3) (HR' : Aside0 (_ = res)).out ((hb3.block g hgl).trans (blk_set HST2.out 0 _)) HL'.out HC1.out (below_then2 (hB2.out.setCell hg _) hb3 (Nat.le_of_lt (Nat.lt_of_le_of_lt hg hgl))) (grown_below (only_setCell HG2.out (.inl rfl) _) hb3)
            clear hb3
            go_wp2
            simp only [Exit.jump]
            go_ret
            exact ⟨by rw [← HR'.out]; rfl, HP⟩
        · have hz : ((left.extract m left.size).toList == []) = false := by
            rw [Go.ByteArray.toList_eq, E0.out, beq_eq_false_iff_ne]
            intro e
            have := congrArg List.length e
            simp at this
            have : left.data.size = left.size := rfl
            omega
          clear hk2
          go_wp2_with (fail)
          refine (bd_string _ _ _ _ (Bd.far HBD2.out HST2.out (by decide) (by decide) 0 _) (by have := HG2.out.size; simp; omega)).mono ?_
          rintro e W3 ⟨rfl, -, hb3, -⟩
          have HP := take_end (W := W3) (HR' : Aside0 (_ = res)).out ((hb3.block g hgl).trans (blk_set HST2.out 0 _)) HL'.out HC1.out (below_then2 (hB2.out.setCell hg _) hb3 (Nat.le_of_lt (Nat.lt_of_le_of_lt hg hgl))) (grown_below (only_setCell HG2.out (.inl rfl) _) hb3)
          clear hb3
          go_wp2
          simp only [Exit.jump]
          go_ret
          exact ⟨by rw [← HR'.out]; rfl, HP⟩
end Go.Proofs.YthmddhbccifcoaaDoor.Clar
namespace Go.Proofs.YthmddhbccifcoaaDoor.Clar
open Go.RowKit Go.Proofs.YthmddhbccifcoaaDoorW.PrintWords Go.Proofs.YthmddhbccifcoaaDoorW.PrintLast Go.Proofs.YthmddhbccifcoaaDoorW.PrintMore

theorem bytes_eq {s : ByteArray} {l : List UInt8} (h : s.data.toList = l) : s = ⟨l.toArray⟩ := by
  cases s; simp at h; subst h; simp

set_option maxHeartbeats 2000000 in
theorem next_full (g : Nat) (left : ByteArray) (A : Option Addr) (c : Nat) (l : List ByteArray) (w0 w : World) (hst : StAt w g left A l.length c) (hl : SR w0 A l) (hc : l.length ≤ c) (hB : Below w0.heap.size w0 w) (hg : w0.heap.size ≤ g) (hr : 183 ≤ left.size) :
    Calls Tryd.prog 39 #[.pointer (some ⟨g, 0, none⟩)] w fun e w' =>
      e = .returned (.tuple #[.string ⟨(nextF left.data.toList l).1.toArray⟩, .bool (nextF left.data.toList l).2.1]) ∧ TakePost w0 w g ((nextF left.data.toList l).1, (nextF left.data.toList l).2.2) w' := by
  have hc0 := blk_cell hst 0
  have hc1 := blk_cell hst 1
  have hf0 := blk_frozen hst 0
  have hd : decide ((183 : Int) ≤ left.size) = true := by simp; omega
  have hd2 : decide ((left.size : Int) < 183) = false := by simp; omega
  have HST := Aside0.mk hst
  have HL := Aside0.mk hl
  have HC := Aside0.mk hc
  have HB := Aside0.mk hB
  clear hst hl hc hB
  obtain ⟨k, hk⟩ : ∃ k, min left.size 184 = k := ⟨_, rfl⟩
  have hmin : min (left.size : Int) 184 = (k : Int) := by omega
  have hk1 : k ≤ left.size := by omega
  have HK := Aside0.mk hk
  clear hk
  go_enter Tryd.func39, Tryd.ntmps39
  go_wp2_with (fail)
  have HR : Aside0 (nextF left.data.toList l = (left.data.toList.take k, false, (left.extract k left.size).data.toList, l)) := ⟨by
    unfold nextF
    rw [if_pos (by simp; exact hr), data_extract, List.take_of_length_le (i := left.size) (by simp), ← HK.out]
    by_cases h : 184 ≤ left.size
    · rw [show min left.size 184 = 184 by omega]
    · rw [show min left.size 184 = left.size by omega, List.take_of_length_le (by simp; omega), List.take_of_length_le (by simp), List.drop_of_length_le (by simp; omega), List.drop_of_length_le (by simp)]⟩
  have e1 : left.extract 0 k = ⟨(left.data.toList.take k).toArray⟩ := bytes_eq (by rw [data_extract]; simp)
  go_ret2
  refine ⟨?_, ?_⟩
  · rw [HR.out, ← e1]; rfl
  · rw [HR.out]
    exact take_end rfl (blk_set HST.out 0 _) HL.out HC.out (HB.out.setCell hg _) (only_setCell (World.grownBy.refl w _) (.inl rfl) _)

theorem repeat_ff (n : Nat) (w : World) (hn : n ≤ 1000) :
    Calls Tryd.prog 37 #[.string ⟨#[255]⟩, .int .i64 n] w fun e w' => e = .returned (.string ⟨(List.replicate n 255).toArray⟩) ∧ Below w.heap.size w w' := by
  have e : Lib.repeatL ([255] : List UInt8) n = List.replicate n 255 := by
    induction n with
    | zero => rfl
    | succ n ih => rw [List.replicate_succ, ← ih (by omega)]; simp [Lib.repeatL]
  refine (repeat_any ⟨#[255]⟩ n w (by omega) (by rw [show (⟨#[255]⟩ : ByteArray).size = 1 from rfl]; omega)).mono ?_
  rintro e' w' ⟨rfl, hb⟩
  exact ⟨by rw [← e], hb⟩
set_option maxHeartbeats 2000000 in
theorem next_last (g : Nat) (left : ByteArray) (A : Option Addr) (c : Nat) (l : List ByteArray) (w0 w : World) (hst : StAt w g left A l.length c) (hl : SR w0 A l) (hc : l.length ≤ c) (hB : Below w0.heap.size w0 w) (hg : w0.heap.size ≤ g) (hr : left.size < 183) (hr0 : 0 < left.size) (hn : l = []) :
    Calls Tryd.prog 39 #[.pointer (some ⟨g, 0, none⟩)] w fun e w' =>
      e = .returned (.tuple #[.string ⟨(nextF left.data.toList l).1.toArray⟩, .bool (nextF left.data.toList l).2.1]) ∧ TakePost w0 w g ((nextF left.data.toList l).1, (nextF left.data.toList l).2.2) w' := by
  subst hn
  have hc0 := blk_cell hst 0
  have hc1 := blk_cell hst 1
  have hf0 := blk_frozen hst 0
  have hgl := blk_lt hst
  have hd : decide ((183 : Int) ≤ left.size) = false := by simp; omega
  have hd2 : decide ((left.size : Int) < 183) = true := by simp; omega
  have hd3 : decide ((0 : Int) < left.size) = true := by simp; omega
  have HST := Aside0.mk hst
  have HL := Aside0.mk hl
  have HC := Aside0.mk hc
  have HB := Aside0.mk hB
  clear hst hl hc hB
  have hmin : min (left.size : Int) 184 = (left.size : Int) := by omega
  obtain ⟨p, hp⟩ : ∃ p : Nat, 184 - left.size = p := ⟨_, rfl⟩
  have hsub : (184 : Int) - left.size = p := by omega
  have hp1 : p ≤ 1000 := by omega
  have HP := Aside0.mk hp
  clear hp
  go_enter Tryd.func39, Tryd.ntmps39
  go_wp2_with (fail)
  refine (repeat_ff p _ hp1).mono ?_
  rintro e w1 ⟨rfl, hb⟩
  have HB1 : Aside0 (Below w0.heap.size w0 w1) := ⟨below_then2 (HB.out.setCell hg _) hb (by simp [World.setCell]; omega)⟩
  have HST1 : Aside0 (StAt w1 g ByteArray.empty A 0 c) := ⟨(hb.block g (by simp [World.setCell]; exact hgl)).trans (blk_set HST.out 0 _)⟩
  have HG1 : Aside0 (w.grownBy w1 (some g)) := ⟨grown_below (only_setCell (World.grownBy.refl w _) (.inl rfl) _) (hb.mono (by simp [World.setCell]))⟩
  clear hb hc0 hc1 hf0 hmin hsub
  go_wp2_with (fail)
  have HR : Aside0 (nextF left.data.toList [] = (left.data.toList ++ List.replicate p 255, false, [], [])) := ⟨by
    unfold nextF padded
    rw [if_neg (by simp; exact hr), if_pos ⟨by simp; exact hr0, rfl⟩, ← HP.out]; simp⟩
  have e1 : left ++ ⟨(List.replicate p 255).toArray⟩ = (⟨(left.data.toList ++ List.replicate p 255).toArray⟩ : ByteArray) := bytes_eq (by simp)
  go_ret2
  refine ⟨?_, ?_⟩
  · rw [HR.out, ← e1]; rfl
  · rw [HR.out]
    exact take_end (left := ByteArray.empty) (l := []) rfl HST1.out HL.out HC.out HB1.out HG1.out

/-- A slice of one byte, made just now, as a string. -/
theorem conv_one (W : World) (b : Nat) (n : Int) (h : W.heap[b]? = some (.cells #[.int .u8 n] 5 (0, 0))) : (convert 42 9 (.slice (some ⟨b, 0, none⟩) 1 1)).run Tryd.prog W = .ok (.string (strOfNums [n])) W := by
  refine own_string (base := 0) (e' := 5) (n := 1) Tryd.underlying42 Tryd.underlying5 Tryd.underlying9 ?_
  exact ⟨by simp [nums], .inr ⟨b, 1, _, rfl, Nat.zero_le _, h, Nat.le_refl _, by unfold maxLen; omega, by simp, by simp [nums]⟩⟩
theorem TakePost.kept {w0 w W : World} {g : Nat} {res : List UInt8 × List UInt8 × List ByteArray} (h : TakePost w0 w g res W) {b : Nat} {o : Obj} (hb : w.heap[b]? = some o) (hne : b ≠ g) : W.heap[b]? = some o := by
  obtain ⟨left, A, c, h1, h2, h3, h4, h5, h6⟩ := h
  exact blk_grown hb h6 (by simpa using hne)
theorem TakePost.after {w0 w W W' : World} {g : Nat} {res : List UInt8 × List UInt8 × List ByteArray} (h : TakePost w0 w g res W) (hb : Below W.heap.size W W') : TakePost w0 w g res W' := by
  obtain ⟨left, A, c, h1, h2, h3, h4, h5, h6⟩ := h
  exact ⟨left, A, c, (hb.block g (blk_lt h1)).trans h1, h2, h3, h4, below_then2 h5 hb h5.size, grown_below h6 (hb.mono h6.size)⟩
theorem TakePost.alloc {w0 w W : World} {g : Nat} {res : List UInt8 × List UInt8 × List ByteArray} (h : TakePost w0 w g res W) (o : Obj) : TakePost w0 w g res (W.alloc o) := h.after (below_alloc (Below.refl _ _) o)
theorem TakePost.weak {w0 w w1 W : World} {g : Nat} {res : List UInt8 × List UInt8 × List ByteArray} (h : TakePost w0 w1 g res W) (hg : w.grownBy w1 (some g)) : TakePost w0 w g res W := by
  obtain ⟨left, A, c, h1, h2, h3, h4, h5, h6⟩ := h
  exact ⟨left, A, c, h1, h2, h3, h4, h5, grown_trans2 hg h6⟩
set_option maxHeartbeats 2000000 in
set_option maxRecDepth 100000 in
theorem next_start (g : Nat) (left : ByteArray) (A : Option Addr) (c : Nat) (l : List ByteArray) (w0 w : World) (hst : StAt w g left A l.length c) (hl : SR w0 A l) (hc : l.length ≤ c) (hB : Below w0.heap.size w0 w) (hg : w0.heap.size ≤ g) (hr : left.size < 183) (hn : l ≠ []) :
    Calls Tryd.prog 39 #[.pointer (some ⟨g, 0, none⟩)] w fun e w' =>
      e = .returned (.tuple #[.string ⟨(nextF left.data.toList l).1.toArray⟩, .bool (nextF left.data.toList l).2.1]) ∧ TakePost w0 w g ((nextF left.data.toList l).1, (nextF left.data.toList l).2.2) w' := by
  have hc0 := blk_cell hst 0
  have hc1 := blk_cell hst 1
  have hf0 := blk_frozen hst 0
  have hgl := blk_lt hst
  have hd : decide ((183 : Int) ≤ left.size) = false := by simp; omega
  have hd3 : ((l.length : Int) == 0) = false := by simpa using hn
  have hwr : IntKind.u8.wrap (left.size : Int) = left.size := by rw [IntKind.wrap_u8']; omega
  have HST := Aside0.mk hst
  have HL := Aside0.mk hl
  have HC := Aside0.mk hc
  have HB := Aside0.mk hB
  have HN := Aside0.mk hn
  clear hst hl hc hB hn
  obtain ⟨res, hres⟩ : ∃ res, takeF 183 left.data.toList l = res := ⟨_, rfl⟩
  obtain ⟨out, hout⟩ : ∃ out : ByteArray, ⟨res.1.toArray⟩ = out := ⟨_, rfl⟩
  obtain ⟨one, hone⟩ : ∃ one : ByteArray, strOfNums [(left.size : Int)] = one := ⟨_, rfl⟩
  have htk : ∀ W : World, StAt W g left A l.length c → Below w0.heap.size w0 W → Calls Tryd.prog 58 #[.pointer (some ⟨g, 0, none⟩), .int .i64 183] W fun e w' => e = .returned (.string out) ∧ TakePost w0 W g res w' := by
    intro W h1 h2
    have := take_any g 183 left A c l w0 W h1 HL.out HC.out h2 hg (by omega) (by omega) HN.out
    rw [hres, hout] at this
    exact this
  have HTK := Aside0.mk htk
  have hlen : res.1.length ≤ 183 := by rw [← hres]; exact takeF_len _ _ _
  have hs1 : one.size ≤ 1 := by rw [← hone]; exact Nat.le_refl _
  have hs2 : out.size ≤ 183 := by rw [← hout]; simpa [ByteArray.size] using hlen
  obtain ⟨p, hp⟩ : ∃ p : Nat, 184 - (1 + out.size) = p := ⟨_, rfl⟩
  have hsub : (184 : Int) - (one.size + out.size) = p := by rw [show one.size = 1 by rw [← hone]; rfl]; omega
  have hp1 : p ≤ 1000 := by omega
  have HR : Aside0 (nextF left.data.toList l = ((one ++ out ++ ⟨(List.replicate p 255).toArray⟩ : ByteArray).data.toList, true, res.2)) := ⟨by
    unfold nextF padded
    rw [if_neg (by simp; exact hr), if_neg (fun h => HN.out h.2), hres]
    have e1 : one.data.toList = [UInt8.ofNat left.data.toList.length] := by rw [← hone, strOfNums_data]; rfl
    have e2 : out.data.toList = res.1 := by rw [← hout]
    have e3 : out.size = res.1.length := by rw [← hout]; rfl
    have e4 : (UInt8.ofNat left.data.toList.length :: res.1).length = 1 + out.size := by rw [List.length_cons, e3]; omega
    have e5 : (one ++ out ++ ⟨(List.replicate p 255).toArray⟩ : ByteArray).data.toList = one.data.toList ++ out.data.toList ++ List.replicate p 255 := by simp only [ByteArray.data_append, Array.toList_append]
    rw [e5, e1, e2, e4, hp]
    rfl⟩
  have HRES := Aside0.mk hres
  have HOUT := Aside0.mk hout
  have HONE := Aside0.mk hone
  clear htk hres hout hone hlen
  by_cases hz : 0 < left.size
  all_goals
   go_enter Tryd.func39, Tryd.ntmps39
   go_wp2_with (fail)
   have hcv1 := conv_one (w.alloc (.cells #[.int .u8 left.size] 5)).drew w.heap.size left.size (blk_drew (blk_new _ _))
   rw [HONE.out] at hcv1
   go_region_with (go_at_call 58; refine (HTK.out _ (by first | exact blk_drew HST.out | exact blk_drew (blk_alloc HST.out _)) (by first | exact HB.out.drew | exact (HB.out.alloc HB.out.size _).drew)).mono ?_; rintro e w2 ⟨rfl, hp⟩; (first | (have hcv2 := conv_one w2 w.heap.size left.size (hp.kept (blk_drew (blk_new w _)) (Nat.ne_of_gt hgl)); rw [HONE.out] at hcv2; have hp2 := Aside0.mk (hp.weak (only_drew (World.grownBy_alloc w _ _)))) | have hp2 := Aside0.mk (hp.weak (only_drew (World.grownBy.refl w _)))); clear hp; have hcv3 := conv_one (w2.alloc (.cells #[.int .u8 left.size] 5)) w2.heap.size left.size (blk_new _ _); rw [HONE.out] at hcv3)
   all_goals
    go_wp2_with (fail)
    refine (repeat_ff p _ hp1).mono ?_
    rintro e w3 ⟨rfl, hb⟩
    have HF : Aside0 (TakePost w0 w g res w3) := ⟨by first | exact hp2.out.after hb | exact (hp2.out.alloc _).after hb⟩
    clear hb hp2
    go_wp2_with (fail)
    go_ret2
    refine ⟨?_, ?_⟩
    · rw [HR.out]; rfl
    · rw [HR.out]; exact HF.out
theorem next_any (g : Nat) (left : ByteArray) (A : Option Addr) (c : Nat) (l : List ByteArray) (w0 w : World) (hst : StAt w g left A l.length c) (hl : SR w0 A l) (hc : l.length ≤ c) (hB : Below w0.heap.size w0 w) (hg : w0.heap.size ≤ g) (hne : 0 < left.size ∨ l ≠ []) :
    Calls Tryd.prog 39 #[.pointer (some ⟨g, 0, none⟩)] w fun e w' =>
      e = .returned (.tuple #[.string ⟨(nextF left.data.toList l).1.toArray⟩, .bool (nextF left.data.toList l).2.1]) ∧ TakePost w0 w g ((nextF left.data.toList l).1, (nextF left.data.toList l).2.2) w' := by
  by_cases h1 : 183 ≤ left.size
  · exact next_full g left A c l w0 w hst hl hc hB hg h1
  · by_cases h2 : l = []
    · exact next_last g left A c l w0 w hst hl hc hB hg (by omega) (hne.resolve_right fun h => h h2) h2
    · exact next_start g left A c l w0 w hst hl hc hB hg (by omega) h2
end Go.Proofs.YthmddhbccifcoaaDoor.Clar
namespace Go.Proofs.YthmddhbccifcoaaDoor.Clar
open Go.RowKit Go.Proofs.YthmddhbccifcoaaDoorW.PrintWords Go.Proofs.YthmddhbccifcoaaDoorW.PrintLast Go.Proofs.YthmddhbccifcoaaDoorW.PrintMore

/-- Bytes as bits. -/
def textBits (l : List UInt8) : List Nat := l.flatMap fun b => bitsOf b.toNat 8
theorem textBits_snoc (l : List UInt8) (b : UInt8) : textBits (l ++ [b]) = textBits l ++ bitsOf b.toNat 8 := by simp [textBits]
theorem textBits_append (l m : List UInt8) : textBits (l ++ m) = textBits l ++ textBits m := by simp [textBits]
theorem textBits_length (l : List UInt8) : (textBits l).length = 8 * l.length := by
  induction l with
  | nil => rfl
  | cons b l ih => simp only [textBits, List.flatMap_cons, List.length_append, bitsOf_length, List.length_cons] at *; omega
theorem textBits_lt (l : List UInt8) : ∀ b ∈ textBits l, b < 2 := by
  intro b hb
  obtain ⟨x, _, hx⟩ := List.mem_flatMap.1 hb
  exact bitsOf_lt _ _ b hx
theorem bytesOfBits_text (l : List UInt8) (r : List Nat) : bytesOfBits (textBits l ++ r) = l ++ bytesOfBits r := by
  induction l with
  | nil => rfl
  | cons b l ih =>
    have e : textBits (b :: l) ++ r = bitsOf b.toNat 8 ++ (textBits l ++ r) := by simp [textBits]
    have h8 : (bitsOf b.toNat 8).length = 8 := bitsOf_length _ _
    have hne : bitsOf b.toNat 8 ++ (textBits l ++ r) ≠ [] := by
      intro h
      have := congrArg List.length h
      simp [bitsOf_length] at this
    rw [e, bytesOfBits_cons _ hne]
    rw [List.take_append_of_le_length (by rw [h8]; exact Nat.le_refl _), List.take_of_length_le (by rw [h8]; exact Nat.le_refl _), List.drop_append_of_le_length (by rw [h8]; exact Nat.le_refl _), List.drop_of_length_le (by rw [h8]; exact Nat.le_refl _), List.nil_append, ih, List.cons_append]
    congr 1
    unfold byteOf
    rw [foldl_bitsOf _ _ (by exact b.toNat_lt), h8]
    simp

set_option maxHeartbeats 2000000 in
set_option maxRecDepth 100000 in
theorem outText_any (B o g : Nat) (bs : List Nat) (l : List ByteArray) (hbs : ∀ b ∈ bs, b < 2) (w : World) (h : OutAt w B o bs) (hB : B ≤ w.heap.size)
    (hg : w.heap[g]? = some (.cells (l.map Value.string).toArray 9 (0, 0))) (hl1 : l.length ≤ 1000) (hlen : bs.length + 8 * (l.flatMap fun s => s.data.toList).length ≤ 1000000) :
    Calls Tryd.prog 51 #[.pointer (some ⟨o, 0, none⟩), .slice (some ⟨g, 0, none⟩) l.length l.length] w fun e w' => e = .returned (.tuple #[]) ∧ OutAt w' B o (bs ++ textBits (l.flatMap fun s => s.data.toList)) ∧ Below B w w' ∧ Lib.OthersKept 5 (some o) w w' := by
  have hne : g ≠ o := by
    rintro rfl
    obtain ⟨_, v, hk, _⟩ := h
    rw [hk] at hg
    injection hg with hg
    injection hg with _ hg
    exact absurd hg (by decide)
  have H := Aside0.mk h
  have HG := Aside0.mk hg
  have HBS := Aside0.mk hbs
  clear h hg hbs
  go_enter Tryd.func51, Tryd.ntmps51
  go_wp2
  go_loopw [5, 6, 9] (fun _ _ i w' => ∃ k : Nat, k ≤ l.length ∧ i = .int .i64 k ∧ Aside0 (OutAt w' B o (bs ++ textBits ((l.take k).flatMap fun s => s.data.toList)) ∧ Below B w w' ∧ Lib.OthersKept 5 (some o) w w')) (fun _ _ i _ => l.length - (intOf i).toNat)
  case atStart => exact ⟨0, Nat.zero_le _, rfl, ⟨by simpa [textBits] using H.out, Below.refl _ _, Lib.OthersKept.refl _ _ _⟩⟩
  case round =>
    obtain ⟨k, hk, rfl, HO⟩ := hrel
    by_cases hlt : k < l.length
    · obtain ⟨s, hs⟩ : ∃ s, l[k]? = some s := ⟨l[k], List.getElem?_eq_getElem hlt⟩
      have hg2 := HO.out.2.2 g _ HG.out (by simpa using hne) (by intro c fz hh; cases hh)
      have hc := blk_cell hg2 k
      rw [show ((l.map Value.string).toArray)[k]? = some (.string s) by simp [hs]] at hc
      have htk : l.take (k + 1) = l.take k ++ [s] := by rw [List.take_add_one, hs]; rfl
      have HTK := Aside0.mk htk
      have hsz : ((l.take k).flatMap fun s => s.data.toList).length + s.size ≤ (l.flatMap fun s => s.data.toList).length := by
        have e : (l.flatMap fun s => s.data.toList) = ((l.take (k + 1)).flatMap fun s => s.data.toList) ++ ((l.drop (k + 1)).flatMap fun s => s.data.toList) := by
          rw [← List.flatMap_append, List.take_append_drop]
        rw [e, htk]
        simp [← ByteArray.size_data]
      obtain ⟨pre, hpre⟩ : ∃ pre, bs ++ textBits ((l.take k).flatMap fun s => s.data.toList) = pre := ⟨_, rfl⟩
      have hpl : pre.length + 8 * s.size ≤ 1000000 := by
        rw [← hpre, List.length_append, textBits_length]; omega
      have HPB : Aside0 (∀ b ∈ pre, b < 2) := ⟨by
        rw [← hpre]
        intro b hb
        rcases List.mem_append.1 hb with hb | hb
        · exact HBS.out b hb
        · exact textBits_lt _ b hb⟩
      rw [hpre] at HO
      have HPRE := Aside0.mk hpre
      clear htk hpre hsz
      go_wp2
      go_loopw [6, 15] (fun _ j w' => ∃ q : Nat, q ≤ s.size ∧ j = .int .i64 q ∧ Aside0 (OutAt w' B o (pre ++ textBits (s.data.toList.take q)) ∧ Below B w w' ∧ Lib.OthersKept 5 (some o) w w')) (fun _ j _ => s.size - (intOf j).toNat)
      case atStart => exact ⟨0, Nat.zero_le _, rfl, ⟨by simpa [textBits] using HO.out.1, HO.out.2⟩⟩
      case round =>
        obtain ⟨q, hq, rfl, HQ⟩ := hrel
        by_cases hqs : q < s.size
        · have hput := put_any B o (pre ++ textBits (s.data.toList.take q)) (s[q]'hqs).toNat 8 (Nat.lt_trans (s[q]'hqs).toNat_lt (by decide)) (by decide) (fun b hb => by
            rcases List.mem_append.1 hb with hb | hb
            · exact HPB.out b hb
            · exact textBits_lt _ b hb) wr HQ.out.1 (Nat.le_trans hB HQ.out.2.1.size) (by rw [List.length_append, textBits_length, List.length_take]; omega)
          have hw : IntKind.u64.wrap ((s[q]'hqs).toNat : Int) = ((s[q]'hqs).toNat : Int) := u64_wrap_nat _ (Nat.lt_trans (s[q]'hqs).toNat_lt (by decide))
          go_wp2_with (fail)
          refine hput.mono ?_
          rintro e w1 ⟨rfl, hO1, hB1, hK1⟩
          have HN : Aside0 (OutAt w1 B o (pre ++ textBits (s.data.toList.take (q + 1))) ∧ Below B w w1 ∧ Lib.OthersKept 5 (some o) w w1) := ⟨by
            refine ⟨?_, HQ.out.2.1.trans hB1, HQ.out.2.2.trans hK1⟩
            rw [List.append_assoc, ← textBits_snoc, show s.data.toList.take q ++ [s[q]'hqs] = s.data.toList.take (q + 1) by
              rw [List.take_add_one, show s.data.toList[q]? = some (s[q]'hqs) by
                rw [Array.getElem?_toList, Array.getElem?_eq_getElem hqs]; rfl]; rfl] at hO1
            exact hO1⟩
          clear hO1 hB1 hK1 hput
          go_wp2
          go_roundw
          case rel => exact ⟨q + 1, by omega, by go_num, HN⟩
          case measure => simp [intOf]; omega
        · go_wp2
          obtain rfl : q = s.size := by omega
          go_roundw
          case rel =>
            refine ⟨k + 1, by omega, by go_num, ⟨?_, HQ.out.2⟩⟩
            have := HQ.out.1
            rw [← HPRE.out, List.append_assoc, ← textBits_append, show s.data.toList.take s.size = s.data.toList from List.take_of_length_le (show s.data.toList.length ≤ s.data.size by simp)] at this
            rw [HTK.out, List.flatMap_append]
            simpa using this
          case measure => simp [intOf]; omega
    · obtain rfl : k = l.length := by omega
      go_wp2
      go_end0
      refine ⟨rfl, ?_⟩
      have := HO.out
      rwa [List.take_length] at this

theorem byteCells_nums (l : List UInt8) : Lib.byteCells l = nums .u8 (l.map fun b => (b.toNat : Int)) := by simp [Lib.byteCells, nums]
theorem strOfNums_bytes (l : List UInt8) : strOfNums (l.map fun b => (b.toNat : Int)) = ⟨l.toArray⟩ := by
  unfold strOfNums
  congr 2
  rw [List.map_map]
  conv => rhs; rw [← List.map_id l]
  apply List.map_congr_left
  intro b _
  simp
theorem outString_any (B o : Nat) (bs : List Nat) (w : World) (h : OutAt w B o bs) :
    Calls Tryd.prog 53 #[.pointer (some ⟨o, 0, none⟩)] w fun e w' => e = .returned (.string ⟨(bytesOfBits bs).toArray⟩) ∧ w' = w := by
  obtain ⟨hBo, v, hk, hown⟩ := h
  have hc0 := blk_cell hk 0
  have hcv : (convert 42 9 v).run Tryd.prog w = .ok (.string ⟨(bytesOfBits bs).toArray⟩) w := by
    rw [byteCells_nums] at hown
    have := own_string (P := Tryd.prog) (src := 42) (e := 5) (dst := 9) Tryd.underlying42 Tryd.underlying5 Tryd.underlying9 hown
    rwa [strOfNums_bytes] at this
  go_enter Tryd.func53, Tryd.ntmps53
  go_wp2
  go_ret
  exact ⟨rfl, rfl⟩
end Go.Proofs.YthmddhbccifcoaaDoor.Clar
