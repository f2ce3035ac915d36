/- A row of the call's own whose frozen cells, if any, lie behind its last cell ([]byte(s) lays such a mark), and append to it. -/
/- The reference's filled. -/
/- The reference's Bodies, as a plain function, are the packer's. -/
/- The reference's Bodies: how many there are. -/
import Derived.Test.YthmddhbccifcoaaDoorGLA
import Derived.Lib.FrozenHead2
import Derived.Test.YthmddhbccifcoaaDoorGLD
import Derived.Test.YthmddhbccifcoaaDoorGLF
import Derived.Test.YthmddhbccifcoaaDoorGLH
import Derived.Deep.CutRange
import Derived.Deep.DeepCutAuto
set_option linter.unusedVariables false
set_option linter.unusedSimpArgs false
namespace Go.Proofs.YthmddhbccifcoaaDoor.Clar
open Go.RowKit Go.Proofs.YthmddhbccifcoaaDoorW.PrintWords Go.Proofs.YthmddhbccifcoaaDoorW.PrintLast Go.Proofs.YthmddhbccifcoaaDoorW.PrintMore

def RowM (w : World) (base : Nat) (e : TypeId) (v : Value) (n : Nat) (xs : List Value) : Prop :=
  xs.length = n ∧ ∃ g cap cur fz, v = .slice (some ⟨g, 0, none⟩) n cap ∧ base ≤ g ∧ w.heap[g]? = some (.cells cur e fz) ∧ (fz = (0, 0) ∨ cap ≤ fz.1) ∧ n ≤ cap ∧ cap ≤ maxLen ∧ cur.size = cap ∧ cur.toList.take n = xs
theorem frozen_mark {w : World} {g : Nat} {cur : Array Value} {e : TypeId} {fz : Nat × Nat} (hg : w.heap[g]? = some (.cells cur e fz)) (hfz : fz = (0, 0) ∨ cur.size ≤ fz.1) (i : Nat) (hi : i < cur.size) : w.frozen? ⟨g, i, none⟩ = false := by
  obtain ⟨lo, hi'⟩ := fz
  simp only [World.frozen?, hg, Bool.and_eq_false_iff, decide_eq_false_iff_not]
  rcases hfz with h | h
  · cases h; right; omega
  · left; simp only at h; omega
theorem store_mark (P : Program) (w : World) (g i : Nat) (cur : Array Value) (e : TypeId) (fz : Nat × Nat) (u : Value) (hu : u.oneCell' = true) (hg : w.heap[g]? = some (.cells cur e fz)) (hfz : fz = (0, 0) ∨ cur.size ≤ fz.1) (hi : i < cur.size) :
    (storeCells ⟨g, i, none⟩ [u] 0).run P w = .ok () (w.setRow g (cur.setIfInBounds i u)) := by
  have hadd : (⟨g, i, none⟩ : Addr).add 0 = ⟨g, i, none⟩ := by unfold Addr.add; simp
  have hcell : w.cell? ⟨g, i, none⟩ = some cur[i] := by simp [World.cell?, hg, hi]
  have hst : (store ((⟨g, i, none⟩ : Addr).add 0) u).run P w = .ok () (w.setRow g (cur.setIfInBounds i u)) := by
    rw [hadd, run_store P w _ u _ hu, hcell]
    simp [frozen_mark hg hfz i hi, setCell_eq_setRow w g i cur e fz u hg]
  simp only [storeCells, Sem.run_bind, hst, Result.andThen_ok]
  rfl
theorem append_mark {P : Program} (w : World) (base : Nat) (t ty e : TypeId) (i : TypeInfo) (z : Value) (ht : P.underlying t = some (.slice e)) (hi : P.info? e = some i) (hz : i.zero = some z)
    (hsize : i.size = 1) (hby : i.bytes = 1) (hzs : z.cells.size = 1) (v : Value) (n : Nat) (xs : List Value) (hown : RowM w base e v n xs)
    (a : Addr) (c : Nat) (u : Value) (hu : u.oneCell' = true) (hnew : w.cell? (a.add 0) = some u) (hn : n ≤ 1000000) (hbase : base ≤ w.heap.size) :
    ∃ v' w', (Builtin.append_ #[t, t] ty #[v, .slice (some a) 1 c]).run P w = .ok v' w' ∧ RowM w' base e v' (n + 1) (xs ++ [u]) ∧ Below base w w' := by
  obtain ⟨hl, g, cap, cur, fz, rfl, hbg, hg, hfz, hnc, hcm, hcs, htake⟩ := hown
  have hnews : ∀ j x, [u][j]? = some x → w.cell? (a.add j) = some x := by
    intro j x hj
    cases j with
    | zero => simp at hj; rw [← hj]; exact hnew
    | succ j => simp at hj
  have hgl : g < w.heap.size := (Array.getElem?_eq_some_iff.1 hg).1
  by_cases hroom : n + 1 ≤ cap
  · have hf := run_firstCells_some (P := P) w i.size 1 a 1 c [u] (by simp [hsize]) hnews
    rw [hsize] at hf
    have hst := store_mark P w g n cur e fz u hu hg (by rw [hcs]; exact hfz) (by omega)
    have hr : (Builtin.append_ #[t, t] ty #[.slice (some ⟨g, 0, none⟩) n cap, .slice (some a) 1 c]).run P w = .ok (.slice (some ⟨g, 0, none⟩) (n + 1) cap) (w.setRow g (cur.setIfInBounds n u)) := by
      simp [Builtin.append_, run_underlying ht, sizeOf, typeInfo, hi, Builtin.lenOf, hroom, hf, Addr.add_lit, hsize, hst]
    refine ⟨_, _, hr, ⟨by simp [hl], g, cap, _, fz, rfl, hbg, setRow_heap w g cur _ e _ hg, hfz, hroom, hcm, by simp [hcs], ?_⟩, ?_⟩
    · have hlt : n < cur.toList.length := by rw [Array.length_toList]; omega
      rw [← htake, Array.toList_setIfInBounds, List.take_add_one, List.take_set_of_le (Nat.le_refl _), List.getElem?_set_self hlt]
      rfl
    · exact (Below.refl base w).grown (row := some g) ⟨rfl, rfl, rfl, by simp, fun k _ hk => setRow_other w g k _ (fun e => hk (by rw [e]))⟩ hbase (fun k hk => by cases hk; exact hbg)
  · have holds : ∀ j x, xs[j]? = some x → w.cell? ((⟨g, 0, none⟩ : Addr).add j) = some x := by
      intro j x hj
      rw [add_plain]
      have hjn : j < n := by rw [← hl]; exact (List.getElem?_eq_some_iff.1 hj).1
      rw [← htake, List.getElem?_take_of_lt hjn] at hj
      simp only [World.cell?, hg]
      simpa using hj
    have hr := run_append_grow (P := P) w t ty e i z ht hi hz ⟨g, 0, none⟩ n cap xs (by rw [hsize]; omega) holds a 1 c [u] (by simp [hsize]) hnews (by omega) (by omega) (growslice_fits (by omega) (by rw [hby]; omega))
    have hge := grownCap_ge w (n + 1) cap e
    have hcm2 : grownCap w (n + 1) cap e ≤ maxLen := grownCap_le_maxLen w (n + 1) cap e (by unfold maxLen; omega)
    refine ⟨_, _, hr, ⟨by simp [hl], w.heap.size, _, _, (0, 0), rfl, hbase, heap_alloc_new w.drew _, .inl rfl, hge, hcm2, ?_, ?_⟩, ?_⟩
    · simp only [Array.size_append, List.size_toArray, size_zeroCells, hzs, List.length_append, List.length_cons, List.length_nil, hl]
      omega
    · simp only [Array.toList_append]
      rw [show n + 1 = (xs ++ [u]).length by simp [hl]]
      exact List.take_left
    · exact ((Below.refl base w).drew).alloc hbase _
end Go.Proofs.YthmddhbccifcoaaDoor.Clar
namespace Go.Proofs.YthmddhbccifcoaaDoor.Clar
open Go.RowKit Go.Proofs.YthmddhbccifcoaaDoorW.PrintWords Go.Proofs.YthmddhbccifcoaaDoorW.PrintLast Go.Proofs.YthmddhbccifcoaaDoorW.PrintMore

theorem size_list2 (s : ByteArray) : s.data.size = s.size := rfl
theorem wpList_append_mark {P : Program} {w : World} {ops : Array Oper} {rest : List Oper} {o : Oper} {a : Act} {Q : Exit → Act → World → Prop} (hgd : o.guard = none) (s x : Operand) (t : TypeId)
    (ho : o.op = .call { callee := .builtin .append, args := #[s, x], argTypes := #[t, t] })
    (base : Nat) (e : TypeId) (i : TypeInfo) (z : Value) (ht : P.underlying t = some (.slice e)) (hi : P.info? e = some i) (hz : i.zero = some z)
    (hsize : i.size = 1) (hby : i.bytes = 1) (hzs : z.cells.size = 1) (v : Value) (n : Nat) (xs : List Value) (hs : a.eval s = v) (hown : RowM w base e v n xs)
    (ad : Addr) (c : Nat) (u : Value) (hx : a.eval x = .slice (some ad) 1 c) (hu : u.oneCell' = true) (hnew : w.cell? (ad.add 0) = some u) (hn : n ≤ 1000000) (hbase : base ≤ w.heap.size)
    (h : ∀ v' w', RowM w' base e v' (n + 1) (xs ++ [u]) → Below base w w' → wpList P ops Q rest (a.put o.dst v') w') : wpList P ops Q (o :: rest) a w := by
  refine wpList_plain hgd fun K hK => ?_
  obtain ⟨v', w', hr, h2, h3⟩ := append_mark (P := P) w base t o.type e i z ht hi hz hsize hby hzs v n xs hown ad c u hu hnew hn hbase
  unfold Oper.wp execOp
  simp only [ho, resolve, invoke, builtin, Sem.run_bind, Sem.run_pure, Result.andThen_ok, List.map_toArray, List.map_cons, List.map_nil, hs, hx, hr]
  exact hK _ _ (h v' w' h2 h3)
theorem RowM.alloc {w : World} {base : Nat} {e : TypeId} {v : Value} {n : Nat} {xs : List Value} (h : RowM w base e v n xs) (o : Obj) : RowM (w.alloc o) base e v n xs := by
  obtain ⟨hl, g, cap, cur, fz, rfl, hbg, hg, hr⟩ := h
  exact ⟨hl, g, cap, cur, fz, rfl, hbg, blk_alloc hg o, hr⟩
theorem RowM.form {w : World} {base : Nat} {e : TypeId} {v : Value} {n : Nat} {xs : List Value} (h : RowM w base e v n xs) : ∃ g cap, v = .slice (some ⟨g, 0, none⟩) n cap := by
  obtain ⟨hl, g, cap, cur, fz, rfl, _⟩ := h
  exact ⟨g, cap, rfl⟩
theorem rowM_bytes (w : World) (s : ByteArray) (hs : s.size ≤ 100000) : RowM (Lib.bytesWorld w 5 s) w.heap.size 5 (.slice (some ⟨w.heap.size, 0, none⟩) s.size (grownCap w s.size 0 5)) s.size (Lib.byteCells s.data.toList) := by
  have hge := grownCap_ge w s.size 0 5
  have hle := grownCap_le_maxLen w s.size 0 5 (by unfold maxLen; omega)
  have hsz : (Lib.bytesCells w 5 s).size = grownCap w s.size 0 5 := by
    unfold Lib.bytesCells
    rw [Array.size_append, Array.size_map, Array.size_replicate]
    have : s.data.size = s.size := rfl
    omega
  refine ⟨by simp [Lib.byteCells, size_list2], w.heap.size, _, _, _, rfl, Nat.le_refl _, Lib.bytesWorld_at_new w 5 s, .inr (by rw [hsz]; exact Nat.le_refl _), hge, hle, hsz, ?_⟩
  unfold Lib.bytesCells
  rw [Array.toList_append, List.take_append_of_le_length (by simp [size_list2]), List.take_of_length_le (by simp [size_list2])]
  simp [Lib.byteCells]
theorem rowM_string {w : World} {base n : Nat} {v : Value} {l : List UInt8} (h : RowM w base 5 v n (Lib.byteCells l)) : (convert 42 9 v).run Tryd.prog w = .ok (.string ⟨l.toArray⟩) w := by
  obtain ⟨hl, g, cap, cur, fz, rfl, hbg, hg, hfz, hnc, hcm, hcs, htake⟩ := h
  have hn : l.length = n := by simpa [Lib.byteCells] using hl
  have hx : (convert 42 9 (.slice (some ⟨g, 0, none⟩) n cap)).run Tryd.prog w = .ok (.string (strOfNums (l.map fun b => (b.toNat : Int)))) w := run_convert_bytes_arg (P := Tryd.prog) w 42 5 Tryd.underlying42 Tryd.underlying5 g 0 n cap (l.map fun b => (b.toNat : Int)) (by simpa using hn) (fun i hi => by
    have hj : i < l.length := by omega
    rw [Nat.zero_add]
    have h1 : cur.toList[i]? = (Lib.byteCells l)[i]? := by rw [← htake, List.getElem?_take_of_lt hi]
    simp only [World.cell?, hg]
    have h2 : (Lib.byteCells l)[i]? = some (.int .u8 ((l.map fun b => (b.toNat : Int)).getD i 0)) := by
      simp [Lib.byteCells, List.getD_eq_getElem?_getD, hj]
    rw [h2] at h1
    simpa using h1) 9 Tryd.underlying9
  rw [hx, strOfNums_bytes]
set_option maxHeartbeats 2000000 in
set_option maxRecDepth 100000 in
theorem filled_any (s : ByteArray) (w : World) (hs : s.size ≤ 184) :
    Calls Tryd.prog 41 #[.string s] w fun e w' => e = .returned (.string ⟨(padded s.data.toList).toArray⟩) ∧ Below w.heap.size w w' := by
  have kb := fun W => print_bytes (P := Tryd.prog) 9 42 5 Tryd.underlying9 Tryd.underlying42 Tryd.underlying5 s W
  have h0 := rowM_bytes w s (by omega)
  have hb0 := bytes_below (Below.refl w.heap.size w) (Nat.le_refl _) 5 s
  obtain ⟨i0, hi, hz0, hz1, hz2⟩ := info_parts infoU8
  have H0 := Aside0.mk h0
  have HB0 := Aside0.mk hb0
  clear h0 hb0
  go_enter Tryd.func41, Tryd.ntmps41
  go_wp2_with (fail)
  obtain ⟨W0, hW0⟩ : ∃ W0, Lib.bytesWorld w 5 s = W0 := ⟨_, rfl⟩
  obtain ⟨cp, hcp⟩ : ∃ cp, grownCap w s.size 0 5 = cp := ⟨_, rfl⟩
  obtain ⟨b, hb⟩ : ∃ b, w.heap.size = b := ⟨_, rfl⟩
  have h1 := H0.out
  have h2 := HB0.out
  rw [hW0, hcp, hb] at h1
  rw [hW0, hb] at h2
  rw [hW0, hcp, hb]
  have H1 := Aside0.mk h1
  have H2 := Aside0.mk h2
  have HB := Aside0.mk hb
  clear H0 HB0 h1 h2 hW0 hcp hb
  obtain ⟨kk, hkk⟩ : ∃ kk, 184 - s.size = kk := ⟨_, rfl⟩
  go_loopg [3] kk (fun kq v w' => ∃ g n cap, v = .slice (some ⟨g, 0, none⟩) n cap ∧ n + kq = 184 ∧ s.size ≤ n ∧ Aside0 (RowM w' b 5 (.slice (some ⟨g, 0, none⟩) n cap) n (Lib.byteCells (s.data.toList ++ List.replicate (n - s.size) 255)) ∧ Below b w w'))
  case atStart => exact ⟨b, s.size, cp, rfl, by omega, Nat.le_refl _, ⟨by rw [Nat.sub_self, List.replicate_zero, List.append_nil]; exact H1.out, H2.out⟩⟩
  case round =>
    obtain ⟨g, n, cap, rfl, hn1, hn2, HR⟩ := hrel
    cases gk with
    | zero =>
      obtain rfl : n = 184 := by omega
      have hcv := rowM_string HR.out.1
      go_wp2_with (fail)
      go_ret
      refine ⟨?_, by rw [HB.out]; exact HR.out.2⟩
      have e : s.data.toList ++ List.replicate (184 - s.size) 255 = padded s.data.toList := by unfold padded; rw [Array.length_toList]; rfl
      rw [← e, hkk]
      rfl
    | succ gk =>
      have hlt : n < 184 := by omega
      have hbw : b ≤ wr.heap.size := by have := HR.out.2.size; have := HB.out; omega
      go_wp2_with (at_builtin; refine wpList_append_mark rfl _ _ 42 rfl b 5 i0 (.int .u8 0) Tryd.underlying42 hi hz0 hz1 hz2 rfl _ n _ rfl (HR.out.1.alloc _) ⟨wr.heap.size, 0, none⟩ 1 (.int .u8 255) rfl rfl ?c1 (by omega) ?c2 ?_)
      case c1 => exact new_cells wr [.int .u8 255] _ 0 _ rfl
      case c2 => simp; omega
      intro v' w1 hrow1 hb1
      obtain ⟨g1, cap1, rfl⟩ := hrow1.form
      have HN : Aside0 (RowM w1 b 5 (.slice (some ⟨g1, 0, none⟩) (n + 1) cap1) (n + 1) (Lib.byteCells (s.data.toList ++ List.replicate (n + 1 - s.size) 255)) ∧ Below b w w1) := ⟨by
        refine ⟨?_, (HR.out.2.alloc hbw _).trans hb1⟩
        rw [show n + 1 - s.size = (n - s.size) + 1 by omega, List.replicate_succ', ← List.append_assoc, Lib.byteCells_append]
        exact hrow1⟩
      clear hrow1 hb1 HR
      go_wp2_with (fail)
      go_roundg gk
      case rel => exact ⟨g1, n + 1, cap1, rfl, by omega, by omega, HN⟩
      case measure => omega
end Go.Proofs.YthmddhbccifcoaaDoor.Clar
namespace Go.Proofs.YthmddhbccifcoaaDoor.Clar

def catL (l : List ByteArray) : List UInt8 := l.flatMap fun s => s.data.toList
/-- What is left of the section that is begun when there is room for so much, and the sections behind it. -/
def roomF : Nat → List ByteArray → Nat × List ByteArray
  | _, [] => (0, [])
  | m, s :: l => if m = 0 then (0, s :: l) else if m < s.size then (s.size - m, l) else roomF (m - s.size) l
def bodiesN : Nat → Nat → List UInt8 → List ByteArray → List (Bool × List UInt8)
  | 0, _, _, _ => []
  | k + 1, r, rest, l =>
    if rest = [] then []
    else if 183 ≤ r then (false, rest.take (min r 184)) :: bodiesN k (r - min r 184) (rest.drop (min r 184)) l
    else if 0 < r ∧ l = [] then [(false, padded rest)]
    else (true, padded (UInt8.ofNat r :: rest.take (min 183 rest.length))) :: bodiesN k (roomF (min 183 rest.length - r) l).1 (rest.drop (min 183 rest.length)) (roomF (min 183 rest.length - r) l).2
theorem take_cat (l : List ByteArray) (hne : ∀ s ∈ l, 0 < s.size) (m : Nat) (hm : 0 < m) : (takeF m [] l).1 = (catL l).take m ∧ (takeF m [] l).2.1 ++ catL (takeF m [] l).2.2 = (catL l).drop m ∧ roomF (min m (catL l).length) l = ((takeF m [] l).2.1.length, (takeF m [] l).2.2) := by
  induction l generalizing m with
  | nil => simp [takeF, takeL, catL, roomF]
  | cons s r ih =>
    rw [takeF_cons]
    have hc : catL (s :: r) = s.data.toList ++ catL r := by simp [catL]
    rw [hc]
    have hs : s.size = s.data.toList.length := Array.length_toList.symm
    obtain ⟨sl, hsl⟩ : ∃ sl, s.data.toList = sl := ⟨_, rfl⟩
    rw [hsl] at hs ⊢
    by_cases hlt : sl.length < m
    · have hs0 := hne s (by simp)
      have hroom : ∀ x, roomF (min m (sl.length + x)) (s :: r) = roomF (min m (sl.length + x) - sl.length) r := by
        intro x
        simp only [roomF]
        rw [if_neg (by omega), if_neg (by omega), hs]
      by_cases hr : r = []
      · subst hr
        have e : takeL m sl [] = (sl, [], []) := by simp only [takeL]; rw [List.take_of_length_le (by omega), List.drop_of_length_le (by omega)]
        rw [e]
        simp only [catL, List.flatMap_nil, List.append_nil]
        refine ⟨(List.take_of_length_le (by omega)).symm, (List.drop_of_length_le (by omega)).symm, ?_⟩
        have := hroom 0
        rw [Nat.add_zero] at this
        rw [this]
        simp [roomF]
      · rw [takeL_more m sl r hr hlt]
        obtain ⟨i1, i2, i3⟩ := ih (fun x hx => hne x (by simp [hx])) (m - sl.length) (by omega)
        simp only
        refine ⟨?_, ?_, ?_⟩
        · rw [i1, List.take_append, List.take_of_length_le (by omega : sl.length ≤ m)]
        · rw [i2, List.drop_append, List.drop_of_length_le (by omega : sl.length ≤ m), List.nil_append]
        · rw [List.length_append, hroom, show min m (sl.length + (catL r).length) - sl.length = min (m - sl.length) (catL r).length by omega, i3]
    · rw [takeL_done m sl r (.inr (by omega))]
      simp only
      refine ⟨?_, ?_, ?_⟩
      · rw [List.take_append_of_le_length (by omega)]
      · rw [List.drop_append_of_le_length (by omega)]
      · rw [List.length_append, show min m (sl.length + (catL r).length) = m by omega, List.length_drop]
        simp only [roomF]
        rw [if_neg (by omega), hs]
        by_cases hlt2 : m < sl.length
        · rw [if_pos hlt2]
        · rw [if_neg hlt2, show m - sl.length = 0 by omega, show sl.length - m = 0 by omega]
          cases r with
          | nil => rfl
          | cons a r => simp [roomF]
theorem catL_nil (l : List ByteArray) (hne : ∀ s ∈ l, 0 < s.size) (h : catL l = []) : l = [] := by
  cases l with
  | nil => rfl
  | cons s l =>
    have h1 := hne s (by simp)
    have h2 : s.data.toList = [] := by
      simp only [catL, List.flatMap_cons, List.append_eq_nil_iff] at h
      exact h.1
    have h3 : s.size = s.data.toList.length := Array.length_toList.symm
    rw [h2, List.length_nil] at h3
    omega
theorem takeF_nonempty (m : Nat) (l : List ByteArray) (hne : ∀ s ∈ l, 0 < s.size) (left : List UInt8) : ∀ s ∈ (takeF m left l).2.2, 0 < s.size := fun s hs => hne s ((takeF_suffix m left l).subset hs)
theorem bodiesN_eq (k : Nat) (left : List UInt8) (l : List ByteArray) (hne : ∀ s ∈ l, 0 < s.size) : bodiesN k left.length (left ++ catL l) l = packN k left l := by
  induction k generalizing left l with
  | zero => rfl
  | succ k ih =>
    simp only [bodiesN, packN]
    by_cases h0 : left = [] ∧ l = []
    · obtain ⟨rfl, rfl⟩ := h0
      simp [catL]
    · have hr : left ++ catL l ≠ [] := by
        intro h
        obtain ⟨h1, h2⟩ := List.append_eq_nil_iff.1 h
        exact h0 ⟨h1, catL_nil l hne h2⟩
      rw [if_neg h0, if_neg hr]
      unfold nextF
      by_cases hA : 183 ≤ left.length
      · rw [if_pos hA, if_pos hA]
        simp only
        have e1 : (left ++ catL l).take (min left.length 184) = left.take 184 := by
          rw [List.take_append_of_le_length (by omega)]
          by_cases h : left.length ≤ 184
          · rw [show min left.length 184 = left.length by omega, List.take_length, List.take_of_length_le h]
          · rw [show min left.length 184 = 184 by omega]
        have e2 : (left ++ catL l).drop (min left.length 184) = left.drop 184 ++ catL l := by
          rw [List.drop_append_of_le_length (by omega)]
          by_cases h : left.length ≤ 184
          · rw [show min left.length 184 = left.length by omega, List.drop_length, List.drop_of_length_le h]
          · rw [show min left.length 184 = 184 by omega]
        rw [e1, e2, ← ih (left.drop 184) l hne, List.length_drop, show left.length - min left.length 184 = left.length - 184 by omega]
      · rw [if_neg hA, if_neg hA]
        by_cases hB : 0 < left.length ∧ l = []
        · rw [if_pos hB, if_pos hB]
          obtain ⟨_, rfl⟩ := hB
          simp only [packN_nil, catL, List.flatMap_nil, List.append_nil]
        · rw [if_neg hB, if_neg hB]
          simp only
          have hlne : l ≠ [] := by
            rintro rfl
            by_cases hh : left = []
            · exact h0 ⟨hh, rfl⟩
            · exact hB ⟨List.length_pos_iff.2 hh, rfl⟩
          have hsplit := takeF_split left l hlne (by omega)
          obtain ⟨i1, i2, i3⟩ := take_cat l hne (183 - left.length) (by omega)
          have hsn := takeF_nonempty (183 - left.length) l hne []
          rw [hsplit]
          obtain ⟨t2, ht2⟩ : ∃ t2, takeF (183 - left.length) [] l = t2 := ⟨_, rfl⟩
          rw [ht2] at i1 i2 i3 hsn ⊢
          simp only
          have hmin : min 183 (left ++ catL l).length = left.length + min (183 - left.length) (catL l).length := by rw [List.length_append]; omega
          rw [hmin, show left.length + min (183 - left.length) (catL l).length - left.length = min (183 - left.length) (catL l).length by omega, i3]
          have htk : ∀ n, (catL l).take (min n (catL l).length) = (catL l).take n := by
            intro n
            by_cases h : n ≤ (catL l).length
            · rw [show min n (catL l).length = n by omega]
            · rw [show min n (catL l).length = (catL l).length by omega, List.take_length, List.take_of_length_le (by omega)]
          have hdk : ∀ n, (catL l).drop (min n (catL l).length) = (catL l).drop n := by
            intro n
            by_cases h : n ≤ (catL l).length
            · rw [show min n (catL l).length = n by omega]
            · rw [show min n (catL l).length = (catL l).length by omega, List.drop_length, List.drop_of_length_le (by omega)]
          have e1 : (left ++ catL l).take (left.length + min (183 - left.length) (catL l).length) = left ++ t2.1 := by
            rw [List.take_append, List.take_of_length_le (by omega), show left.length + min (183 - left.length) (catL l).length - left.length = min (183 - left.length) (catL l).length by omega, htk, i1]
          have e2 : (left ++ catL l).drop (left.length + min (183 - left.length) (catL l).length) = t2.2.1 ++ catL t2.2.2 := by
            rw [List.drop_append, List.drop_of_length_le (by omega), List.nil_append, show left.length + min (183 - left.length) (catL l).length - left.length = min (183 - left.length) (catL l).length by omega, hdk, i2]
          rw [e1, e2, ← ih t2.2.1 t2.2.2 hsn]
/-- The reference's packets. -/
def bodiesF (l : List ByteArray) : List (Bool × List UInt8) := bodiesN (weight [] l) 0 (catL l) l
theorem bodiesF_eq (l : List ByteArray) (hne : ∀ s ∈ l, 0 < s.size) : bodiesF l = packF l := by
  exact bodiesN_eq (weight [] l) [] l hne
end Go.Proofs.YthmddhbccifcoaaDoor.Clar
namespace Go.Proofs.YthmddhbccifcoaaDoor.Clar
open Go.RowKit Go.Proofs.YthmddhbccifcoaaDoorW.PrintWords Go.Proofs.YthmddhbccifcoaaDoorW.PrintLast Go.Proofs.YthmddhbccifcoaaDoorW.PrintMore

theorem infoPk14 : (Tryd.prog.info? 77).map (fun i => (i.zero, i.size, i.bytes)) = some (some (.agg #[.int .i64 0, .bool false, .int .i64 0, .bool false, .string ⟨#[]⟩]), 5, 48) := by kernel_rfl
theorem catL_take_succ (l : List ByteArray) (k : Nat) (s : ByteArray) (h : l[k]? = some s) : catL (l.take (k + 1)) = catL (l.take k) ++ s.data.toList := by
  rw [List.take_add_one, h]
  simp [catL]
theorem bod_next (left : List UInt8) (L : List ByteArray) (rest : ByteArray) (nn : Nat) (h : left.length < 183) (hL : L ≠ []) (hne : ∀ s ∈ L, 0 < s.size) (hr : rest.data.toList = left ++ catL L) (hn : nn = min 183 rest.size) :
    roomF (nn - left.length) L = ((takeF 183 left L).2.1.length, (takeF 183 left L).2.2) ∧ (rest.extract nn rest.size).data.toList = (takeF 183 left L).2.1 ++ catL (takeF 183 left L).2.2 := by
  have hsp := takeF_split left L hL h
  obtain ⟨h1, h2, h3⟩ := take_cat L hne (183 - left.length) (by omega)
  have hsz : rest.size = left.length + (catL L).length := by
    have := congrArg List.length hr
    rw [Array.length_toList, List.length_append] at this
    exact this
  rw [hsp]
  simp only
  refine ⟨?_, ?_⟩
  · rw [← h3]
    congr 1
    omega
  · rw [h2, data_extract, List.take_of_length_le (by rw [Array.length_toList]; exact Nat.le_refl _), hr, List.drop_append, List.drop_of_length_le (by omega), List.nil_append]
    by_cases h4 : 183 ≤ rest.size
    · congr 1; omega
    · rw [List.drop_of_length_le (by omega), List.drop_of_length_le (by omega)]
/-- The loop over room: what is left when there is room for m. -/
def RoomAt (l : List ByteArray) (R : Nat × List ByteArray) (r x m : Nat) : Prop := (m = 0 ∧ (r, l.drop x) = R) ∨ (0 < m ∧ r = 0 ∧ roomF m (l.drop x) = R)
theorem RoomAt.start (l : List ByteArray) (x m : Nat) : RoomAt l (roomF m (l.drop x)) 0 x m := by
  by_cases h : m = 0
  · subst h
    refine .inl ⟨rfl, ?_⟩
    cases l.drop x with
    | nil => rfl
    | cons s L => simp [roomF]
  · exact .inr ⟨by omega, rfl, rfl⟩
theorem RoomAt.done {l : List ByteArray} {R : Nat × List ByteArray} {r x m : Nat} (h : RoomAt l R r x m) (hd : m = 0 ∨ l.length ≤ x) : (r, l.drop x) = R := by
  rcases h with h | ⟨h1, rfl, h2⟩
  · exact h.2
  · rw [← h2, List.drop_of_length_le (by omega)]; rfl
theorem RoomAt.over {l : List ByteArray} {R : Nat × List ByteArray} {r x m : Nat} {s : ByteArray} (h : RoomAt l R r x m) (hm : 0 < m) (hs : l[x]? = some s) (hlt : m < s.size) : RoomAt l R (s.size - m) (x + 1) 0 := by
  rcases h with h | ⟨_, rfl, h2⟩
  · omega
  · obtain ⟨hx, rfl⟩ := List.getElem?_eq_some_iff.1 hs
    rw [List.drop_eq_getElem_cons hx] at h2
    simp only [roomF] at h2
    rw [if_neg (by omega), if_pos hlt] at h2
    exact .inl ⟨rfl, h2⟩
theorem RoomAt.all {l : List ByteArray} {R : Nat × List ByteArray} {r x m : Nat} {s : ByteArray} (h : RoomAt l R r x m) (hm : 0 < m) (hs : l[x]? = some s) (hlt : s.size ≤ m) : r = 0 ∧ RoomAt l R 0 (x + 1) (m - s.size) := by
  rcases h with h | ⟨_, rfl, h2⟩
  · omega
  · obtain ⟨hx, rfl⟩ := List.getElem?_eq_some_iff.1 hs
    rw [List.drop_eq_getElem_cons hx] at h2
    simp only [roomF] at h2
    rw [if_neg (by omega), if_neg (by omega)] at h2
    refine ⟨rfl, ?_⟩
    rw [← h2]
    exact RoomAt.start l (x + 1) _
structure BodAt (w0 : World) (l : List ByteArray) (k : Nat) (w : World) (v : Value) (n r nx : Nat) (rest : ByteArray) : Prop where
  row : ∃ xs, w.ownsRow w0.heap.size 77 5 v n xs
  bel : Below w0.heap.size w0 w
  lft : ∃ left : List UInt8, left.length = r ∧ rest.data.toList = left ++ catL (l.drop nx) ∧ weight left (l.drop nx) ≤ k ∧ n + (packN k left (l.drop nx)).length = (packF l).length
  nx : nx ≤ l.length
  size : rest.size ≤ 4096000
  r : r ≤ 4096
  k : n + k ≤ 4097000
set_option maxHeartbeats 4000000 in
set_option maxRecDepth 100000 in
theorem bodies_any (A : Option Addr) (c : Nat) (l : List ByteArray) (w : World) (hl : SR w A l) (hc : l.length ≤ c) (hn : l.length ≤ 1000) (hck : ∀ j, j < l.length → checkOf (l.getD j ByteArray.empty) = 0) :
    Calls Tryd.prog 27 #[.slice A l.length c] w fun e w' => ∃ A' c', e = .returned (.slice A' (packF l).length c') ∧ Below w.heap.size w w' := by
  have hsz : ∀ (j : Nat) (s : ByteArray), l[j]? = some s → 12 ≤ s.size ∧ s.size ≤ 4096 := by
    intro j s hj
    have h1 := hck j (List.getElem?_eq_some_iff.1 hj).1
    rw [List.getD_eq_getElem?_getD, hj] at h1
    exact checkOf_size s h1
  have hne : ∀ s ∈ l, 0 < s.size := by
    intro s hs
    obtain ⟨j, hj, rfl⟩ := List.getElem_of_mem hs
    have := hsz j _ (List.getElem?_eq_getElem hj)
    omega
  have hbf := bodiesF_eq l hne
  have hwt : weight [] l ≤ 4097000 := by have := weight_le l hck; omega
  have HL := Aside0.mk hl
  have HC := Aside0.mk hc
  have HSZ := Aside0.mk hsz
  have HNE := Aside0.mk hne
  clear hl hc hck hsz hne hbf
  go_enter Tryd.func27, Tryd.ntmps27
  go_wp2_with (fail)
  go_loopw [3, 4] (fun t i w' => ∃ (k : Nat) (ts : ByteArray), k ≤ l.length ∧ t = .string ts ∧ i = .int .i64 k ∧ ts.size ≤ 4096 * k ∧ Aside0 (ts.data.toList = catL (l.take k)) ∧ w = w') (fun _ i _ => l.length - (intOf i).toNat)
  case atStart => exact ⟨0, ⟨#[]⟩, by omega, rfl, rfl, Nat.zero_le _, ⟨rfl⟩, rfl⟩
  case round =>
    obtain ⟨k, ts, hk, rfl, rfl, hts, HT, rfl⟩ := hrel
    by_cases hlt : k < l.length
    · obtain ⟨ad, rfl, hx⟩ := HL.out.at_ k (by omega) (by omega)
      obtain ⟨s, hsk⟩ : ∃ s, l[k]? = some s := ⟨l[k], List.getElem?_eq_getElem hlt⟩
      have hx2 : w.cell? (ad.add k) = some (.string s) := by
        simpa [rdOf, List.getD_eq_getElem?_getD, hsk] using hx
      have hs2 := HSZ.out k s hsk
      have hsa : (ts ++ s).size ≤ 4096 * (k + 1) := by rw [ByteArray.size_append]; omega
      have HN : Aside0 ((ts ++ s).data.toList = catL (l.take (k + 1))) := ⟨by rw [catL_take_succ l k s hsk, ByteArray.data_append, Array.toList_append, HT.out]⟩
      clear hx hsk
      go_wp2_with (fail)
      go_roundw
      case rel => exact ⟨k + 1, ts ++ s, by omega, rfl, by go_num, hsa, HN, trivial⟩
      case measure => simp [intOf]; omega
    · obtain rfl : k = l.length := by omega
      go_wp2_with (fail)
      obtain ⟨tot, htot⟩ : ∃ tot, (bodiesF l).length = tot := ⟨_, rfl⟩
      obtain ⟨kk, hkk⟩ : ∃ kk, weight [] l = kk := ⟨_, rfl⟩
      have HST : Aside0 (BodAt w l kk w (.slice none 0 0) 0 0 0 ts) := ⟨⟨⟨[], own_nil _ _ _ _⟩, Below.refl _ _, ⟨[], rfl, by rw [HT.out, List.take_length, List.drop_zero]; rfl, by rw [List.drop_zero]; omega, by rw [List.drop_zero, ← hkk, Nat.zero_add]; rfl⟩, Nat.zero_le _, by omega, Nat.zero_le _, by omega⟩⟩
      clear htot hkk
      go_loopg [3, 5, 6, 7, 8, 9, 10] kk (fun kq t v r nx _ _ _ w' => ∃ (n rr x : Nat) (rest : ByteArray) (A' : Option Addr) (c' : Nat), t = .string rest ∧ v = .slice A' n c' ∧ r = .int .i64 rr ∧ nx = .int .i64 x ∧ Aside0 (BodAt w l kq w' (.slice A' n c') n rr x rest))
      case atStart => exact ⟨0, 0, 0, ts, none, 0, rfl, rfl, rfl, rfl, HST⟩
      case round =>
        obtain ⟨n, rr, x, rest, A', c', rfl, rfl, rfl, rfl, HB⟩ := hrel
        have hb1 := HB.out.nx
        have hb2 := HB.out.size
        have hb3 := HB.out.r
        have hb4 := HB.out.k
        by_cases h0 : rest.size = 0
        · go_wp2_with (fail)
          go_ret
          obtain ⟨left, f1, f2, f3, f4⟩ := HB.out.lft
          have hre : rest.data.toList = [] := by rw [← List.length_eq_zero_iff, Array.length_toList]; exact h0
          rw [hre] at f2
          obtain ⟨g1, g2⟩ := List.append_eq_nil_iff.1 f2.symm
          have g3 := catL_nil (l.drop x) (fun s hs => HNE.out s (List.mem_of_mem_drop hs)) g2
          rw [g1, g3, packN_nil, List.length_nil, Nat.add_zero] at f4
          rw [← f4]
          exact ⟨A', c', rfl, HB.out.bel⟩
        · have h00 : 0 < rest.size := by omega
          have hrne : rest.data.toList ≠ [] := by
            intro h
            rw [← List.length_eq_zero_iff, Array.length_toList] at h
            exact h0 h
          obtain ⟨left, f1, f2, f3, f4⟩ := HB.out.lft
          cases gk with
          | zero =>
            exfalso
            have e1 : left = [] := List.eq_nil_of_length_eq_zero (by unfold weight at f3; omega)
            have e2 : l.drop x = [] := by
              cases hh : l.drop x with
              | nil => rfl
              | cons s r => rw [hh] at f3; simp [weight] at f3
            rw [e1, e2] at f2
            exact hrne f2
          | succ gk =>
            have hnot : ¬ (left = [] ∧ l.drop x = []) := by
              rintro ⟨e1, e2⟩
              rw [e1, e2] at f2
              exact hrne f2
            have hneq : left ≠ [] ∨ l.drop x ≠ [] := by
              by_cases ha : left = []
              · exact .inr fun hb => hnot ⟨ha, hb⟩
              · exact .inl ha
            have hw := nextF_weight left (l.drop x) hneq
            simp only [packN, if_neg hnot, List.length_cons] at f4
            obtain ⟨xs, hrow⟩ := HB.out.row
            have HROW := Aside0.mk hrow
            obtain ⟨i0, hi, hz0, hz1, hz2⟩ := info_parts infoPk14
            have HF2 := Aside0.mk f2
            have HF4 := Aside0.mk f4
            have HF3 := Aside0.mk f3
            have HW := Aside0.mk hw
            have HNOT := Aside0.mk hnot
            clear f2 f4 f3 hw hnot hneq hrow hrne
            have hrs : rr ≤ rest.size := by
              have := congrArg List.length HF2.out
              rw [Array.length_toList, List.length_append] at this
              have e : rest.data.size = rest.size := rfl
              omega
            have hbw : wr.heap.size = wr.heap.size := rfl
            by_cases hA : 183 ≤ rr
            · obtain ⟨m, hm⟩ : ∃ m, min rr 184 = m := ⟨_, rfl⟩
              have hmin : min (rr : Int) 184 = (m : Int) := by omega
              have hm1 : m ≤ rest.size := by omega
              have hm2 : m ≤ rr := by omega
              have HM := Aside0.mk hm
              clear hm
              go_wp2_with (at_builtin; refine wpList_append_own _ rfl _ _ 74 rfl _ 77 i0 _ 5 48 Tryd.underlying74 hi hz0 hz1 hz2 rfl (by decide) _ _ _ rfl (HROW.out.alloc _) ⟨wr.heap.size, 0, none⟩ 1 1 [.int .i64 0, .bool false, .int .i64 0, .bool false, .string (rest.extract 0 m)] rfl rfl ?c1 ?c2 ?c3 ?c4 ?c5 ?_)
              case c2 => exact ⟨rfl, rfl, rfl, rfl, rfl⟩
              case c3 => unfold maxLen; omega
              case c4 => omega
              case c5 => have := HB.out.bel.size; simp; omega
              intro v' w1 hrow1 hgr1 _
              obtain ⟨A1, c1, rfl⟩ := own_len hrow1
              have HBEL1 : Aside0 (Below w.heap.size w w1) := ⟨pw_below_grown (HB.out.bel.alloc HB.out.bel.size _) _ (by have := HB.out.bel.size; simp; omega) hgr1 (fun k hk => (HROW.out.lt k hk).1)⟩
              have HROW1 := Aside0.mk hrow1
              clear hrow1 hgr1
              go_wp2_with (fail)
              go_roundg gk
              case measure => omega
              case rel =>
                refine ⟨n + 1, rr - m, x, rest.extract m rest.size, A1, c1, rfl, rfl, by go_num, rfl, ⟨⟨_, HROW1.out⟩, HBEL1.out, ⟨left.drop 184, ?_, ?_, ?_, ?_⟩, hb1, ?_, by omega, by omega⟩⟩
                all_goals have hnf : nextF left (l.drop x) = (left.take 184, false, left.drop 184, l.drop x) := by unfold nextF; rw [if_pos (by omega)]
                · rw [List.length_drop]; have := HM.out; omega
                · rw [data_extract, List.take_of_length_le (by rw [Array.length_toList]; exact Nat.le_refl _), HF2.out, List.drop_append_of_le_length (by omega)]
                  have e : left.drop m = left.drop 184 := by
                    have := HM.out
                    by_cases h : left.length ≤ 184
                    · rw [List.drop_of_length_le h, List.drop_of_length_le (by omega)]
                    · rw [show m = 184 by omega]
                  rw [e]
                · have h1 := HW.out
                  have h2 := HF3.out
                  rw [hnf] at h1
                  simp only at h1
                  omega
                · have h1 := HF4.out
                  rw [hnf] at h1
                  simp only at h1
                  omega
                · rw [ByteArray.size_extract]; omega
            · by_cases hBc : 0 < rr ∧ x = l.length
              · obtain ⟨hB1, rfl⟩ := hBc
                have hdn : l.drop l.length = [] := List.drop_length
                have hre : rest.data.toList = left := by rw [HF2.out, hdn]; simp [catL]
                have hrsz : rest.size = rr := by
                  have := congrArg List.length hre
                  rw [Array.length_toList] at this
                  have e : rest.data.size = rest.size := rfl
                  omega
                have HRSZ := Aside0.mk hrsz
                have hfa := filled_any rest wr (by omega)
                obtain ⟨fs, hfs⟩ : ∃ fs : ByteArray, (⟨(padded rest.data.toList).toArray⟩ : ByteArray) = fs := ⟨_, rfl⟩
                rw [hfs] at hfa
                clear hfs
                have hlen : 1 = (packF l).length - n := by
                  have h1 := HF4.out
                  have hnf : nextF left (l.drop l.length) = (padded left, false, [], []) := by
                    rw [hdn]; unfold nextF; rw [if_neg (by omega), if_pos ⟨by omega, rfl⟩]
                  rw [hnf] at h1
                  simp only [packN_nil, List.length_nil] at h1
                  omega
                have hpos : n + 1 = (packF l).length := by
                  have h1 := HF4.out
                  omega
                have HPOS := Aside0.mk hpos
                clear hlen hpos hre hdn hrsz
                go_wp2_with (fail)
                refine hfa.mono ?_
                rintro e W1 ⟨rfl, hbw1⟩
                have HROW1 := Aside0.mk (pw_own_below HROW.out hbw1)
                have HBEL1 : Aside0 (Below w.heap.size w W1) := ⟨below_then2 HB.out.bel hbw1 HB.out.bel.size⟩
                clear hbw1 hfa
                go_wp2_with (at_builtin; refine wpList_append_own _ rfl _ _ 74 rfl _ 77 i0 _ 5 48 Tryd.underlying74 hi hz0 hz1 hz2 rfl (by decide) _ _ _ rfl (HROW1.out.alloc _) ⟨W1.heap.size, 0, none⟩ 1 1 [.int .i64 0, .bool false, .int .i64 0, .bool false, .string fs] rfl rfl ?b1 ?b2 ?b3 ?b4 ?b5 ?_)
                case b1 => exact new_cells W1 _ _
                case b2 => intro u hu; simp at hu; rcases hu with rfl | rfl | rfl | rfl | rfl <;> rfl
                case b3 => unfold maxLen; omega
                case b4 => omega
                case b5 => have := HBEL1.out.size; simp; omega
                intro v' w1 hrow1 hgr1 _
                obtain ⟨A1, c1, rfl⟩ := own_len hrow1
                have HBEL2 : Aside0 (Below w.heap.size w w1) := ⟨pw_below_grown (HBEL1.out.alloc HBEL1.out.size _) _ (by have := HBEL1.out.size; simp; omega) hgr1 (fun k hk => (HROW1.out.lt k hk).1)⟩
                clear hrow1 hgr1
                go_wp2_with (fail)
                go_ret
                exact ⟨A1, c1, by rw [← HPOS.out]; rfl, HBEL2.out⟩
              · have hdne : l.drop x ≠ [] := by
                  intro h
                  have h1 : l.length ≤ x := List.drop_eq_nil_iff.1 h
                  by_cases h2 : rr = 0
                  · exact HNOT.out ⟨List.eq_nil_of_length_eq_zero (by omega), h⟩
                  · exact hBc ⟨by omega, by omega⟩
                have hx : x < l.length := by
                  apply Classical.byContradiction
                  intro h
                  exact hdne (List.drop_eq_nil_iff.2 (by omega))
                have hnf : nextF left (l.drop x) = (padded (UInt8.ofNat left.length :: (takeF 183 left (l.drop x)).1), true, (takeF 183 left (l.drop x)).2) := by unfold nextF; rw [if_neg (by omega), if_neg (fun h => hdne h.2)]
                obtain ⟨nn, hnn⟩ : ∃ nn, min 183 rest.size = nn := ⟨_, rfl⟩
                have hmin : min 183 (rest.size : Int) = (nn : Int) := by omega
                have hn1 : nn ≤ rest.size := by omega
                have hn2 : nn ≤ 183 := by omega
                have hn3 : rr ≤ nn := by omega
                have hn4 : 0 < nn := by omega
                have hexs : (rest.extract 0 nn).size = nn := by rw [ByteArray.size_extract]; omega
                obtain ⟨one, hone⟩ : ∃ one : ByteArray, strOfNums [(rr : Int)] = one := ⟨_, rfl⟩
                have hs1 : one.size ≤ 1 := by rw [← hone]; exact Nat.le_refl _
                obtain ⟨fs, hfs⟩ : ∃ fs : ByteArray, (⟨(padded (one ++ rest.extract 0 nn).data.toList).toArray⟩ : ByteArray) = fs := ⟨_, rfl⟩
                have hfa : ∀ W : World, Below wr.heap.size wr W → Calls Tryd.prog 41 #[.string (one ++ rest.extract 0 nn)] W fun e w' => e = .returned (.string fs) ∧ Below wr.heap.size wr w' := by
                  intro W hW
                  have := filled_any (one ++ rest.extract 0 nn) W (by rw [ByteArray.size_append]; omega)
                  rw [hfs] at this
                  exact this.mono fun e w' h => ⟨h.1, below_then2 hW h.2 hW.size⟩
                have HFA := Aside0.mk hfa
                have HNN := Aside0.mk hnn
                have HNF := Aside0.mk hnf
                have HONE := Aside0.mk hone
                have hdne2 := hdne
                clear hfa hfs hnn hnf hone hexs hdne
                go_upto_region 15 with fail
                go_cut [50] from 23 to 110 (fun c wx => c = .bool false ∧ wx = wr)
                case first =>
                  by_cases h2 : 0 < rr
                  · have e1 : decide ((0 : Int) < rr) = true := by simp; omega
                    have e2 : ((x : Int) == (l.length : Int)) = false := by simp; omega
                    go_wp2_with fail
                    go_meet
                    exact ⟨rfl, rfl⟩
                  · have e1 : decide ((0 : Int) < rr) = false := by simp; omega
                    go_wp2_with fail
                    go_meet
                    exact ⟨rfl, rfl⟩
                case rest =>
                  obtain ⟨rfl, rfl⟩ := hcut
                  go_upto_region 19 with fail
                  go_cut [5] from 23 to 110 (fun v wx => ∃ A1 c1, v = .slice A1 (n + 1) c1 ∧ Aside0 (∃ xs, wx.ownsRow w.heap.size 77 5 (.slice A1 (n + 1) c1) (n + 1) xs) ∧ Aside0 (Below w.heap.size w wx))
                  case first =>
                    have hcv1 := conv_one (wc.alloc (.cells #[.int .u8 rr] 5)).drew wc.heap.size rr (blk_drew (blk_new _ _))
                    rw [HONE.out] at hcv1
                    have hw8 : IntKind.u8.wrap (rr : Int) = rr := by rw [IntKind.wrap_u8]; omega
                    have hcc : ¬ (9223372036854775807 < one.size + nn) := by omega
                    go_wp2_with (fail)
                    go_region_law (first | (refine step_append_cells (w0 := w) w.heap.size rfl _ _ 74 77 _ 5 48 rfl Tryd.underlying74 infoPk14 rfl (by decide) (by decide) (.slice A' n c') n xs [.int .i64 0, .bool true, .int .i64 0, .bool false, .string fs] rfl rfl rfl (by intro u hu; simp at hu; rcases hu with rfl | rfl | rfl | rfl | rfl <;> rfl) HR2.out HB2.out HB2.out.size (by omega) ?_; intro v1 w1 hr1 hb1 _ _; obtain ⟨A1, c1, rfl⟩ := own_len hr1) | (go_simp; go_at_call 41; refine (HFA.out _ ?_).mono ?_; (first | exact ((Below.refl _ _).alloc (Nat.le_refl _) _).drew | exact (Below.refl _ _).drew); rintro e w2 ⟨rfl, hb⟩; have HR2 := Aside0.mk (pw_own_below HROW.out hb); have HB2 : Aside0 (Below w.heap.size w w2) := ⟨below_then2 HB.out.bel hb HB.out.bel.size⟩; clear hb))
                    go_wp2_with (fail)
                    go_meet
                    exact ⟨A1, c1, rfl, ⟨_, hr1⟩, ⟨hb1⟩⟩
                  case rest =>
                    obtain ⟨A1, c1, rfl, HR, HBL⟩ := hcut
                    obtain ⟨W1, rfl⟩ : ∃ W1 : World, W1 = wc := ⟨_, rfl⟩
                    have hbn := bod_next left (l.drop x) rest nn (by omega) hdne2 (fun s hs => HNE.out s (List.mem_of_mem_drop hs)) HF2.out HNN.out.symm
                    rw [f1] at hbn
                    obtain ⟨R, hR⟩ : ∃ R, roomF (nn - rr) (l.drop x) = R := ⟨_, rfl⟩
                    have HST2 : Aside0 (RoomAt l R 0 x (nn - rr)) := ⟨hR ▸ RoomAt.start l x (nn - rr)⟩
                    rw [hR] at hbn
                    have HBN := Aside0.mk hbn
                    have HSL : Aside0 (SR W1 A l) := ⟨HL.out.below HBL.out⟩
                    clear hbn hR
                    go_wp2_with (fail)
                    obtain ⟨g0, rfl⟩ : ∃ g0, g0 = gk := ⟨_, rfl⟩
                    obtain ⟨kx, hkx⟩ : ∃ kx, l.length - x = kx := ⟨_, rfl⟩
                    go_loopg [6, 7, 10] kx (fun kq r nx m w' => ∃ r1 x1 m1 : Nat, r = .int .i64 r1 ∧ nx = .int .i64 x1 ∧ m = .int .i64 m1 ∧ r1 ≤ 4096 ∧ m1 ≤ 200 ∧ x1 + kq = l.length ∧ Aside0 (RoomAt l R r1 x1 m1) ∧ W1 = w')
                    case atStart => exact ⟨0, x, nn - rr, rfl, rfl, by go_num, by omega, by omega, by omega, HST2, rfl⟩
                    case round =>
                      obtain ⟨r1, x1, m1, rfl, rfl, rfl, hr1, hm1, hx1, HRA, rfl⟩ := hrel
                      by_cases hmz : 0 < m1 ∧ x1 < l.length
                      · obtain ⟨hm0, hxl⟩ := hmz
                        obtain ⟨s, hs⟩ : ∃ s, l[x1]? = some s := ⟨l[x1], List.getElem?_eq_getElem hxl⟩
                        obtain ⟨ad, hAd, hc⟩ := HSL.out.at_ x1 (by omega) (by omega)
                        subst hAd
                        have hc2 : W1.cell? (ad.add x1) = some (.string s) := by
                          simpa [rdOf, List.getD_eq_getElem?_getD, hs] using hc
                        have hs2 := HSZ.out x1 s hs
                        have e1 : decide ((0 : Int) < m1) = true := by simp; omega
                        have e2 : decide ((x1 : Int) < l.length) = true := by simp; omega
                        obtain ⟨k1, rfl⟩ : ∃ k1, gk = k1 + 1 := ⟨gk - 1, by omega⟩
                        by_cases hlt : m1 < s.size
                        · have HN : Aside0 (RoomAt l R (s.size - m1) (x1 + 1) 0) := ⟨HRA.out.over hm0 hs hlt⟩
                          clear hc hs HRA
                          have e3 : decide ((m1 : Int) < s.size) = true := by simp; omega
                          go_wp2_with (fail)
                          go_roundg k1
                          case measure => omega
                          case rel => exact ⟨s.size - m1, x1 + 1, 0, by go_num, by go_num, rfl, by omega, by omega, by omega, HN, rfl⟩
                        · obtain ⟨rfl, h3⟩ := HRA.out.all hm0 hs (by omega)
                          have HN := Aside0.mk h3
                          clear hc hs HRA h3
                          have e3 : decide ((m1 : Int) < s.size) = false := by simp; omega
                          go_wp2_with (fail)
                          go_roundg k1
                          case measure => omega
                          case rel => exact ⟨0, x1 + 1, m1 - s.size, rfl, by go_num, by go_num, by omega, by omega, by omega, HN, rfl⟩
                      · have hRd := HRA.out.done (by omega)
                        have HF : Aside0 (∃ left', left'.length = r1 ∧ (rest.extract nn rest.size).data.toList = left' ++ catL (l.drop x1) ∧ weight left' (l.drop x1) ≤ g0 ∧ n + 1 + (packN g0 left' (l.drop x1)).length = (packF l).length) := ⟨by
                          have hb := HBN.out
                          rw [← hRd] at hb
                          obtain ⟨b1, b2⟩ := hb
                          have b3 := congrArg Prod.fst b1
                          have b4 := congrArg Prod.snd b1
                          simp only at b3 b4
                          have w1 := HW.out
                          have w2 := HF3.out
                          have w3 := HF4.out
                          rw [HNF.out] at w1 w3
                          simp only at w1 w3
                          rw [← b4] at w1 w3 b2
                          exact ⟨_, b3.symm, b2, by omega, by omega⟩⟩
                        have hfin : ∀ (u v : Value), True := fun _ _ => trivial
                        clear hRd hfin
                        by_cases hm0 : 0 < m1
                        · have e1 : decide ((0 : Int) < m1) = true := by simp; omega
                          have e2 : decide ((x1 : Int) < l.length) = false := by simp; omega
                          go_wp2_with (fail)
                          go_roundg g0
                          case measure => omega
                          case rel => exact ⟨n + 1, r1, x1, rest.extract nn rest.size, A1, c1, rfl, rfl, rfl, rfl, ⟨⟨HR.out, HBL.out, HF.out, by omega, by rw [ByteArray.size_extract]; omega, by omega, by omega⟩⟩⟩
                        · have e1 : decide ((0 : Int) < m1) = false := by simp; omega
                          go_wp2_with (fail)
                          go_roundg g0
                          case measure => omega
                          case rel => exact ⟨n + 1, r1, x1, rest.extract nn rest.size, A1, c1, rfl, rfl, rfl, rfl, ⟨⟨HR.out, HBL.out, HF.out, by omega, by rw [ByteArray.size_extract]; omega, by omega, by omega⟩⟩⟩
end Go.Proofs.YthmddhbccifcoaaDoor.Clar
