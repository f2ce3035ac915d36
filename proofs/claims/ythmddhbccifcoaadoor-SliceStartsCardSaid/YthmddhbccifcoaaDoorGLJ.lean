/- slice.Plan, where all may be: the slots. -/
/- The law's example: it is as the chapter says. -/
import Derived.Test.YthmddhbccifcoaaDoorGLE
import Derived.Deep.RegionLaw
import Derived.Deep.CutRange
import Derived.Deep.DeepCutAuto
import Derived.Test.YthmddhbccifcoaaDoorGLI
set_option linter.unusedVariables false
set_option linter.unusedSimpArgs false
namespace Go.Proofs.YthmddhbccifcoaaDoor.Clar
open Go.RowKit Go.Proofs.YthmddhbccifcoaaDoorW.PrintWords Go.Proofs.YthmddhbccifcoaaDoorW.PrintLast Go.Proofs.YthmddhbccifcoaaDoorW.PrintMore

/-- The slots of bursts that are wanted, if all may be. -/
def planB (most : Int) : Int → List Br → Option (List Int)
  | _, [] => some []
  | e, b :: r => if rightB b.pid b.at_ = true ∧ (manyOf b.l).2 = 0 ∧ ((manyOf b.l).1 : Int) ≤ most ∧ max b.at_ e ≤ 1048576 then (planB most (max b.at_ e + (manyOf b.l).1) r).map (max b.at_ e :: ·) else none
theorem planB_cons {most e : Int} {b : Br} {r : List Br} {ats : List Int} (h : planB most e (b :: r) = some ats) :
    rightB b.pid b.at_ = true ∧ (manyOf b.l).2 = 0 ∧ ((manyOf b.l).1 : Int) ≤ most ∧ max b.at_ e ≤ 1048576 ∧ ∃ ats2, planB most (max b.at_ e + (manyOf b.l).1) r = some ats2 ∧ ats = max b.at_ e :: ats2 := by
  simp only [planB] at h
  split at h
  · rename_i hc
    obtain ⟨c1, c2, c3, c4⟩ := hc
    obtain ⟨a2, h1, h2⟩ := Option.map_eq_some_iff.1 h
    exact ⟨c1, c2, c3, c4, a2, h1, h2.symm⟩
  · cases h
/-- The cells of bursts, by their slots. -/
def AtCells (ats : List Int) (xs : List Value) : Prop := ∀ j a, ats[j]? = some a → xs[3 * j + 1]? = some (.int .i64 a)
theorem AtCells.snoc {ats : List Int} {xs : List Value} (h : AtCells ats xs) (hl : xs.length = 3 * ats.length) (a p : Value) (n : Int) : AtCells (ats ++ [n]) (xs ++ [p, .int .i64 n, a]) := by
  intro j b hj
  by_cases hlt : j < ats.length
  · rw [List.getElem?_append_left hlt] at hj
    rw [List.getElem?_append_left (by omega)]
    exact h j b hj
  · rw [List.getElem?_append_right (by omega)] at hj
    have : j = ats.length := by
      apply Classical.byContradiction
      intro hh
      rw [List.getElem?_eq_none (by simp; omega)] at hj
      cases hj
    subst this
    rw [List.getElem?_append_right (by omega), hl, show 3 * ats.length + 1 - 3 * ats.length = 1 by omega]
    simp at hj
    simp [hj]
theorem infoBurst : (Tryd.prog.info? 35).map (fun i => (i.zero, i.size, i.bytes)) = some (some (.agg #[.int .i64 0, .int .i64 0, .slice none 0 0]), 3, 40) := by kernel_rfl
/-- append(v, src...) as a step of a region that draws. -/
theorem step_append_src {P : Program} {ops : Array Oper} {o : Oper} {a : Act} {Q : Exit → Act → World → Prop} {K : Act → World → Prop} {w0 W : World} (base : Nat) (hw : Region.wanted o (yielded ops a.tmps) = true) (s x : Operand) (t e : TypeId) (z : Value) (bytes : Nat)
    (ho : o.op = .call { callee := .builtin .append, args := #[s, x], argTypes := #[t, t] })
    (ht : P.underlying t = some (.slice e)) (hinfo : (P.info? e).map (fun i => (i.zero, i.size, i.bytes)) = some (some z, 1, bytes)) (hz : z.cells.size = 1) (hb0 : 0 < bytes)
    (v : Value) (n : Nat) (xs ys : List Value) (ad : Addr) (m c : Nat) (hs : a.eval s = v) (hx : a.eval x = .slice (some ad) m c) (hys : ys.length = m) (hcells : ∀ j u, ys[j]? = some u → W.cell? (ad.add j) = some u) (h1 : ∀ u ∈ ys, u.oneCell' = true)
    (HO : W.ownsRow base e 1 v n xs) (HB : Below base w0 W) (hbase : base ≤ W.heap.size) (hl : (n + m) * bytes ≤ 140737488355328)
    (h : ∀ v1 w1, w1.ownsRow base e 1 v1 (n + m) (xs ++ ys) → Below base w0 w1 → W.grownBy w1 v.ownBlock → (v1.ownBlock = v.ownBlock ∨ ∃ b, v1.ownBlock = some b ∧ W.heap.size ≤ b) → K (a.put o.dst v1) w1) :
    if Region.wanted o (yielded ops a.tmps) = true then Oper.wp P o a W K Q else K (a.put o.dst undef) W := by
  obtain ⟨i0, hi, hzz⟩ := Option.map_eq_some_iff.1 hinfo
  simp only [Prod.mk.injEq] at hzz
  obtain ⟨hz0, hz1, hz2⟩ := hzz
  have hlen : n + m ≤ 140737488355328 := Nat.le_trans (Nat.le_mul_of_pos_right _ hb0) hl
  rw [if_pos hw]
  obtain ⟨v1, w1, hr, hown, hg, _, hat⟩ := run_append_own_at (P := P) W base t o.type e i0 z 1 bytes ht hi hz0 hz1 hz2 hz (by omega) v n xs HO ad m c ys (by rw [hys]; simp) hcells h1 (by simp only [maxLen]; omega) hl hbase
  unfold Oper.wp execOp
  simp only [ho, resolve, invoke, builtin, Sem.run_bind, Sem.run_pure, Result.andThen_ok, List.map_toArray, List.map_cons, List.map_nil, hs, hx, hr]
  refine h v1 w1 hown (HB.grown hg hbase (own_base HO)) hg ?_
  rcases hat with hat | hat
  · exact .inl hat
  · exact .inr ⟨_, hat, Nat.le_refl _⟩
set_option maxHeartbeats 4000000 in
set_option maxRecDepth 100000 in
theorem plan_any (most : Int) (A : Option Addr) (c : Nat) (ws : List Br) (ats : List Int) (w : World) (hb : BAt w A ws) (hn : ws.length ≤ 1000) (hs : ∀ b ∈ ws, b.small) (hm1 : 1 ≤ most) (hm2 : most ≤ 10000000) (hp : planB most 0 ws = some ats) :
    Calls Tryd.prog 16 #[.int .i64 most, .slice A ws.length c] w fun e w' => ∃ A' c', e = .returned (.tuple #[.slice A' ats.length c', .int .i64 0]) ∧ Below w.heap.size w w' ∧ ∃ xs, w'.ownsRow w.heap.size 35 3 (.slice A' ats.length c') ats.length xs ∧ AtCells ats xs := by
  have HB := Aside0.mk hb
  have HS := Aside0.mk hs
  have HP := Aside0.mk hp
  clear hb hs hp
  go_enter Tryd.func16, Tryd.ntmps16
  go_wp2_with (fail)
  obtain ⟨kk, hkk⟩ : ∃ kk, ws.length = kk := ⟨_, rfl⟩
  have HKK := Aside0.mk hkk
  clear hkk
  go_loopg [6, 7, 17] kk (fun kq v e i w' => ∃ (k : Nat) (e0 : Int) (A' : Option Addr) (c' : Nat) (al : List Int), v = .slice A' k c' ∧ e = .int .i64 e0 ∧ i = .int .i64 k ∧ k + kq = ws.length ∧ 0 ≤ e0 ∧ e0 ≤ 10000000 ∧ Aside0 (al.length = k ∧ ∃ as2, planB most e0 (ws.drop k) = some as2 ∧ ats = al ++ as2) ∧ Aside0 (Below w.heap.size w w') ∧ Aside0 (∃ xs, w'.ownsRow w.heap.size 35 3 (.slice A' k c') k xs ∧ AtCells al xs))
  case atStart => exact ⟨0, 0, none, 0, [], rfl, rfl, rfl, by have := HKK.out; omega, by omega, by omega, ⟨rfl, ats, HP.out, rfl⟩, ⟨Below.refl _ _⟩, ⟨[], own_nil _ _ _ _, fun j a h => by simp at h⟩⟩
  case round =>
    obtain ⟨k, e0, A', c', al, rfl, rfl, rfl, hk, he0, he1, HC, HW, HX⟩ := hrel
    by_cases hlt : k < ws.length
    · obtain ⟨b, hbk⟩ : ∃ b, ws[k]? = some b := ⟨ws[k], List.getElem?_eq_getElem hlt⟩
      obtain ⟨g, S, cs, rfl, hg, h1, h2, h3, h4, h5⟩ := (HB.out.below HW.out) k b hbk
      have hdrop : ws.drop k = b :: ws.drop (k + 1) := by rw [List.drop_eq_getElem_cons hlt]; congr 1; exact (List.getElem?_eq_some_iff.1 hbk).2
      obtain ⟨has, as2, hpl, hcat⟩ := HC.out
      rw [hdrop] at hpl
      obtain ⟨r1, r2, r3, r4, as3, hpl3, rfl⟩ := planB_cons hpl
      obtain ⟨xs, hrow, hatc⟩ := HX.out
      have hl0 : b.l ≠ [] := by
        intro h
        rw [h] at r2
        simp [manyOf] at r2
      have hl1 : 0 < b.l.length := List.length_pos_iff.2 hl0
      have hat : 0 ≤ b.at_ ∧ b.at_ ≤ 1048576 := by simp [rightB] at r1; omega
      have hsm := HS.out b (List.mem_of_getElem? hbk)
      have hmb := manyOf_bound b.l hsm.1
      obtain ⟨a0, ha0⟩ : ∃ a0, max b.at_ e0 = a0 := ⟨_, rfl⟩
      obtain ⟨mn, hmn⟩ : ∃ mn, (manyOf b.l).1 = mn := ⟨_, rfl⟩
      rw [ha0] at r4 hpl3 hcat
      rw [hmn] at r3 hpl3 hmb
      have ha1 : 0 ≤ a0 := by omega
      have HR1 := Aside0.mk r1
      have HR2 := Aside0.mk r2
      have HL0 := Aside0.mk hl0
      have HMN := Aside0.mk hmn
      have HA0 := Aside0.mk ha0
      have HPL : Aside0 (planB most (a0 + mn) (ws.drop (k + 1)) = some as3 ∧ ats = (al ++ [a0]) ++ as3 ∧ (al ++ [a0]).length = k + 1) := ⟨hpl3, by rw [hcat]; simp, by simp [has]⟩
      have HROW := Aside0.mk hrow
      have HATC := Aside0.mk hatc
      have HAS := Aside0.mk has
      have H5 := Aside0.mk h5
      clear r1 r2 hl0 hmn hpl3 hcat hpl hdrop hrow hatc h5 HC HX has hbk
      go_wp2_with (fail)
      refine (sright_any b.pid b.at_ _).mono ?_
      rintro e W1 ⟨rfl, rfl⟩
      rw [HR1.out]
      have HW1 : Aside0 (Below w.heap.size w (wr.alloc (.cells #[.int .i64 b.pid, .int .i64 b.at_, .slice S b.l.length cs] 55))) := ⟨HW.out.alloc HW.out.size _⟩
      have h5' : SR (wr.alloc (.cells #[.int .i64 b.pid, .int .i64 b.at_, .slice S b.l.length cs] 55)) S b.l := ReadsOf.allocS H5.out _
      have hrow' := HROW.out.alloc (.cells #[.int .i64 b.pid, .int .i64 b.at_, .slice S b.l.length cs] 55)
      have hnb := blk_new wr (.cells #[.int .i64 b.pid, .int .i64 b.at_, .slice S b.l.length cs] 55)
      obtain ⟨W1, hW1⟩ : ∃ W1, wr.alloc (.cells #[.int .i64 b.pid, .int .i64 b.at_, .slice S b.l.length cs] 55) = W1 := ⟨_, rfl⟩
      obtain ⟨q, hq⟩ : ∃ q, wr.heap.size = q := ⟨_, rfl⟩
      rw [hW1] at HW1 h5' hrow' hnb ⊢
      rw [hq] at hnb ⊢
      have H5' := Aside0.mk h5'
      have HROW' := Aside0.mk hrow'
      have HNB := Aside0.mk hnb
      clear hW1 hq h5' hrow' hnb h1 h2 h3 hg H5 HROW HW HB
      have hc2 := blk_cell HNB.out 2
      go_wp2_with (fail)
      refine (many_any S cs b.l W1 H5'.out h4 hsm.1 hsm.2).mono ?_
      rintro e W2 ⟨rfl, hb2⟩
      rw [HMN.out, HR2.out]
      have HW2 : Aside0 (Below w.heap.size w W2) := ⟨below_then2 HW1.out hb2 HW1.out.size⟩
      have HROW2 := Aside0.mk (pw_own_below HROW'.out hb2)
      have HNB2 := Aside0.mk (blk_below HNB.out hb2)
      have H52 : Aside0 (SR W2 S b.l) := ⟨ReadsOf.below H5'.out hb2⟩
      have hmax := HA0.out
      clear hb2 HW1 HROW' HNB H5' hc2
      have hc0 := blk_cell HNB2.out 0
      have hc1 := blk_cell HNB2.out 1
      have hc2 := blk_cell HNB2.out 2
      obtain ⟨ad, hS⟩ : ∃ ad, S = some ad := by
        obtain ⟨ad, h, _⟩ := H52.out.2.2 hl1
        exact ⟨ad, h⟩
      subst hS
      have HSRC : Aside0 (∀ j u, (b.l.map Value.string)[j]? = some u → W2.cell? (ad.add j) = some u) := ⟨by
        intro j u hu
        rw [List.getElem?_map] at hu
        obtain ⟨s, hs, rfl⟩ := Option.map_eq_some_iff.1 hu
        obtain ⟨ad', h', hc⟩ := H52.out.2.2 hl1
        injection h' with h'
        subst h'
        have hj := (List.getElem?_eq_some_iff.1 hs).1
        have := hc j hj
        rw [List.getD_eq_getElem?_getD, hs] at this
        exact this⟩
      have hbl : b.l.length ≤ 1000 := hsm.1
      go_upto_region 18 with fail
      go_cut [6] from 18 to 61 (fun v wx => ∃ A1 c1, v = .slice A1 (k + 1) c1 ∧ Aside0 (∃ xs, wx.ownsRow w.heap.size 35 3 (.slice A1 (k + 1) c1) (k + 1) xs ∧ AtCells (al ++ [a0]) xs) ∧ Aside0 (Below w.heap.size w wx))
      case first =>
        go_region_law (first | (refine step_append_src (w0 := w) w.heap.size rfl _ _ 33 9 (.string ⟨#[]⟩) 16 rfl Tryd.underlying33 infoStr rfl (by decide) (.slice none 0 0) 0 [] (b.l.map Value.string) ad b.l.length cs rfl rfl (by simp) HSRC.out (by intro u hu; simp at hu; obtain ⟨s, _, rfl⟩ := hu; rfl) (own_nil _ _ _ _) (below_drew HW2.out) HW2.out.size (by omega) ?_; intro v1 w1 hr1 hb1 hg1 _; have hbel : Below W2.heap.size W2 w1 := ⟨hg1.os, hg1.tape, hg1.output, hg1.size, fun i hi => hg1.block i hi (by simp [Value.ownBlock])⟩; have HRA := Aside0.mk (pw_own_below HROW2.out hbel); have HBA := Aside0.mk hb1; have hd0 := blk_cell (blk_below HNB2.out hbel) 0; clear hg1; obtain ⟨A1, c1, rfl⟩ := own_len hr1; clear hr1 hb1 hbel) | (refine step_append_cells (w0 := w) w.heap.size rfl _ _ 25 35 _ 3 40 rfl Tryd.underlying25 infoBurst rfl (by decide) (by decide) (.slice A' k c') k xs [.int .i64 b.pid, .int .i64 a0, .slice A1 b.l.length c1] rfl rfl rfl (by intro u hu; simp at hu; rcases hu with rfl | rfl | rfl <;> rfl) HRA.out HBA.out HBA.out.size (by omega) ?_; intro v2 w2 hr2 hb2 _ _; obtain ⟨A2, c2, rfl⟩ := own_len hr2))
        all_goals
          go_wp2_with fail
          go_meet
          exact ⟨A2, c2, rfl, ⟨_, hr2, HATC.out.snoc (by rw [HROW2.out.1, HAS.out]; omega) _ _ _⟩, ⟨hb2⟩⟩
      case rest =>
        obtain ⟨A1, c1, rfl, HX1, HB1⟩ := hcut
        obtain ⟨W3, rfl⟩ : ∃ W3, W3 = wc := ⟨_, rfl⟩
        clear hmax hc0 hc1 hc2 HSRC H52 HNB2 HROW2 HW2
        obtain ⟨k1, rfl⟩ : ∃ k1, gk = k1 + 1 := ⟨gk - 1, by omega⟩
        go_wp2_with fail
        go_roundg k1
        case measure => omega
        case rel => exact ⟨k + 1, a0 + mn, A1, c1, al ++ [a0], rfl, rfl, by go_num, by omega, by omega, by omega, ⟨HPL.out.2.2, as3, HPL.out.1, HPL.out.2.1⟩, HB1, HX1⟩
    · obtain rfl : k = ws.length := by omega
      obtain ⟨has, as2, hpl, hcat⟩ := HC.out
      rw [List.drop_length] at hpl
      simp only [planB] at hpl
      injection hpl with hpl
      subst hpl
      rw [List.append_nil] at hcat
      subst hcat
      have HAS := Aside0.mk has
      clear has
      go_wp2_with fail
      go_ret2
      rw [HAS.out]
      exact ⟨A', c', rfl, HW.out, HX.out⟩
end Go.Proofs.YthmddhbccifcoaaDoor.Clar
namespace Go.Proofs.YthmddhbccifcoaaDoor.Clar
open Go.RowKit Go.Proofs.YthmddhbccifcoaaDoorW.PrintWords Go.Proofs.YthmddhbccifcoaaDoorW.PrintLast Go.Proofs.YthmddhbccifcoaaDoorW.PrintMore Go.Proofs.YthmddhbccifcoaaDoor.PSliceLays

theorem awake_check (t : ByteArray) (ht : t.size = 4) (s : ByteArray) (hs : s = (strOfNums [66, 176, 11, 0, 1, 193, 0, 0] ++ strOfNums [0, 1]) ++ t) : s.size = 14 ∧ checkOf s = 0 := by
  have hsz : s.size = 14 := by rw [hs, ByteArray.size_append, ByteArray.size_append, strOfNums_size, strOfNums_size, ht]; rfl
  have hdat : s.data.toList = [66, 176, 11, 0, 1, 193, 0, 0, 0, 1] ++ t.data.toList := by
    rw [hs, ByteArray.data_append, ByteArray.data_append, Array.toList_append, Array.toList_append, strOfNums_data, strOfNums_data]
    rfl
  have b0 : bt s 0 = 66 := by rw [show (0 : Int) = ((0 : Nat) : Int) from rfl, bt_list s 0, hdat]; rfl
  have b1 : bt s 1 = 176 := by rw [show (1 : Int) = ((1 : Nat) : Int) from rfl, bt_list s 1, hdat]; rfl
  have b2 : bt s 2 = 11 := by rw [show (2 : Int) = ((2 : Nat) : Int) from rfl, bt_list s 2, hdat]; rfl
  refine ⟨hsz, ?_⟩
  have hn : needOf s = (14, 0) := by
    unfold needOf
    rw [if_neg (by omega), b1, b2, if_pos (by decide)]
    rfl
  unfold checkOf
  rw [hn, if_neg (by simp), if_neg (by simp; omega), if_neg (by simp; omega), if_neg (by omega)]
theorem awake_many (s : ByteArray) (hs : s.size = 14) (hc : checkOf s = 0) : manyOf [s] = (1, 0) := by
  have hp : packErr [s] = 0 := by simp [packErr, hc]
  unfold manyOf
  rw [if_neg (by simp), if_neg (by simp [hp])]
  have hl : s.data.toList.length = 14 := by rw [Array.length_toList]; exact hs
  have hw : weight [] [s] = 15 := by simp [weight, hs]
  have hnf : (nextF [] [s]).2.2 = ([], []) := by
    unfold nextF
    rw [if_neg (by simp), if_neg (by simp)]
    simp only [takeF_cons, takeL]
    rw [List.drop_of_length_le (by omega)]
  have key : ∀ n : Nat, (packN (n + 1) [] [s]).length = 1 := by
    intro n
    simp only [packN]
    rw [if_neg (by simp), hnf, List.length_cons, packN_nil]
    rfl
  unfold packF
  rw [hw, key 14]
theorem awake_plan (s : ByteArray) (h : manyOf [s] = (1, 0)) : planB 9 0 [⟨17, 5, [s]⟩, ⟨18, 0, [s]⟩] = some [5, 6] := by
  simp only [planB, h]
  rfl
set_option maxHeartbeats 2000000 in
theorem awake_any (w : World) : Calls Tryd.prog 6 #[] w fun e w' => e = .returned (.bool true) ∧ Below w.heap.size w w' := by
  obtain ⟨t, ht, K, hev⟩ := made_awake
  obtain ⟨s, hs⟩ : ∃ s, (strOfNums [66, 176, 11, 0, 1, 193, 0, 0] ++ strOfNums [0, 1]) ++ t = s := ⟨_, rfl⟩
  have hk := hev K (Nat.le_refl _)
  rw [hs] at hk
  obtain ⟨hsz, hck⟩ := awake_check t ht s hs.symm
  have hmany := awake_many s hsz hck
  have hplan := awake_plan s hmany
  have hmade : ∀ W : World, Calls Tryd.prog 15 #[.agg #[.int .i64 2, .int .u8 66, .int .u8 0, .bool false, .string ⟨#[]⟩]] W fun e w' => e = .returned (.string s) ∧ Below W.heap.size W w' := fun W => clarionlaw20_made.calls K 2 66 0 false ⟨#[]⟩ s W hk
  have HM := Aside0.mk hmade
  have HP := Aside0.mk hplan
  have HSZ := Aside0.mk hsz
  clear hev hk hs hsz hck hmany hplan hmade
  go_enter Tryd.func6, Tryd.ntmps6
  go_wp2_with (fail)
  refine (HM.out _).mono ?_
  rintro e w1 ⟨rfl, hb1⟩
  have HB1 := Aside0.mk hb1
  clear hb1
  go_wp2_with (fail)
  have hpl := plan_any 9 (some ⟨w1.heap.size + 1, 0, none⟩) 2 [⟨17, 5, [s]⟩, ⟨18, 0, [s]⟩] [5, 6] ((w1.alloc (.cells #[.string s] 9)).alloc (.cells #[.int .i64 17, .int .i64 5, .slice (some ⟨w1.heap.size, 0, none⟩) 1 1, .int .i64 18, .int .i64 0, .slice (some ⟨w1.heap.size, 0, none⟩) 1 1] 55)) (by
    have hk1 := blk_alloc (blk_new w1 (.cells #[.string s] 9)) (.cells #[.int .i64 17, .int .i64 5, .slice (some ⟨w1.heap.size, 0, none⟩) 1 1, .int .i64 18, .int .i64 0, .slice (some ⟨w1.heap.size, 0, none⟩) 1 1] 55)
    have hk2 := blk_new (w1.alloc (.cells #[.string s] 9)) (.cells #[.int .i64 17, .int .i64 5, .slice (some ⟨w1.heap.size, 0, none⟩) 1 1, .int .i64 18, .int .i64 0, .slice (some ⟨w1.heap.size, 0, none⟩) 1 1] 55)
    rw [World.size_alloc] at hk2
    have hsr : SR ((w1.alloc (.cells #[.string s] 9)).alloc (.cells #[.int .i64 17, .int .i64 5, .slice (some ⟨w1.heap.size, 0, none⟩) 1 1, .int .i64 18, .int .i64 0, .slice (some ⟨w1.heap.size, 0, none⟩) 1 1] 55)) (some ⟨w1.heap.size, 0, none⟩) [s] := by
      refine ⟨rfl, by simp, fun _ => ⟨_, rfl, fun j hj => ?_⟩⟩
      obtain rfl : j = 0 := by simp at hj; omega
      rw [add_plain]
      exact (blk_cell hk1 0).trans rfl
    have hlt := blk_lt hk2
    intro k b hk
    match k, hk with
    | 0, hk =>
      simp at hk
      subst hk
      exact ⟨_, _, 1, rfl, hlt, (blk_cell hk2 0).trans rfl, (blk_cell hk2 1).trans rfl, (blk_cell hk2 2).trans rfl, Nat.le_refl _, hsr⟩
    | 1, hk =>
      simp at hk
      subst hk
      exact ⟨_, _, 1, rfl, hlt, (blk_cell hk2 3).trans rfl, (blk_cell hk2 4).trans rfl, (blk_cell hk2 5).trans rfl, Nat.le_refl _, hsr⟩
    | k + 2, hk => simp at hk) (by simp) (by
    intro b hb
    have hs14 := HSZ.out
    simp at hb
    rcases hb with rfl | rfl
    all_goals exact ⟨by simp, fun x hx => by simp at hx; subst hx; omega⟩) (by omega) (by omega) HP.out
  refine hpl.mono ?_
  rintro e w2 ⟨A', c', rfl, hb2, xs, hown, hat⟩
  obtain ⟨cap, hv⟩ : ∃ cap, c' = cap := ⟨_, rfl⟩
  have h5 := hat 0 5 rfl
  have h6 := hat 1 6 rfl
  have hx : ∃ g, A' = some ⟨g, 0, none⟩ := by
    rcases hown.2 with ⟨h, _⟩ | ⟨g, c2, cur, h, _⟩
    · injection h with h1 h2 h3
      simp at h2
    · injection h with h1 h2 h3
      exact ⟨g, h1⟩
  obtain ⟨g, rfl⟩ := hx
  have hc5 := hown.cells (g := g) rfl 1 _ h5
  have hc6 := hown.cells (g := g) rfl 4 _ h6
  rw [add_plain] at hc5 hc6
  have HF : Aside0 (Below w.heap.size w w2) := ⟨below_then2 ((HB1.out.alloc HB1.out.size _).alloc (Nat.le_trans HB1.out.size (by simp)) _) hb2 (Nat.le_trans HB1.out.size (by simp; omega))⟩
  have HO := Aside0.mk hown
  clear hown hat h5 h6 hb2 hpl hv
  dsimp only [List.length_cons, List.length_nil]
  go_wp2_with (fail)
  go_ret
  exact ⟨rfl, HF.out⟩
end Go.Proofs.YthmddhbccifcoaaDoor.Clar
