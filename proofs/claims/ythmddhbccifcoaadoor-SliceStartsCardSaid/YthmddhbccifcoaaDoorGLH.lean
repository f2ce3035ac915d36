/- What the references' Need and Check, and the law's right and near, answer (out of the printed contracts). -/
/- The law's many and wrong. -/
/- The law's wrong. -/
/- Plain facts on the packets of all slots. -/
import Derived.Test.YthmddhbccifcoaaDoorGLE
import Derived.Test.YthmddhbccifcoaaDoorPSliceLaysx5
import Derived.Test.YthmddhbccifcoaaDoorGLF
set_option linter.unusedVariables false
set_option linter.unusedSimpArgs false
namespace Go.Proofs.YthmddhbccifcoaaDoor.Clar
open Go.RowKit Go.Proofs.YthmddhbccifcoaaDoorW.PrintWords Go.Proofs.YthmddhbccifcoaaDoorW.PrintLast Go.Proofs.YthmddhbccifcoaaDoorW.PrintMore Go.Proofs.YthmddhbccifcoaaDoor.PSliceLays

theorem w64_small (x : Int) (h0 : 0 ≤ x) (h1 : x ≤ 1000000) : wrap64 x = x := by unfold wrap64; omega
theorem need_f (s : ByteArray) : clarionref08_Need.f s = some (needOf s) := by
  have h1 := bt_range s 1
  have h2 := bt_range s 2
  unfold clarionref08_Need.f needOf
  by_cases h0 : s.size < 3
  · rw [if_pos (by omega), if_pos h0]
  rw [if_neg (by omega), if_pos (by omega), if_pos (by omega), if_neg h0]
  obtain ⟨x, hx⟩ : ∃ x, bt s 1 = x := ⟨_, rfl⟩
  obtain ⟨y, hy⟩ : ∃ y, bt s 2 = y := ⟨_, rfl⟩
  rw [hx] at h1
  rw [hy] at h2
  rw [hx, hy, w64_small x (by omega) (by omega), w64_small y (by omega) (by omega), Int.tdiv_eq_ediv_of_nonneg h1.1, Int.tmod_eq_emod_of_nonneg h1.1, w64_small (x / 16) (by omega) (by omega), w64_small (x % 16 * 256) (by omega) (by omega), w64_small (x % 16 * 256 + y) (by omega) (by omega)]
  have hn3 : wrap64 (x % 16 * 256 + y + 3) = x % 16 * 256 + y + 3 := w64_small _ (by omega) (by omega)
  rw [hn3]
  by_cases h5 : x / 128 % 2 = 1 ∧ x / 16 % 4 = 3 ∧ 9 ≤ x % 16 * 256 + y ∧ x % 16 * 256 + y ≤ 4093
  · rw [if_pos h5]
    obtain ⟨a1, a2, a3, a4⟩ := h5
    by_cases h6 : x / 16 = 11
    · rw [if_pos h6, if_neg (by omega), if_neg (by omega)]
    · rw [if_neg h6, if_pos (by omega), if_neg (by omega), if_neg (by omega)]
  · rw [if_neg h5]
    by_cases h6 : x / 16 = 11
    · rw [if_pos h6]
      by_cases h7 : x % 16 * 256 + y < 9
      · rw [if_pos h7]
      · rw [if_neg h7, if_pos (by
          apply Classical.byContradiction
          intro h8
          exact h5 ⟨by omega, by omega, by omega, by omega⟩)]
    · rw [if_neg h6]
      by_cases h9 : x / 16 = 15
      · rw [if_pos h9]
        by_cases h7 : x % 16 * 256 + y < 9
        · rw [if_pos h7]
        · rw [if_neg h7, if_pos (by
            apply Classical.byContradiction
            intro h8
            exact h5 ⟨by omega, by omega, by omega, by omega⟩)]
      · rw [if_neg h9]
theorem check_f (s : ByteArray) : clarionref15_Check.f s = some (checkOf s) := by
  unfold clarionref15_Check.f checkOf
  rw [need_f]
  simp only [Option.bind_some]
  by_cases h1 : (needOf s).2 = 0
  · have hn : ¬ (needOf s).2 ≠ 0 := fun h => h h1
    rw [if_pos h1, if_neg hn]
    have := needOf_len s h1
    by_cases h2 : (s.size : Int) < (needOf s).1
    · rw [if_pos h2, if_pos h2]
    · rw [if_neg h2]
      by_cases h3 : (needOf s).1 < (s.size : Int)
      · rw [if_pos (show (s.size : Int) > (needOf s).1 from h3), if_neg h2, if_pos h3]
      · rw [if_neg (show ¬ (s.size : Int) > (needOf s).1 from h3), if_pos (by omega), if_neg h2, if_neg h3]
        by_cases h4 : bt s 0 = 255
        · rw [if_pos h4, if_pos h4]
        · rw [if_neg h4, if_neg h4]
  · rw [if_neg h1, if_pos h1]
theorem refCheck_any (s : ByteArray) (w : World) : Calls Tryd.prog 26 #[.string s] w fun e w' => e = .returned (.int .i64 (checkOf s)) ∧ Drawn0 w w' := clarionref15_Check.calls s _ w (check_f s)
theorem lawRight_any (pid slot : Int) (w : World) : Calls Tryd.prog 18 #[.int .i64 pid, .int .i64 slot] w fun e w' => e = .returned (.bool (rightB pid slot)) ∧ Drawn0 w w' := by
  refine clarionlaw20_right.calls pid slot _ w ?_
  unfold clarionlaw20_right.f rightB
  by_cases h1 : 0 ≤ pid
  · by_cases h2 : pid < 8191
    · by_cases h3 : 0 ≤ slot
      · rw [if_pos h1, if_pos (by omega), if_pos h3, decide_eq_true h1, decide_eq_true h2, decide_eq_true h3]; rfl
      · rw [if_pos h1, if_pos (by omega), if_neg (by omega), decide_eq_true h1, decide_eq_true h2, decide_eq_false h3]; rfl
    · rw [if_pos h1, if_neg (by omega), decide_eq_true h1, decide_eq_false h2]; rfl
  · rw [if_neg (by omega), decide_eq_false h1]; rfl
end Go.Proofs.YthmddhbccifcoaaDoor.Clar
namespace Go.Proofs.YthmddhbccifcoaaDoor.Clar
open Go.RowKit Go.Proofs.YthmddhbccifcoaaDoorW.PrintWords Go.Proofs.YthmddhbccifcoaaDoorW.PrintLast Go.Proofs.YthmddhbccifcoaaDoorW.PrintMore Go.Proofs.YthmddhbccifcoaaDoor.PSliceLays

/-- What the reference's Bodies is asked for: how many there are. -/
def BodiesOk : Prop := ∀ (A : Option Addr) (c : Nat) (l : List ByteArray) (w : World), SR w A l → l.length ≤ c → l.length ≤ 1000 → (∀ j, j < l.length → checkOf (l.getD j ByteArray.empty) = 0) →
  Calls Tryd.prog 27 #[.slice A l.length c] w fun e w' => ∃ A' c', e = .returned (.slice A' (packF l).length c') ∧ Below w.heap.size w w'
set_option maxHeartbeats 2000000 in
theorem lawMany_any (hB : BodiesOk) (A : Option Addr) (c : Nat) (l : List ByteArray) (w : World) (hl : SR w A l) (hc : l.length ≤ c) (hn : l.length ≤ 1000) :
    Calls Tryd.prog 11 #[.slice A l.length c] w fun e w' => e = .returned (.tuple #[.int .i64 (manyOf l).1, .int .i64 (manyOf l).2]) ∧ Below w.heap.size w w' := by
  by_cases h0 : l = []
  · subst h0
    go_enter Tryd.func11, Tryd.ntmps11
    go_wp2
    go_ret2
    exact ⟨rfl, Below.refl _ _⟩
  have hz : 0 < l.length := List.length_pos_iff.2 h0
  have hz2 : ((l.length : Int) == 0) = false := by simp; exact h0
  have HL := Aside0.mk hl
  have HC := Aside0.mk hc
  have H0 := Aside0.mk h0
  clear hl hc h0
  go_enter Tryd.func11, Tryd.ntmps11
  go_wp2_with (fail)
  go_loopw [4, 5] (fun i _ w' => ∃ k : Nat, k ≤ l.length ∧ i = .int .i64 k ∧ Aside0 (∀ j, j < k → checkOf (l.getD j ByteArray.empty) = 0) ∧ Aside0 (Below w.heap.size w w')) (fun i _ _ => l.length - (intOf i).toNat)
  case atStart => exact ⟨0, Nat.zero_le _, rfl, ⟨fun j hj => absurd hj (by omega)⟩, ⟨Below.refl _ _⟩⟩
  case round =>
    obtain ⟨k, hk, rfl, HK, HB⟩ := hrel
    by_cases hlt : k < l.length
    · obtain ⟨ad, rfl, hx⟩ := (ReadsOf.below HL.out HB.out).at_ k (by omega) (by omega)
      obtain ⟨s, hsk⟩ : ∃ s, l.getD k ByteArray.empty = s := ⟨_, rfl⟩
      have hx2 : wr.cell? (ad.add k) = some (.string s) := by
        rw [← hsk]
        simpa [rdOf, List.getD_eq_getElem?_getD] using hx
      clear hx
      go_wp2_with (fail)
      refine (refCheck_any s wr).mono ?_
      rintro e W1 ⟨rfl, ⟨n, rfl⟩⟩
      obtain ⟨er, her⟩ : ∃ er, checkOf s = er := ⟨_, rfl⟩
      rw [her]
      have HSK := Aside0.mk hsk
      have HER := Aside0.mk her
      clear hsk her
      by_cases he : er = 0
      · subst he
        go_wp2_with (fail)
        go_roundw
        case rel =>
          refine ⟨k + 1, by omega, by go_num, ⟨fun j hj => ?_⟩, ⟨pw_below_drewN HB.out n⟩⟩
          by_cases hjk : j < k
          · exact HK.out j hjk
          · rw [show j = k by omega, HSK.out]; exact HER.out
        case measure => simp [intOf]; omega
      · have he2 : (er == 0) = false := by simpa using he
        go_wp2_with (fail)
        go_ret2
        have hpe : packErr l = er := by rw [packErr_at l k hlt HK.out (by rw [HSK.out, HER.out]; exact he), HSK.out, HER.out]
        refine ⟨?_, pw_below_drewN HB.out n⟩
        unfold manyOf
        rw [if_neg H0.out, if_pos (by rw [hpe]; exact he), hpe]
        rfl
    · obtain rfl : k = l.length := by omega
      go_wp2_with (fail)
      refine (hB A c l wr (ReadsOf.below HL.out HB.out) HC.out hn HK.out).mono ?_
      rintro e W1 ⟨A', c', rfl, hb1⟩
      have hpe : packErr l = 0 := packErr_none l HK.out
      have HF : Aside0 (Below w.heap.size w W1) := ⟨below_then2 HB.out hb1 HB.out.size⟩
      clear hb1
      go_wp2_with (fail)
      go_ret2
      refine ⟨?_, HF.out⟩
      unfold manyOf
      rw [if_neg H0.out, if_neg (by simp [hpe])]
      rfl
end Go.Proofs.YthmddhbccifcoaaDoor.Clar
namespace Go.Proofs.YthmddhbccifcoaaDoor.Clar
open Go.RowKit Go.Proofs.YthmddhbccifcoaaDoorW.PrintWords Go.Proofs.YthmddhbccifcoaaDoorW.PrintLast Go.Proofs.YthmddhbccifcoaaDoorW.PrintMore Go.Proofs.YthmddhbccifcoaaDoor.PSliceLays

theorem quiet_drawn {P : Program} {f : FuncId} {args : Array Value} {w : World} {n : Nat} {v : Value}
    (h : Calls P f args (w.drewN n) fun e w' => e = .returned v ∧ Drawn0 (w.drewN n) w') : Calls P f args (w.drewN n) fun e w'' => e = .returned v ∧ ∃ m, w'' = w.drewN m :=
  h.mono fun e w' ⟨he, hd⟩ => ⟨he, by
    obtain ⟨m, rfl⟩ := hd.out
    exact (((Drawn0.refl w).step n).step m).out⟩
/-- The slot behind the last burst. -/
def endB : Int → List Br → Int
  | e, [] => e
  | _, b :: r => endB (b.at_ + (manyOf b.l).1) r
set_option maxHeartbeats 2000000 in
theorem wrong_any (hBo : BodiesOk) (A : Option Addr) (c : Nat) (bs : List Br) (w : World) (hb : BAt w A bs) (hn : bs.length ≤ 1000) (hs : ∀ b ∈ bs, b.small) :
    Calls Tryd.prog 8 #[.slice A bs.length c] w fun e w' => e = .returned (.tuple #[.int .i64 (if checkB 0 bs = 0 then endB 0 bs else 0), .int .i64 (checkB 0 bs)]) ∧ Below w.heap.size w w' := by
  have HB := Aside0.mk hb
  have HS := Aside0.mk hs
  obtain ⟨rv, hrv⟩ : ∃ rv : Int, (if checkB 0 bs = 0 then endB 0 bs else 0) = rv := ⟨_, rfl⟩
  rw [hrv]
  have HRV := Aside0.mk hrv
  clear hb hs hrv
  go_enter Tryd.func8, Tryd.ntmps8
  go_wp2_with (fail)
  go_loopw [4, 5, 6, 7] (fun en i _ _ w' => ∃ (k : Nat) (e0 : Int), k ≤ bs.length ∧ i = .int .i64 k ∧ en = .int .i64 e0 ∧ 0 ≤ e0 ∧ e0 ≤ 10000000 ∧ Aside0 (checkB 0 bs = checkB e0 (bs.drop k)) ∧ Aside0 (endB 0 bs = endB e0 (bs.drop k)) ∧ Aside0 (Below w.heap.size w w')) (fun _ i _ _ _ => bs.length - (intOf i).toNat)
  case atStart => exact ⟨0, 0, by omega, rfl, rfl, by omega, by omega, ⟨rfl⟩, ⟨rfl⟩, ⟨Below.refl _ _⟩⟩
  case round =>
    obtain ⟨k, e0, hk, rfl, rfl, he0, he1, HC, HE, HW⟩ := hrel
    by_cases hlt : k < bs.length
    · obtain ⟨b, hbk⟩ : ∃ b, bs[k]? = some b := ⟨bs[k], List.getElem?_eq_getElem hlt⟩
      obtain ⟨g, S, cs, rfl, hg, h1, h2, h3, h4, h5⟩ := (HB.out.below HW.out) k b hbk
      have hdrop : bs.drop k = b :: bs.drop (k + 1) := by rw [List.drop_eq_getElem_cons hlt]; congr 1; exact (List.getElem?_eq_some_iff.1 hbk).2
      have HD : Aside0 (checkB 0 bs = if rightB b.pid b.at_ = false then 15 else if (manyOf b.l).2 ≠ 0 then (manyOf b.l).2 else if b.at_ < e0 then 22 else checkB (b.at_ + (manyOf b.l).1) (bs.drop (k + 1))) := ⟨by rw [HC.out, hdrop]; rfl⟩
      have HED : Aside0 (endB 0 bs = endB (b.at_ + (manyOf b.l).1) (bs.drop (k + 1))) := ⟨by rw [HE.out, hdrop]; rfl⟩
      have hsm := HS.out b (List.mem_of_getElem? hbk)
      have H5 := Aside0.mk h5
      clear hdrop h5 HC HE
      go_wp2_with (fail)
      go_quiet ((go_at_call 18; exact quiet_drawn (lawRight_any _ _ _)))
      obtain ⟨W1, hW1⟩ : ∃ W1, wr.drewN nq = W1 := ⟨_, rfl⟩
      have hw1 : Below w.heap.size w W1 ∧ SR W1 S b.l ∧ W1.cell? ⟨g, k * 3, none⟩ = some (.int .i64 b.pid) ∧ W1.cell? ⟨g, k * 3 + 1, none⟩ = some (.int .i64 b.at_) ∧ W1.cell? ⟨g, k * 3 + 2, none⟩ = some (.slice S b.l.length cs) ∧ g < W1.heap.size := by
        rw [← hW1]
        exact ⟨pw_below_drewN HW.out _, ReadsOf.drewN H5.out _, h1, h2, h3, hg⟩
      rw [hW1]
      clear h1 h2 h3 hg hW1 HW H5
      obtain ⟨hw1b, hw1s, h1, h2, h3, hg⟩ := hw1
      have HW1 := Aside0.mk hw1b
      have H5 := Aside0.mk hw1s
      clear hw1b hw1s
      by_cases hr : rightB b.pid b.at_ = true
      · rw [hr]
        have hat : 0 ≤ b.at_ ∧ b.at_ ≤ 1048576 := by simp [rightB] at hr; omega
        go_wp2_with (fail)
        refine (lawMany_any hBo S cs b.l W1 H5.out h4 hsm.1).mono ?_
        rintro e W2 ⟨rfl, hb2⟩
        have hmb := manyOf_bound b.l hsm.1
        obtain ⟨mn, hmn⟩ : ∃ mn, (manyOf b.l).1 = mn := ⟨_, rfl⟩
        obtain ⟨me, hme⟩ : ∃ me, (manyOf b.l).2 = me := ⟨_, rfl⟩
        have hd1 := (hb2.cell (p := ⟨g, k * 3 + 1, none⟩) hg).trans h2
        rw [hmn] at hmb
        rw [hmn, hme]
        have HD2 : Aside0 (checkB 0 bs = if me ≠ 0 then me else if b.at_ < e0 then 22 else checkB (b.at_ + mn) (bs.drop (k + 1))) := ⟨by rw [HD.out, if_neg (by simp [hr]), hmn, hme]⟩
        have HED2 : Aside0 (endB 0 bs = endB (b.at_ + mn) (bs.drop (k + 1))) := ⟨by rw [HED.out, hmn]⟩
        have HW2 : Aside0 (Below w.heap.size w W2) := ⟨below_then2 HW1.out hb2 HW1.out.size⟩
        clear HD HED hme hmn HW1 hb2 h1 h2 h3
        by_cases hme0 : me = 0
        · have hme2 : (me == 0) = true := by simpa using hme0
          by_cases hord : b.at_ < e0
          · go_wp2_with (fail)
            go_ret2
            have hq : checkB 0 bs = 22 := by rw [HD2.out, if_neg (by simp [hme0]), if_pos hord]
            exact ⟨by rw [← HRV.out, hq]; rfl, HW2.out⟩
          · go_wp2_with (fail)
            go_roundw
            case rel => exact ⟨k + 1, b.at_ + mn, by omega, by go_num, rfl, by omega, by omega, ⟨by rw [HD2.out, if_neg (by simp [hme0]), if_neg (by omega)]⟩, HED2, HW2⟩
            case measure => simp [intOf]; omega
        · have hme2 : (me == 0) = false := by simpa using hme0
          go_wp2_with (fail)
          go_ret2
          have hq : checkB 0 bs = me := by rw [HD2.out, if_pos hme0]
          exact ⟨by rw [← HRV.out, hq, if_neg hme0]; rfl, HW2.out⟩
      · have hr2 : rightB b.pid b.at_ = false := by simpa using hr
        rw [hr2]
        go_wp2_with (fail)
        go_ret2
        have hq : checkB 0 bs = 15 := by rw [HD.out, if_pos hr2]
        exact ⟨by rw [← HRV.out, hq]; rfl, HW1.out⟩
    · obtain rfl : k = bs.length := by omega
      go_wp2_with (fail)
      go_ret2
      have hq : checkB 0 bs = 0 := by rw [HC.out, List.drop_length]; rfl
      have hq2 : endB 0 bs = e0 := by rw [HE.out, List.drop_length]; rfl
      exact ⟨by rw [← HRV.out, hq, hq2]; rfl, HW.out⟩
end Go.Proofs.YthmddhbccifcoaaDoor.Clar
namespace Go.Proofs.YthmddhbccifcoaaDoor.Clar
open Go.RowKit Go.Proofs.YthmddhbccifcoaaDoorW.PrintWords Go.Proofs.YthmddhbccifcoaaDoorW.PrintLast Go.Proofs.YthmddhbccifcoaaDoorW.PrintMore

/-- How many packets the bursts have that are picked. -/
def sumWhere (q : Br → Bool) : List Br → Nat
  | [] => 0
  | b :: r => (if q b then (packF b.l).length else 0) + sumWhere q r
def totalOf (bs : List Br) : Nat := sumWhere (fun _ => true) bs
theorem usedOf_where (pid : Int) (bs : List Br) : usedOf pid bs = sumWhere (fun b => b.pid == pid) bs := by
  induction bs with
  | nil => rfl
  | cons b r ih =>
    simp only [sumWhere, ← ih, usedOf, List.filter_cons]
    by_cases h : (b.pid == pid) = true
    · rw [if_pos h, if_pos h, List.map_cons, List.sum_cons]
    · rw [if_neg h, if_neg h, Nat.zero_add]
theorem sumWhere_congr (q q' : Br → Bool) (bs : List Br) (h : ∀ b ∈ bs, q b = q' b) : sumWhere q bs = sumWhere q' bs := by
  induction bs with
  | nil => rfl
  | cons b r ih => simp only [sumWhere]; rw [h b (by simp), ih fun x hx => h x (by simp [hx])]
theorem sumWhere_or (q q' : Br → Bool) (bs : List Br) (h : ∀ b ∈ bs, q b = true → q' b = false) : sumWhere (fun b => q b || q' b) bs = sumWhere q bs + sumWhere q' bs := by
  induction bs with
  | nil => rfl
  | cons b r ih =>
    have hb := h b (by simp)
    simp only [sumWhere]
    rw [ih fun x hx => h x (by simp [hx])]
    by_cases hq : q b = true
    · have hq' := hb hq
      simp only [hq, hq', Bool.true_or, if_true, Bool.false_eq_true, if_false]
      omega
    · have hq2 : q b = false := by simpa using hq
      by_cases hq' : q' b = true
      · simp only [hq2, hq', Bool.false_or, if_true, Bool.false_eq_true, if_false]
        omega
      · have hq3 : q' b = false := by simpa using hq'
        simp only [hq2, hq3, Bool.or_false, Bool.false_eq_true, if_false]
        omega
theorem seen_step (bs seen : List Br) (x : Br) (hx : ∀ y ∈ seen, y.pid ≠ x.pid) : sumWhere (fun b => (seen ++ [x]).any fun y => y.pid == b.pid) bs = sumWhere (fun b => seen.any fun y => y.pid == b.pid) bs + usedOf x.pid bs := by
  rw [usedOf_where, ← sumWhere_or]
  · refine sumWhere_congr _ _ bs fun b _ => ?_
    simp only [List.any_append, List.any_cons, List.any_nil, Bool.or_false]
    congr 1
    rw [Bool.eq_iff_iff]; simp; exact eq_comm
  · intro b _ hb
    obtain ⟨y, hy, hyb⟩ := List.any_eq_true.1 hb
    have h1 : y.pid = b.pid := by simpa using hyb
    have h2 := hx y hy
    simp
    intro h3
    exact h2 (h1.trans h3)
theorem seen_same (bs seen : List Br) (x : Br) (hx : ∃ y ∈ seen, y.pid = x.pid) : sumWhere (fun b => (seen ++ [x]).any fun y => y.pid == b.pid) bs = sumWhere (fun b => seen.any fun y => y.pid == b.pid) bs := by
  refine sumWhere_congr _ _ bs fun b _ => ?_
  obtain ⟨y, hy, hyx⟩ := hx
  simp only [List.any_append, List.any_cons, List.any_nil, Bool.or_false]
  by_cases h : x.pid = b.pid
  · have : seen.any (fun y => y.pid == b.pid) = true := List.any_eq_true.2 ⟨y, hy, by simp [hyx, h]⟩
    rw [this]; rfl
  · have : (x.pid == b.pid) = false := by simpa using h
    rw [this, Bool.or_false]
theorem seen_all (bs : List Br) : sumWhere (fun b => bs.any fun y => y.pid == b.pid) bs = totalOf bs := by
  refine sumWhere_congr _ _ bs fun b hb => ?_
  exact List.any_eq_true.2 ⟨b, hb, by simp⟩
/-- How many slots there are, and how many of them are empty. -/
theorem lay_length (bs : List Br) (e : Nat) (f : Int → Nat) (hc : checkB e bs = 0) : ((layPk e f bs).length : Int) + e = endB e bs ∧ (((layPk e f bs).filter fun p => p.pid == 8191).length + totalOf bs = (layPk e f bs).length) := by
  induction bs generalizing e f with
  | nil => exact ⟨by simp [layPk, endB], by simp [layPk, totalOf, sumWhere]⟩
  | cons b r ih =>
    obtain ⟨hr1, hr2, hr3, hr4, hr5⟩ := checkB_cons _ _ _ hc
    have hrr : 0 ≤ b.pid ∧ b.pid < 8191 ∧ 0 ≤ b.at_ := by simp [rightB] at hr1; omega
    have hm : (manyOf b.l).1 = (packF b.l).length := by unfold manyOf; rw [if_neg hr2, if_neg (by simp [hr3])]
    have hcast : ((b.at_.toNat + (packF b.l).length : Nat) : Int) = b.at_ + (packF b.l).length := by omega
    have hr6 : checkB ((b.at_.toNat + (packF b.l).length : Nat) : Int) r = 0 := by rw [hcast]; exact hr5
    obtain ⟨i1, i2⟩ := ih _ (fun p => if p = b.pid then (f b.pid + (packF b.l).length) % 16 else f p) hr6
    have hfil : ((pks b.pid (f b.pid) (packF b.l)).filter fun p => p.pid == 8191) = [] := by
      have key : ∀ (c : Nat) (l : List (Bool × List UInt8)), ∀ p ∈ pks b.pid c l, p.pid = b.pid := by
        intro c l
        induction l generalizing c with
        | nil => intro p hp; simp [pks] at hp
        | cons x l ih2 =>
          intro p hp
          simp only [pks, List.mem_cons] at hp
          rcases hp with rfl | hp
          · rfl
          · exact ih2 _ p hp
      rw [List.filter_eq_nil_iff]
      intro p hp
      rw [key _ _ p hp]
      simp; omega
    have hnul : ((List.replicate (b.at_.toNat - e) nullPk).filter fun p => p.pid == 8191) = List.replicate (b.at_.toNat - e) nullPk := by
      rw [List.filter_eq_self]
      intro p hp
      rw [(List.mem_replicate.1 hp).2]; rfl
    simp only [layPk]
    refine ⟨?_, ?_⟩
    · simp only [endB, hm]
      rw [← hcast, ← i1]
      simp only [List.length_append, List.length_replicate, pks_length]
      omega
    · rw [List.filter_append, List.filter_append, hfil, hnul]
      simp only [List.length_append, List.length_replicate, pks_length, List.append_nil, totalOf, sumWhere, if_true] at i2 ⊢
      omega
/-- A packet of a Pid below 8191 is no empty one. -/
theorem encL_not_empty (p : Pk) (h : pkOk p) (hp : p.pid < 8191) : encL p ≠ emptyL := by
  intro he
  obtain ⟨h1, h2, h3, h4, h5⟩ := h
  have b1 := b2i_lt p.bad
  have b2 := b2i_lt p.start
  have e1 : (encL p)[1]? = emptyL[1]? := by rw [he]
  have e2 : (encL p)[2]? = emptyL[2]? := by rw [he]
  have f1 : UInt8.ofNat (b2i p.bad * 128 + b2i p.start * 64 + p.pid.toNat / 256) = 31 := by
    have : (encL p)[1]? = some (UInt8.ofNat (b2i p.bad * 128 + b2i p.start * 64 + p.pid.toNat / 256)) := rfl
    rw [this] at e1
    injection e1
  have f2 : UInt8.ofNat (p.pid.toNat % 256) = 255 := by
    have : (encL p)[2]? = some (UInt8.ofNat (p.pid.toNat % 256)) := rfl
    rw [this] at e2
    injection e2
  have g1 := congrArg UInt8.toNat f1
  have g2 := congrArg UInt8.toNat f2
  simp at g1 g2
  omega
end Go.Proofs.YthmddhbccifcoaaDoor.Clar
