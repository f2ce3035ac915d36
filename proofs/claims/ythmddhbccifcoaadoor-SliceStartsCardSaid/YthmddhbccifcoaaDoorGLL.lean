/- The reference's Read, by the reader's steps, on packets that are all right. -/
import Derived.Test.YthmddhbccifcoaaDoorGLF
import Derived.Deep.CutRange
import Derived.Deep.DeepCutAuto
set_option linter.unusedVariables false
set_option linter.unusedSimpArgs false
namespace Go.Proofs.YthmddhbccifcoaaDoor.Clar
open Go.RowKit Go.Proofs.YthmddhbccifcoaaDoorW.PrintWords Go.Proofs.YthmddhbccifcoaaDoorW.PrintLast Go.Proofs.YthmddhbccifcoaaDoorW.PrintMore

/-- What Read has gathered, in block b, and its rows. -/
def GotAt (w : World) (B b : Nat) (st : RS) (many : Nat) : Prop := ∃ v1 v2 v3, w.heap[b]? = some (.cells #[v1, v2, v3, .int .i64 many, .bool true] 39 (0, 0)) ∧ B ≤ b ∧
  w.ownsRow B 9 1 v1 st.texts.length (strsOf st.texts) ∧ w.ownsRow B 3 1 v2 st.slots.length (intsOf st.slots) ∧ w.ownsRow B 3 1 v3 st.ends.length (intsOf st.ends) ∧ NeRow v2 v3
theorem results_c {P : Program} {fn : Func} {p : Tmp} {ty : TypeId} (h : fn.results = #[.cell p ty]) (tmps : Array Value) (w : World) (g : Nat) (t : TypeId) (cs : Array Value) (fr : Nat × Nat) (d : TypeDesc)
    (hp : tmps.getD p undef = .pointer (some ⟨g, 0, none⟩)) (hg : w.heap[g]? = some (.cells cs t fr))
    (hu : P.underlying ty = some d) (hd : (match d with | .struct _ | .array _ _ => true | _ => false) = true) (hi : (P.info? ty).map (·.size) = some cs.size) :
    (results fn tmps).run P w = .ok (.agg cs) w := by
  have hp' : tmps[p]?.getD undef = .pointer (some ⟨g, 0, none⟩) := by simpa using hp
  simp [results, h, hp', asAddr, run_loadVar_row w g t ty cs fr d hg hu hd hi]
theorem run_slice_lh (W : World) (s : ByteArray) (l h : Int) (h0 : 0 ≤ l) (h1 : l ≤ h) (h2 : h ≤ s.size) : (Instr.slice 9 (.string s) (some (.int .i64 l)) (some (.int .i64 h)) none).run Tryd.prog W = .ok (.string (s.extract l.toNat h.toNat)) W := by
  have ht := Tryd.underlying9
  have eh : (h.toNat : Int) = h := Int.toNat_of_nonneg (by omega)
  simp [Instr.slice, eh, run_underlying ht, Instr.sliceBounds, run_sliceBound, sliced, *, (by omega : 0 ≤ h), (by omega : l ≤ (s.size : Int))]
def RSmall (i : Nat) (st : RS) : Prop := st.frm ≤ i ∧ st.held.size ≤ 200 * i ∧ st.texts.length ≤ 200 * i ∧ st.slots.length ≤ 200 * i ∧ st.ends.length ≤ 200 * i
theorem enc_slice (ps : List Pk) (hok : ∀ p ∈ ps, pkOk p) (i : Nat) (p : Pk) (h : ps[i]? = some p) : (⟨(ps.flatMap encL).toArray⟩ : ByteArray).extract (188 * i) (188 * i + 188) = ⟨(encL p).toArray⟩ := by
  refine bytes_eq ?_
  rw [data_extract]
  simp only
  induction ps generalizing i with
  | nil => simp at h
  | cons q ps ih =>
    have hq := encL_length q (hok q (by simp))
    cases i with
    | zero =>
      obtain rfl : q = p := by simpa using h
      simp only [List.flatMap_cons, Nat.mul_zero, Nat.zero_add, List.drop_zero]
      rw [List.take_append_of_le_length (by omega), List.take_of_length_le (by omega)]
    | succ i =>
      have := ih (fun x hx => hok x (by simp [hx])) i (by simpa using h)
      simp only [List.flatMap_cons]
      rw [← this]
      rw [List.take_append, List.take_of_length_le (by omega), hq, show 188 * (i + 1) + 188 - 188 = 188 * i + 188 by omega, List.drop_append, List.drop_of_length_le (by omega), hq, show 188 * (i + 1) - 188 = 188 * i by omega, List.nil_append]
theorem GotAt.below {w w' : World} {B b : Nat} {st : RS} {many : Nat} (h : GotAt w B b st many) (hb : Below w.heap.size w w') : GotAt w' B b st many := by
  obtain ⟨v1, v2, v3, hk, hBb, h1, h2, h3, hne⟩ := h
  exact ⟨v1, v2, v3, blk_below hk hb, hBb, pw_own_below h1 hb, pw_own_below h2 hb, pw_own_below h3 hb, hne⟩
theorem isEmpty_of (s : ByteArray) (h : s.size = 0) : s.toList.isEmpty = true := by
  rw [Go.ByteArray.toList_eq]
  have : s.data.toList.length = 0 := by rw [Array.length_toList]; exact h
  rw [List.eq_nil_of_length_eq_zero this]; rfl
theorem notEmpty_of (s : ByteArray) (h : s.size ≠ 0) : s.toList.isEmpty = false := by
  rw [Go.ByteArray.toList_eq]
  have : 0 < s.data.toList.length := by rw [Array.length_toList]; exact Nat.pos_of_ne_zero h
  cases hh : s.data.toList with
  | nil => rw [hh] at this; simp at this
  | cons a l => rfl
set_option maxHeartbeats 40000000 in
set_option maxRecDepth 100000 in
theorem refRead_any (s : ByteArray) (pid : Int) (ps : List Pk) (w : World) (res : RS × Nat) (hs : s = ⟨(ps.flatMap encL).toArray⟩) (hok : ∀ p ∈ ps, pkOk p) (hn : ps.length ≤ 1000)
    (hdec : ∀ p ∈ ps, ∀ W : World, Calls Tryd.prog 28 #[.string ⟨(encL p).toArray⟩] W fun e w' => e = .returned (.tuple #[.agg (pkCells p).toArray, .int .i64 0]) ∧ Below W.heap.size W w')
    (hwh : ∀ (t : ByteArray) (W : World), t.size ≤ 1000000000 → Calls Tryd.prog 29 #[.string t] W fun e w' => e = .returned (.int .i64 (wholeB t)) ∧ Below W.heap.size W w')
    (hr : readB pid 0 (-1) 0 ⟨⟨#[]⟩, 0, [], [], []⟩ ps = some res) :
    Calls Tryd.prog 12 #[.string s, .int .i64 pid] w fun e w' => ∃ v1 v2 v3, e = .returned (.agg #[v1, v2, v3, .int .i64 res.2, .bool true]) ∧ Below w.heap.size w w' ∧
      w'.ownsRow w.heap.size 9 1 v1 res.1.texts.length (strsOf res.1.texts) ∧ w'.ownsRow w.heap.size 3 1 v2 res.1.slots.length (intsOf res.1.slots) ∧ w'.ownsRow w.heap.size 3 1 v3 res.1.ends.length (intsOf res.1.ends) := by
  have hlen : s.size = 188 * ps.length := by rw [hs]; show (List.toArray _).size = _; rw [List.size_toArray, encs_length ps hok]
  have HS := Aside0.mk hs
  have HOK := Aside0.mk hok
  have HD := Aside0.mk hdec
  have HWH := Aside0.mk hwh
  have HR := Aside0.mk hr
  have HLEN := Aside0.mk hlen
  have hm : ((s.size : Int).tmod 188 == 0) = true := by rw [Int.tmod_eq_emod_of_nonneg (by omega)]; simp; omega
  have hm2 : ((s.size : Int) % 188 == 0) = true := by simp; omega
  clear hs hok hdec hwh hr hlen
  go_enter Tryd.func12, Tryd.ntmps12
  go_wp2_with (fail)
  obtain ⟨W0, hW0⟩ : ∃ W0, (w.alloc (.cells #[.slice none 0 0, .slice none 0 0, .slice none 0 0, .int .i64 0, .bool false] 39)).alloc (.cells #[.slice none 0 0, .slice none 0 0, .slice none 0 0, .int .i64 0, .bool true] 39) = W0 := ⟨_, rfl⟩
  obtain ⟨B, hB⟩ : ∃ B, w.heap.size = B := ⟨_, rfl⟩
  have h0 : GotAt W0 B (B + 1) ⟨⟨#[]⟩, 0, [], [], []⟩ 0 ∧ W0.heap[B]? = some (.cells #[.slice none 0 0, .slice none 0 0, .slice none 0 0, .int .i64 0, .bool false] 39 (0, 0)) ∧ Below B w W0 := by
    rw [← hW0, ← hB]
    refine ⟨⟨.slice none 0 0, .slice none 0 0, .slice none 0 0, ?_, by omega, own_nil _ _ _ _, own_nil _ _ _ _, own_nil _ _ _ _, ne_nil _⟩, blk_alloc (blk_new w _) _, ((Below.refl _ w).alloc (Nat.le_refl _) _).alloc (by simp) _⟩
    have := blk_new (w.alloc (.cells #[.slice none 0 0, .slice none 0 0, .slice none 0 0, .int .i64 0, .bool false] 39)) (.cells #[.slice none 0 0, .slice none 0 0, .slice none 0 0, .int .i64 0, .bool true] 39)
    rwa [World.size_alloc] at this
  rw [hW0, hB]
  have H0 := Aside0.mk h0
  have HBB := Aside0.mk hB
  clear h0 hW0 hB
  obtain ⟨kk, hkk⟩ : ∃ kk, ps.length = kk := ⟨_, rfl⟩
  go_loopg [6, 7, 8, 9, 10, 11, 12, 13, 14, 15] kk (fun kq hv fv cv iv _ _ _ _ _ _ w' => ∃ (i many : Nat) (count : Int) (st : RS), hv = .string st.held ∧ fv = .int .i64 st.frm ∧ cv = .int .i64 count ∧ iv = .int .i64 i ∧ i + kq = kk ∧ -1 ≤ count ∧ count ≤ 15 ∧ many ≤ i ∧
      Aside0 (RSmall i st) ∧ Aside0 (readB pid i count many st (ps.drop i) = some res) ∧ Aside0 (GotAt w' B (B + 1) st many) ∧ Aside0 (w'.heap[B]? = some (.cells #[.slice none 0 0, .slice none 0 0, .slice none 0 0, .int .i64 0, .bool false] 39 (0, 0))) ∧ Aside0 (Below B w w'))
  case atStart => exact ⟨0, 0, -1, ⟨⟨#[]⟩, 0, [], [], []⟩, rfl, rfl, rfl, rfl, by omega, by omega, by omega, by omega, ⟨by refine ⟨Nat.le_refl _, ?_, by simp, by simp, by simp⟩; exact Nat.zero_le _⟩, HR, ⟨H0.out.1⟩, ⟨H0.out.2.1⟩, ⟨H0.out.2.2⟩⟩
  case round =>
    clear hm hm2
    obtain ⟨i, many, count, st, rfl, rfl, rfl, rfl, hi, hc1, hc2, hmi, HSM, HRD, HG, HRB, HBE⟩ := hrel
    by_cases hlt : i < ps.length
    · obtain ⟨p, hp⟩ : ∃ p, ps[i]? = some p := ⟨ps[i], List.getElem?_eq_getElem hlt⟩
      have hdrop : ps.drop i = p :: ps.drop (i + 1) := by rw [List.drop_eq_getElem_cons hlt]; congr 1; exact (List.getElem?_eq_some_iff.1 hp).2
      have hle : 188 * i + 188 ≤ s.size := by rw [HLEN.out]; omega
      obtain ⟨en, hen⟩ : ∃ en : ByteArray, (⟨(encL p).toArray⟩ : ByteArray) = en := ⟨_, rfl⟩
      have hex : s.extract (188 * i) (188 * i + 188) = en := by rw [← hen, HS.out]; exact enc_slice ps HOK.out i p hp
      have hsl : (Instr.slice 9 (.string s) (some (.int .i64 (188 * (i : Int)))) (some (.int .i64 (188 * (i : Int) + 188))) none).run Tryd.prog wr = .ok (.string en) wr := by
        rw [run_slice_lh wr s _ _ (by omega) (by omega) (by omega), show (188 * (i : Int)).toNat = 188 * i by omega, show (188 * (i : Int) + 188).toNat = 188 * i + 188 by omega, hex]
      have hpm := List.mem_of_getElem? hp
      have hd := HD.out p hpm
      rw [hen] at hd
      obtain ⟨q1, q2, q3, q4, q5⟩ := HOK.out p hpm
      have HDE := Aside0.mk hd
      have HRD2 : Aside0 (readB pid i count many st (p :: ps.drop (i + 1)) = some res) := ⟨by rw [← hdrop]; exact HRD.out⟩
      clear hd hdrop HRD
      unfold pkCells at HDE
      go_wp2_with (fail)
      refine (HDE.out wr).mono ?_
      rintro e W1 ⟨rfl, hb1⟩
      obtain ⟨v1, v2, v3, hk, hBb, ho1, ho2, ho3, hne⟩ := HG.out
      have hk1 := blk_below hk hb1
      have HK1 := Aside0.mk hk1
      have HO1 := Aside0.mk (pw_own_below ho1 hb1)
      have HO2 := Aside0.mk (pw_own_below ho2 hb1)
      have HO3 := Aside0.mk (pw_own_below ho3 hb1)
      have HNE := Aside0.mk hne
      have HRB1 := Aside0.mk (blk_below HRB.out hb1)
      have HBE1 : Aside0 (Below B w W1) := ⟨by have := HBE.out.size; have := HBB.out; exact below_then2 HBE.out hb1 (by omega)⟩
      clear hk ho1 ho2 ho3 hne hb1 hk1 HG HRB HBE hsl hex
      obtain ⟨W2, hW2⟩ : ∃ W2, W1.alloc (.cells #[.int .i64 p.pid, .bool p.start, .int .i64 p.count, .bool p.bad, .string p.body] 77) = W2 := ⟨_, rfl⟩
      have hBs : B + 1 < W1.heap.size := blk_lt HK1.out
      obtain ⟨q, hq⟩ : ∃ q, W1.heap.size = q := ⟨_, rfl⟩
      have h2 : W2.heap[B + 1]? = some (.cells #[v1, v2, v3, .int .i64 many, .bool true] 39 (0, 0)) ∧ W2.heap[B]? = some (.cells #[.slice none 0 0, .slice none 0 0, .slice none 0 0, .int .i64 0, .bool false] 39 (0, 0)) ∧
          W2.heap[q]? = some (.cells #[.int .i64 p.pid, .bool p.start, .int .i64 p.count, .bool p.bad, .string p.body] 77 (0, 0)) ∧ W2.ownsRow B 9 1 v1 st.texts.length (strsOf st.texts) ∧
          W2.ownsRow B 3 1 v2 st.slots.length (intsOf st.slots) ∧ W2.ownsRow B 3 1 v3 st.ends.length (intsOf st.ends) ∧ Below B w W2 ∧ B + 1 < q := by
        rw [← hW2, ← hq]
        exact ⟨blk_alloc HK1.out _, blk_alloc HRB1.out _, blk_new _ _, HO1.out.alloc _, HO2.out.alloc _, HO3.out.alloc _, HBE1.out.alloc (by omega) _, hBs⟩
      obtain ⟨hk2, hrb2, hpb2, ho1, ho2, ho3, hbe2, hBq⟩ := h2
      have HK2 := Aside0.mk hk2
      have HRB2 := Aside0.mk hrb2
      have HPB2 := Aside0.mk hpb2
      have HO12 := Aside0.mk ho1
      have HO22 := Aside0.mk ho2
      have HO32 := Aside0.mk ho3
      have HBE2 := Aside0.mk hbe2
      have hpc0 := blk_cell hpb2 0
      have hpc1 := blk_cell hpb2 1
      have hpc2 := blk_cell hpb2 2
      have hpc3 := blk_cell hpb2 3
      have hpc4 := blk_cell hpb2 4
      have hgc3 := blk_cell hk2 3
      have hgf3 := blk_frozen hk2 3
      clear hk2 hrb2 hpb2 ho1 ho2 ho3 hbe2 HK1 HO1 HO2 HO3 HRB1 HBE1 hBs
      by_cases hpe : p.pid = pid
      · subst hpe
        obtain ⟨hcg, hcl, hbad, st', hstep, hrest⟩ := readB_cons HRD2.out rfl
        obtain ⟨hbne, hsf, hst⟩ := stepB_cases hstep
        obtain ⟨pp, start, pc, bad, body⟩ := p
        simp only at hcg hcl hbad hstep hrest hbne hsf hst q1 q2 q3 q4 q5 hpc0 hpc1 hpc2 hpc3 hpc4
        subst hbad
        have hbe1 : body.toList.isEmpty = false := by
          rw [Go.ByteArray.toList_eq]
          have : 0 < body.data.toList.length := by rw [Array.length_toList]; exact Nat.pos_of_ne_zero hbne
          cases hh : body.data.toList with
          | nil => rw [hh] at this; simp at this
          | cons a l => rfl
        have hbe2 : (body.toList == []) = false := by
          cases hh : body.toList with
          | nil => rw [hh] at hbe1; simp at hbe1
          | cons a l => rfl
        have HRS := Aside0.mk hrest
        have HSF := Aside0.mk hsf
        have HST := Aside0.mk hst
        have HCG := Aside0.mk hcg
        have HCL := Aside0.mk hcl
        clear hstep hrest hsf hst HRD2 HDE hcg hcl
        dsimp only
        go_upto_region 14 with fail
        obtain ⟨W3, hW3⟩ : ∃ W3, W2.setCell ⟨B + 1, 3, none⟩ (.int .i64 ((many : Int) + 1)) = W3 := ⟨_, rfl⟩
        have hW3k : GotAt W3 B (B + 1) st (many + 1) ∧ W3.heap[B]? = some (.cells #[.slice none 0 0, .slice none 0 0, .slice none 0 0, .int .i64 0, .bool false] 39 (0, 0)) ∧ W3.heap[q]? = some (.cells #[.int .i64 pp, .bool start, .int .i64 pc, .bool false, .string body] 77 (0, 0)) ∧ Below B w W3 := by
          rw [← hW3]
          have hk := blk_set HK2.out 3 (.int .i64 ((many : Int) + 1))
          have hgb : ∀ {e : TypeId} {v : Value} {n : Nat} {xs : List Value}, e ≠ 39 → W2.ownsRow B e 1 v n xs → (W2.setCell ⟨B + 1, 3, none⟩ (.int .i64 ((many : Int) + 1))).ownsRow B e 1 v n xs := by
            intro e v n xs hne ho
            exact ownsRow_setCell_other ho (fun h => own_blk_ne ho HK2.out hne h) _
          refine ⟨⟨v1, v2, v3, ?_, hBb, hgb (by decide) HO12.out, hgb (by decide) HO22.out, hgb (by decide) HO32.out, HNE.out⟩, blk_far HRB2.out (p := ⟨B + 1, 3, none⟩) (show B ≠ B + 1 by omega) _, blk_far HPB2.out (p := ⟨B + 1, 3, none⟩) (show q ≠ B + 1 by omega) _, HBE2.out.setCell (by show B ≤ B + 1; omega) _⟩
          simpa using hk
        rw [hW3]
        have H3 := Aside0.mk hW3k
        have HW3 := Aside0.mk hW3
        clear hpc0 hpc1 hpc2 hpc3 hpc4 hgc3 hgf3 HK2 HO12 HO22 HO32 HRB2 HPB2 HBE2 HNE hW3k hW3
        have hpc0 := blk_cell H3.out.2.2.1 0
        have hpc1 := blk_cell H3.out.2.2.1 1
        have hpc2 := blk_cell H3.out.2.2.1 2
        have hpc3 := blk_cell H3.out.2.2.1 3
        have hpc4 := blk_cell H3.out.2.2.1 4
        go_cut [79] from 21 to 206 (fun c wx => c = .bool false ∧ wx = W3)
        case first => as_aux_lemma =>
          -- BEGIN
          by_cases hcneg : count < 0
          · have hd1 : decide (0 ≤ count) = false := by simp; omega
            have hd2 : decide (count < 0) = true := by simp; omega
            have hpc : pc = 0 := HCL.out hcneg
            subst hpc
            clear HCG HCL
            go_wp2_with fail
            go_meet
            exact ⟨rfl, rfl⟩
          · have hd1 : decide (0 ≤ count) = true := by simp; omega
            have hd2 : decide (count < 0) = false := by simp; omega
            have hpc := HCG.out (by omega)
            have hpc2 : (count + 1).tmod 16 = pc := by rw [Int.tmod_eq_emod_of_nonneg (by omega)]; exact hpc.symm
            have hpc3 : (count + 1) % 16 = pc := hpc.symm
            clear HCG HCL hpc
            go_wp2_with fail
            go_meet
            exact ⟨rfl, rfl⟩
          -- END
        case rest => as_aux_lemma =>
          obtain ⟨rfl, rfl⟩ := hcut
          clear HCG HCL
          go_upto_if 86 with fail
          go_cut [12, 13, 14] from 21 to 206 (fun b12 r13 r14 wx => ∃ (bd rs : ByteArray) (st2 : RS), b12 = .string bd ∧ r13 = .string rs ∧ wx = wc ∧ bd.size ≤ 184 ∧ rs.size ≤ 184 ∧ Aside0 (midB i st bd = some st2) ∧ Aside0 ((start = false ∧ rs.size = 0 ∧ st' = st2) ∨ (start = true ∧ st2.held.size = 0 ∧ st' = restB i (body.size + 1) st2 rs ∧ rs.size ≤ body.size)))
          case first => as_aux_lemma =>
            -- BEGIN
            cases start with
            | false =>
              go_wp2_with fail
              go_meet
              exact ⟨body, ⟨#[]⟩, st', rfl, rfl, rfl, q5, Nat.zero_le _, ⟨HSF.out rfl⟩, ⟨.inl ⟨rfl, rfl, rfl⟩⟩⟩
            | true =>
              obtain ⟨hr1, st2, hr2, hr3, hr4⟩ := HST.out rfl
              obtain ⟨r, hr⟩ : ∃ r, (bt body 0).toNat = r := ⟨_, rfl⟩
              have hbt := bt_range body 0
              have hb0 : bt body 0 = (r : Int) := by omega
              rw [hr] at hr1 hr2 hr4
              have hidx : ((body[0]'(by omega)).toNat : Int) = r := by rw [← hb0]; exact bt_at body 0 (by omega)
              have hidx2 : (body[0]'(by omega)).toNat = r := by omega
              have hr5 : r < 256 := by omega
              have hdl : decide ((body.size : Int) < (r : Int) + 1) = false := by simp; omega
              have hsl1 : (Instr.slice 9 (.string body) (some (.int .i64 1)) (some (.int .i64 ((r : Int) + 1))) none).run Tryd.prog wc = .ok (.string (body.extract 1 (r + 1))) wc := by
                rw [run_slice_lh wc body _ _ (by omega) (by omega) (by omega), show (1 : Int).toNat = 1 from rfl, show ((r : Int) + 1).toNat = r + 1 by omega]
              have H2 := Aside0.mk hr2
              have H4 := Aside0.mk hr4
              have HI3 := Aside0.mk hr3
              clear hr2 hr4 hr3
              go_wp2_with fail
              go_meet
              refine ⟨body.extract 1 (r + 1), body.extract (r + 1) body.size, st2, rfl, rfl, rfl, ?_, ?_, H2, ⟨.inr ⟨rfl, HI3.out, H4.out, ?_⟩⟩⟩
              · rw [ByteArray.size_extract]; omega
              · rw [ByteArray.size_extract]; omega
              · rw [ByteArray.size_extract]; omega
            -- END
          case rest => as_aux_lemma =>
            obtain ⟨bd, rs, st2, rfl, rfl, rfl, hbd, hrsz, HMID, HSTEP⟩ := hcut
            clear HSF HST
            go_upto_region 26 with fail
            obtain ⟨hm1, hm2⟩ := midB_cases HMID.out
            have hh1 : st.held.size ≤ 200000 := by have := HSM.out.2.1; omega
            go_cut [110] from 21 to 206 (fun c wx => c = .bool false ∧ wx = wc)
            case first => as_aux_lemma =>
              -- BEGIN
              by_cases hz : st.held.size = 0
              · have hbz : bd.size = 0 := by
                  apply Classical.byContradiction
                  intro h
                  exact hm1 h hz
                have e1 := isEmpty_of st.held hz
                have e2 := isEmpty_of bd hbz
                have e3 : (bd.toList == []) = true := by rw [List.isEmpty_iff.1 e2]; rfl
                have e4 : (st.held.toList == []) = true := by rw [List.isEmpty_iff.1 e1]; rfl
                clear hm1 hm2
                go_wp2_with fail
                go_meet
                exact ⟨rfl, rfl⟩
              · have e1 := notEmpty_of st.held hz
                have e4 : (st.held.toList == []) = false := by
                  cases hh : st.held.toList with
                  | nil => rw [hh] at e1; simp at e1
                  | cons a l => rfl
                clear hm1 hm2
                go_wp2_with fail
                go_meet
                exact ⟨rfl, rfl⟩
              -- END
            case rest => as_aux_lemma =>
              obtain ⟨rfl, rfl⟩ := hcut
              have HM2 := Aside0.mk hm2
              clear hm1 hm2
              obtain ⟨hd, hhd⟩ : ∃ hd, st.held ++ bd = hd := ⟨_, rfl⟩
              have hhs : hd.size ≤ 200 * i + 184 := by
                have := HSM.out.2.1
                rw [← hhd, ByteArray.size_append]; omega
              rw [hhd] at HM2
              go_upto_region 30 with fail
              have hwh := HWH.out hd wc (by omega)
              obtain ⟨n, hn2⟩ : ∃ n, wholeB hd = n := ⟨_, rfl⟩
              rw [hn2] at hwh HM2
              have hnb : n ≤ 4098 := by rw [← hn2]; exact wholeB_le hd
              have HHD := Aside0.mk hhd
              go_wp2_with (fail)
              refine hwh.mono ?_
              rintro e W5 ⟨rfl, hb5⟩
              have h5 : GotAt W5 B (B + 1) st (many + 1) ∧ W5.heap[B]? = some (.cells #[.slice none 0 0, .slice none 0 0, .slice none 0 0, .int .i64 0, .bool false] 39 (0, 0)) ∧ W5.heap[q]? = some (.cells #[.int .i64 pp, .bool start, .int .i64 pc, .bool false, .string body] 77 (0, 0)) ∧ Below B w W5 := by
                refine ⟨H3.out.1.below hb5, blk_below H3.out.2.1 hb5, blk_below H3.out.2.2.1 hb5, below_then2 H3.out.2.2.2 hb5 ?_⟩
                have := blk_lt H3.out.2.1; omega
              have H5 := Aside0.mk h5
              clear h5 hb5 hwh H3 HW3 hpc0 hpc1 hpc2 hpc3 hpc4 HHD
              dsimp only
              go_upto_region 31 with fail
              obtain ⟨cp, hcp⟩ : ∃ cp : Bool, decide (0 < n ∧ n ≤ hd.size) = cp := ⟨_, rfl⟩
              have HCP := Aside0.mk hcp
              clear hcp
              go_cut [125] from 21 to 206 (fun c wx => c = .bool cp ∧ wx = W5)
              case first => as_aux_lemma =>
                -- BEGIN
                by_cases hn0 : 0 < n
                · have e1 : decide ((0 : Int) < n) = true := by simp; omega
                  by_cases hn1 : n ≤ hd.size
                  · have e2 : decide ((n : Int) ≤ hd.size) = true := by simp; omega
                    go_wp2_with fail
                    go_meet
                    exact ⟨by rw [← HCP.out, decide_eq_true ⟨hn0, hn1⟩], rfl⟩
                  · have e2 : decide ((n : Int) ≤ hd.size) = false := by simp; omega
                    go_wp2_with fail
                    go_meet
                    exact ⟨by rw [← HCP.out, decide_eq_false fun h => by omega], rfl⟩
                · have e1 : decide ((0 : Int) < n) = false := by simp; omega
                  go_wp2_with fail
                  go_meet
                  exact ⟨by rw [← HCP.out, decide_eq_false fun h => by omega], rfl⟩
                -- END
              case rest => as_aux_lemma =>
                obtain ⟨rfl, rfl⟩ := hcut
                have hga : ∃ v1 v2 v3, GA w wc B q v1 v2 v3 st.texts st.slots st.ends (many + 1) #[.int .i64 pp, .bool start, .int .i64 pc, .bool false, .string body] := by
                  obtain ⟨⟨v1, v2, v3, g1, _, g3, g4, g5, g6⟩, k1, k2, k3⟩ := H5.out
                  exact ⟨v1, v2, v3, ⟨by simpa using g1, k1, k2, g3, g4, g5, g6, k3, hBq⟩⟩
                obtain ⟨z1, z2, z3, hga⟩ := hga
                have HGA := Aside0.mk hga
                clear hga H5
                go_step
                go_cut [6] from 21 to 206 (fun c wx => c = .string st2.held ∧ ∃ v1 v2 v3, Aside0 (GA w wx B q v1 v2 v3 st2.texts st2.slots st2.ends (many + 1) #[.int .i64 pp, .bool start, .int .i64 pc, .bool false, .string body]))
                case first => as_aux_lemma =>
                  -- BEGIN
                  cases cp with
                  | false =>
                    have hst2 : st2 = { st with held := hd } := by
                      rcases HM2.out with h | h
                      · have := of_decide_eq_false HCP.out; exact absurd ⟨h.1, h.2.1⟩ this
                      · exact h.2
                    subst hst2
                    go_wp2_with fail
                    go_meet
                    exact ⟨rfl, z1, z2, z3, HGA⟩
                  | true =>
                    have hcp := of_decide_eq_true HCP.out
                    obtain ⟨hn0, hn1⟩ := hcp
                    have hst2 : (n < hd.size → bt hd n = 255) ∧ st2 = ⟨⟨#[]⟩, st.frm, st.texts ++ [hd.extract 0 n], st.slots ++ [(st.frm : Int)], st.ends ++ [(i : Int)]⟩ := by
                      rcases HM2.out with h | h
                      · exact ⟨h.2.2.1, h.2.2.2⟩
                      · exact absurd ⟨hn0, hn1⟩ h.1
                    obtain ⟨h255, rfl⟩ := hst2
                    have hsm := HSM.out
                    unfold RSmall at hsm
                    obtain ⟨s1, s2, s3, s4, s5⟩ := hsm
                    clear HM2 HCP
                    go_upto_region 32 with fail
                    go_cut [135] from 21 to 206 (fun c wx => c = .bool false ∧ wx = wc)
                    case first =>
                      by_cases hlt2 : n < hd.size
                      · have e1 : decide ((n : Int) < hd.size) = true := by simp; omega
                        have hb2 := h255 hlt2
                        have hix : ((hd[n]'hlt2).toNat : Int) = 255 := by rw [← hb2]; exact bt_at hd n (by simpa using hlt2)
                        have hix2 : (hd[n]'hlt2).toNat = 255 := by omega
                        clear h255 hb2
                        go_wp2_with fail
                        go_meet
                        exact ⟨rfl, rfl⟩
                      · have e1 : decide ((n : Int) < hd.size) = false := by simp; omega
                        clear h255
                        go_wp2_with fail
                        go_meet
                        exact ⟨rfl, rfl⟩
                    case rest => as_aux_lemma =>
                      obtain ⟨rfl, rfl⟩ := hcut
                      clear h255
                      go_upto_region 34 with fail
                      go_cut [6] from 21 to 206 (fun c wx => c = .string hd ∧ ∃ y1, Aside0 (GA w wx B q y1 z2 z3 (st.texts ++ [hd.extract 0 n]) st.slots st.ends (many + 1) #[.int .i64 pp, .bool start, .int .i64 pc, .bool false, .string body]))
                      case first => as_aux_lemma =>
                        have c0 := blk_cell HGA.out.got 0
                        have hBl := HGA.out.lt
                        go_region_law (refine step_append_cells (w0 := w) (W := wc.drew) B rfl _ _ 33 9 (.string ⟨#[]⟩) 1 16 rfl Tryd.underlying33 infoStr rfl (by decide) (by decide) z1 st.texts.length (strsOf st.texts) [.string (hd.extract 0 n)] rfl rfl rfl (by intro u hu; simp at hu; subst hu; rfl) HGA.out.r1.drew (below_drew HGA.out.bel) (by simp; omega) (by omega) ?_; intro y1 w1 hr1 hb1 hg1 _; have HA := Aside0.mk (HGA.out.drew.app1 (hd.extract 0 n) y1 hr1 hb1 hg1); have kk := (HGA.out.drew.kept HGA.out.r1.drew (by decide) (by decide) hg1).1; have d0 := blk_cell kk 0; have e0 := blk_frozen kk 0; clear kk; obtain ⟨A1, c1, rfl⟩ := own_len hr1; clear hr1 hb1 hg1)
                        all_goals
                          go_wp2_with fail
                          go_meet
                          exact ⟨rfl, _, HA⟩
                      case rest => as_aux_lemma =>
                        obtain ⟨rfl, y1, HA⟩ := hcut
                        clear HGA
                        have c1' := blk_cell HA.out.got 1
                        go_upto_region 35 with fail
                        go_wp2_with (at_builtin; refine print_append_cells (w0 := w) B rfl _ _ 37 3 (.int .i64 0) 1 8 rfl Tryd.underlying37 infoInt rfl (by decide) (by decide) z2 st.slots.length (intsOf st.slots) [.int .i64 st.frm] rfl rfl rfl ?d1 HA.out.r2 HA.out.bel ?d2 ?d3 ?_)
                        case d1 => intro u hu; simp at hu; subst hu; rfl
                        case d2 => have := HA.out.lt; omega
                        case d3 => omega
                        intro y2 w2 hr2 hb2 hg2 hat2
                        have HA2 := Aside0.mk (HA.out.app2 (st.frm : Int) y2 hr2 hb2 hg2 hat2)
                        have kk := (HA.out.kept HA.out.r2 (by decide) (by decide) hg2).1
                        have d1 := blk_cell kk 1
                        have e1 := blk_frozen kk 1
                        obtain ⟨A2, c2, rfl⟩ := own_len hr2
                        clear kk hr2 hb2 hg2 hat2 c1' HA
                        go_upto_region 36 with fail
                        obtain ⟨W7, hW7⟩ : ∃ W7, w2.setCell ⟨B + 1, 1, none⟩ (.slice A2 (st.slots.length + 1) c2) = W7 := ⟨_, rfl⟩
                        rw [hW7] at HA2 ⊢
                        clear hW7 d1 e1
                        have c2' := blk_cell HA2.out.got 2
                        go_wp2_with (at_builtin; refine print_append_cells (w0 := w) B rfl _ _ 37 3 (.int .i64 0) 1 8 rfl Tryd.underlying37 infoInt rfl (by decide) (by decide) z3 st.ends.length (intsOf st.ends) [.int .i64 i] rfl rfl rfl ?d4 HA2.out.r3 HA2.out.bel ?d5 ?d6 ?_)
                        case d4 => intro u hu; simp at hu; subst hu; rfl
                        case d5 => have := HA2.out.lt; omega
                        case d6 => omega
                        intro y3 w3 hr3 hb3 hg3 hat3
                        have HA3 := Aside0.mk (HA2.out.app3 (i : Int) y3 hr3 hb3 hg3 hat3)
                        have kk := (HA2.out.kept HA2.out.r3 (by decide) (by decide) hg3).1
                        have d2 := blk_cell kk 2
                        have e2 := blk_frozen kk 2
                        obtain ⟨A3, c3, rfl⟩ := own_len hr3
                        clear kk hr3 hb3 hg3 hat3 c2' HA2
                        go_upto_region 37 with fail
                        obtain ⟨W8, hW8⟩ : ∃ W8, w3.setCell ⟨B + 1, 2, none⟩ (.slice A3 (st.ends.length + 1) c3) = W8 := ⟨_, rfl⟩
                        rw [hW8] at HA3 ⊢
                        clear hW8 d2 e2
                        go_wp2_with fail
                        go_meet
                        exact ⟨rfl, _, _, _, HA3⟩
                  -- END
                case rest => as_aux_lemma =>
                  obtain ⟨rfl, x1, x2, x3, HGB⟩ := hcut
                  have hst2h : st2.held.size ≤ 200000 ∧ st2.frm ≤ i ∧ st2.held.size ≤ 200 * i + 184 ∧ st2.texts.length ≤ 200 * i + 1 ∧ st2.slots.length ≤ 200 * i + 1 ∧ st2.ends.length ≤ 200 * i + 1 := by
                    have hsm := HSM.out
                    unfold RSmall at hsm
                    rcases HM2.out with h | h
                    · rw [h.2.2.2]; simp only [List.length_append, List.length_cons, List.length_nil]
                      have e : (⟨#[]⟩ : ByteArray).size = 0 := rfl
                      omega
                    · rw [h.2]; simp only
                      omega
                  have HFRM : Aside0 (st2.frm = st.frm) := ⟨by
                    rcases HM2.out with h | h
                    · rw [h.2.2.2]
                    · rw [h.2]⟩
                  have hstp : st' = restB i (body.size + 1) st2 rs ∧ rs.size ≤ body.size ∧ (start = true → st2.held.size = 0) := by
                    rcases HSTEP.out with h | h
                    · refine ⟨?_, by omega, fun h2 => ?_⟩
                      · rw [h.2.2]; simp only [restB]; rw [if_pos (.inl h.2.1)]
                      · rw [h.1] at h2; cases h2
                    · exact ⟨h.2.2.1, h.2.2.2, fun _ => h.2.1⟩
                  obtain ⟨hstp, hrsl, hsth⟩ := hstp
                  obtain ⟨hs1, hs2, hs3, hs4, hs5, hs6⟩ := hst2h
                  have HSTP := Aside0.mk hstp
                  have HSTH := Aside0.mk hsth
                  clear hstp hsth HM2 HSTEP HCP HMID HSM HGA
                  have p1 := blk_cell HGB.out.pkt 1
                  go_upto_region 38 with fail
                  go_cut [162] from 21 to 206 (fun c wx => c = .bool false ∧ wx = wc)
                  case first => as_aux_lemma =>
                    -- BEGIN
                    cases start with
                    | false =>
                      go_wp2_with fail
                      go_meet
                      exact ⟨rfl, rfl⟩
                    | true =>
                      have e1 := isEmpty_of st2.held (HSTH.out rfl)
                      have e4 : (st2.held.toList == []) = true := by rw [List.isEmpty_iff.1 e1]; rfl
                      go_wp2_with fail
                      go_meet
                      exact ⟨rfl, rfl⟩
                    -- END
                  case rest => as_aux_lemma =>
                    -- BEGIN
                    obtain ⟨rfl, rfl⟩ := hcut
                    clear HSTH p1
                    go_wp2_with fail
                    obtain ⟨kx, hkx⟩ : ∃ kx, body.size + 1 = kx := ⟨_, rfl⟩
                    obtain ⟨g0, rfl⟩ : ∃ g0, g0 = gk := ⟨_, rfl⟩
                    go_loopg [6, 7, 13, 15] kx (fun kq c6 c7 c13 _ w' => ∃ (st3 : RS) (r3 : ByteArray) (y1 y2 y3 : Value), c6 = .string st3.held ∧ c7 = .int .i64 st3.frm ∧ c13 = .string r3 ∧ r3.size < kq ∧ kq ≤ 185 ∧ st3.frm ≤ i ∧ st3.held.size ≤ 200 * i + 184 ∧
                      st3.texts.length + kq ≤ 200 * i + 186 ∧ st3.slots.length + kq ≤ 200 * i + 186 ∧ st3.ends.length + kq ≤ 200 * i + 186 ∧ Aside0 (st' = restB i kq st3 r3) ∧
                      Aside0 (GA w w' B q y1 y2 y3 st3.texts st3.slots st3.ends (many + 1) #[.int .i64 pp, .bool start, .int .i64 pc, .bool false, .string body]))
                    case atStart => exact ⟨st2, rs, x1, x2, x3, rfl, by rw [HFRM.out], rfl, by omega, by omega, by omega, by omega, by omega, by omega, by omega, ⟨by rw [← hkx]; exact HSTP.out⟩, HGB⟩
                    case round =>
                      clear HGB HSTP hs1 hs2 hs3 hs4 hs5 hs6 hkx
                      obtain ⟨st3, r3, y1, y2, y3, rfl, rfl, rfl, hk1, hk2, hf3, hh3, ht3, hsl3, hen3, HRB3, HGC⟩ := hrel
                      obtain ⟨k1, rfl⟩ : ∃ k1, gk = k1 + 1 := ⟨gk - 1, by omega⟩
                      by_cases hr0 : r3.size = 0
                      · have HX : Aside0 (st' = st3) := ⟨by rw [HRB3.out]; simp only [restB]; rw [if_pos (.inl hr0)]⟩
                        have e1 := isEmpty_of r3 hr0
                        have e2 : (r3.toList == []) = true := by rw [List.isEmpty_iff.1 e1]; rfl
                        clear HRB3
                        go_wp2_with (fail)
                        go_roundg (g0 - 1)
                        case measure => omega
                        case rel => exact ⟨i + 1, many + 1, pc, st', by rw [HX.out], by rw [HX.out], rfl, by go_num, by omega, by omega, by omega, by omega, ⟨by rw [HX.out]; unfold RSmall; omega⟩, ⟨HRS.out⟩, ⟨by rw [HX.out]; exact ⟨y1, y2, y3, HGC.out.got, by omega, HGC.out.r1, HGC.out.r2, HGC.out.r3, HGC.out.ne⟩⟩, ⟨HGC.out.zer⟩, ⟨HGC.out.bel⟩⟩
                      · have e1 := notEmpty_of r3 hr0
                        have e2 : (r3.toList == []) = false := by
                          cases hh : r3.toList with
                          | nil => rw [hh] at e1; simp at e1
                          | cons a l => rfl
                        have hidx : ((r3[0]'(by omega)).toNat : Int) = bt r3 0 := bt_at r3 0 (by omega)
                        obtain ⟨r0, hr0b⟩ : ∃ r0, (r3[0]'(by omega)).toNat = r0 := ⟨_, rfl⟩
                        have hr0c : bt r3 0 = (r0 : Int) := by omega
                        have hpos : 0 < r3.size := by omega
                        clear hidx
                        by_cases h255 : r0 = 255
                        · have HX : Aside0 (st' = st3) := ⟨by rw [HRB3.out]; simp only [restB]; rw [if_pos (.inr (by omega))]⟩
                          clear HRB3 hr0c
                          subst h255
                          go_wp2_with (fail)
                          go_roundg (g0 - 1)
                          case measure => omega
                          case rel => exact ⟨i + 1, many + 1, pc, st', by rw [HX.out], by rw [HX.out], rfl, by go_num, by omega, by omega, by omega, by omega, ⟨by rw [HX.out]; unfold RSmall; omega⟩, ⟨HRS.out⟩, ⟨by rw [HX.out]; exact ⟨y1, y2, y3, HGC.out.got, by omega, HGC.out.r1, HGC.out.r2, HGC.out.r3, HGC.out.ne⟩⟩, ⟨HGC.out.zer⟩, ⟨HGC.out.bel⟩⟩
                        · have HNX : Aside0 (st' = if wholeB r3 = 0 ∨ r3.size < wholeB r3 then { st3 with held := r3, frm := i } else restB i k1 ⟨⟨#[]⟩, i, st3.texts ++ [r3.extract 0 (wholeB r3)], st3.slots ++ [(i : Int)], st3.ends ++ [(i : Int)]⟩ (r3.extract (wholeB r3) r3.size)) := ⟨by
                            rw [HRB3.out]; simp only [restB]; rw [if_neg (by rintro (h | h) <;> omega)]⟩
                          have e5 : ((r0 : Int) == 255) = false := by simp; omega
                          clear HRB3 hr0c
                          obtain ⟨n3, hn3⟩ : ∃ n3, wholeB r3 = n3 := ⟨_, rfl⟩
                          have hwl := wholeB_le r3
                          have hwc : ∀ W : World, Calls Tryd.prog 29 #[.string r3] W fun e w' => e = .returned (.int .i64 n3) ∧ Below W.heap.size W w' := by
                            intro W
                            have := HWH.out r3 W (by omega)
                            rwa [hn3] at this
                          have hlen3 : 3 ≤ r3.size ∨ n3 = 0 := by
                            by_cases h : r3.size < 3
                            · right; rw [← hn3]; unfold wholeB; rw [if_pos h]
                            · left; omega
                          have hn33 : n3 = 0 ∨ 3 ≤ n3 := by
                            rw [← hn3]; unfold wholeB
                            split
                            · exact .inl rfl
                            · right; omega
                          rw [hn3] at HNX hwl
                          have HWC := Aside0.mk hwc
                          have H33 := Aside0.mk hn33
                          clear hn3 hwc hlen3 hn33
                          go_upto_region 44 with fail
                          go_wp2_with (fail)
                          refine (HWC.out _).mono ?_
                          rintro e W9 ⟨rfl, hb9⟩
                          have HG9 := Aside0.mk (HGC.out.below hb9)
                          clear hb9 HGC
                          dsimp only
                          by_cases hn0 : n3 = 0
                          · subst hn0
                            have HX : Aside0 (st' = { st3 with held := r3, frm := i }) := ⟨by rw [HNX.out, if_pos (.inl rfl)]⟩
                            clear HNX
                            go_wp2_with (fail)
                            go_roundg k1
                            case measure => omega
                            case rel =>
                              refine ⟨{ st3 with held := r3, frm := i }, ⟨#[]⟩, y1, y2, y3, rfl, rfl, rfl, by show 0 < k1; omega, by omega, Nat.le_refl _, by simp only; omega, by simp only; omega, by simp only; omega, by simp only; omega, ⟨?_⟩, HG9⟩
                              rw [HX.out]
                              cases k1 with
                              | zero => rfl
                              | succ k1 => simp only [restB]; rw [if_pos (.inl rfl)]
                          · have e6 : ((n3 : Int) == 0) = false := by simp; omega
                            by_cases hlt3 : r3.size < n3
                            · have HX : Aside0 (st' = { st3 with held := r3, frm := i }) := ⟨by rw [HNX.out, if_pos (.inr hlt3)]⟩
                              have e7 : decide ((r3.size : Int) < n3) = true := by simp; omega
                              clear HNX
                              go_wp2_with (fail)
                              go_roundg k1
                              case measure => omega
                              case rel =>
                                refine ⟨{ st3 with held := r3, frm := i }, ⟨#[]⟩, y1, y2, y3, rfl, rfl, rfl, by show 0 < k1; omega, by omega, Nat.le_refl _, by simp only; omega, by simp only; omega, by simp only; omega, by simp only; omega, ⟨?_⟩, HG9⟩
                                rw [HX.out]
                                cases k1 with
                                | zero => rfl
                                | succ k1 => simp only [restB]; rw [if_pos (.inl rfl)]
                            · have HX : Aside0 (st' = restB i k1 ⟨⟨#[]⟩, i, st3.texts ++ [r3.extract 0 n3], st3.slots ++ [(i : Int)], st3.ends ++ [(i : Int)]⟩ (r3.extract n3 r3.size)) := ⟨by rw [HNX.out, if_neg (by rintro (h | h) <;> omega)]⟩
                              have e7 : decide ((r3.size : Int) < n3) = false := by simp; omega
                              have hn3le : n3 ≤ r3.size := by omega
                              have h333 : 3 ≤ n3 := by rcases H33.out with h | h <;> omega
                              clear HNX H33
                              obtain ⟨W9', rfl⟩ : ∃ W9', W9' = W9 := ⟨_, rfl⟩
                              have c0 := blk_cell HG9.out.got 0
                              have hBl := HG9.out.lt
                              go_upto_region 47 with fail
                              go_cut [6] from 165 to 206 (fun c wx => c = .string r3 ∧ ∃ x1, Aside0 (GA w wx B q x1 y2 y3 (st3.texts ++ [r3.extract 0 n3]) st3.slots st3.ends (many + 1) #[.int .i64 pp, .bool start, .int .i64 pc, .bool false, .string body]))
                              case first => as_aux_lemma =>
                                go_region_law (refine step_append_cells (w0 := w) (W := W9'.drew) B rfl _ _ 33 9 (.string ⟨#[]⟩) 1 16 rfl Tryd.underlying33 infoStr rfl (by decide) (by decide) y1 st3.texts.length (strsOf st3.texts) [.string (r3.extract 0 n3)] rfl rfl rfl (by intro u hu; simp at hu; subst hu; rfl) HG9.out.r1.drew (below_drew HG9.out.bel) (by simp; omega) (by omega) ?_; intro x1 w1 hr1 hb1 hg1 _; have HA := Aside0.mk (HG9.out.drew.app1 (r3.extract 0 n3) x1 hr1 hb1 hg1); have kk := (HG9.out.drew.kept HG9.out.r1.drew (by decide) (by decide) hg1).1; have d0 := blk_cell kk 0; have e0 := blk_frozen kk 0; clear kk; obtain ⟨A1, c1, rfl⟩ := own_len hr1; clear hr1 hb1 hg1)
                                all_goals
                                  go_wp2_with fail
                                  go_meet
                                  exact ⟨rfl, _, HA⟩
                              case rest => as_aux_lemma =>
                                obtain ⟨rfl, x1, HA⟩ := hcut
                                clear HG9 c0 hBl
                                have c1' := blk_cell HA.out.got 1
                                go_wp2_with (at_builtin; refine print_append_cells (w0 := w) B rfl _ _ 37 3 (.int .i64 0) 1 8 rfl Tryd.underlying37 infoInt rfl (by decide) (by decide) y2 st3.slots.length (intsOf st3.slots) [.int .i64 i] rfl rfl rfl ?f1 HA.out.r2 HA.out.bel ?f2 ?f3 ?_)
                                case f1 => intro u hu; simp at hu; subst hu; rfl
                                case f2 => have := HA.out.lt; omega
                                case f3 => omega
                                intro x2 w2 hr2 hb2 hg2 hat2
                                have HA2 := Aside0.mk (HA.out.app2 (i : Int) x2 hr2 hb2 hg2 hat2)
                                have kk := (HA.out.kept HA.out.r2 (by decide) (by decide) hg2).1
                                have d1 := blk_cell kk 1
                                have e1 := blk_frozen kk 1
                                obtain ⟨A2, c2, rfl⟩ := own_len hr2
                                clear kk hr2 hb2 hg2 hat2 c1' HA
                                go_upto_region 49 with fail
                                obtain ⟨W7, hW7⟩ : ∃ W7, w2.setCell ⟨B + 1, 1, none⟩ (.slice A2 (st3.slots.length + 1) c2) = W7 := ⟨_, rfl⟩
                                rw [hW7] at HA2 ⊢
                                clear hW7 d1 e1
                                have c2' := blk_cell HA2.out.got 2
                                go_wp2_with (at_builtin; refine print_append_cells (w0 := w) B rfl _ _ 37 3 (.int .i64 0) 1 8 rfl Tryd.underlying37 infoInt rfl (by decide) (by decide) y3 st3.ends.length (intsOf st3.ends) [.int .i64 i] rfl rfl rfl ?f4 HA2.out.r3 HA2.out.bel ?f5 ?f6 ?_)
                                case f4 => intro u hu; simp at hu; subst hu; rfl
                                case f5 => have := HA2.out.lt; omega
                                case f6 => omega
                                intro x3 w3 hr3 hb3 hg3 hat3
                                have HA3 := Aside0.mk (HA2.out.app3 (i : Int) x3 hr3 hb3 hg3 hat3)
                                have kk := (HA2.out.kept HA2.out.r3 (by decide) (by decide) hg3).1
                                have d2 := blk_cell kk 2
                                have e2 := blk_frozen kk 2
                                obtain ⟨A3, c3, rfl⟩ := own_len hr3
                                clear kk hr3 hb3 hg3 hat3 c2' HA2
                                go_upto_region 50 with fail
                                obtain ⟨W8, hW8⟩ : ∃ W8, w3.setCell ⟨B + 1, 2, none⟩ (.slice A3 (st3.ends.length + 1) c3) = W8 := ⟨_, rfl⟩
                                rw [hW8] at HA3 ⊢
                                clear hW8 d2 e2
                                go_wp2_with fail
                                go_roundg k1
                                case measure => omega
                                case rel =>
                                  refine ⟨⟨⟨#[]⟩, i, st3.texts ++ [r3.extract 0 n3], st3.slots ++ [(i : Int)], st3.ends ++ [(i : Int)]⟩, r3.extract n3 r3.size, _, _, _, rfl, rfl, rfl, ?_, by omega, Nat.le_refl _, Nat.zero_le _, ?_, ?_, ?_, HX, HA3⟩
                                  · rw [ByteArray.size_extract]; omega
                                  all_goals
                                    simp only [List.length_append, List.length_cons, List.length_nil]
                                    omega
                    -- END
      · have hpn : (p.pid == pid) = false := by simpa using hpe
        go_wp2_with (fail)
        obtain ⟨g2, rfl⟩ : ∃ g2, gk = g2 + 1 := ⟨gk - 1, by omega⟩
        go_roundg g2
        case rel =>
          refine ⟨i + 1, many, count, st, rfl, rfl, rfl, by go_num, by omega, hc1, hc2, by omega, ⟨?_⟩, ⟨?_⟩, ⟨v1, v2, v3, HK2.out, hBb, HO12.out, HO22.out, HO32.out, HNE.out⟩, HRB2, HBE2⟩
          · have := HSM.out; unfold RSmall at this ⊢; omega
          · have := HRD2.out; simp only [readB] at this; rwa [if_pos hpe] at this
        case measure => omega
    · -- BEGIN
      obtain rfl : i = ps.length := by omega
      have hrd := HRD.out
      rw [List.drop_length] at hrd
      simp only [readB] at hrd
      have hh0 : st.held.size = 0 := by
        apply Classical.byContradiction
        intro h
        rw [if_neg h] at hrd
        cases hrd
      rw [if_pos hh0] at hrd
      injection hrd with hrd
      subst hrd
      have e1 := isEmpty_of st.held hh0
      have e2 : (st.held.toList == []) = true := by rw [List.isEmpty_iff.1 e1]; rfl
      have hsl := HLEN.out
      have hge : ¬ (188 * ps.length + 188 ≤ s.size) := by omega
      obtain ⟨v1, v2, v3, hk, hBb, ho1, ho2, ho3, hne⟩ := HG.out
      obtain ⟨A1, n1, rfl⟩ := own_len ho1
      obtain ⟨A2, n2, rfl⟩ := own_len ho2
      obtain ⟨A3, n3, rfl⟩ := own_len ho3
      have c0 := blk_cell hk 0
      have c1 := blk_cell hk 1
      have c2 := blk_cell hk 2
      have c3 := blk_cell hk 3
      have c4 := blk_cell hk 4
      have d0 := blk_cell HRB.out 0
      have d1 := blk_cell HRB.out 1
      have d2 := blk_cell HRB.out 2
      have d3 := blk_cell HRB.out 3
      have d4 := blk_cell HRB.out 4
      have f0 := blk_frozen HRB.out 0
      have f1 := blk_frozen HRB.out 1
      have f2 := blk_frozen HRB.out 2
      have f3 := blk_frozen HRB.out 3
      have f4 := blk_frozen HRB.out 4
      have HO1 := Aside0.mk ho1
      have HO2 := Aside0.mk ho2
      have HO3 := Aside0.mk ho3
      have HK := Aside0.mk hk
      clear HG HRD HSM hk ho1 ho2 ho3 hne hsl
      go_wp2_with fail
      have hW := blk_set (blk_set (blk_set (blk_set (blk_set HRB.out 0 (.slice A1 st.texts.length n1)) 1 (.slice A2 st.slots.length n2)) 2 (.slice A3 st.ends.length n3)) 3 (.int .i64 many)) 4 (.bool true)
      have key : ∀ {e : TypeId} {v : Value} {n : Nat} {xs : List Value}, wr.ownsRow B e 1 v n xs → e ≠ 39 → (((((wr.setCell ⟨B, 0, none⟩ (.slice A1 st.texts.length n1)).setCell ⟨B, 1, none⟩ (.slice A2 st.slots.length n2)).setCell ⟨B, 2, none⟩ (.slice A3 st.ends.length n3)).setCell ⟨B, 3, none⟩ (.int .i64 many)).setCell ⟨B, 4, none⟩ (.bool true)).ownsRow B e 1 v n xs := by
        intro e v n xs ho he
        have hx : some B ≠ v.ownBlock := own_ne ho HRB.out he
        exact own_setCell (own_setCell (own_setCell (own_setCell (own_setCell ho hx _) hx _) hx _) hx _) hx _
      refine bodyPost_ret (results_c rfl _ _ B _ #[.slice A1 st.texts.length n1, .slice A2 st.slots.length n2, .slice A3 st.ends.length n3, .int .i64 many, .bool true] (0, 0) _ rfl (by simpa using hW) Tryd.underlying39 rfl (by kernel_rfl)) rfl ?_
      rw [HBB.out]
      refine ⟨_, _, _, rfl, ((((HBE.out.setCell (Nat.le_refl _) _).setCell (Nat.le_refl _) _).setCell (Nat.le_refl _) _).setCell (Nat.le_refl _) _).setCell (Nat.le_refl _) _, key HO1.out (by decide), key HO2.out (by decide), key HO3.out (by decide)⟩
      -- END
end Go.Proofs.YthmddhbccifcoaaDoor.Clar
