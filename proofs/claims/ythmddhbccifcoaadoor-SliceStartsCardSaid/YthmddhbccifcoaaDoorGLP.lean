/- In which slots the sections begin and end, as the reader tells: as slice.Starts reckons. -/
/- slice.Starts. -/
/- The law SliceStarts, walked. -/
import Derived.Test.YthmddhbccifcoaaDoorGLF
import Derived.Test.YthmddhbccifcoaaDoorGLE
import Derived.Deep.CutRange
import Derived.Deep.DeepCutAuto
import Derived.Outline
import Derived.Test.YthmddhbccifcoaaDoorGLM
set_option linter.unusedVariables false
set_option linter.unusedSimpArgs false
namespace Go.Proofs.YthmddhbccifcoaaDoor.Clar

/-- So many bytes of a section go on behind a slot: where its last byte is, and how much room is left there. -/
def innerS (slot : Int) (rest : Nat) : Int × Nat :=
  if 183 ≤ rest then innerS (slot + 1) (rest - 184) else if 0 < rest then (slot + 1, 183 - rest) else (slot, 0)
termination_by rest
decreasing_by omega
/-- Sections behind a slot in which there is so much room: where each begins and ends. -/
def startsF : Int → Nat → List ByteArray → List (Int × Int)
  | _, _, [] => []
  | slot, free, s :: l =>
    if s.data.toList.length ≤ (if free = 0 then 183 else free) then ((if free = 0 then slot + 1 else slot), (if free = 0 then slot + 1 else slot)) :: startsF (if free = 0 then slot + 1 else slot) ((if free = 0 then 183 else free) - s.data.toList.length) l
    else ((if free = 0 then slot + 1 else slot), (innerS (if free = 0 then slot + 1 else slot) (s.data.toList.length - (if free = 0 then 183 else free))).1) ::
      startsF (innerS (if free = 0 then slot + 1 else slot) (s.data.toList.length - (if free = 0 then 183 else free))).1 (innerS (if free = 0 then slot + 1 else slot) (s.data.toList.length - (if free = 0 then 183 else free))).2 l
theorem innerS_more (slot : Int) (rest : Nat) (h : 183 ≤ rest) : innerS slot rest = innerS (slot + 1) (rest - 184) := by rw [innerS, if_pos h]
theorem innerS_some (slot : Int) (rest : Nat) (h : 0 < rest) (h2 : rest < 183) : innerS slot rest = (slot + 1, 183 - rest) := by rw [innerS, if_neg (by omega), if_pos h]
theorem innerS_none (slot : Int) : innerS slot 0 = (slot, 0) := by rw [innerS, if_neg (by omega), if_neg (by omega)]
theorem startsF_fit (slot : Int) (free : Nat) (s : ByteArray) (l : List ByteArray) (hf : 0 < free) (h : s.data.toList.length ≤ free) : startsF slot free (s :: l) = (slot, slot) :: startsF slot (free - s.data.toList.length) l := by
  simp only [startsF]
  rw [if_neg (show ¬ free = 0 by omega), if_neg (show ¬ free = 0 by omega), if_pos h]
theorem startsF_over (slot : Int) (free : Nat) (s : ByteArray) (l : List ByteArray) (hf : 0 < free) (h : free < s.data.toList.length) : startsF slot free (s :: l) = (slot, (innerS slot (s.data.toList.length - free)).1) :: startsF (innerS slot (s.data.toList.length - free)).1 (innerS slot (s.data.toList.length - free)).2 l := by
  simp only [startsF]
  rw [if_neg (show ¬ free = 0 by omega), if_neg (show ¬ free = 0 by omega), if_neg (by omega)]
theorem startsF_zero (slot : Int) (l : List ByteArray) : startsF slot 0 l = startsF (slot + 1) 183 l := by
  cases l with
  | nil => rfl
  | cons s l => simp only [startsF]; rfl
/-- What is to come: the section that is begun, and those behind. -/
def pairsL (i frm : Int) (left : List UInt8) (l : List ByteArray) : List (Int × Int) :=
  if left = [] then startsF (i - 1) 0 l else (frm, (innerS (i - 1) left.length).1) :: startsF (innerS (i - 1) left.length).1 (innerS (i - 1) left.length).2 l
def addP (a b : List Int) (p : List (Int × Int)) : List Int × List Int := (a ++ p.map Prod.fst, b ++ p.map Prod.snd)
theorem addP_snoc (a b : List Int) (x y : Int) (p : List (Int × Int)) : addP (a ++ [x]) (b ++ [y]) p = addP a b ((x, y) :: p) := by simp [addP]
theorem restL_slots (i : Nat) (l : List ByteArray) (hl : ∀ s ∈ l, validL s.data.toList) (m k n : Nat) (hm : 0 < m) (hk : l.length ≤ k) (st : RL) (hst : st.held = [])
    (hn : 0 < n → (takeF m [] l).2.1 = [] ∧ (takeF m [] l).2.2 = []) :
    addP (restL i (k + 1) st ((takeF m [] l).1 ++ List.replicate n 255)).slots (restL i (k + 1) st ((takeF m [] l).1 ++ List.replicate n 255)).ends
      (pairsL ((i : Int) + 1) (restL i (k + 1) st ((takeF m [] l).1 ++ List.replicate n 255)).frm (takeF m [] l).2.1 (takeF m [] l).2.2) = addP st.slots st.ends (startsF i m l) := by
  induction l generalizing m k st with
  | nil =>
    have e : takeF m [] [] = ([], [], []) := by simp [takeF, takeL]
    rw [e]
    simp only [List.nil_append]
    rw [restL_pad]
    simp [pairsL, startsF]
  | cons s r ih =>
    have hv := hl s (by simp)
    have hvl := hv
    obtain ⟨h1, h2, h3⟩ := hvl
    rw [takeF_cons] at hn ⊢
    have hst2 : 0 < s.data.toList.length := by omega
    by_cases hlt : s.data.toList.length < m
    · rw [startsF_fit i m s r hm (by omega), ← addP_snoc]
      by_cases hr : r = []
      · subst hr
        have e : takeL m s.data.toList [] = (s.data.toList, [], []) := by simp only [takeL]; rw [List.take_of_length_le (by omega), List.drop_of_length_le (by omega)]
        rw [e]
        simp only
        rw [restL_one i _ st s.data.toList _ hv, restL_pad]
        simp [pairsL, startsF]
      · rw [takeL_more m s.data.toList r hr hlt] at hn ⊢
        simp only at hn ⊢
        rw [List.append_assoc, restL_one i _ st s.data.toList _ hv]
        obtain ⟨k', rfl⟩ : ∃ k', k = k' + 1 := ⟨k - 1, by simp at hk; omega⟩
        exact ih (fun x hx => hl x (by simp [hx])) (m - s.data.toList.length) k' (by omega) (by simp at hk; omega) ⟨[], i, st.texts ++ [s.data.toList], st.slots ++ [(i : Int)], st.ends ++ [(i : Int)]⟩ rfl hn
    · rw [takeL_done m s.data.toList r (.inr (by omega))] at hn ⊢
      simp only at hn ⊢
      by_cases heq : m = s.data.toList.length
      · have ht : s.data.toList.take m = s.data.toList := List.take_of_length_le (by omega)
        have hd : s.data.toList.drop m = [] := List.drop_of_length_le (by omega)
        rw [ht, hd, restL_one i _ st s.data.toList _ hv, restL_pad, startsF_fit i m s r hm (by omega), ← addP_snoc]
        unfold pairsL
        rw [if_pos rfl, show ((i : Int) + 1 - 1) = i by omega, show m - s.data.toList.length = 0 by omega]
      · have hd : s.data.toList.drop m ≠ [] := by
          intro h
          have := congrArg List.length h
          rw [List.length_drop, List.length_nil] at this
          omega
        have hn0 : n = 0 := by
          apply Classical.byContradiction
          intro h
          exact hd (hn (by omega)).1
        subst hn0
        rw [List.replicate_zero, List.append_nil]
        obtain ⟨k', rfl⟩ : ∃ k', k = k' + 1 := ⟨k - 1, by simp at hk; omega⟩
        have e : restL i (k' + 1 + 1) st (s.data.toList.take m) = { st with held := s.data.toList.take m, frm := i } := by
          simp only [restL]
          rw [if_neg, if_pos]
          · by_cases h3m : m < 3
            · exact .inl (wholeL_short _ (by rw [List.length_take]; omega))
            · right
              rw [wholeL_take s.data.toList m (by omega) (by omega), h1, List.length_take]; omega
          · rintro (h | h)
            · have := congrArg List.length h
              rw [List.length_take, List.length_nil] at this
              omega
            · apply h3
              rw [← h]
              cases hsl : s.data.toList with
              | nil => rw [hsl] at hst2; simp at hst2
              | cons a sl =>
                obtain ⟨m', rfl⟩ : ∃ m', m = m' + 1 := ⟨m - 1, by omega⟩
                rfl
        rw [e, startsF_over i m s r hm (by omega)]
        unfold pairsL
        rw [if_neg hd, show ((i : Int) + 1 - 1) = i by omega, List.length_drop]
theorem fold_slots (k i : Nat) (left : List UInt8) (l : List ByteArray) (hl : ∀ s ∈ l, validL s.data.toList) (hlen : l.length ≤ 184) (hk : weight left l ≤ k) (st : RL) (h1 : st.held = [] ↔ left = []) (h2 : left ≠ [] → validL (st.held ++ left)) :
    ∃ st', foldL i st (packN k left l) = some st' ∧ st'.held = [] ∧ (st'.slots, st'.ends) = addP st.slots st.ends (pairsL i st.frm left l) := by
  induction k generalizing i left l st with
  | zero =>
    have hle : left = [] := List.eq_nil_of_length_eq_zero (by unfold weight at hk; omega)
    have hll : l = [] := by
      cases l with
      | nil => rfl
      | cons s l => simp [weight] at hk
    subst hle hll
    exact ⟨st, rfl, h1.2 rfl, by simp [pairsL, startsF, addP]⟩
  | succ k ih =>
    simp only [packN]
    by_cases he : left = [] ∧ l = []
    · rw [if_pos he]
      obtain ⟨rfl, rfl⟩ := he
      exact ⟨st, rfl, h1.2 rfl, by simp [pairsL, startsF, addP]⟩
    · rw [if_neg he]
      have hne : left ≠ [] ∨ l ≠ [] := by
        by_cases ha : left = []
        · exact .inr fun hb => he ⟨ha, hb⟩
        · exact .inl ha
      have hw := nextF_weight left l hne
      -- one step, then the rest
      suffices hs : ∃ st1, stepL i st (nextF left l).2.1 (nextF left l).1 = some st1 ∧ (st1.held = [] ↔ (nextF left l).2.2.1 = []) ∧ ((nextF left l).2.2.1 ≠ [] → validL (st1.held ++ (nextF left l).2.2.1)) ∧
          addP st1.slots st1.ends (pairsL ((i : Int) + 1) st1.frm (nextF left l).2.2.1 (nextF left l).2.2.2) = addP st.slots st.ends (pairsL i st.frm left l) ∧ ((nextF left l).2.2.2 <:+ l) by
        obtain ⟨st1, e1, e2, e3, e4, e5⟩ := hs
        obtain ⟨st', f1, f2, f3⟩ := ih (i + 1) _ _ (fun s hs => hl s (e5.subset hs)) (Nat.le_trans e5.length_le hlen) (by omega) st1 e2 e3
        refine ⟨st', ?_, f2, by rw [f3, ← e4]; rfl⟩
        simp only [foldL, e1]
        exact f1
      have hb := nextF_len left l
      unfold nextF at hb ⊢
      by_cases hA : 183 ≤ left.length
      · rw [if_pos hA] at hb ⊢
        simp only at hb ⊢
        have hln : left ≠ [] := by rintro rfl; simp at hA
        have hhn : st.held ≠ [] := fun h => hln (h1.1 h)
        have hv := h2 hln
        have hcons : stepL i st false (left.take 184) = midL i st (left.take 184) := by
          cases hh : left.take 184 with
          | nil =>
            have := congrArg List.length hh
            rw [List.length_take, List.length_nil] at this
            omega
          | cons a r => rfl
        rw [hcons]
        by_cases hB : left.length ≤ 184
        · rw [List.take_of_length_le hB, List.drop_of_length_le hB]
          have := midL_whole i st left [] hhn hv (.inl rfl)
          rw [List.append_nil] at this
          refine ⟨_, this, by simp, by simp, ?_, List.suffix_refl _⟩
          have hin : innerS ((i : Int) - 1) left.length = ((i : Int), 0) := by
            rw [innerS_more _ _ hA, show left.length - 184 = 0 by omega, innerS_none]
            congr 1; omega
          unfold pairsL
          rw [if_pos rfl, if_neg hln, hin, addP_snoc, show ((i : Int) + 1 - 1) = i by omega]
        · have hd : left.drop 184 ≠ [] := by
            intro h
            have := congrArg List.length h
            rw [List.length_drop, List.length_nil] at this
            omega
          refine ⟨_, midL_more i st _ hhn ?_, ?_, ?_, ?_, List.suffix_refl _⟩
          · have hw2 : wholeL (st.held ++ left.take 184) = wholeL (st.held ++ left) := by
              have := wholeL_append (st.held ++ left.take 184) (left.drop 184) (by rw [List.length_append, List.length_take]; omega)
              rw [List.append_assoc, List.take_append_drop] at this
              exact this.symm
            rw [hw2, hv.1]
            simp only [List.length_append, List.length_take]
            omega
          · simp only [List.append_eq_nil_iff]
            exact ⟨fun h => absurd h.1 hhn, fun h => absurd h hd⟩
          · intro _
            simp only [List.append_assoc, List.take_append_drop]
            exact hv
          · have hin : innerS ((i : Int) - 1) left.length = innerS ((i : Int) + 1 - 1) (left.drop 184).length := by
              rw [innerS_more _ _ hA, List.length_drop]
              congr 1; omega
            simp only [pairsL, if_neg hd, if_neg hln, hin]
      · rw [if_neg hA] at hb ⊢
        by_cases hB : 0 < left.length ∧ l = []
        · rw [if_pos hB] at hb ⊢
          obtain ⟨hB1, rfl⟩ := hB
          simp only at hb ⊢
          have hln : left ≠ [] := by rintro rfl; simp at hB1
          have hhn : st.held ≠ [] := fun h => hln (h1.1 h)
          have hcons : stepL i st false (padded left) = midL i st (padded left) := by
            unfold padded
            cases left with
            | nil => exact absurd rfl hln
            | cons a r => rfl
          rw [hcons]
          have := midL_whole i st left (List.replicate (184 - left.length) 255) hhn (h2 hln) (by
            obtain ⟨n, hn⟩ : ∃ n, 184 - left.length = n + 1 := ⟨183 - left.length, by omega⟩
            rw [hn]; exact .inr rfl)
          refine ⟨_, this, by simp, by simp, ?_, List.suffix_refl _⟩
          have hin : innerS ((i : Int) - 1) left.length = ((i : Int), 183 - left.length) := by
            rw [innerS_some _ _ hB1 (by omega)]
            congr 1; omega
          unfold pairsL
          rw [if_pos rfl, if_neg hln, hin, addP_snoc]
          simp [startsF]
        · rw [if_neg hB]
          simp only
          have hlne : l ≠ [] := by
            rintro rfl
            rcases hne with h | h
            · exact hB ⟨List.length_pos_iff.2 h, rfl⟩
            · exact h rfl
          have hsplit := takeF_split left l hlne (by omega)
          have hsuf := takeF_suffix 183 left l
          have htl := takeF_len (183 - left.length) [] l
          rw [hsplit] at hsuf ⊢
          obtain ⟨t2, ht2⟩ : ∃ t2, takeF (183 - left.length) [] l = t2 := ⟨_, rfl⟩
          have hshort := takeF_short (183 - left.length) l
          rw [ht2] at hsuf htl hshort ⊢
          simp only at hsuf ⊢
          have hbn : (UInt8.ofNat left.length).toNat = left.length := by simp; omega
          obtain ⟨n, hn⟩ : ∃ n, 184 - (UInt8.ofNat left.length :: (left ++ t2.1)).length = n := ⟨_, rfl⟩
          have hn2 : n = 183 - left.length - t2.1.length := by
            rw [← hn]; simp only [List.length_cons, List.length_append]; omega
          have hbody : padded (UInt8.ofNat left.length :: (left ++ t2.1)) = UInt8.ofNat left.length :: (left ++ (t2.1 ++ List.replicate n 255)) := by
            unfold padded
            rw [hn]
            simp
          rw [hbody]
          have hkk : (UInt8.ofNat left.length :: (left ++ (t2.1 ++ List.replicate n 255))).length = 184 := by
            simp only [List.length_cons, List.length_append, List.length_replicate]; omega
          have hmid : ∃ st2 : RL, midL i st left = some st2 ∧ st2.held = [] ∧ addP st2.slots st2.ends (startsF i (183 - left.length) l) = addP st.slots st.ends (pairsL i st.frm left l) := by
            by_cases hl0 : left = []
            · subst hl0
              refine ⟨_, midL_nil i st (h1.2 rfl), rfl, ?_⟩
              unfold pairsL
              rw [if_pos rfl, startsF_zero, show ((i : Int) - 1 + 1) = i by omega]
              rfl
            · have := midL_whole i st left [] (fun h => hl0 (h1.1 h)) (h2 hl0) (.inl rfl)
              rw [List.append_nil] at this
              refine ⟨_, this, rfl, ?_⟩
              have hin : innerS ((i : Int) - 1) left.length = ((i : Int), 183 - left.length) := by
                rw [innerS_some _ _ (List.length_pos_iff.2 hl0) (by omega)]
                congr 1; omega
              unfold pairsL
              rw [if_neg hl0, hin, addP_snoc]
          obtain ⟨st2, hm1, hm2, hm3⟩ := hmid
          have hstep : stepL i st true (UInt8.ofNat left.length :: (left ++ (t2.1 ++ List.replicate n 255))) = some (restL i (184 + 1) st2 (t2.1 ++ List.replicate n 255)) := by
            simp only [stepL]
            rw [if_pos trivial, hbn, if_neg (by simp only [List.length_append]; omega), List.take_left, List.drop_left, hm1, hkk]
            simp [hm2]
          have hrt := restL_taken i l hl (183 - left.length) 184 n (by omega) hlen st2 hm2 (fun h => by rw [ht2]; exact hshort (by omega))
          rw [ht2] at hrt
          have hrs := restL_slots i l hl (183 - left.length) 184 n (by omega) hlen st2 hm2 (fun h => by rw [ht2]; exact hshort (by omega))
          rw [ht2] at hrs
          exact ⟨_, hstep, hrt.2.1, hrt.2.2, by rw [hrs, hm3], hsuf⟩
end Go.Proofs.YthmddhbccifcoaaDoor.Clar
namespace Go.Proofs.YthmddhbccifcoaaDoor.Clar
open Go.RowKit Go.Proofs.YthmddhbccifcoaaDoorW.PrintWords Go.Proofs.YthmddhbccifcoaaDoorW.PrintLast Go.Proofs.YthmddhbccifcoaaDoorW.PrintMore

theorem bat_one (w : World) (g : Nat) (b : Br) (S : Option Addr) (c : Nat) (hk : w.heap[g]? = some (.cells #[.int .i64 b.pid, .int .i64 b.at_, .slice S b.l.length c] 35 (0, 0))) (hl : SR w S b.l) (hc : b.l.length ≤ c) : BAt w (some ⟨g, 0, none⟩) [b] := by
  intro k x hx
  match k, hx with
  | 0, hx =>
    simp at hx
    subst hx
    exact ⟨g, S, c, rfl, blk_lt hk, (blk_cell hk 0).trans rfl, (blk_cell hk 1).trans rfl, (blk_cell hk 2).trans rfl, hc, hl⟩
  | k + 1, hx => simp at hx
set_option maxHeartbeats 4000000 in
set_option maxRecDepth 100000 in
theorem starts_bad (b : Br) (S : Option Addr) (c : Nat) (w : World) (hl : SR w S b.l) (hc : b.l.length ≤ c) (hs : b.small) (hck : checkB 0 [b] ≠ 0) :
    Calls Tryd.prog 14 #[.agg #[.int .i64 b.pid, .int .i64 b.at_, .slice S b.l.length c]] w fun e w' => e = .returned (.tuple #[.slice none 0 0, .slice none 0 0, .int .i64 (checkB 0 [b])]) ∧ Below w.heap.size w w' := by
  obtain ⟨ck, hckv⟩ : ∃ ck, checkB 0 [b] = ck := ⟨_, rfl⟩
  rw [hckv] at hck ⊢
  have hkn : (ck != 0) = true := by simpa using hck
  have HL := Aside0.mk hl
  have HS := Aside0.mk hs
  have HCK := Aside0.mk hckv
  clear hl hs hck hckv
  go_enter Tryd.func14, Tryd.ntmps14
  go_wp2_with (fail)
  have hbat := bat_one ((w.alloc (.cells #[.int .i64 b.pid, .int .i64 b.at_, .slice S b.l.length c] 35)).alloc (.cells #[.int .i64 b.pid, .int .i64 b.at_, .slice S b.l.length c] 35)) (w.heap.size + 1) b S c (by
    have := blk_new (w.alloc (.cells #[.int .i64 b.pid, .int .i64 b.at_, .slice S b.l.length c] 35)) (.cells #[.int .i64 b.pid, .int .i64 b.at_, .slice S b.l.length c] 35)
    rwa [World.size_alloc] at this) (ReadsOf.allocS (ReadsOf.allocS HL.out _) _) hc
  have hcall := scheck_any (some ⟨w.heap.size + 1, 0, none⟩) 1 [b] _ hbat (by simp) (fun x hx => by simp at hx; subst hx; exact HS.out)
  rw [HCK.out] at hcall
  refine hcall.mono ?_
  rintro e w2 ⟨rfl, hb2⟩
  have HB2 : Aside0 (Below w.heap.size w w2) := ⟨below_then2 (((Below.refl _ w).alloc (Nat.le_refl _) _).alloc (by simp) _) hb2 (by simp; omega)⟩
  clear hb2 hcall hbat
  go_wp2_with (fail)
  go_ret3
  exact ⟨rfl, HB2.out⟩
set_option maxHeartbeats 4000000 in
set_option maxRecDepth 100000 in
theorem starts_good (b : Br) (S : Option Addr) (c : Nat) (w : World) (hl : SR w S b.l) (hc : b.l.length ≤ c) (hs : b.small) (hck : checkB 0 [b] = 0) :
    Calls Tryd.prog 14 #[.agg #[.int .i64 b.pid, .int .i64 b.at_, .slice S b.l.length c]] w fun e w' => ∃ v1 v2, e = .returned (.tuple #[v1, v2, .int .i64 0]) ∧ Below w.heap.size w w' ∧
      w'.ownsRow w.heap.size 3 1 v1 b.l.length (intsOf ((startsF (b.at_ - 1) 0 b.l).map Prod.fst)) ∧ w'.ownsRow w.heap.size 3 1 v2 b.l.length (intsOf ((startsF (b.at_ - 1) 0 b.l).map Prod.snd)) ∧ NeRow v1 v2 := by
  have HL := Aside0.mk hl
  have HS := Aside0.mk hs
  have HCK := Aside0.mk hck
  clear hl hs hck
  go_enter Tryd.func14, Tryd.ntmps14
  go_wp2_with (fail)
  have hbat := bat_one ((w.alloc (.cells #[.int .i64 b.pid, .int .i64 b.at_, .slice S b.l.length c] 35)).alloc (.cells #[.int .i64 b.pid, .int .i64 b.at_, .slice S b.l.length c] 35)) (w.heap.size + 1) b S c (by
    have := blk_new (w.alloc (.cells #[.int .i64 b.pid, .int .i64 b.at_, .slice S b.l.length c] 35)) (.cells #[.int .i64 b.pid, .int .i64 b.at_, .slice S b.l.length c] 35)
    rwa [World.size_alloc] at this) (ReadsOf.allocS (ReadsOf.allocS HL.out _) _) hc
  have hcall := scheck_any (some ⟨w.heap.size + 1, 0, none⟩) 1 [b] _ hbat (by simp) (fun x hx => by simp at hx; subst hx; exact HS.out)
  rw [HCK.out] at hcall
  refine hcall.mono ?_
  rintro e w2 ⟨rfl, hb2⟩
  have hbb : Below w.heap.size w ((w.alloc (.cells #[.int .i64 b.pid, .int .i64 b.at_, .slice S b.l.length c] 35)).alloc (.cells #[.int .i64 b.pid, .int .i64 b.at_, .slice S b.l.length c] 35)) := ((Below.refl _ w).alloc (Nat.le_refl _) _).alloc (by simp) _
  have HB2 : Aside0 (Below w.heap.size w w2) := ⟨below_then2 hbb hb2 hbb.size⟩
  have HK2 := Aside0.mk (blk_below (blk_alloc (blk_new w (.cells #[.int .i64 b.pid, .int .i64 b.at_, .slice S b.l.length c] 35)) (.cells #[.int .i64 b.pid, .int .i64 b.at_, .slice S b.l.length c] 35)) hb2)
  have HL2 : Aside0 (SR w2 S b.l) := ⟨ReadsOf.below HL.out HB2.out⟩
  have hat : 0 ≤ b.at_ ∧ b.at_ ≤ 1048576 := by
    have := (checkB_cons 0 b [] HCK.out).1
    simp [rightB] at this; omega
  have hlen : b.l.length ≤ 1000 := HS.out.1
  have hc1 := blk_cell HK2.out 1
  have hc2 := blk_cell HK2.out 2
  have HSZ : Aside0 (∀ (j : Nat) (s : ByteArray), b.l[j]? = some s → 12 ≤ s.size ∧ s.size ≤ 4096) := ⟨by
    intro j s hj
    have h1 := packErr_each b.l (checkB_cons 0 b [] HCK.out).2.2.1 j (List.getElem?_eq_some_iff.1 hj).1
    rw [List.getD_eq_getElem?_getD, hj] at h1
    exact checkOf_size s h1⟩
  clear hb2 hcall hbat hbb HL
  dsimp only
  go_wp2_with (fail)
  go_loopg [6, 7, 8, 9, 25] b.l.length (fun kq vo ve sv fv i w' => ∃ (k free : Nat) (slot : Int) (os es : List Int) (A1 A2 : Option Addr) (c1 c2 : Nat), vo = .slice A1 k c1 ∧ ve = .slice A2 k c2 ∧ sv = .int .i64 slot ∧ fv = .int .i64 free ∧ i = .int .i64 k ∧ k + kq = b.l.length ∧ -1 ≤ slot ∧ slot ≤ 1048576 + 5000 * k ∧ free ≤ 183 ∧
    Aside0 (addP os es (startsF slot free (b.l.drop k)) = addP [] [] (startsF (b.at_ - 1) 0 b.l)) ∧ Aside0 (w'.ownsRow w2.heap.size 3 1 (.slice A1 k c1) k (intsOf os)) ∧ Aside0 (w'.ownsRow w2.heap.size 3 1 (.slice A2 k c2) k (intsOf es)) ∧ Aside0 (NeRow (.slice A1 k c1) (.slice A2 k c2)) ∧ Aside0 (Below w2.heap.size w2 w'))
  case atStart => exact ⟨0, 0, b.at_ - 1, [], [], none, none, 0, 0, rfl, rfl, rfl, rfl, rfl, by omega, by omega, by omega, by omega, ⟨rfl⟩, ⟨own_nil _ _ _ _⟩, ⟨own_nil _ _ _ _⟩, ⟨ne_nil _⟩, ⟨Below.refl _ _⟩⟩
  case round =>
    clear hc1 hc2
    obtain ⟨k, free, slot, os, es, A1, A2, c1, c2, rfl, rfl, rfl, rfl, rfl, hk, hsl0, hsl1, hfr, HADD, HO1, HO2, HNE, HBE⟩ := hrel
    by_cases hlt : k < b.l.length
    · obtain ⟨s, hsk⟩ : ∃ s, b.l[k]? = some s := ⟨b.l[k], List.getElem?_eq_getElem hlt⟩
      obtain ⟨ad, rfl, hx⟩ := (ReadsOf.below HL2.out HBE.out).at_ k (by omega) (by omega)
      have hx2 : wr.cell? (ad.add k) = some (.string s) := by
        simpa [rdOf, List.getD_eq_getElem?_getD, hsk] using hx
      obtain ⟨hs1, hs2⟩ := HSZ.out k s hsk
      have hdrop : b.l.drop k = s :: b.l.drop (k + 1) := by rw [List.drop_eq_getElem_cons hlt]; congr 1; exact (List.getElem?_eq_some_iff.1 hsk).2
      obtain ⟨slot1, hslot1⟩ : ∃ x, (if free = 0 then slot + 1 else slot) = x := ⟨_, rfl⟩
      obtain ⟨free1, hfree1⟩ : ∃ x, (if free = 0 then 183 else free) = x := ⟨_, rfl⟩
      have hf1 : 0 < free1 ∧ free1 ≤ 183 := by rw [← hfree1]; split <;> omega
      have hs1b : slot ≤ slot1 ∧ slot1 ≤ slot + 1 ∧ -1 ≤ slot1 := by rw [← hslot1]; split <;> omega
      obtain ⟨R, hR⟩ : ∃ R : Int × Nat, (if s.size ≤ free1 then (slot1, free1 - s.size) else innerS slot1 (s.size - free1)) = R := ⟨_, rfl⟩
      have hssz : s.data.toList.length = s.size := Array.length_toList
      have HADD2 : Aside0 (addP (os ++ [slot1]) (es ++ [R.1]) (startsF R.1 R.2 (b.l.drop (k + 1))) = addP [] [] (startsF (b.at_ - 1) 0 b.l)) := ⟨by
        have h1 := HADD.out
        have h2 : startsF slot free (s :: b.l.drop (k + 1)) = startsF slot1 free1 (s :: b.l.drop (k + 1)) := by
          rw [← hslot1, ← hfree1]
          split
          · rename_i h; subst h; rw [startsF_zero]
          · rfl
        rw [hdrop, h2] at h1
        rw [addP_snoc, ← h1]
        congr 1
        by_cases hle : s.size ≤ free1
        · rw [if_pos hle] at hR
          rw [startsF_fit _ _ _ _ hf1.1 (by omega), ← hR, hssz]
        · rw [if_neg hle] at hR
          rw [startsF_over _ _ _ _ hf1.1 (by omega), hssz, hR]⟩
      have HS1 := Aside0.mk hslot1
      have HF1 := Aside0.mk hfree1
      have HR := Aside0.mk hR
      have hkk : k ≤ 1000 := by omega
      obtain ⟨g0, rfl⟩ : ∃ g0, gk = g0 + 1 := ⟨gk - 1, by omega⟩
      clear hx hsk hdrop hslot1 hfree1 hR hssz HADD
      go_wp2_with (fail)
      refine wp_scope_lab 0 (fun n a W => ∃ (x29 x30 x31 x32 x33 x34 x35 x36 x37 x38 x39 x40 x41 x42 x43 x44 x45 x46 x47 x48 x49 x50 x51 x52 x53 x54 x55 x56 x57 x58 x59 x60 x61 x62 x63 : Value) (A3 : Option Addr) (c3 fr : Nat) (sl rest : Int), a = ⟨#[.agg #[.int .i64 b.pid, .int .i64 b.at_, .slice (some ad) b.l.length c], .pointer (some ⟨w.heap.size, 0, none⟩), .slice none 0 0, .slice none 0 0, .int .i64 0, .int .i64 0, .slice A3 (k + 1) c3, .slice A2 k c2, .int .i64 sl, .int .i64 fr, undef, .string s, .int .i64 rest, .agg #[.int .i64 b.pid, .int .i64 b.at_, .slice (some ad) b.l.length c], .slice (some ⟨w.heap.size + 1, 0, none⟩) 1 1, .int .i64 0, .int .i64 0, .bool false, undef, .pointer (some ⟨w.heap.size, 1, none⟩), .int .i64 b.at_, .int .i64 (b.at_ - 1), .pointer (some ⟨w.heap.size, 2, none⟩), .slice (some ad) b.l.length c, .int .i64 b.l.length, .int .i64 k, .bool true, .pointer (some (ad.add k)), .string s, x29, x30, x31, x32, x33, x34, x35, x36, x37, x38, x39, x40, x41, x42, x43, x44, x45, x46, x47, x48, x49, x50, x51, x52, x53, x54, x55, x56, x57, x58, x59, x60, x61, x62, x63, undef, undef], []⟩ ∧
        n = rest.toNat ∧ rest ≤ 5000 ∧ -5000 ≤ rest ∧ -1 ≤ sl ∧ sl ≤ 1048576 + 5000 * k + 5000 ∧ sl + rest ≤ slot + 4097 ∧ sl ≤ slot + 4097 ∧ fr ≤ 183 ∧ (0 < rest → fr = 0 ∧ innerS sl rest.toNat = R) ∧ (rest ≤ 0 → (sl, fr) = R) ∧
        W.ownsRow w2.heap.size 3 1 (.slice A3 (k + 1) c3) (k + 1) (intsOf (os ++ [slot1])) ∧ W.ownsRow w2.heap.size 3 1 (.slice A2 k c2) k (intsOf es) ∧ NeRow (.slice A3 (k + 1) c3) (.slice A2 k c2) ∧ Below w2.heap.size w2 W) rfl ?pass ?first
      case first =>
        intro hp
        go_upto_if 30 with fail
        go_cut [8, 9] from 29 to 63 (fun sv fv wx => sv = .int .i64 slot1 ∧ fv = .int .i64 free1 ∧ wx = wr)
        case first =>
          by_cases hz : free = 0
          · subst hz
            obtain rfl : slot + 1 = slot1 := by have := HS1.out; simpa using this
            obtain rfl : 183 = free1 := by have := HF1.out; simpa using this
            go_wp2_with fail
            go_meet
            exact ⟨rfl, rfl, rfl⟩
          · have e1 : ((free : Int) == 0) = false := by simp; omega
            obtain rfl : slot = slot1 := by have := HS1.out; rwa [if_neg hz] at this
            obtain rfl : free = free1 := by have := HF1.out; rwa [if_neg hz] at this
            go_wp2_with fail
            go_meet
            exact ⟨rfl, rfl, rfl⟩
        case rest =>
          obtain ⟨rfl, rfl, rfl⟩ := hcut
          obtain ⟨W3, rfl⟩ : ∃ W3, W3 = wc := ⟨_, rfl⟩
          go_wp2_with (at_builtin; refine print_append_cells (w0 := w2) w2.heap.size rfl _ _ 37 3 (.int .i64 0) 1 8 rfl Tryd.underlying37 infoInt rfl (by decide) (by decide) (.slice A1 k c1) k (intsOf os) [.int .i64 slot1] rfl rfl rfl ?a1 HO1.out HBE.out HBE.out.size ?a2 ?_)
          case a1 => first | rfl | (intro u hu; simp at hu; subst hu; rfl)
          case a2 => omega
          intro y1 w4 hr1 hb1 hg1 hat1
          have hne1 := ne_append HNE.out hat1 HO2.out
          have ho2 := own_other HO2.out hg1 (ne_other HNE.out)
          obtain ⟨A3, c3, rfl⟩ := own_len hr1
          have hr2 : w4.ownsRow w2.heap.size 3 1 (.slice A3 (k + 1) c3) (k + 1) (intsOf (os ++ [slot1])) := by simpa [intsOf] using hr1
          have HR2 := Aside0.mk hr2
          have HNE1 := Aside0.mk hne1
          have HO21 := Aside0.mk ho2
          have HB1 := Aside0.mk hb1
          have hmax : max (-((s.size : Int) - free1)) 0 = ((free1 - s.size : Nat) : Int) := by omega
          clear hr1 hr2 hne1 ho2 hg1 hat1 hb1 HO1 HO2 HNE HBE
          go_wp2_with fail
          rename_i K hK
          go_step3
          refine hK _ _ (hp _ _ _ ⟨_, _, _, _, _, _, _, _, _, _, _, _, _, _, _, _, _, _, _, _, _, _, _, _, _, _, _, _, _, _, _, _, _, _, _, A3, c3, free1 - s.size, slot1, (s.size : Int) - free1, rfl, rfl, by omega, by omega, by omega, by omega, by omega, by omega, by omega, ?_, ?_, HR2.out, HO21.out, HNE1.out, HB1.out⟩)
          · intro h
            refine ⟨by omega, ?_⟩
            have := HR.out
            rw [if_neg (by omega)] at this
            rw [← this]
            congr 1
            omega
          · intro h
            have := HR.out
            rw [if_pos (by omega)] at this
            exact this
      case pass =>
        rintro n a W hJ
        obtain ⟨x29, hJ⟩ := hJ
        obtain ⟨x30, hJ⟩ := hJ
        obtain ⟨x31, hJ⟩ := hJ
        obtain ⟨x32, hJ⟩ := hJ
        obtain ⟨x33, hJ⟩ := hJ
        obtain ⟨x34, hJ⟩ := hJ
        obtain ⟨x35, hJ⟩ := hJ
        obtain ⟨x36, hJ⟩ := hJ
        obtain ⟨x37, hJ⟩ := hJ
        obtain ⟨x38, hJ⟩ := hJ
        obtain ⟨x39, hJ⟩ := hJ
        obtain ⟨x40, hJ⟩ := hJ
        obtain ⟨x41, hJ⟩ := hJ
        obtain ⟨x42, hJ⟩ := hJ
        obtain ⟨x43, hJ⟩ := hJ
        obtain ⟨x44, hJ⟩ := hJ
        obtain ⟨x45, hJ⟩ := hJ
        obtain ⟨x46, hJ⟩ := hJ
        obtain ⟨x47, hJ⟩ := hJ
        obtain ⟨x48, hJ⟩ := hJ
        obtain ⟨x49, hJ⟩ := hJ
        obtain ⟨x50, hJ⟩ := hJ
        obtain ⟨x51, hJ⟩ := hJ
        obtain ⟨x52, hJ⟩ := hJ
        obtain ⟨x53, hJ⟩ := hJ
        obtain ⟨x54, hJ⟩ := hJ
        obtain ⟨x55, hJ⟩ := hJ
        obtain ⟨x56, hJ⟩ := hJ
        obtain ⟨x57, hJ⟩ := hJ
        obtain ⟨x58, hJ⟩ := hJ
        obtain ⟨x59, hJ⟩ := hJ
        obtain ⟨x60, hJ⟩ := hJ
        obtain ⟨x61, hJ⟩ := hJ
        obtain ⟨x62, hJ⟩ := hJ
        obtain ⟨x63, hJ⟩ := hJ
        obtain ⟨A3, c3, fr, sl, rest, ha, hn, h1, h2, h3, h4, h5, h6, h7, h8, h9, o1, o2, o3, hbl⟩ := hJ
        subst ha
        have O1 := Aside0.mk o1
        have O2 := Aside0.mk o2
        have O3 := Aside0.mk o3
        have HBL := Aside0.mk hbl
        have H8 := Aside0.mk h8
        have H9 := Aside0.mk h9
        have HNN := Aside0.mk hn
        clear o1 o2 o3 hbl h8 h9 hn HO1 HO2 HNE HBE HS1 HF1 HR
        by_cases hbig : 183 ≤ rest
        · obtain ⟨hfr0, hin⟩ := H8.out (by omega)
          subst hfr0
          have e1 : decide ((183 : Int) ≤ rest) = true := by simpa using hbig
          obtain ⟨r2, hr2⟩ : ∃ r2, max (rest - 184) 0 = r2 := ⟨_, rfl⟩
          have hr2b : r2 = max (rest - 184) 0 := hr2.symm
          have hr3 : 0 ≤ r2 ∧ r2 ≤ 5000 ∧ r2 + 183 ≤ rest ∧ (r2.toNat = rest.toNat - 184) := by omega
          obtain ⟨q1, q2, q3, q4⟩ := hr3
          have HIN : Aside0 (innerS (sl + 1) r2.toNat = R) := ⟨by rw [← hin, innerS_more sl rest.toNat (by omega), q4]⟩
          clear hin hr2b q4
          go_wp2_with fail
          go_step3
          refine ⟨rfl, r2.toNat, ?_, _, _, _, _, _, _, _, _, _, _, _, _, _, _, _, _, _, _, _, _, _, _, _, _, _, _, _, _, _, _, _, _, _, _, _, A3, c3, 0, sl + 1, r2, rfl, rfl, by omega, by omega, by omega, by omega, by omega, by omega, by omega, fun h => ⟨rfl, HIN.out⟩, fun h => ?_, O1.out, O2.out, O3.out, HBL.out⟩
          · rw [HNN.out]; omega
          · have h0 : r2 = 0 := by omega
            have := HIN.out
            rw [h0, show (0 : Int).toNat = 0 from rfl, innerS_none] at this
            exact this
        · by_cases hpos : 0 < rest
          · obtain ⟨hfr0, hin⟩ := H8.out hpos
            rw [innerS_some sl rest.toNat (by omega) (by omega)] at hin
            have HIN : Aside0 ((sl + 1, 183 - rest.toNat) = R) := ⟨hin⟩
            have e1 : decide ((183 : Int) ≤ rest) = false := by simpa using hbig
            have e2 : decide ((0 : Int) < rest) = true := by simpa using hpos
            have hfv : (183 : Int) - rest = ((183 - rest.toNat : Nat) : Int) := by omega
            clear hin
            go_wp2_with (at_builtin; refine print_append_cells (w0 := w2) w2.heap.size rfl _ _ 37 3 (.int .i64 0) 1 8 rfl Tryd.underlying37 infoInt rfl (by decide) (by decide) (.slice A2 k c2) k (intsOf es) [.int .i64 (sl + 1)] rfl rfl rfl ?b1 O2.out HBL.out HBL.out.size ?b2 ?_)
            case b1 => first | rfl | (intro u hu; simp at hu; subst hu; rfl)
            case b2 => omega
            intro y2 w5 hr2 hb2 hg2 hat2
            have hne2 := ne_append' O3.out hat2 O1.out
            have ho1 := own_other O1.out hg2 (ne_other (ne_symm O3.out))
            obtain ⟨A4, c4, rfl⟩ := own_len hr2
            have hr3 : w5.ownsRow w2.heap.size 3 1 (.slice A4 (k + 1) c4) (k + 1) (intsOf (es ++ [sl + 1])) := by simpa [intsOf] using hr2
            have HR3 := Aside0.mk hr3
            have HNE2 := Aside0.mk hne2
            have HO12 := Aside0.mk ho1
            have HB3 := Aside0.mk hb2
            clear hr2 hr3 hne2 ho1 hg2 hat2 hb2 O1 O2 O3 HBL
            go_wp2_with fail
            obtain rfl := HIN.out
            have HADD3 : Aside0 (addP (os ++ [slot1]) (es ++ [sl + 1]) (startsF (sl + 1) (183 - rest.toNat) (b.l.drop (k + 1))) = addP [] [] (startsF (b.at_ - 1) 0 b.l)) := ⟨HADD2.out⟩
            clear HADD2 HIN H8 H9
            change Exit.inBlock 1 _ Exit.normal _ _
            go_wp2_with fail
            go_roundg g0
            case measure => omega
            case rel => exact ⟨k + 1, 183 - rest.toNat, sl + 1, os ++ [slot1], es ++ [sl + 1], A3, A4, c3, c4, rfl, rfl, rfl, rfl, by go_num, by omega, by omega, by omega, by omega, HADD3, HO12, HR3, HNE2, HB3⟩
          · have HIN := Aside0.mk (H9.out (by omega))
            have e1 : decide ((183 : Int) ≤ rest) = false := by simpa using hbig
            have e2 : decide ((0 : Int) < rest) = false := by simpa using hpos
            go_wp2_with (at_builtin; refine print_append_cells (w0 := w2) w2.heap.size rfl _ _ 37 3 (.int .i64 0) 1 8 rfl Tryd.underlying37 infoInt rfl (by decide) (by decide) (.slice A2 k c2) k (intsOf es) [.int .i64 sl] rfl rfl rfl ?d1 O2.out HBL.out HBL.out.size ?d2 ?_)
            case d1 => first | rfl | (intro u hu; simp at hu; subst hu; rfl)
            case d2 => omega
            intro y2 w5 hr2 hb2 hg2 hat2
            have hne2 := ne_append' O3.out hat2 O1.out
            have ho1 := own_other O1.out hg2 (ne_other (ne_symm O3.out))
            obtain ⟨A4, c4, rfl⟩ := own_len hr2
            have hr3 : w5.ownsRow w2.heap.size 3 1 (.slice A4 (k + 1) c4) (k + 1) (intsOf (es ++ [sl])) := by simpa [intsOf] using hr2
            have HR3 := Aside0.mk hr3
            have HNE2 := Aside0.mk hne2
            have HO12 := Aside0.mk ho1
            have HB3 := Aside0.mk hb2
            clear hr2 hr3 hne2 ho1 hg2 hat2 hb2 O1 O2 O3 HBL
            go_wp2_with fail
            obtain rfl := HIN.out
            have HADD3 : Aside0 (addP (os ++ [slot1]) (es ++ [sl]) (startsF (sl) (fr) (b.l.drop (k + 1))) = addP [] [] (startsF (b.at_ - 1) 0 b.l)) := ⟨HADD2.out⟩
            clear HADD2 HIN H8 H9
            change Exit.inBlock 1 _ Exit.normal _ _
            go_wp2_with fail
            go_roundg g0
            case measure => omega
            case rel => exact ⟨k + 1, fr, sl, os ++ [slot1], es ++ [sl], A3, A4, c3, c4, rfl, rfl, rfl, rfl, by go_num, by omega, by omega, by omega, by omega, HADD3, HO12, HR3, HNE2, HB3⟩
    · obtain rfl : k = b.l.length := by omega
      have hadd := HADD.out
      rw [List.drop_length] at hadd
      simp only [startsF, addP, List.map_nil, List.append_nil, List.nil_append, Prod.mk.injEq] at hadd
      have HA := Aside0.mk hadd
      clear hadd HADD
      go_wp2_with fail
      go_ret3
      refine ⟨_, _, rfl, below_then2 HB2.out HBE.out HB2.out.size, ?_, ?_, HNE.out⟩
      · rw [← HA.out.1]; exact own_weaken HO1.out HB2.out.size
      · rw [← HA.out.2]; exact own_weaken HO2.out HB2.out.size
end Go.Proofs.YthmddhbccifcoaaDoor.Clar
namespace Go.Proofs.YthmddhbccifcoaaDoor.Clar
open Go.RowKit Go.Proofs.YthmddhbccifcoaaDoorW.PrintWords Go.Proofs.YthmddhbccifcoaaDoorW.PrintLast Go.Proofs.YthmddhbccifcoaaDoorW.PrintMore Go.Proofs.YthmddhbccifcoaaDoor.PSliceLays

/-- What is read of a burst: in which slots its sections begin and end. -/
theorem read_one (b : Br) (hc : checkB 0 [b] = 0) (hl : b.l.length ≤ 184) :
    ∃ s2 : RS, readB b.pid 0 (-1) 0 ⟨⟨#[]⟩, 0, [], [], []⟩ (layPk 0 (fun _ => 0) [b]) = some (s2, (packF b.l).length) ∧ s2.slots = (startsF (b.at_ - 1) 0 b.l).map Prod.fst ∧ s2.ends = (startsF (b.at_ - 1) 0 b.l).map Prod.snd := by
  obtain ⟨hr1, hr2, hr3, hr4, hr5⟩ := checkB_cons _ _ _ hc
  have hrr : 0 ≤ b.pid ∧ b.pid < 8191 ∧ 0 ≤ b.at_ := by simp [rightB] at hr1; omega
  simp only [layPk]
  have hnull : ∀ p ∈ List.replicate (b.at_.toNat - 0) nullPk, p.pid ≠ b.pid := by
    intro p hp
    rw [(List.mem_replicate.1 hp).2]
    show (8191 : Int) ≠ b.pid
    omega
  rw [List.append_assoc, read_skip b.pid _ _ hnull]
  have hv : ∀ s ∈ b.l, validL s.data.toList := by
    intro s hs
    obtain ⟨j, hj, rfl⟩ := List.getElem_of_mem hs
    have := packErr_each b.l hr3 j hj
    rw [List.getD_eq_getElem?_getD, List.getElem?_eq_getElem hj] at this
    exact check_valid _ this
  have hi : (0 + (List.replicate (b.at_.toNat - 0) nullPk).length) = b.at_.toNat := by simp
  rw [hi]
  obtain ⟨st', g1, g2, g3⟩ := fold_slots (weight [] b.l) b.at_.toNat [] b.l hv hl (Nat.le_refl _) (toL ⟨⟨#[]⟩, 0, [], [], []⟩) ⟨fun _ => rfl, fun _ => rfl⟩ (fun h => absurd rfl h)
  obtain ⟨s2, count', e1, e2, e3⟩ := read_pks b.pid (packF b.l) [] 0 (by omega) b.at_.toNat (-1) (.inl ⟨by omega, rfl⟩) 0 ⟨⟨#[]⟩, 0, [], [], []⟩ st' g1
  have hst2 : s2.held.size = 0 := (nil_list _).2 (by rw [← e1] at g2; exact g2)
  refine ⟨s2, ?_, ?_⟩
  · rw [e3]
    simp only [readB]
    rw [if_pos hst2, Nat.zero_add]
  · rw [← e1] at g3
    have hp : pairsL (b.at_.toNat : Int) (toL ⟨⟨#[]⟩, 0, [], [], []⟩).frm [] b.l = startsF (b.at_ - 1) 0 b.l := by
      unfold pairsL
      rw [if_pos rfl, show (b.at_.toNat : Int) = b.at_ by omega]
    rw [hp] at g3
    simpa [toL, addP] using g3
theorem startsF_length (l : List ByteArray) : ∀ (slot : Int) (free : Nat), (startsF slot free l).length = l.length := by
  induction l with
  | nil => intro slot free; rfl
  | cons s l ih =>
    intro slot free
    unfold startsF
    repeat' split
    all_goals simp [ih]
theorem kc_one (w : World) (g : Nat) (x : S45) (A : Option Addr) (c : Nat) (hk : w.heap[g]? = some (.cells #[.int .i64 x.f0, .int .i64 x.f1, .slice A x.f2.length c] 45 (0, 0))) (hl : x.f2.length ≤ c) (hC : k50.C w A x.f2.length x.f2) : k45.C w (some ⟨g, 0, none⟩) [x].length [x] := by
  refine ⟨rfl, by simp, fun _ => ⟨_, rfl, fun j p hj => ?_⟩⟩
  match j, hj with
  | 0, hj =>
    simp at hj
    subst hj
    refine ⟨_, rfl, k45_mk w x hl hC, fun i u hu => ?_⟩
    rw [add_plain, blk_cell hk, show 0 * k45.sz + i = i by omega]
    simpa using hu
  | j + 1, hj => simp at hj
set_option maxHeartbeats 40000000 in
set_option maxRecDepth 100000 in
theorem sliceStarts_any (hRead : ReadOk) (x : S45) (A0 : Option Addr) (c0 : Nat) (w : World) (hr : k50.C w A0 x.f2.length x.f2) (hc : x.f2.length ≤ c0) (hW : Wd w) :
    Calls Tryd.prog 4 #[.agg #[.int .i64 x.f0, .int .i64 x.f1, .slice A0 x.f2.length c0]] w fun e w' => e = .returned (.bool true) ∧ Below w.heap.size w w' := by
  have HR := Aside0.mk hr
  have HC := Aside0.mk hc
  have HW := Aside0.mk hW
  have HREAD := Aside0.mk hRead
  have HAW := Aside0.mk awake_any
  clear hr hc hW hRead
  go_enter Tryd.func4, Tryd.ntmps4
  go_wp2_with (fail)
  have hk1 := blk_alloc (blk_new w (.cells #[.int .i64 x.f0, .int .i64 x.f1, .slice A0 x.f2.length c0] 45)) (.cells #[.int .i64 x.f0, .int .i64 x.f1, .slice A0 x.f2.length c0] 45)
  have hk2 := blk_new (w.alloc (.cells #[.int .i64 x.f0, .int .i64 x.f1, .slice A0 x.f2.length c0] 45)) (.cells #[.int .i64 x.f0, .int .i64 x.f1, .slice A0 x.f2.length c0] 45)
  rw [World.size_alloc] at hk2
  have hbw : Below w.heap.size w ((w.alloc (.cells #[.int .i64 x.f0, .int .i64 x.f1, .slice A0 x.f2.length c0] 45)).alloc (.cells #[.int .i64 x.f0, .int .i64 x.f1, .slice A0 x.f2.length c0] 45)) := ((Below.refl _ w).alloc (Nat.le_refl _) _).alloc (by simp) _
  obtain ⟨w1, hw1⟩ : ∃ w1, (w.alloc (.cells #[.int .i64 x.f0, .int .i64 x.f1, .slice A0 x.f2.length c0] 45)).alloc (.cells #[.int .i64 x.f0, .int .i64 x.f1, .slice A0 x.f2.length c0] 45) = w1 := ⟨_, rfl⟩
  rw [hw1] at hk1 hk2 hbw ⊢
  obtain ⟨bx, hbx⟩ : ∃ bx, w.heap.size = bx := ⟨_, rfl⟩
  rw [hbx] at hk1 hk2 ⊢
  have HBX := Aside0.mk hbx
  obtain ⟨fr, hfr, hfew⟩ := few_any (some ⟨bx + 1, 0, none⟩) 1 [x] w1 (kc_one w1 (bx + 1) x A0 c0 hk2 HC.out (Kd.C_below HR.out hbw)) (by simp) (by simp)
  have HK1 := Aside0.mk hk1
  have HFEW := Aside0.mk hfew
  have HFR := Aside0.mk hfr
  have HB1 : Aside0 (Below bx w w1) := ⟨by rw [← hbx]; exact hbw⟩
  have HW1 : Aside0 (Wd w1) := ⟨HW.out.below hbw⟩
  clear hk1 hk2 hbw hfew hfr hw1 hbx
  refine HFEW.out.mono ?_
  rintro e w2 ⟨rfl, hb2⟩
  have hbxs : bx ≤ w1.heap.size := by have h1 := HB1.out.size; have := HBX.out; omega
  have HB2 : Aside0 (Below bx w w2) := ⟨below_then2 HB1.out hb2 hbxs⟩
  have HK2 := Aside0.mk (blk_below HK1.out hb2)
  have HW2 := Aside0.mk (HW1.out.below hb2)
  clear hb2 HFEW HB1 HK1 HW1
  cases fr with
  | false =>
    go_wp2_with (fail)
    refine (HAW.out _).mono ?_
    rintro e w3 ⟨rfl, hb3⟩
    have HB3 : Aside0 (Below bx w w3) := ⟨below_then2 HB2.out hb3 (by have := blk_lt HK2.out; omega)⟩
    clear hb3
    go_wp2_with (fail)
    go_ret
    exact ⟨rfl, by rw [HBX.out]; exact HB3.out⟩
  | true =>
    have hc0 := blk_cell HK2.out 0
    have hc1 := blk_cell HK2.out 1
    have hc2 := blk_cell HK2.out 2
    have hbxs2 : bx < w2.heap.size := blk_lt HK2.out
    have hC2 : k50.C w2 A0 x.f2.length x.f2 := Kd.C_below HR.out (by rw [HBX.out]; exact HB2.out)
    obtain ⟨bs, k1, k2, k3, k4, hbu⟩ := bursts_any (some ⟨w2.heap.size, 0, none⟩) 1 [x] (w2.alloc (.cells #[.int .i64 x.f0, .int .i64 x.f1, .slice A0 x.f2.length c0] 45)) (kc_one _ w2.heap.size x A0 c0 (blk_new w2 _) HC.out (Kd.C_below hC2 (below_alloc (Below.refl _ _) _))) (by simp) (HFR.out rfl)
    obtain ⟨b, rfl⟩ : ∃ b, bs = [b] := List.length_eq_one_iff.1 (by simpa using k1)
    have hbp : b.pid = x.f0 ∧ b.at_ = x.f1 := by simpa using k4
    have hb8 := k3 b (by simp)
    have HBU := Aside0.mk hbu
    have HBP := Aside0.mk hbp
    have HB8 := Aside0.mk hb8
    have HBA : Aside0 (Below bx w (w2.alloc (.cells #[.int .i64 x.f0, .int .i64 x.f1, .slice A0 x.f2.length c0] 45))) := ⟨HB2.out.alloc (by omega) _⟩
    have HKA := Aside0.mk (blk_alloc HK2.out (.cells #[.int .i64 x.f0, .int .i64 x.f1, .slice A0 x.f2.length c0] 45))
    have HWA : Aside0 (Wd (w2.alloc (.cells #[.int .i64 x.f0, .int .i64 x.f1, .slice A0 x.f2.length c0] 45))) := ⟨HW2.out.below (below_alloc (Below.refl _ _) _)⟩
    clear hbu hbp hb8 k1 k2 k3 k4 hC2 HB2 HW2 HR HFR
    go_wp2_with (fail)
    refine HBU.out.mono ?_
    rintro e w3 ⟨A, c, rfl, hcb, hbat, hb3⟩
    have HBAT := Aside0.mk hbat
    have HB3 : Aside0 (Below bx w w3) := ⟨below_then2 HBA.out hb3 (by simp; omega)⟩
    have HK3 := Aside0.mk (blk_below HKA.out hb3)
    have HW3 := Aside0.mk (HWA.out.below hb3)
    have hsm : b.small := small_of HB8.out
    have HSM := Aside0.mk hsm
    clear hb3 hbat HBU HBA HKA HWA HK2 hc0 hc1 hc2 hsm hbxs2
    obtain ⟨ck, hck⟩ : ∃ ck, checkB 0 [b] = ck := ⟨_, rfl⟩
    obtain ⟨en, hen⟩ : ∃ en, (if checkB 0 [b] = 0 then endB 0 [b] else 0) = en := ⟨_, rfl⟩
    have hwr := wrong_any bodies_ok A c [b] w3 HBAT.out (by simp) (fun y hy => by simp at hy; subst hy; exact HSM.out)
    rw [hen, hck] at hwr
    rw [hck] at hen
    have HWR := Aside0.mk hwr
    have HCK := Aside0.mk hck
    have HEN := Aside0.mk hen
    clear hwr hck hen
    simp only [List.length_cons, List.length_nil, Nat.zero_add] at HWR hcb ⊢
    go_wp2_with (fail)
    refine HWR.out.mono ?_
    rintro e w4 ⟨rfl, hb4⟩
    have HBAT4 := Aside0.mk (HBAT.out.below hb4)
    have hbx3 : bx < w3.heap.size := blk_lt HK3.out
    have HB4 : Aside0 (Below bx w w4) := ⟨below_then2 HB3.out hb4 (by omega)⟩
    have HK4 := Aside0.mk (blk_below HK3.out hb4)
    have HW4 := Aside0.mk (HW3.out.below hb4)
    clear hb4 HBAT HB3 HW3 HWR HK3 hbx3
    obtain ⟨g, S, cs, rfl, hg, h1, h2, h3, h4, h5⟩ := HBAT4.out 0 b rfl
    simp only [Nat.zero_mul, Nat.zero_add] at h1 h2 h3
    have H5 := Aside0.mk h5
    clear h5
    dsimp only
    by_cases hz : ck = 0
    · subst hz
      obtain ⟨P, hP⟩ : ∃ P, startsF (b.at_ - 1) 0 b.l = P := ⟨_, rfl⟩
      have hpl : P.length = b.l.length := by rw [← hP, startsF_length]
      have hsg := starts_good b S cs w4 H5.out h4 HSM.out HCK.out
      rw [hP] at hsg
      have HSG := Aside0.mk hsg
      have HP := Aside0.mk hP
      have HPL := Aside0.mk hpl
      have hll := lay_length [b] 0 (fun _ => 0) HCK.out
      rw [if_pos rfl] at HEN
      obtain ⟨ps, hps⟩ : ∃ ps, layPk 0 (fun _ => 0) [b] = ps := ⟨_, rfl⟩
      rw [hps] at hll
      have hlen : (ps.length : Int) = en := by rw [← HEN.out]; have h1 := hll.1; have h2 : ((0 : Nat) : Int) = 0 := rfl; rw [h2] at h1; omega
      have HPS := Aside0.mk hps
      clear hll hps hsg hP hpl
      subst hlen
      have hbx4 : bx < w4.heap.size := blk_lt HK4.out
      go_wp2_with (fail)
      refine HSG.out.mono ?_
      rintro e w5 ⟨v1, v2, rfl, hb5, ho1, ho2, hne⟩
      obtain ⟨A1, c1, rfl⟩ := own_len ho1
      obtain ⟨A2, c2, rfl⟩ := own_len ho2
      have HBAT5 := Aside0.mk (HBAT4.out.below hb5)
      have HB5 : Aside0 (Below bx w w5) := ⟨below_then2 HB4.out hb5 (by omega)⟩
      have HK5 := Aside0.mk (blk_below HK4.out hb5)
      have HW5 := Aside0.mk (HW4.out.below hb5)
      have HO1 := Aside0.mk ho1
      have HO2 := Aside0.mk ho2
      obtain ⟨g', S', cs', hA', hg', _, _, h3', _, _⟩ := HBAT5.out 0 b rfl
      injection hA' with hA'
      injection hA' with hA' _ _
      subst hA'
      simp only [Nat.zero_mul, Nat.zero_add] at h3'
      have hbx5 : bx < w5.heap.size := blk_lt HK5.out
      have hne1 : ((b.l.length : Int) != (b.l.length : Int)) = false := by simp
      clear hb5 ho1 ho2 hne HBAT4 HB4 HK4 HW4 HSG H5 h1 h2 h3 hbx4
      dsimp only
      have hbxw : bx ≤ w5.heap.size := by omega
      by_cases hnear : ps.length < 1000
      · have hnd : decide ((ps.length : Int) < 1000) = true := by simp; omega
        go_wp2_with (fail)
        refine (near_any _ _).mono ?_
        rintro e w6 ⟨rfl, hb6⟩
        rw [hnd]
        have HBAT6 := Aside0.mk (HBAT5.out.below hb6)
        have HB6 : Aside0 (Below bx w w6) := ⟨below_then2 HB5.out hb6 hbxw⟩
        have HK6 := Aside0.mk (blk_below HK5.out hb6)
        have HW6 := Aside0.mk (HW5.out.below hb6)
        have HO16 := Aside0.mk (pw_own_below HO1.out hb6)
        have HO26 := Aside0.mk (pw_own_below HO2.out hb6)
        have hbx6 : bx < w6.heap.size := blk_lt HK6.out
        clear hb6 HBAT5 HB5 HW5 HK5 HO1 HO2 h3' hbx5 hbxw
        have hlay := lay_any (some ⟨g, 0, none⟩) c [b] w6 HBAT6.out (by simp) (fun y hy => by simp at hy; subst hy; exact HSM.out) HW6.out
        rw [if_pos HCK.out, HPS.out, HCK.out] at hlay
        obtain ⟨s, hs⟩ : ∃ s : ByteArray, (⟨(ps.flatMap encL).toArray⟩ : ByteArray) = s := ⟨_, rfl⟩
        rw [hs] at hlay
        have HLAY := Aside0.mk hlay
        have HS := Aside0.mk hs
        clear hlay hs
        simp only [List.length_cons, List.length_nil, Nat.zero_add] at HLAY
        go_wp2_with (fail)
        refine HLAY.out.mono ?_
        rintro e w7 ⟨rfl, hb7⟩
        have HB7 : Aside0 (Below bx w w7) := ⟨below_then2 HB6.out hb7 (by omega)⟩
        have HK7 := Aside0.mk (blk_below HK6.out hb7)
        have HO17 := Aside0.mk (pw_own_below HO16.out hb7)
        have HO27 := Aside0.mk (pw_own_below HO26.out hb7)
        have hbx7 : bx < w7.heap.size := blk_lt HK7.out
        have hc0 := blk_cell HK7.out 0
        clear hb7 HBAT6 HB6 HW6 HK6 HO16 HO26 HLAY hbx6
        have hok := lay_ok [b] 0 (fun _ => 0) (fun _ => by omega) HCK.out
        rw [HPS.out] at hok
        obtain ⟨s2, hr1, hr2, hr3⟩ := read_one b HCK.out (by have := HB8.out.1; omega)
        rw [HPS.out, HBP.out.1] at hr1
        rw [HP.out] at hr2 hr3
        have hrd := HREAD.out s x.f0 ps w7 (s2, (packF b.l).length) HS.out.symm (fun p hp => ⟨(hok p hp).1, (hok p hp).2.1⟩) (by omega) hr1
        dsimp only at hrd
        rw [hr2, hr3] at hrd
        simp only [List.length_map, HPL.out] at hrd
        have HRD := Aside0.mk hrd
        clear hok hr1 hr2 hr3 hrd
        dsimp only
        go_wp2_with (fail)
        refine HRD.out.mono ?_
        rintro e w8 ⟨u1, u2, u3, rfl, hb8', ho1, ho2, ho3⟩
        obtain ⟨B1, d1, rfl⟩ := own_len ho1
        obtain ⟨B2, d2, rfl⟩ := own_len ho2
        obtain ⟨B3, d3, rfl⟩ := own_len ho3
        have HB8' : Aside0 (Below bx w w8) := ⟨below_then2 HB7.out hb8' (by omega)⟩
        have HO18 := Aside0.mk (pw_own_below HO17.out hb8')
        have HO28 := Aside0.mk (pw_own_below HO27.out hb8')
        have HQ2 := Aside0.mk ho2
        have HQ3 := Aside0.mk ho3
        have hbx8 : bx < w8.heap.size := Nat.lt_of_lt_of_le hbx7 hb8'.size
        clear hb8' ho1 ho2 ho3 HB7 HK7 HO17 HO27 HRD hbx7 hc0
        dsimp only
        have hn0 : 0 < b.l.length := by
          have := (checkB_cons 0 b [] HCK.out).2.1
          exact List.length_pos_iff.2 this
        obtain ⟨g1, y1, hy1, -, -⟩ := HO18.out.form hn0
        cases hy1
        obtain ⟨g2, y2, hy2, -, -⟩ := HO28.out.form hn0
        cases hy2
        obtain ⟨g3, y3, hy3, -, -⟩ := HQ2.out.form hn0
        cases hy3
        obtain ⟨g4, y4, hy4, -, -⟩ := HQ3.out.form hn0
        cases hy4
        go_wp2_with (fail)
        have hgot := blk_new w8 (.cells #[.slice B1 s2.texts.length d1, .slice (some ⟨g3, 0, none⟩) b.l.length d2, .slice (some ⟨g4, 0, none⟩) b.l.length d3, .int .i64 (packF b.l).length, .bool true] 39)
        obtain ⟨w9, hw9⟩ : ∃ w9, w8.alloc (.cells #[.slice B1 s2.texts.length d1, .slice (some ⟨g3, 0, none⟩) b.l.length d2, .slice (some ⟨g4, 0, none⟩) b.l.length d3, .int .i64 (packF b.l).length, .bool true] 39) = w9 := ⟨_, rfl⟩
        have HL1 : Aside0 (w9.ownsRow w4.heap.size 3 1 (.slice (some ⟨g1, 0, none⟩) b.l.length c1) b.l.length (intsOf (P.map Prod.fst))) := ⟨by rw [← hw9]; exact HO18.out.alloc _⟩
        have HL2 : Aside0 (w9.ownsRow w4.heap.size 3 1 (.slice (some ⟨g2, 0, none⟩) b.l.length c2) b.l.length (intsOf (P.map Prod.snd))) := ⟨by rw [← hw9]; exact HO28.out.alloc _⟩
        have HL3 : Aside0 (w9.ownsRow w7.heap.size 3 1 (.slice (some ⟨g3, 0, none⟩) b.l.length d2) b.l.length (intsOf (P.map Prod.fst))) := ⟨by rw [← hw9]; exact HQ2.out.alloc _⟩
        have HL4 : Aside0 (w9.ownsRow w7.heap.size 3 1 (.slice (some ⟨g4, 0, none⟩) b.l.length d3) b.l.length (intsOf (P.map Prod.snd))) := ⟨by rw [← hw9]; exact HQ3.out.alloc _⟩
        have HB9 : Aside0 (Below bx w w9) := ⟨by rw [← hw9]; exact HB8'.out.alloc (by omega) _⟩
        rw [hw9] at hgot ⊢
        obtain ⟨q, hq⟩ : ∃ q, w8.heap.size = q := ⟨_, rfl⟩
        rw [hq] at hgot ⊢
        have HGOT := Aside0.mk hgot
        have hb9 : bx ≤ w9.heap.size := by have := blk_lt hgot; omega
        clear hgot hw9 hq HO18 HO28 HQ2 HQ3 HB8' hbx8
        have hbl8 : b.l.length ≤ 8 := HB8.out.1
        obtain ⟨kn, hkn⟩ : ∃ kn, b.l.length = kn := ⟨_, rfl⟩
        have HKN := Aside0.mk hkn
        clear hkn
        go_loopg [12] kn (fun kq i w' => ∃ k : Nat, i = .int .i64 k ∧ k + kq = b.l.length ∧ Aside0 (Below w9.heap.size w9 w'))
        case atStart => exact ⟨0, rfl, by have := HKN.out; omega, ⟨Below.refl _ _⟩⟩
        case round =>
          obtain ⟨k, rfl, hk, HBK⟩ := hrel
          by_cases hlt : k < b.l.length
          · obtain ⟨pr, hpr⟩ : ∃ pr, P[k]? = some pr := ⟨P[k]'(by have := HPL.out; omega), List.getElem?_eq_getElem (by have := HPL.out; omega)⟩
            obtain ⟨a, e⟩ := pr
            have f1 : (intsOf (P.map Prod.fst))[k]? = some (.int .i64 a) := by simp [intsOf, hpr]
            have f2 : (intsOf (P.map Prod.snd))[k]? = some (.int .i64 e) := by simp [intsOf, hpr]
            have q1 := (pw_own_below HL1.out HBK.out).cells (g := g1) rfl k _ f1
            have q2 := (pw_own_below HL2.out HBK.out).cells (g := g2) rfl k _ f2
            have q3 := (pw_own_below HL3.out HBK.out).cells (g := g3) rfl k _ f1
            have q4 := (pw_own_below HL4.out HBK.out).cells (g := g4) rfl k _ f2
            rw [add_plain] at q1 q2 q3 q4
            have hk9 := blk_below HGOT.out HBK.out
            have k1 := blk_cell hk9 1
            have k2 := blk_cell hk9 2
            have e1 : (a != a) = false := by simp
            have e2 : (e != e) = false := by simp
            obtain ⟨m1, rfl⟩ : ∃ m1, gk = m1 + 1 := ⟨gk - 1, by omega⟩
            clear hpr f1 f2 hk9
            go_wp2_with (fail)
            go_quiet (fail)
            have HBK2 : Aside0 (Below w9.heap.size w9 (wr.drewN nq)) := ⟨pw_below_drewN HBK.out nq⟩
            clear HBK q1 q2 q3 q4 k1 k2
            go_wp2_with (fail)
            go_roundg m1
            case measure => omega
            case rel => exact ⟨k + 1, by go_num, by omega, HBK2⟩
          · obtain rfl : k = b.l.length := by omega
            go_wp2_with (fail)
            refine (HAW.out _).mono ?_
            rintro e w10 ⟨rfl, hb10⟩
            have HB10 : Aside0 (Below bx w w10) := ⟨below_then2 (below_then2 HB9.out HBK.out hb9) hb10 (by have := HBK.out.size; omega)⟩
            clear hb10
            go_wp2_with (fail)
            go_ret
            exact ⟨rfl, by rw [HBX.out]; exact HB10.out⟩
      · have hnd : decide ((ps.length : Int) < 1000) = false := by simp; omega
        go_wp2_with (fail)
        refine (near_any _ _).mono ?_
        rintro e w6 ⟨rfl, hb6⟩
        rw [hnd]
        have HB6 : Aside0 (Below bx w w6) := ⟨below_then2 HB5.out hb6 hbxw⟩
        clear hb6
        go_wp2_with (fail)
        refine (HAW.out _).mono ?_
        rintro e w7 ⟨rfl, hb7⟩
        have HB7 : Aside0 (Below bx w w7) := ⟨below_then2 HB6.out hb7 (by have := HB6.out.size; have := HBX.out; omega)⟩
        clear hb7
        go_wp2_with (fail)
        go_ret
        exact ⟨rfl, by rw [HBX.out]; exact HB7.out⟩
    · have hsb := starts_bad b S cs w4 H5.out h4 HSM.out (by rw [HCK.out]; exact hz)
      rw [HCK.out] at hsb
      have HSB := Aside0.mk hsb
      clear hsb
      have hzn : (ck != 0) = true := by simpa using hz
      have hcc : (ck == ck) = true := by simp
      go_wp2_with (fail)
      refine HSB.out.mono ?_
      rintro e w5 ⟨rfl, hb5⟩
      have hbx4 : bx < w4.heap.size := blk_lt HK4.out
      have HB5 : Aside0 (Below bx w w5) := ⟨below_then2 HB4.out hb5 (by omega)⟩
      clear hb5 h1 h2 h3
      go_wp2_with (fail)
      refine (HAW.out _).mono ?_
      rintro e w6 ⟨rfl, hb6⟩
      have HB6 : Aside0 (Below bx w w6) := ⟨below_then2 HB5.out hb6 (by have := HB5.out.size; have := HBX.out; omega)⟩
      clear hb6
      go_wp2_with (fail)
      go_ret
      exact ⟨rfl, by rw [HBX.out]; exact HB6.out⟩
end Go.Proofs.YthmddhbccifcoaaDoor.Clar
