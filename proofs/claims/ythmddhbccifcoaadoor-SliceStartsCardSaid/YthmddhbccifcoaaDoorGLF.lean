/- What is read of packets: the reader's steps, with strings as they are. -/
/- The reader's steps give the sections back that were packed: lists, no program in sight. -/
/- The reader's steps on strings are those on lists; what is read of the packets of all slots. -/
/- The state of the reference's Read in memory, and what an append to one of its rows makes of it. -/
import Derived.Test.YthmddhbccifcoaaDoorGLE
import Derived.Test.YthmddhbccifcoaaDoorGLB
import Derived.Maps.AppendAt
set_option linter.unusedVariables false
set_option linter.unusedSimpArgs false
namespace Go.Proofs.YthmddhbccifcoaaDoor.Clar
open Go.RowKit Go.Proofs.YthmddhbccifcoaaDoorW.PrintWords Go.Proofs.YthmddhbccifcoaaDoorW.PrintLast Go.Proofs.YthmddhbccifcoaaDoorW.PrintMore

def wholeB (s : ByteArray) : Nat := if s.size < 3 then 0 else 3 + (bt s 1).toNat % 16 * 256 + (bt s 2).toNat
structure RS where
  held : ByteArray
  frm : Nat
  texts : List ByteArray
  slots : List Int
  ends : List Int
def restB (i : Nat) : Nat → RS → ByteArray → RS
  | 0, st, _ => st
  | k + 1, st, rest =>
    if rest.size = 0 ∨ bt rest 0 = 255 then st
    else if wholeB rest = 0 ∨ rest.size < wholeB rest then { st with held := rest, frm := i }
    else restB i k ⟨⟨#[]⟩, i, st.texts ++ [rest.extract 0 (wholeB rest)], st.slots ++ [(i : Int)], st.ends ++ [(i : Int)]⟩ (rest.extract (wholeB rest) rest.size)
def midB (i : Nat) (st : RS) (body : ByteArray) : Option RS :=
  if st.held.size = 0 ∧ body.size ≠ 0 then none
  else if 0 < wholeB (st.held ++ body) ∧ wholeB (st.held ++ body) ≤ (st.held ++ body).size then
    (if wholeB (st.held ++ body) < (st.held ++ body).size ∧ bt (st.held ++ body) (wholeB (st.held ++ body)) ≠ 255 then none
     else some ⟨⟨#[]⟩, st.frm, st.texts ++ [(st.held ++ body).extract 0 (wholeB (st.held ++ body))], st.slots ++ [(st.frm : Int)], st.ends ++ [(i : Int)]⟩)
  else some { st with held := st.held ++ body }
def stepB (i : Nat) (st : RS) (start : Bool) (body : ByteArray) : Option RS :=
  if body.size = 0 then none
  else if start then
    (if body.size < (bt body 0).toNat + 1 then none
     else match midB i st (body.extract 1 ((bt body 0).toNat + 1)) with
      | none => none
      | some st' => if st'.held.size ≠ 0 then none else some (restB i (body.size + 1) st' (body.extract ((bt body 0).toNat + 1) body.size)))
  else midB i st body
def readB (pid : Int) : Nat → Int → Nat → RS → List Pk → Option (RS × Nat)
  | _, _, many, st, [] => if st.held.size = 0 then some (st, many) else none
  | i, count, many, st, p :: r =>
    if p.pid ≠ pid then readB pid (i + 1) count many st r
    else if (0 ≤ count ∧ p.count ≠ (count + 1) % 16) ∨ (count < 0 ∧ p.count ≠ 0) ∨ p.bad = true then none
    else match stepB i st p.start p.body with
      | none => none
      | some st' => readB pid (i + 1) p.count (many + 1) st' r
theorem wholeB_le (s : ByteArray) : wholeB s ≤ 4098 := by
  unfold wholeB
  split
  · omega
  · have := bt_range s 2
    omega
theorem restB_texts (i k : Nat) (st : RS) (rest : ByteArray) : (restB i k st rest).texts.length ≤ st.texts.length + k ∧ (restB i k st rest).slots.length ≤ st.slots.length + k ∧ (restB i k st rest).ends.length ≤ st.ends.length + k := by
  induction k generalizing st rest with
  | zero => simp [restB]
  | succ k ih =>
    simp only [restB]
    split
    · omega
    · split
      · simp only; omega
      · have := ih ⟨⟨#[]⟩, i, st.texts ++ [rest.extract 0 (wholeB rest)], st.slots ++ [(i : Int)], st.ends ++ [(i : Int)]⟩ (rest.extract (wholeB rest) rest.size)
        simp only [List.length_append, List.length_cons, List.length_nil] at this
        omega
theorem readB_cons {pid : Int} {i many : Nat} {count : Int} {st : RS} {p : Pk} {r : List Pk} {res : RS × Nat} (h : readB pid i count many st (p :: r) = some res) (hp : p.pid = pid) :
    (0 ≤ count → p.count = (count + 1) % 16) ∧ (count < 0 → p.count = 0) ∧ p.bad = false ∧ ∃ st', stepB i st p.start p.body = some st' ∧ readB pid (i + 1) p.count (many + 1) st' r = some res := by
  simp only [readB] at h
  rw [if_neg (by simp [hp])] at h
  split at h
  · cases h
  · rename_i h1
    refine ⟨fun h2 => ?_, fun h2 => ?_, ?_, ?_⟩
    · apply Classical.byContradiction; intro h3; exact h1 (.inl ⟨h2, h3⟩)
    · apply Classical.byContradiction; intro h3; exact h1 (.inr (.inl ⟨h2, h3⟩))
    · cases hb : p.bad with
      | false => rfl
      | true => exact absurd (.inr (.inr hb)) h1
    · split at h
      · cases h
      · exact ⟨_, ‹_›, h⟩
theorem midB_cases {i : Nat} {st : RS} {body : ByteArray} {st' : RS} (h : midB i st body = some st') : (body.size ≠ 0 → st.held.size ≠ 0) ∧
    ((0 < wholeB (st.held ++ body) ∧ wholeB (st.held ++ body) ≤ (st.held ++ body).size ∧ (wholeB (st.held ++ body) < (st.held ++ body).size → bt (st.held ++ body) (wholeB (st.held ++ body)) = 255) ∧
      st' = ⟨⟨#[]⟩, st.frm, st.texts ++ [(st.held ++ body).extract 0 (wholeB (st.held ++ body))], st.slots ++ [(st.frm : Int)], st.ends ++ [(i : Int)]⟩) ∨
     (¬ (0 < wholeB (st.held ++ body) ∧ wholeB (st.held ++ body) ≤ (st.held ++ body).size) ∧ st' = { st with held := st.held ++ body })) := by
  unfold midB at h
  split at h
  · cases h
  · rename_i h1
    refine ⟨fun h2 h3 => h1 ⟨h3, h2⟩, ?_⟩
    split at h
    · rename_i h2
      split at h
      · cases h
      · rename_i h3
        injection h with h
        refine .inl ⟨h2.1, h2.2, fun h4 => ?_, h.symm⟩
        apply Classical.byContradiction
        intro h5
        exact h3 ⟨h4, h5⟩
    · rename_i h2
      injection h with h
      exact .inr ⟨h2, h.symm⟩
theorem stepB_cases {i : Nat} {st : RS} {start : Bool} {body : ByteArray} {st' : RS} (h : stepB i st start body = some st') : body.size ≠ 0 ∧
    (start = false → midB i st body = some st') ∧
    (start = true → (bt body 0).toNat + 1 ≤ body.size ∧ ∃ st2, midB i st (body.extract 1 ((bt body 0).toNat + 1)) = some st2 ∧ st2.held.size = 0 ∧ st' = restB i (body.size + 1) st2 (body.extract ((bt body 0).toNat + 1) body.size)) := by
  unfold stepB at h
  split at h
  · cases h
  · rename_i h1
    refine ⟨h1, fun hs => ?_, fun hs => ?_⟩
    · subst hs
      simpa using h
    · subst hs
      rw [if_pos rfl] at h
      split at h
      · cases h
      · rename_i h2
        refine ⟨by omega, ?_⟩
        split at h
        · cases h
        · rename_i st2 h3
          split at h
          · cases h
          · rename_i h4
            injection h with h
            exact ⟨st2, h3, by omega, h.symm⟩
end Go.Proofs.YthmddhbccifcoaaDoor.Clar
namespace Go.Proofs.YthmddhbccifcoaaDoor.Clar

def wholeL : List UInt8 → Nat
  | _ :: b1 :: b2 :: _ => 3 + b1.toNat % 16 * 256 + b2.toNat
  | _ => 0
/-- A section that is right. -/
def validL (s : List UInt8) : Prop := wholeL s = s.length ∧ 12 ≤ s.length ∧ s.head? ≠ some 255
structure RL where
  held : List UInt8
  frm : Nat
  texts : List (List UInt8)
  slots : List Int
  ends : List Int
def restL (i : Nat) : Nat → RL → List UInt8 → RL
  | 0, st, _ => st
  | k + 1, st, rest =>
    if rest = [] ∨ rest.head? = some 255 then st
    else if wholeL rest = 0 ∨ rest.length < wholeL rest then { st with held := rest, frm := i }
    else restL i k ⟨[], i, st.texts ++ [rest.take (wholeL rest)], st.slots ++ [(i : Int)], st.ends ++ [(i : Int)]⟩ (rest.drop (wholeL rest))
def midL (i : Nat) (st : RL) (body : List UInt8) : Option RL :=
  if st.held = [] ∧ body ≠ [] then none
  else if 0 < wholeL (st.held ++ body) ∧ wholeL (st.held ++ body) ≤ (st.held ++ body).length then
    (if wholeL (st.held ++ body) < (st.held ++ body).length ∧ (st.held ++ body)[wholeL (st.held ++ body)]? ≠ some 255 then none
     else some ⟨[], st.frm, st.texts ++ [(st.held ++ body).take (wholeL (st.held ++ body))], st.slots ++ [(st.frm : Int)], st.ends ++ [(i : Int)]⟩)
  else some { st with held := st.held ++ body }
def stepL (i : Nat) (st : RL) (start : Bool) (body : List UInt8) : Option RL :=
  match body with
  | [] => none
  | b :: rest =>
    if start then
      (if rest.length < b.toNat then none
       else match midL i st (rest.take b.toNat) with
        | none => none
        | some st' => if st'.held ≠ [] then none else some (restL i (body.length + 1) st' (rest.drop b.toNat)))
    else midL i st body
theorem wholeL_append (s r : List UInt8) (h : 3 ≤ s.length) : wholeL (s ++ r) = wholeL s := by
  match s, h with
  | _ :: _ :: _ :: _, _ => rfl
theorem wholeL_short (s : List UInt8) (h : s.length < 3) : wholeL s = 0 := by
  match s, h with
  | [], _ => rfl
  | [_], _ => rfl
  | [_, _], _ => rfl
theorem wholeL_take (s : List UInt8) (m : Nat) (h : 3 ≤ m) (h2 : 3 ≤ s.length) : wholeL (s.take m) = wholeL s := by
  have := wholeL_append (s.take m) (s.drop m) (by rw [List.length_take]; omega)
  rw [List.take_append_drop] at this
  exact this.symm
theorem restL_pad (i k : Nat) (st : RL) (n : Nat) : restL i k st (List.replicate n 255) = st := by
  cases k with
  | zero => rfl
  | succ k =>
    simp only [restL]
    rw [if_pos]
    cases n with
    | zero => exact .inl rfl
    | succ n => exact .inr rfl
theorem restL_one (i k : Nat) (st : RL) (s r : List UInt8) (hs : validL s) : restL i (k + 1) st (s ++ r) = restL i k ⟨[], i, st.texts ++ [s], st.slots ++ [(i : Int)], st.ends ++ [(i : Int)]⟩ r := by
  obtain ⟨h1, h2, h3⟩ := hs
  have hw : wholeL (s ++ r) = s.length := by rw [wholeL_append _ _ (by omega), h1]
  have hne : s ≠ [] := by rintro rfl; simp at h2
  simp only [restL]
  rw [if_neg, if_neg, hw, List.take_left, List.drop_left]
  · rw [hw, List.length_append]; omega
  · rintro (h | h)
    · exact hne (List.append_eq_nil_iff.1 h).1
    · apply h3
      cases s with
      | nil => exact absurd rfl hne
      | cons a s => exact h
/-- What is to come yet: the section that is begun, and those behind. -/
def remL (held left : List UInt8) (l : List ByteArray) : List (List UInt8) := (if left = [] then [] else [held ++ left]) ++ l.map fun s => s.data.toList
theorem restL_taken (i : Nat) (l : List ByteArray) (hl : ∀ s ∈ l, validL s.data.toList) (m k n : Nat) (hm : 0 < m) (hk : l.length ≤ k) (st : RL) (hst : st.held = [])
    (hn : 0 < n → (takeF m [] l).2.1 = [] ∧ (takeF m [] l).2.2 = []) :
    (restL i (k + 1) st ((takeF m [] l).1 ++ List.replicate n 255)).texts ++ remL (restL i (k + 1) st ((takeF m [] l).1 ++ List.replicate n 255)).held (takeF m [] l).2.1 (takeF m [] l).2.2 = st.texts ++ l.map (fun s => s.data.toList) ∧
    ((restL i (k + 1) st ((takeF m [] l).1 ++ List.replicate n 255)).held = [] ↔ (takeF m [] l).2.1 = []) ∧
    ((takeF m [] l).2.1 ≠ [] → validL ((restL i (k + 1) st ((takeF m [] l).1 ++ List.replicate n 255)).held ++ (takeF m [] l).2.1)) := by
  induction l generalizing m k st with
  | nil =>
    have e : takeF m [] [] = ([], [], []) := by simp [takeF, takeL]
    rw [e]
    simp only [List.nil_append]
    rw [restL_pad]
    simp [remL, hst]
  | cons s r ih =>
    have hv := hl s (by simp)
    have hvl := hv
    obtain ⟨h1, h2, h3⟩ := hvl
    rw [takeF_cons] at hn ⊢
    obtain ⟨sl, hsl⟩ : ∃ sl, s.data.toList = sl := ⟨_, rfl⟩
    rw [hsl] at hn hv h1 h2 h3 ⊢
    have hne : sl ≠ [] := by rintro rfl; simp at h2
    obtain ⟨k', rfl⟩ : ∃ k', k = k' + 1 := ⟨k - 1, by simp at hk; omega⟩
    by_cases hlt : sl.length < m
    · by_cases hr : r = []
      · subst hr
        have e : takeL m sl [] = (sl, [], []) := by simp only [takeL]; rw [List.take_of_length_le (by omega), List.drop_of_length_le (by omega)]
        rw [e]
        simp only
        rw [restL_one i _ st sl _ hv, restL_pad]
        simp [remL, hsl]
      · rw [takeL_more m sl r hr hlt] at hn ⊢
        simp only at hn ⊢
        rw [List.append_assoc, restL_one i _ st sl _ hv]
        have := ih (fun x hx => hl x (by simp [hx])) (m - sl.length) k' (by omega) (by simp at hk; omega) ⟨[], i, st.texts ++ [sl], st.slots ++ [(i : Int)], st.ends ++ [(i : Int)]⟩ rfl hn
        refine ⟨?_, this.2.1, this.2.2⟩
        rw [this.1]
        simp [hsl]
    · rw [takeL_done m sl r (.inr (by omega))] at hn ⊢
      simp only at hn ⊢
      by_cases heq : m = sl.length
      · subst heq
        rw [List.take_length, List.drop_length] at *
        rw [restL_one i _ st sl _ hv, restL_pad]
        simp [remL, hsl]
      · have hd : sl.drop m ≠ [] := by
          intro h
          have := congrArg List.length h
          rw [List.length_drop] at this
          simp at this; omega
        have hn0 : n = 0 := by
          apply Classical.byContradiction
          intro h
          exact hd (hn (by omega)).1
        subst hn0
        rw [List.replicate_zero, List.append_nil]
        have e : restL i (k' + 1 + 1) st (sl.take m) = { st with held := sl.take m, frm := i } := by
          simp only [restL]
          rw [if_neg, if_pos]
          · by_cases h3m : m < 3
            · exact .inl (wholeL_short _ (by rw [List.length_take]; omega))
            · right
              rw [wholeL_take sl m (by omega) (by omega), h1, List.length_take]; omega
          · rintro (h | h)
            · have := congrArg List.length h
              rw [List.length_take, List.length_nil] at this
              omega
            · apply h3
              rw [← h]
              cases sl with
              | nil => exact absurd rfl hne
              | cons a sl =>
                obtain ⟨m', rfl⟩ : ∃ m', m = m' + 1 := ⟨m - 1, by omega⟩
                rfl
        rw [e]
        have ht : sl.take m ≠ [] := by
          intro h
          have := congrArg List.length h
          rw [List.length_take, List.length_nil] at this
          omega
        refine ⟨?_, ⟨fun h => absurd h ht, fun h => absurd h hd⟩, fun _ => ?_⟩
        · simp only [remL, if_neg hd, List.take_append_drop, hsl, List.map_cons]
          rfl
        · simp only [List.take_append_drop]; exact hv
/-- Bodies one behind the other, from slot i on. -/
def foldL : Nat → RL → List (Bool × List UInt8) → Option RL
  | _, st, [] => some st
  | i, st, b :: r => match stepL i st b.1 b.2 with
    | none => none
    | some st' => foldL (i + 1) st' r
theorem midL_nil (i : Nat) (st : RL) (h : st.held = []) : midL i st [] = some { st with held := [] } := by
  unfold midL
  rw [if_neg (by simp), h]
  simp [wholeL]
theorem midL_more (i : Nat) (st : RL) (body : List UInt8) (h : st.held ≠ []) (hn : ¬ (0 < wholeL (st.held ++ body) ∧ wholeL (st.held ++ body) ≤ (st.held ++ body).length)) : midL i st body = some { st with held := st.held ++ body } := by
  unfold midL
  rw [if_neg (fun hh => h hh.1), if_neg hn]
theorem midL_whole (i : Nat) (st : RL) (left pad : List UInt8) (h : st.held ≠ []) (hv : validL (st.held ++ left)) (hp : pad = [] ∨ pad.head? = some 255) : midL i st (left ++ pad) = some ⟨[], st.frm, st.texts ++ [st.held ++ left], st.slots ++ [(st.frm : Int)], st.ends ++ [(i : Int)]⟩ := by
  obtain ⟨h1, h2, h3⟩ := hv
  have hw : wholeL (st.held ++ (left ++ pad)) = (st.held ++ left).length := by rw [← List.append_assoc, wholeL_append _ _ (by omega), h1]
  unfold midL
  rw [if_neg (fun hh => h hh.1), hw, if_pos (by simp only [List.length_append] at *; omega), if_neg]
  · rw [← List.append_assoc, List.take_left]
  · rintro ⟨ha, hb⟩
    apply hb
    rw [← List.append_assoc, List.getElem?_append_right (Nat.le_refl _), Nat.sub_self]
    rcases hp with rfl | hp
    · simp at ha
    · cases pad with
      | nil => simp at hp
      | cons a pad => simpa using hp
theorem takeL_suffix (m : Nat) (left : List UInt8) (l : List ByteArray) : (takeL m left l).2.2 <:+ l := by
  induction l generalizing m left with
  | nil => simp [takeL]
  | cons s l ih =>
    simp only [takeL]
    split
    · exact (ih _ _).trans (List.suffix_cons s l)
    · exact List.suffix_refl _
theorem takeF_suffix (m : Nat) (left : List UInt8) (l : List ByteArray) : (takeF m left l).2.2 <:+ l := by
  unfold takeF
  split
  · exact (takeL_suffix _ _ _).trans (List.suffix_cons _ _)
  · exact takeL_suffix _ _ _
theorem takeL_short (m : Nat) (left : List UInt8) (l : List ByteArray) (h : (takeL m left l).1.length < m) : (takeL m left l).2.1 = [] ∧ (takeL m left l).2.2 = [] := by
  induction l generalizing m left with
  | nil =>
    simp only [takeL, List.length_take] at h ⊢
    exact ⟨List.drop_of_length_le (by omega), trivial⟩
  | cons s l ih =>
    simp only [takeL] at h ⊢
    by_cases hlt : left.length < m
    · rw [if_pos hlt] at h ⊢
      simp only [List.length_append] at h
      exact ih _ _ (by omega)
    · rw [if_neg hlt] at h
      simp only [List.length_take] at h
      omega
theorem takeF_short (m : Nat) (l : List ByteArray) (h : (takeF m [] l).1.length < m) : (takeF m [] l).2.1 = [] ∧ (takeF m [] l).2.2 = [] := by
  cases l with
  | nil => simp [takeF, takeL]
  | cons s l => rw [takeF_cons] at h ⊢; exact takeL_short m _ l h
theorem takeF_split (left : List UInt8) (l : List ByteArray) (hl : l ≠ []) (h : left.length < 183) : takeF 183 left l = (left ++ (takeF (183 - left.length) [] l).1, (takeF (183 - left.length) [] l).2) := by
  by_cases h0 : left = []
  · subst h0; simp
  · rw [takeF_left 183 left l (.inl h0), takeL_more 183 left l hl h]
theorem fold_law (k i : Nat) (left : List UInt8) (l : List ByteArray) (hl : ∀ s ∈ l, validL s.data.toList) (hlen : l.length ≤ 184) (hk : weight left l ≤ k) (st : RL) (h1 : st.held = [] ↔ left = []) (h2 : left ≠ [] → validL (st.held ++ left)) :
    ∃ st', foldL i st (packN k left l) = some st' ∧ st'.held = [] ∧ st'.texts = st.texts ++ remL st.held left l := by
  induction k generalizing i left l st with
  | zero =>
    have hle : left = [] := List.eq_nil_of_length_eq_zero (by unfold weight at hk; omega)
    have hll : l = [] := by
      cases l with
      | nil => rfl
      | cons s l => simp [weight] at hk
    subst hle hll
    exact ⟨st, rfl, h1.2 rfl, by simp [remL]⟩
  | succ k ih =>
    simp only [packN]
    by_cases he : left = [] ∧ l = []
    · rw [if_pos he]
      obtain ⟨rfl, rfl⟩ := he
      exact ⟨st, rfl, h1.2 rfl, by simp [remL]⟩
    · rw [if_neg he]
      have hne : left ≠ [] ∨ l ≠ [] := by
        by_cases ha : left = []
        · exact .inr fun hb => he ⟨ha, hb⟩
        · exact .inl ha
      have hw := nextF_weight left l hne
      -- one step, then the rest
      suffices hs : ∃ st1, stepL i st (nextF left l).2.1 (nextF left l).1 = some st1 ∧ (st1.held = [] ↔ (nextF left l).2.2.1 = []) ∧ ((nextF left l).2.2.1 ≠ [] → validL (st1.held ++ (nextF left l).2.2.1)) ∧
          st1.texts ++ remL st1.held (nextF left l).2.2.1 (nextF left l).2.2.2 = st.texts ++ remL st.held left l ∧ ((nextF left l).2.2.2 <:+ l) by
        obtain ⟨st1, e1, e2, e3, e4, e5⟩ := hs
        obtain ⟨st', f1, f2, f3⟩ := ih (i + 1) _ _ (fun s hs => hl s (e5.subset hs)) (Nat.le_trans e5.length_le hlen) (by omega) st1 e2 e3
        refine ⟨st', ?_, f2, by rw [f3, e4]⟩
        simp only [foldL, e1]
        exact f1
      have hb := nextF_len left l
      unfold nextF at hb ⊢
      by_cases hA : 183 ≤ left.length
      · rw [if_pos hA] at hb ⊢
        simp only at hb ⊢
        have hln : left ≠ [] := by rintro rfl; simp at hA
        have hhn : st.held ≠ [] := fun h => hln (h1.1 h)
        have hv := h2 hln
        have hcons : stepL i st false (left.take 184) = midL i st (left.take 184) := by
          cases hh : left.take 184 with
          | nil =>
            have := congrArg List.length hh
            rw [List.length_take, List.length_nil] at this
            omega
          | cons a r => rfl
        rw [hcons]
        by_cases hB : left.length ≤ 184
        · rw [List.take_of_length_le hB, List.drop_of_length_le hB]
          have := midL_whole i st left [] hhn hv (.inl rfl)
          rw [List.append_nil] at this
          refine ⟨_, this, by simp, by simp, ?_, List.suffix_refl _⟩
          simp [remL, hln]
        · have hd : left.drop 184 ≠ [] := by
            intro h
            have := congrArg List.length h
            rw [List.length_drop, List.length_nil] at this
            omega
          refine ⟨_, midL_more i st _ hhn ?_, ?_, ?_, ?_, List.suffix_refl _⟩
          · have hw2 : wholeL (st.held ++ left.take 184) = wholeL (st.held ++ left) := by
              have := wholeL_append (st.held ++ left.take 184) (left.drop 184) (by rw [List.length_append, List.length_take]; omega)
              rw [List.append_assoc, List.take_append_drop] at this
              exact this.symm
            rw [hw2, hv.1]
            simp only [List.length_append, List.length_take]
            omega
          · simp only [List.append_eq_nil_iff]
            exact ⟨fun h => absurd h.1 hhn, fun h => absurd h hd⟩
          · intro _
            simp only [List.append_assoc, List.take_append_drop]
            exact hv
          · simp only [remL, if_neg hd, if_neg hln, List.append_assoc, List.take_append_drop]
      · rw [if_neg hA] at hb ⊢
        by_cases hB : 0 < left.length ∧ l = []
        · rw [if_pos hB] at hb ⊢
          obtain ⟨hB1, rfl⟩ := hB
          simp only at hb ⊢
          have hln : left ≠ [] := by rintro rfl; simp at hB1
          have hhn : st.held ≠ [] := fun h => hln (h1.1 h)
          have hcons : stepL i st false (padded left) = midL i st (padded left) := by
            unfold padded
            cases left with
            | nil => exact absurd rfl hln
            | cons a r => rfl
          rw [hcons]
          have := midL_whole i st left (List.replicate (184 - left.length) 255) hhn (h2 hln) (by
            obtain ⟨n, hn⟩ : ∃ n, 184 - left.length = n + 1 := ⟨183 - left.length, by omega⟩
            rw [hn]; exact .inr rfl)
          refine ⟨_, this, by simp, by simp, ?_, List.suffix_refl _⟩
          simp [remL, hln]
        · rw [if_neg hB]
          simp only
          have hlne : l ≠ [] := by
            rintro rfl
            rcases hne with h | h
            · exact hB ⟨List.length_pos_iff.2 h, rfl⟩
            · exact h rfl
          have hsplit := takeF_split left l hlne (by omega)
          have hsuf := takeF_suffix 183 left l
          have htl := takeF_len (183 - left.length) [] l
          rw [hsplit] at hsuf ⊢
          obtain ⟨t2, ht2⟩ : ∃ t2, takeF (183 - left.length) [] l = t2 := ⟨_, rfl⟩
          have hshort := takeF_short (183 - left.length) l
          rw [ht2] at hsuf htl hshort ⊢
          simp only at hsuf ⊢
          have hbn : (UInt8.ofNat left.length).toNat = left.length := by simp; omega
          obtain ⟨n, hn⟩ : ∃ n, 184 - (UInt8.ofNat left.length :: (left ++ t2.1)).length = n := ⟨_, rfl⟩
          have hn2 : n = 183 - left.length - t2.1.length := by
            rw [← hn]; simp only [List.length_cons, List.length_append]; omega
          have hbody : padded (UInt8.ofNat left.length :: (left ++ t2.1)) = UInt8.ofNat left.length :: (left ++ (t2.1 ++ List.replicate n 255)) := by
            unfold padded
            rw [hn]
            simp
          rw [hbody]
          have hkk : (UInt8.ofNat left.length :: (left ++ (t2.1 ++ List.replicate n 255))).length = 184 := by
            simp only [List.length_cons, List.length_append, List.length_replicate]; omega
          have hmid : ∃ st2 : RL, midL i st left = some st2 ∧ st2.held = [] ∧ st2.texts ++ l.map (fun s => s.data.toList) = st.texts ++ remL st.held left l := by
            by_cases hl0 : left = []
            · subst hl0
              exact ⟨_, midL_nil i st (h1.2 rfl), rfl, by simp [remL]⟩
            · have := midL_whole i st left [] (fun h => hl0 (h1.1 h)) (h2 hl0) (.inl rfl)
              rw [List.append_nil] at this
              exact ⟨_, this, rfl, by simp [remL, hl0]⟩
          obtain ⟨st2, hm1, hm2, hm3⟩ := hmid
          have hstep : stepL i st true (UInt8.ofNat left.length :: (left ++ (t2.1 ++ List.replicate n 255))) = some (restL i (184 + 1) st2 (t2.1 ++ List.replicate n 255)) := by
            simp only [stepL]
            rw [if_pos trivial, hbn, if_neg (by simp only [List.length_append]; omega), List.take_left, List.drop_left, hm1, hkk]
            simp [hm2]
          have hrt := restL_taken i l hl (183 - left.length) 184 n (by omega) hlen st2 hm2 (fun h => by rw [ht2]; exact hshort (by omega))
          rw [ht2] at hrt
          exact ⟨_, hstep, hrt.2.1, hrt.2.2, by rw [hrt.1, hm3], hsuf⟩
end Go.Proofs.YthmddhbccifcoaaDoor.Clar
namespace Go.Proofs.YthmddhbccifcoaaDoor.Clar
open Go.RowKit Go.Proofs.YthmddhbccifcoaaDoorW.PrintWords Go.Proofs.YthmddhbccifcoaaDoorW.PrintLast Go.Proofs.YthmddhbccifcoaaDoorW.PrintMore

def toL (st : RS) : RL := ⟨st.held.data.toList, st.frm, st.texts.map fun s => s.data.toList, st.slots, st.ends⟩
theorem size_list (s : ByteArray) : s.size = s.data.toList.length := Array.length_toList.symm
theorem nil_list (s : ByteArray) : s.size = 0 ↔ s.data.toList = [] := by rw [size_list]; exact List.length_eq_zero_iff
theorem bt_list2 (s : ByteArray) (i : Nat) : (bt s i).toNat = (s.data.toList[i]?.getD 0).toNat := by rw [bt_list]; rfl
theorem wholeB_list (s : ByteArray) : wholeB s = wholeL s.data.toList := by
  unfold wholeB
  have h1 := bt_list2 s 1
  have h2 := bt_list2 s 2
  rw [size_list]
  match hs : s.data.toList with
  | [] => rfl
  | [_] => rfl
  | [_, _] => rfl
  | a :: b :: c :: r =>
    rw [hs] at h1 h2
    rw [if_neg (by simp only [List.length_cons]; omega)]
    show 3 + (bt s 1).toNat % 16 * 256 + (bt s 2).toNat = _
    rw [show (bt s 1).toNat = b.toNat from h1, show (bt s 2).toNat = c.toNat from h2]
    rfl
theorem bt_255 (s : ByteArray) (i : Nat) (h : i < s.size) : bt s i = 255 ↔ s.data.toList[i]? = some 255 := by
  rw [bt_list]
  have h' : i < s.data.toList.length := by rw [← size_list]; exact h
  rw [List.getElem?_eq_getElem h']
  simp only [Option.getD_some, Option.some.injEq]
  constructor
  · intro he
    have : (s.data.toList[i]).toNat = 255 := by omega
    exact UInt8.toNat_inj.1 this
  · intro he
    rw [he]; rfl
theorem restB_list (i k : Nat) (st : RS) (rest : ByteArray) : toL (restB i k st rest) = restL i k (toL st) rest.data.toList := by
  induction k generalizing st rest with
  | zero => rfl
  | succ k ih =>
    simp only [restB, restL]
    by_cases h0 : rest.size = 0
    · rw [if_pos (.inl h0), if_pos (.inl ((nil_list rest).1 h0))]
    · have hne : rest.data.toList ≠ [] := fun h => h0 ((nil_list rest).2 h)
      have hh : rest.data.toList.head? = some 255 ↔ bt rest 0 = 255 := by
        rw [List.head?_eq_getElem?]
        exact (bt_255 rest 0 (by omega)).symm
      by_cases h1 : bt rest 0 = 255
      · rw [if_pos (.inr h1), if_pos (.inr (hh.2 h1))]
      · have hL : ¬ (rest.size = 0 ∨ bt rest 0 = 255) := by simp [h0, h1]
        have hR : ¬ (rest.data.toList = [] ∨ rest.data.toList.head? = some 255) := by
          rintro (h | h)
          · exact hne h
          · exact h1 (hh.1 h)
        rw [if_neg hL, if_neg hR, wholeB_list, ← size_list]
        by_cases h2 : wholeL rest.data.toList = 0 ∨ rest.size < wholeL rest.data.toList
        · rw [if_pos h2, if_pos h2]; rfl
        · rw [if_neg h2, if_neg h2, ih]
          congr 1
          · simp only [toL, List.map_append, List.map_cons, List.map_nil, data_extract, List.drop_zero]
          · rw [data_extract, List.take_of_length_le (by rw [size_list]; exact Nat.le_refl _)]
theorem midB_list (i : Nat) (st : RS) (body : ByteArray) : (midB i st body).map toL = midL i (toL st) body.data.toList := by
  have e : (st.held ++ body).data.toList = st.held.data.toList ++ body.data.toList := by rw [ByteArray.data_append, Array.toList_append]
  obtain ⟨h, hh⟩ : ∃ h, st.held ++ body = h := ⟨_, rfl⟩
  have e' : (toL st).held ++ body.data.toList = h.data.toList := by rw [← hh]; rw [hh] at e; rw [hh]; exact e.symm
  unfold midB midL
  rw [hh, e']
  by_cases h0 : st.held.size = 0 ∧ body.size ≠ 0
  · have hR : (toL st).held = [] ∧ body.data.toList ≠ [] := ⟨(nil_list _).1 h0.1, fun h => h0.2 ((nil_list _).2 h)⟩
    rw [if_pos h0, if_pos hR]; rfl
  · have hR : ¬ ((toL st).held = [] ∧ body.data.toList ≠ []) := fun hx => h0 ⟨(nil_list _).2 hx.1, fun h => hx.2 ((nil_list _).1 h)⟩
    rw [if_neg h0, if_neg hR, wholeB_list, ← size_list]
    by_cases h1 : 0 < wholeL h.data.toList ∧ wholeL h.data.toList ≤ h.size
    · rw [if_pos h1, if_pos h1]
      by_cases h2 : wholeL h.data.toList < h.size ∧ bt h (wholeL h.data.toList) ≠ 255
      · have hR2 : wholeL h.data.toList < h.size ∧ h.data.toList[wholeL h.data.toList]? ≠ some 255 := ⟨h2.1, fun hx => h2.2 ((bt_255 h _ h2.1).2 hx)⟩
        rw [if_pos h2, if_pos hR2]; rfl
      · have hR2 : ¬ (wholeL h.data.toList < h.size ∧ h.data.toList[wholeL h.data.toList]? ≠ some 255) := fun hx => h2 ⟨hx.1, fun hy => hx.2 ((bt_255 h _ hx.1).1 hy)⟩
        rw [if_neg h2, if_neg hR2]
        simp only [Option.map_some, toL, List.map_append, List.map_cons, List.map_nil, data_extract, List.drop_zero]
    · rw [if_neg h1, if_neg h1]
      rfl
theorem stepB_list (i : Nat) (st : RS) (start : Bool) (body : ByteArray) : (stepB i st start body).map toL = stepL i (toL st) start body.data.toList := by
  unfold stepB
  match hb : body.data.toList with
  | [] => rw [if_pos ((nil_list _).2 hb)]; rfl
  | b :: r =>
    have hne : body.size ≠ 0 := fun h => by rw [(nil_list _).1 h] at hb; cases hb
    have hb0 : (bt body 0).toNat = b.toNat := by
      have := bt_list2 body 0
      rw [hb] at this
      exact this
    have hsz : body.size = r.length + 1 := by rw [size_list, hb]; rfl
    rw [if_neg hne]
    simp only [stepL]
    cases start with
    | false =>
      simp only [Bool.false_eq_true, if_false]
      rw [midB_list, hb]
    | true =>
      rw [if_pos rfl, if_pos rfl, hb0]
      by_cases h1 : body.size < b.toNat + 1
      · rw [if_pos h1, if_pos (by omega)]; rfl
      · rw [if_neg h1, if_neg (by omega)]
        have e1 : (body.extract 1 (b.toNat + 1)).data.toList = r.take b.toNat := by rw [data_extract, hb]; simp
        have e2 : (body.extract (b.toNat + 1) body.size).data.toList = r.drop b.toNat := by
          rw [data_extract, hb, List.take_of_length_le (by simp only [List.length_cons]; omega)]
          simp
        have hm := midB_list i st (body.extract 1 (b.toNat + 1))
        rw [e1] at hm
        cases hmid : midB i st (body.extract 1 (b.toNat + 1)) with
        | none =>
          rw [hmid] at hm
          rw [← hm]; rfl
        | some st2 =>
          rw [hmid] at hm
          rw [← hm]
          simp only [Option.map_some]
          by_cases h2 : st2.held.size ≠ 0
          · have hR : (toL st2).held ≠ [] := fun h => h2 ((nil_list _).2 h)
            rw [if_pos h2, if_pos hR]; rfl
          · have hR : ¬ (toL st2).held ≠ [] := fun h => h2 (fun hx => h ((nil_list _).1 hx))
            rw [if_neg h2, if_neg hR, Option.map_some, restB_list, e2, hsz]
            rfl

/-! ### Packets of all slots -/
theorem read_skip (pid : Int) (ps r : List Pk) (h : ∀ p ∈ ps, p.pid ≠ pid) (i : Nat) (count : Int) (many : Nat) (st : RS) : readB pid i count many st (ps ++ r) = readB pid (i + ps.length) count many st r := by
  induction ps generalizing i with
  | nil => rfl
  | cons p ps ih =>
    simp only [List.cons_append, readB]
    rw [if_pos (h p (by simp)), ih (fun q hq => h q (by simp [hq])), List.length_cons, show i + 1 + ps.length = i + (ps.length + 1) by omega]
/-- Which Count is to come, the last one known. -/
def CntOk (count : Int) (c : Nat) : Prop := (count < 0 ∧ c = 0) ∨ (0 ≤ count ∧ (count + 1) % 16 = (c : Int))
theorem read_pks (pid : Int) (bodies : List (Bool × List UInt8)) (r : List Pk) (c : Nat) (hc : c < 16) (i : Nat) (count : Int) (hk : CntOk count c) (many : Nat) (st : RS) (st' : RL) (h : foldL i (toL st) bodies = some st') :
    ∃ (s2 : RS) (count' : Int), toL s2 = st' ∧ CntOk count' ((c + bodies.length) % 16) ∧ readB pid i count many st (pks pid c bodies ++ r) = readB pid (i + bodies.length) count' (many + bodies.length) s2 r := by
  induction bodies generalizing c i count many st with
  | nil =>
    simp only [foldL, Option.some.injEq] at h
    refine ⟨st, count, h, ?_, rfl⟩
    rw [List.length_nil, Nat.add_zero, Nat.mod_eq_of_lt hc]; exact hk
  | cons b bodies ih =>
    simp only [foldL] at h
    have hstep := stepB_list i st b.1 ⟨b.2.toArray⟩
    have hb2 : (⟨b.2.toArray⟩ : ByteArray).data.toList = b.2 := by simp
    rw [hb2] at hstep
    cases hs : stepB i st b.1 ⟨b.2.toArray⟩ with
    | none =>
      rw [hs] at hstep
      rw [← hstep] at h
      simp at h
    | some s1 =>
      rw [hs] at hstep
      rw [← hstep] at h
      simp only [Option.map_some] at h
      obtain ⟨s2, count', e1, e2, e3⟩ := ih ((c + 1) % 16) (Nat.mod_lt _ (by omega)) (i + 1) (c : Int) (.inr ⟨by omega, by omega⟩) (many + 1) s1 h
      refine ⟨s2, count', e1, ?_, ?_⟩
      · rw [List.length_cons]
        rwa [show ((c + 1) % 16 + bodies.length) % 16 = (c + (bodies.length + 1)) % 16 by omega] at e2
      · simp only [pks, List.cons_append, readB]
        have hne : ¬ ((0 ≤ count ∧ (c : Int) ≠ (count + 1) % 16) ∨ (count < 0 ∧ (c : Int) ≠ 0) ∨ False) := by
          rintro (⟨h3, h4⟩ | ⟨h3, h4⟩ | h3)
          · rcases hk with ⟨h1, h2⟩ | ⟨h1, h2⟩
            · omega
            · exact h4 h2.symm
          · rcases hk with ⟨h1, h2⟩ | ⟨h1, h2⟩
            · exact h4 (by omega)
            · omega
          · exact h3
        have hne2 : ¬ ((0 ≤ count ∧ (c : Int) ≠ (count + 1) % 16) ∨ (count < 0 ∧ (c : Int) ≠ 0) ∨ (false = true)) := by
          rintro (h | h | h)
          · exact hne (.inl h)
          · exact hne (.inr (.inl h))
          · cases h
        rw [if_neg (by simp), if_neg hne2, hs]
        simp only
        rw [e3, List.length_cons, show i + 1 + bodies.length = i + (bodies.length + 1) by omega, show many + 1 + bodies.length = many + (bodies.length + 1) by omega]
theorem check_valid (s : ByteArray) (h : checkOf s = 0) : validL s.data.toList := by
  have hsz := checkOf_size s h
  unfold checkOf at h
  by_cases h1 : (needOf s).2 = 0
  · rw [if_neg (by simpa using h1)] at h
    by_cases h2 : (s.size : Int) < (needOf s).1
    · rw [if_pos h2] at h; omega
    · rw [if_neg h2] at h
      by_cases h3 : (needOf s).1 < (s.size : Int)
      · rw [if_pos h3] at h; omega
      · rw [if_neg h3] at h
        by_cases h4 : bt s 0 = 255
        · rw [if_pos h4] at h; omega
        · refine ⟨?_, by rw [← size_list]; exact hsz.1, ?_⟩
          · rw [← wholeB_list, ← size_list]
            have hn : (needOf s).1 = s.size := by omega
            unfold needOf at hn h1
            rw [if_neg (by omega)] at hn h1
            by_cases h5 : bt s 1 / 128 % 2 = 1 ∧ bt s 1 / 16 % 4 = 3 ∧ 9 ≤ bt s 1 % 16 * 256 + bt s 2 ∧ bt s 1 % 16 * 256 + bt s 2 ≤ 4093
            · rw [if_pos h5] at hn
              simp only at hn
              have b1 := bt_range s 1
              have b2 := bt_range s 2
              unfold wholeB
              rw [if_neg (by omega)]
              omega
            · rw [if_neg h5] at h1
              simp at h1
          · rw [List.head?_eq_getElem?]
            intro hh
            exact h4 ((bt_255 s 0 (by omega)).2 hh)
  · rw [if_pos h1] at h; exact absurd h h1
/-- The sections of a Pid, one behind the other; how many packets they are. -/
def wantOf (pid : Int) (bs : List Br) : List ByteArray := (bs.filter fun b => b.pid == pid).flatMap (·.l)
def usedOf (pid : Int) (bs : List Br) : Nat := ((bs.filter fun b => b.pid == pid).map fun b => (packF b.l).length).sum
theorem read_lay (pid : Int) (hpid : pid < 8191) (bs : List Br) (e : Nat) (f : Int → Nat) (hf : ∀ p, f p < 16) (hc : checkB e bs = 0) (hl : ∀ b ∈ bs, b.l.length ≤ 184) (i : Nat) (count : Int) (hk : CntOk count (f pid)) (many : Nat) (st : RS) (hst : st.held.size = 0) :
    ∃ s2 : RS, readB pid i count many st (layPk e f bs) = some (s2, many + usedOf pid bs) ∧ (toL s2).texts = (toL st).texts ++ (wantOf pid bs).map fun s => s.data.toList := by
  induction bs generalizing e f i count many st with
  | nil =>
    refine ⟨st, ?_, by simp [wantOf]⟩
    simp only [layPk, readB]
    rw [if_pos hst]
    simp [usedOf]
  | cons b r ih =>
    obtain ⟨hr1, hr2, hr3, hr4, hr5⟩ := checkB_cons _ _ _ hc
    simp only [layPk]
    have hnull : ∀ p ∈ List.replicate (b.at_.toNat - e) nullPk, p.pid ≠ pid := by
      intro p hp
      rw [(List.mem_replicate.1 hp).2]
      show (8191 : Int) ≠ pid
      omega
    rw [List.append_assoc, read_skip pid _ _ hnull]
    have hat : 0 ≤ b.at_ := by simp [rightB] at hr1; omega
    have hr6 : checkB ((b.at_.toNat + (packF b.l).length : Nat) : Int) r = 0 := by
      rw [show ((b.at_.toNat + (packF b.l).length : Nat) : Int) = b.at_ + (packF b.l).length by omega]; exact hr5
    have hf' : ∀ p, (if p = b.pid then (f b.pid + (packF b.l).length) % 16 else f p) < 16 := by
      intro p
      split
      · exact Nat.mod_lt _ (by omega)
      · exact hf p
    by_cases hp : b.pid = pid
    · subst hp
      have hv : ∀ s ∈ b.l, validL s.data.toList := by
        intro s hs
        obtain ⟨j, hj, rfl⟩ := List.getElem_of_mem hs
        have := packErr_each b.l hr3 j hj
        rw [List.getD_eq_getElem?_getD, List.getElem?_eq_getElem hj] at this
        exact check_valid _ this
      obtain ⟨st', g1, g2, g3⟩ := fold_law (weight [] b.l) (i + (List.replicate (b.at_.toNat - e) nullPk).length) [] b.l hv (hl b (by simp)) (Nat.le_refl _) (toL st) ⟨fun _ => rfl, fun _ => (nil_list _).1 hst⟩ (fun h => absurd rfl h)
      obtain ⟨s2, count', e1, e2, e3⟩ := read_pks b.pid (packF b.l) (layPk (b.at_.toNat + (packF b.l).length) (fun p => if p = b.pid then (f b.pid + (packF b.l).length) % 16 else f p) r) (f b.pid) (hf _) _ count hk many st st' g1
      rw [e3]
      have hst2 : s2.held.size = 0 := (nil_list _).2 (by rw [← e1] at g2; exact g2)
      obtain ⟨s3, k1, k2⟩ := ih _ _ hf' hr6 (fun x hx => hl x (by simp [hx])) _ count' (by simpa using e2) (many + (packF b.l).length) s2 hst2
      refine ⟨s3, ?_, ?_⟩
      · rw [k1]
        simp only [usedOf, List.filter_cons, beq_self_eq_true, if_true, List.map_cons, List.sum_cons]
        rw [Nat.add_assoc]
      · rw [k2, e1, g3]
        simp [wantOf, remL]
    · have hpp : ∀ p ∈ pks b.pid (f b.pid) (packF b.l), p.pid ≠ pid := by
        have key : ∀ (c : Nat) (l : List (Bool × List UInt8)), ∀ p ∈ pks b.pid c l, p.pid = b.pid := by
          intro c l
          induction l generalizing c with
          | nil => intro p hp; simp [pks] at hp
          | cons x l ih2 =>
            intro p hp
            simp only [pks, List.mem_cons] at hp
            rcases hp with rfl | hp
            · rfl
            · exact ih2 _ p hp
        intro p hp2
        rw [key _ _ p hp2]; exact hp
      rw [read_skip pid _ _ hpp]
      obtain ⟨s3, k1, k2⟩ := ih _ _ hf' hr6 (fun x hx => hl x (by simp [hx])) _ count (by rw [if_neg (fun h => hp h.symm)]; exact hk) many st hst
      have hbe : (b.pid == pid) = false := by simpa using hp
      refine ⟨s3, ?_, ?_⟩
      · rw [k1]; simp [usedOf, hbe]
      · rw [k2]; simp [wantOf, hbe]
end Go.Proofs.YthmddhbccifcoaaDoor.Clar
namespace Go.Proofs.YthmddhbccifcoaaDoor.Clar
open Go.RowKit Go.Proofs.YthmddhbccifcoaaDoorW.PrintWords Go.Proofs.YthmddhbccifcoaaDoorW.PrintLast Go.Proofs.YthmddhbccifcoaaDoorW.PrintMore

def strsOf (l : List ByteArray) : List Value := l.map Value.string
def intsOf (l : List Int) : List Value := l.map (Value.int .i64)
/-- What Read has gathered, in block B + 1, and its rows; the packet in block q. -/
structure GA (w0 w : World) (B q : Nat) (v1 v2 v3 : Value) (T : List ByteArray) (S E : List Int) (many : Nat) (pk : Array Value) : Prop where
  got : w.heap[B + 1]? = some (.cells #[v1, v2, v3, .int .i64 many, .bool true] 39 (0, 0))
  zer : w.heap[B]? = some (.cells #[.slice none 0 0, .slice none 0 0, .slice none 0 0, .int .i64 0, .bool false] 39 (0, 0))
  pkt : w.heap[q]? = some (.cells pk 77 (0, 0))
  r1 : w.ownsRow B 9 1 v1 T.length (strsOf T)
  r2 : w.ownsRow B 3 1 v2 S.length (intsOf S)
  r3 : w.ownsRow B 3 1 v3 E.length (intsOf E)
  ne : NeRow v2 v3
  bel : Below B w0 w
  hq : B + 1 < q
section
variable {w0 W w1 : World} {B q : Nat} {v1 v2 v3 : Value} {T : List ByteArray} {S E : List Int} {many : Nat} {pk : Array Value}
theorem GA.below (h : GA w0 W B q v1 v2 v3 T S E many pk) (hb : Below W.heap.size W w1) : GA w0 w1 B q v1 v2 v3 T S E many pk :=
  ⟨blk_below h.got hb, blk_below h.zer hb, blk_below h.pkt hb, pw_own_below h.r1 hb, pw_own_below h.r2 hb, pw_own_below h.r3 hb, h.ne, below_then2 h.bel hb (Nat.le_of_lt (blk_lt h.zer)), h.hq⟩
theorem GA.lt (h : GA w0 W B q v1 v2 v3 T S E many pk) : B + 1 < W.heap.size := blk_lt h.got
theorem GA.drew (h : GA w0 W B q v1 v2 v3 T S E many pk) : GA w0 W.drew B q v1 v2 v3 T S E many pk :=
  ⟨h.got, h.zer, h.pkt, h.r1.drew, h.r2.drew, h.r3.drew, h.ne, below_drew h.bel, h.hq⟩
/-- A row of another type grows. -/
theorem GA.kept (h : GA w0 W B q v1 v2 v3 T S E many pk) {e : TypeId} {v : Value} {n : Nat} {xs : List Value} (ho : W.ownsRow B e 1 v n xs) (he : e ≠ 39) (he2 : e ≠ 77) (hg : W.grownBy w1 v.ownBlock) :
    w1.heap[B + 1]? = some (.cells #[v1, v2, v3, .int .i64 many, .bool true] 39 (0, 0)) ∧
    w1.heap[B]? = some (.cells #[.slice none 0 0, .slice none 0 0, .slice none 0 0, .int .i64 0, .bool false] 39 (0, 0)) ∧
    w1.heap[q]? = some (.cells pk 77 (0, 0)) :=
  ⟨blk_grown h.got hg (own_ne ho h.got he), blk_grown h.zer hg (own_ne ho h.zer he), blk_grown h.pkt hg (own_ne ho h.pkt he2)⟩
theorem GA.app1 (h : GA w0 W B q v1 v2 v3 T S E many pk) (t : ByteArray) (v : Value) (ho : w1.ownsRow B 9 1 v (T.length + 1) (strsOf T ++ [.string t])) (hb : Below B w0 w1) (hg : W.grownBy w1 v1.ownBlock) :
    GA w0 (w1.setCell ⟨B + 1, 0, none⟩ v) B q v v2 v3 (T ++ [t]) S E many pk := by
  obtain ⟨k1, k2, k3⟩ := h.kept h.r1 (by decide) (by decide) hg
  have o2 := own_other h.r2 hg (ne_other (ne_types h.r1 h.r2 (by decide)))
  have o3 := own_other h.r3 hg (ne_other (ne_types h.r1 h.r3 (by decide)))
  refine ⟨by simpa using blk_set k1 0 v, blk_far k2 (p := ⟨B + 1, 0, none⟩) (show B ≠ B + 1 by omega) _, blk_far k3 (p := ⟨B + 1, 0, none⟩) (show q ≠ B + 1 by have := h.hq; omega) _, ?_, own_setCell o2 (own_ne o2 k1 (by decide)) _, own_setCell o3 (own_ne o3 k1 (by decide)) _, h.ne, hb.setCell (by show B ≤ B + 1; omega) _, h.hq⟩
  have := own_setCell ho (p := ⟨B + 1, 0, none⟩) (own_ne ho k1 (by decide)) v
  simpa [strsOf] using this
theorem GA.app2 (h : GA w0 W B q v1 v2 v3 T S E many pk) (t : Int) (v : Value) (ho : w1.ownsRow B 3 1 v (S.length + 1) (intsOf S ++ [.int .i64 t])) (hb : Below B w0 w1) (hg : W.grownBy w1 v2.ownBlock)
    (hat : v.ownBlock = v2.ownBlock ∨ ∃ b, v.ownBlock = some b ∧ W.heap.size ≤ b) :
    GA w0 (w1.setCell ⟨B + 1, 1, none⟩ v) B q v1 v v3 T (S ++ [t]) E many pk := by
  obtain ⟨k1, k2, k3⟩ := h.kept h.r2 (by decide) (by decide) hg
  have o1 := own_other h.r1 hg (ne_other (ne_types h.r2 h.r1 (by decide)))
  have o3 := own_other h.r3 hg (ne_other h.ne)
  refine ⟨by simpa using blk_set k1 1 v, blk_far k2 (p := ⟨B + 1, 1, none⟩) (show B ≠ B + 1 by omega) _, blk_far k3 (p := ⟨B + 1, 1, none⟩) (show q ≠ B + 1 by have := h.hq; omega) _, own_setCell o1 (own_ne o1 k1 (by decide)) _, ?_, own_setCell o3 (own_ne o3 k1 (by decide)) _, ne_append h.ne hat h.r3, hb.setCell (by show B ≤ B + 1; omega) _, h.hq⟩
  have := own_setCell ho (p := ⟨B + 1, 1, none⟩) (own_ne ho k1 (by decide)) v
  simpa [intsOf] using this
theorem GA.app3 (h : GA w0 W B q v1 v2 v3 T S E many pk) (t : Int) (v : Value) (ho : w1.ownsRow B 3 1 v (E.length + 1) (intsOf E ++ [.int .i64 t])) (hb : Below B w0 w1) (hg : W.grownBy w1 v3.ownBlock)
    (hat : v.ownBlock = v3.ownBlock ∨ ∃ b, v.ownBlock = some b ∧ W.heap.size ≤ b) :
    GA w0 (w1.setCell ⟨B + 1, 2, none⟩ v) B q v1 v2 v T S (E ++ [t]) many pk := by
  obtain ⟨k1, k2, k3⟩ := h.kept h.r3 (by decide) (by decide) hg
  have o1 := own_other h.r1 hg (ne_other (ne_types h.r3 h.r1 (by decide)))
  have o2 := own_other h.r2 hg (ne_other (ne_symm h.ne))
  refine ⟨by simpa using blk_set k1 2 v, blk_far k2 (p := ⟨B + 1, 2, none⟩) (show B ≠ B + 1 by omega) _, blk_far k3 (p := ⟨B + 1, 2, none⟩) (show q ≠ B + 1 by have := h.hq; omega) _, own_setCell o1 (own_ne o1 k1 (by decide)) _, own_setCell o2 (own_ne o2 k1 (by decide)) _, ?_, ne_append' h.ne hat h.r2, hb.setCell (by show B ≤ B + 1; omega) _, h.hq⟩
  have := own_setCell ho (p := ⟨B + 1, 2, none⟩) (own_ne ho k1 (by decide)) v
  simpa [intsOf] using this
end
theorem infoInt : (Tryd.prog.info? 3).map (fun i => (i.zero, i.size, i.bytes)) = some (some (.int .i64 0), 1, 8) := by kernel_rfl
end Go.Proofs.YthmddhbccifcoaaDoor.Clar
