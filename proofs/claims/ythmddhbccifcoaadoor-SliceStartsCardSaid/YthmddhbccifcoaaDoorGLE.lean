/- slice.right, slice.Many, slice.Check. -/
/- slice.Lay. -/
import Derived.Test.YthmddhbccifcoaaDoorGLD
import Derived.Maps.Own
import Derived.Maps.OwnOps
import Derived.Maps.OwnSet
import Derived.Maps.Views
set_option linter.unusedVariables false
set_option linter.unusedSimpArgs false
namespace Go.Proofs.YthmddhbccifcoaaDoor.Clar
open Go.RowKit Go.Proofs.YthmddhbccifcoaaDoorW.PrintWords Go.Proofs.YthmddhbccifcoaaDoorW.PrintLast Go.Proofs.YthmddhbccifcoaaDoorW.PrintMore

def rightB (pid slot : Int) : Bool := decide (0 ≤ pid) && decide (pid < 8191) && decide (0 ≤ slot) && decide (slot ≤ 1048576)
theorem sright_any (pid slot : Int) (w : World) : Calls Tryd.prog 33 #[.int .i64 pid, .int .i64 slot] w fun e w' => e = .returned (.bool (rightB pid slot)) ∧ w = w' := by
  by_cases h1 : 0 ≤ pid
  · by_cases h2 : pid < 8191
    · by_cases h3 : 0 ≤ slot
      · by_cases h4 : slot ≤ 1048576
        · go_enter Tryd.func33, Tryd.ntmps33
          go_wp2
          go_ret
          exact ⟨by unfold rightB; rw [decide_eq_true h1, decide_eq_true h2, decide_eq_true h3, decide_eq_true h4]; rfl, rfl⟩
        · go_enter Tryd.func33, Tryd.ntmps33
          go_wp2
          go_ret
          exact ⟨by unfold rightB; rw [decide_eq_true h1, decide_eq_true h2, decide_eq_true h3, decide_eq_false (by omega)]; rfl, rfl⟩
      · go_enter Tryd.func33, Tryd.ntmps33
        go_wp2
        go_ret
        exact ⟨by unfold rightB; rw [decide_eq_true h1, decide_eq_true h2, decide_eq_false (by omega)]; rfl, rfl⟩
    · go_enter Tryd.func33, Tryd.ntmps33
      go_wp2
      go_ret
      exact ⟨by unfold rightB; rw [decide_eq_true h1, decide_eq_false (by omega)]; rfl, rfl⟩
  · go_enter Tryd.func33, Tryd.ntmps33
    go_wp2
    go_ret
    exact ⟨by unfold rightB; rw [decide_eq_false (by omega)]; rfl, rfl⟩
/-- How many packets sections are, or what is wrong. -/
def manyOf (l : List ByteArray) : Nat × Int := if l = [] then (0, 18) else if packErr l ≠ 0 then (0, packErr l) else ((packF l).length, 0)
theorem own_len {w : World} {B e n : Nat} {size : Nat} {v : Value} {xs : List Value} (h : w.ownsRow B e size v n xs) : ∃ A c, v = .slice A n c := by
  rcases h.2 with ⟨rfl, rfl⟩ | ⟨g, cap, cur, rfl, _⟩
  · exact ⟨_, _, rfl⟩
  · exact ⟨_, _, rfl⟩
theorem many_any (A : Option Addr) (c : Nat) (l : List ByteArray) (w : World) (hl : SR w A l) (hc : l.length ≤ c) (hn : l.length ≤ 1000) (hs : ∀ s ∈ l, s.size ≤ 140737488351232) :
    Calls Tryd.prog 34 #[.slice A l.length c] w fun e w' => e = .returned (.tuple #[.int .i64 (manyOf l).1, .int .i64 (manyOf l).2]) ∧ Below w.heap.size w w' := by
  by_cases h0 : l = []
  · subst h0
    go_enter Tryd.func34, Tryd.ntmps34
    go_wp2
    go_ret2
    exact ⟨rfl, Below.refl _ _⟩
  have hp := pack_any 0 0 A c l w hl hc (by omega) (by omega) (by omega) hn hs
  have hz : 0 < l.length := List.length_pos_iff.2 h0
  have hz2 : ((l.length : Int) == 0) = false := by simp; exact h0
  have HP := Aside0.mk hp
  have H0 := Aside0.mk h0
  clear hp h0
  go_enter Tryd.func34, Tryd.ntmps34
  go_wp2_with (fail)
  refine HP.out.mono ?_
  rintro e w' ⟨v, hb, ⟨h1, rfl⟩ | ⟨h1, rfl, hown⟩⟩
  · go_wp2
    go_ret2
    exact ⟨by simp [manyOf, H0.out, h1], hb⟩
  · obtain ⟨A', c', rfl⟩ := own_len hown
    have HO := Aside0.mk hown
    clear hown
    go_wp2
    go_ret2
    exact ⟨by simp [manyOf, H0.out, h1], hb⟩

structure Br where
  pid : Int
  at_ : Int
  l : List ByteArray
def Br.small (b : Br) : Prop := b.l.length ≤ 1000 ∧ ∀ s ∈ b.l, s.size ≤ 140737488351232
/-- Bursts lie in memory behind an address. -/
def BAt (w : World) (A : Option Addr) (bs : List Br) : Prop := ∀ k b, bs[k]? = some b → ∃ g S c, A = some ⟨g, 0, none⟩ ∧ g < w.heap.size ∧ w.cell? ⟨g, k * 3, none⟩ = some (.int .i64 b.pid) ∧ w.cell? ⟨g, k * 3 + 1, none⟩ = some (.int .i64 b.at_) ∧
  w.cell? ⟨g, k * 3 + 2, none⟩ = some (.slice S b.l.length c) ∧ b.l.length ≤ c ∧ SR w S b.l
theorem BAt.below {w w' : World} {A : Option Addr} {bs : List Br} (h : BAt w A bs) (hb : Below w.heap.size w w') : BAt w' A bs := by
  intro k b hk
  obtain ⟨g, S, c, h1, h2, h3, h4, h5, h6, h7⟩ := h k b hk
  exact ⟨g, S, c, h1, Nat.lt_of_lt_of_le h2 hb.size, (hb.cell (p := ⟨g, k * 3, none⟩) h2).trans h3, (hb.cell (p := ⟨g, k * 3 + 1, none⟩) h2).trans h4, (hb.cell (p := ⟨g, k * 3 + 2, none⟩) h2).trans h5, h6, h7.below hb⟩
/-- What is wrong with bursts of which the last one ahead ends there. -/
def checkB : Int → List Br → Int
  | _, [] => 0
  | e, b :: r => if rightB b.pid b.at_ = false then 15 else if (manyOf b.l).2 ≠ 0 then (manyOf b.l).2 else if b.at_ < e then 22 else checkB (b.at_ + (manyOf b.l).1) r
theorem packErr_each (l : List ByteArray) (h : packErr l = 0) : ∀ j, j < l.length → checkOf (l.getD j ByteArray.empty) = 0 := by
  induction l with
  | nil => intro j hj; simp at hj
  | cons s l ih =>
    simp only [packErr] at h
    split at h
    · exact absurd h ‹_›
    · rename_i h0
      intro j hj
      cases j with
      | zero => simpa using h0
      | succ j => simpa using ih h j (by simpa using hj)
theorem packN_length (k : Nat) (left : List UInt8) (l : List ByteArray) : (packN k left l).length ≤ k := by
  induction k generalizing left l with
  | zero => simp [packN]
  | succ k ih =>
    simp only [packN]
    split
    · simp
    · rw [List.length_cons]; exact Nat.succ_le_succ (ih _ _)
theorem manyOf_bound (l : List ByteArray) (hn : l.length ≤ 1000) : (manyOf l).1 ≤ 4097000 := by
  unfold manyOf
  split
  · exact Nat.zero_le _
  · split
    · exact Nat.zero_le _
    · rename_i h
      have h0 : packErr l = 0 := by simpa using h
      have h1 := weight_le l (packErr_each l h0)
      have h2 := packN_length (weight [] l) [] l
      show (packN (weight [] l) [] l).length ≤ _
      omega
set_option maxHeartbeats 2000000 in
theorem scheck_any (A : Option Addr) (c : Nat) (bs : List Br) (w : World) (hb : BAt w A bs) (hn : bs.length ≤ 1000) (hs : ∀ b ∈ bs, b.small) :
    Calls Tryd.prog 19 #[.slice A bs.length c] w fun e w' => e = .returned (.int .i64 (checkB 0 bs)) ∧ Below w.heap.size w w' := by
  have HB := Aside0.mk hb
  have HS := Aside0.mk hs
  clear hb hs
  go_enter Tryd.func19, Tryd.ntmps19
  go_wp2_with (fail)
  go_loopw [3, 5, 6, 7, 10] (fun en _ _ _ i w' => ∃ (k : Nat) (e0 : Int), k ≤ bs.length ∧ i = .int .i64 k ∧ en = .int .i64 e0 ∧ 0 ≤ e0 ∧ e0 ≤ 10000000 ∧ Aside0 (checkB 0 bs = checkB e0 (bs.drop k)) ∧ Aside0 (Below w.heap.size w w')) (fun _ _ _ _ i _ => bs.length - (intOf i).toNat)
  case atStart => exact ⟨0, 0, by omega, rfl, rfl, by omega, by omega, ⟨rfl⟩, ⟨Below.refl _ _⟩⟩
  case round =>
    obtain ⟨k, e0, hk, rfl, rfl, he0, he1, HC, HW⟩ := hrel
    by_cases hlt : k < bs.length
    · obtain ⟨b, hbk⟩ : ∃ b, bs[k]? = some b := ⟨bs[k], List.getElem?_eq_getElem hlt⟩
      obtain ⟨g, S, cs, rfl, hg, h1, h2, h3, h4, h5⟩ := (HB.out.below HW.out) k b hbk
      go_wp2_with (fail)
      refine (sright_any b.pid b.at_ _).mono ?_
      rintro e W1 ⟨rfl, rfl⟩
      have hdrop : bs.drop k = b :: bs.drop (k + 1) := by rw [List.drop_eq_getElem_cons hlt]; congr 1; exact (List.getElem?_eq_some_iff.1 hbk).2
      have HD : Aside0 (checkB 0 bs = if rightB b.pid b.at_ = false then 15 else if (manyOf b.l).2 ≠ 0 then (manyOf b.l).2 else if b.at_ < e0 then 22 else checkB (b.at_ + (manyOf b.l).1) (bs.drop (k + 1))) := ⟨by rw [HC.out, hdrop]; rfl⟩
      have HW1 : Aside0 (Below w.heap.size w (wr.alloc (.cells #[.int .i64 b.pid, .int .i64 b.at_, .slice S b.l.length cs] 35))) := ⟨HW.out.alloc HW.out.size _⟩
      have hcell := blk_cell (blk_new wr (.cells #[.int .i64 b.pid, .int .i64 b.at_, .slice S b.l.length cs] 35))
      have h5' : SR (wr.alloc (.cells #[.int .i64 b.pid, .int .i64 b.at_, .slice S b.l.length cs] 35)) S b.l := ReadsOf.allocS h5 _
      have hnb := blk_new wr (.cells #[.int .i64 b.pid, .int .i64 b.at_, .slice S b.l.length cs] 35)
      generalize wr.alloc (.cells #[.int .i64 b.pid, .int .i64 b.at_, .slice S b.l.length cs] 35) = W1 at HW1 hcell h5' hnb ⊢
      generalize wr.heap.size = q at hcell hnb ⊢
      have hsm := HS.out b (List.mem_of_getElem? hbk)
      by_cases hr : rightB b.pid b.at_ = true
      · have hat : 0 ≤ b.at_ ∧ b.at_ ≤ 1048576 := by simp [rightB] at hr; omega
        have hc0 := hcell 0
        have hc1 := hcell 1
        have hc2 := hcell 2
        clear hcell h1 h2 h3
        go_wp2_with (fail)
        refine (many_any S cs b.l W1 h5' h4 hsm.1 hsm.2).mono ?_
        rintro e W2 ⟨rfl, hb2⟩
        have hmb := manyOf_bound b.l hsm.1
        obtain ⟨mn, hmn⟩ : ∃ mn, (manyOf b.l).1 = mn := ⟨_, rfl⟩
        obtain ⟨me, hme⟩ : ∃ me, (manyOf b.l).2 = me := ⟨_, rfl⟩
        have hbk2 := blk_below hnb hb2
        have hd0 := blk_cell hbk2 0
        have hd1 := blk_cell hbk2 1
        rw [hmn] at hmb
        rw [hmn, hme]
        have HD2 : Aside0 (checkB 0 bs = if me ≠ 0 then me else if b.at_ < e0 then 22 else checkB (b.at_ + mn) (bs.drop (k + 1))) := ⟨by rw [HD.out, if_neg (by simp [hr]), hmn, hme]⟩
        have HW2 : Aside0 (Below w.heap.size w W2) := ⟨below_then2 HW1.out hb2 HW1.out.size⟩
        clear HD hme hmn HW1 hb2 hnb hbk2 hc0 hc1 hc2 HC
        by_cases hme0 : me = 0
        · have hme2 : (me == 0) = true := by simpa using hme0
          by_cases hord : b.at_ < e0
          · go_wp2_with (fail)
            go_ret
            exact ⟨by rw [HD2.out, if_neg (by simp [hme0]), if_pos hord]; rfl, HW2.out⟩
          · go_wp2_with (fail)
            go_roundw
            case rel => exact ⟨k + 1, b.at_ + mn, by omega, by go_num, rfl, by omega, by omega, ⟨by rw [HD2.out, if_neg (by simp [hme0]), if_neg (by omega)]⟩, HW2⟩
            case measure => simp [intOf]; omega
        · have hme2 : (me == 0) = false := by simpa using hme0
          go_wp2_with (fail)
          go_ret
          exact ⟨by rw [HD2.out, if_pos hme0]; rfl, HW2.out⟩
      · have hr2 : rightB b.pid b.at_ = false := by simpa using hr
        go_wp2_with (fail)
        go_ret
        exact ⟨by rw [HD.out, if_pos hr2]; rfl, HW1.out⟩
    · obtain rfl : k = bs.length := by omega
      go_wp2_with (fail)
      go_ret
      exact ⟨by rw [HC.out, List.drop_length]; rfl, HW.out⟩
end Go.Proofs.YthmddhbccifcoaaDoor.Clar
namespace Go.Proofs.YthmddhbccifcoaaDoor.Clar
open Go.RowKit Go.Proofs.YthmddhbccifcoaaDoorW.PrintWords Go.Proofs.YthmddhbccifcoaaDoorW.PrintLast Go.Proofs.YthmddhbccifcoaaDoorW.PrintMore

/-- Block m is a map of whole numbers that holds these. -/
def MapAt (w : World) (m n : Nat) (f : Int → Nat) : Prop := ∃ D : DataW Unit, w.ownsMap Tryd.prog 3 (plainElem Tryd.prog 3) m n D ∧ Maps.IsMap D ∧ ∀ p : Int, D.atKey (.int .i64 p) (.lit (.int .i64 0)) = .lit (.int .i64 (f p))
theorem MapAt.same {w w' : World} {m n : Nat} {f : Int → Nat} (h : MapAt w m n f) (hk : w'.heap[m]? = w.heap[m]?) : MapAt w' m n f := by
  obtain ⟨D, ⟨es, clock, hb, F, hs, hD⟩, h2, h3⟩ := h
  exact ⟨D, ⟨es, clock, hk.trans hb, F, hs, hD⟩, h2, h3⟩
theorem MapAt.obj {w : World} {m n : Nat} {f : Int → Nat} (h : MapAt w m n f) : ∃ es clock, w.heap[m]? = some (.map es clock) := by
  obtain ⟨D, ⟨es, clock, hb, F, hs, hD⟩, h2, h3⟩ := h
  exact ⟨es, clock, hb⟩
theorem MapAt.others {w w' : World} {m n : Nat} {f : Int → Nat} (h : MapAt w m n f) {e : TypeId} {b : Nat} (hne : m ≠ b) (hk : Lib.OthersKept e (some b) w w') : MapAt w' m n f := by
  obtain ⟨es, clock, ho⟩ := h.obj
  refine h.same ?_
  rw [ho]
  exact hk m _ ho (by simpa using hne) (by intro c fz hh; cases hh)
theorem MapAt.below {w w' : World} {m n : Nat} {f : Int → Nat} (h : MapAt w m n f) (hb : Below w.heap.size w w') : MapAt w' m n f := by
  obtain ⟨es, clock, ho⟩ := h.obj
  exact h.same (hb.block m (Array.getElem?_eq_some_iff.1 ho).1)
theorem MapAt.made (w : World) : MapAt (w.alloc (.map #[] 0)) w.heap.size 0 (fun _ => 0) :=
  ⟨.map [], World.ownsMap_made w _ _ _, Maps.isMap_empty, fun p => by rfl⟩
theorem pks_ok (pid : Int) (c : Nat) (l : List (Bool × List UInt8)) (hp0 : 0 ≤ pid) (hp1 : pid < 8191) (hc : c < 16) (hl : ∀ x ∈ l, x.2.length ≤ 184) : ∀ p ∈ pks pid c l, pkOk p := by
  induction l generalizing c with
  | nil => intro p hp; simp [pks] at hp
  | cons x r ih =>
    intro p hp
    simp only [pks, List.mem_cons] at hp
    rcases hp with rfl | hp
    · exact ⟨hp0, by simp only; omega, by simp only; omega, by simp only; omega, by show (List.toArray x.2).size ≤ 184; rw [List.size_toArray]; exact hl x (by simp)⟩
    · exact ih _ (by omega) (fun x hx => hl x (by simp [hx])) p hp
theorem packN_bodies (k : Nat) (left : List UInt8) (l : List ByteArray) : ∀ x ∈ packN k left l, x.2.length ≤ 184 := by
  induction k generalizing left l with
  | zero => intro x hx; simp [packN] at hx
  | succ k ih =>
    intro x hx
    simp only [packN] at hx
    split at hx
    · simp at hx
    · simp only [List.mem_cons] at hx
      rcases hx with rfl | hx
      · exact (nextF_len left l).1
      · exact ih _ _ x hx
/-- The packets of all slots, the next free slot and each Pid's Count known. -/
def layPk : Nat → (Int → Nat) → List Br → List Pk
  | _, _, [] => []
  | e, f, b :: r => List.replicate (b.at_.toNat - e) nullPk ++ pks b.pid (f b.pid) (packF b.l) ++ layPk (b.at_.toNat + (packF b.l).length) (fun p => if p = b.pid then (f b.pid + (packF b.l).length) % 16 else f p) r
theorem wfI {n : Int} (h : -9223372036854775808 ≤ n ∧ n ≤ 9223372036854775807) : (Lit.int .i64 n).wf = true := by
  simp [Lit.wf, IntKind.min, IntKind.max, IntKind.signed, IntKind.bits]
  omega
theorem packF_pos (l : List ByteArray) (h : l ≠ []) : 0 < (packF l).length := by
  unfold packF
  cases l with
  | nil => exact absurd rfl h
  | cons s r =>
    have : weight [] (s :: r) = (s.size + (r.map fun s => s.size + 1).sum) + 1 := by simp [weight]; omega
    rw [this]
    simp only [packN]
    rw [if_neg (by simp)]
    simp
theorem checkB_cons (e : Int) (b : Br) (r : List Br) (h : checkB e (b :: r) = 0) : rightB b.pid b.at_ = true ∧ b.l ≠ [] ∧ packErr b.l = 0 ∧ e ≤ b.at_ ∧ checkB (b.at_ + (packF b.l).length) r = 0 := by
  unfold checkB at h
  split at h
  · omega
  · rename_i h1
    split at h
    · exact absurd h ‹_›
    · rename_i h2
      split at h
      · omega
      · rename_i h3
        have hl : b.l ≠ [] := by
          intro h0
          apply h2
          rw [h0]
          intro h4
          exact absurd h4 (by decide)
        have hp : packErr b.l = 0 := by
          apply Classical.byContradiction
          intro h0
          apply h2
          unfold manyOf
          rw [if_neg hl, if_pos h0]
          exact h0
        have hm : (manyOf b.l).1 = (packF b.l).length := by
          unfold manyOf
          rw [if_neg hl, if_neg (by simp [hp])]
        rw [hm] at h
        exact ⟨by simpa using h1, hl, hp, by omega, h⟩

theorem bd_blk_ne {w : World} {B b m : Nat} {l : List UInt8} {n : Nat} {f : Int → Nat} (h : Bd w B b l) (hm : MapAt w m n f) : m ≠ b := by
  rintro rfl
  obtain ⟨_, p, v, hk⟩ := h.blk
  obtain ⟨es, clock, ho⟩ := hm.obj
  rw [ho] at hk
  cases hk
theorem Bd.turned {w w' : World} {B b m : Nat} {l : List UInt8} (h : Bd w B b l) (hg : w.grownBy w' (some m)) (hm : ∃ es clock, w.heap[m]? = some (.map es clock)) : Bd w' B b l := by
  obtain ⟨es, clock, hm⟩ := hm
  have key : ∀ p, Lib.BuilderAtF 61 5 B b p (Lib.byteCells l) w → Lib.BuilderAtF 61 5 B b p (Lib.byteCells l) w' := by
    rintro p ⟨hB, v, hk, hown, hne⟩
    refine ⟨hB, v, (hg.block b (Array.getElem?_eq_some_iff.1 hk).1 ?_).trans hk, hown.kept hg (Or.inr ?_), hne⟩
    · intro e
      cases e
      rw [hm] at hk
      cases hk
    · intro e
      rcases hown.2 with ⟨rfl, _⟩ | ⟨g', cap, cur, fz, rfl, _, hgg, _⟩
      · simp [Value.ownBlock] at e
      · simp [Value.ownBlock] at e
        subst e
        rw [hm] at hgg
        cases hgg
  exact h.elim (fun x => .inl (key _ x)) (fun x => .inr (key _ x))
structure LayAt (w0 : World) (bs : List Br) (b m k : Nat) (w : World) (acc : List Pk) (f : Int → Nat) : Prop where
  bd : Bd w b b (acc.flatMap encL)
  map : MapAt w m k f
  bel : Below w0.heap.size w0 w
  hb : w0.heap.size ≤ b
  ok : ∀ p ∈ acc, pkOk p
  chk : checkB acc.length (bs.drop k) = 0
  eq : acc ++ layPk acc.length f (bs.drop k) = layPk 0 (fun _ => 0) bs
  lt : ∀ p, f p < 16
  len : acc.length ≤ 6000000
structure InnerAt (w0 : World) (b m k q : Nat) (w : World) (br : Br) (S : Option Addr) (cs : Nat) (acc : List Pk) (f : Int → Nat) : Prop where
  bd : Bd w b b (acc.flatMap encL)
  map : MapAt w m k f
  bel : Below w0.heap.size w0 w
  box : w.heap[q]? = some (.cells #[.int .i64 br.pid, .int .i64 br.at_, .slice S br.l.length cs] 35 (0, 0))
  qb : q ≠ b
set_option maxHeartbeats 4000000 in
set_option maxRecDepth 100000 in
theorem lay_any (A : Option Addr) (c : Nat) (bs : List Br) (w : World) (hb : BAt w A bs) (hn : bs.length ≤ 1000) (hs : ∀ b ∈ bs, b.small) (hW : Wd w) :
    Calls Tryd.prog 10 #[.slice A bs.length c] w fun e w' => e = .returned (.tuple #[.string (if checkB 0 bs = 0 then ⟨((layPk 0 (fun _ => 0) bs).flatMap encL).toArray⟩ else ⟨#[]⟩), .int .i64 (checkB 0 bs)]) ∧ Below w.heap.size w w' := by
  have hck := scheck_any A c bs w hb hn hs
  obtain ⟨ck, hckv⟩ : ∃ ck, checkB 0 bs = ck := ⟨_, rfl⟩
  rw [hckv] at hck ⊢
  have HCK := Aside0.mk hck
  have HB := Aside0.mk hb
  have HS := Aside0.mk hs
  have HCV := Aside0.mk hckv
  clear hck hb hs hckv
  have hmm := @run_makeMap Tryd.prog
  by_cases hc0 : ck = 0
  · subst hc0
    go_enter Tryd.func10, Tryd.ntmps10
    go_wp2_with (fail)
    refine HCK.out.mono ?_
    rintro e W1 ⟨rfl, hb1⟩
    go_wp2_with (fail)
    obtain ⟨b, hbe⟩ : ∃ b, W1.heap.size = b := ⟨_, rfl⟩
    obtain ⟨W2, hW2⟩ : ∃ W2, (W1.alloc (.cells #[.pointer none, .slice none 0 0] 61)).alloc (.map #[] 0) = W2 := ⟨_, rfl⟩
    have h0 : LayAt w bs b (b + 1) 0 W2 [] (fun _ => 0) := by
      rw [← hW2, ← hbe]
      refine ⟨(Bd.new W1).alloc _, ?_, (hb1.alloc hb1.size _).alloc (by have := hb1.size; simp; omega) _, hb1.size, fun p hp => by simp at hp, by simpa using HCV.out, by simp, fun _ => by simp, by simp⟩
      have := MapAt.made (W1.alloc (.cells #[.pointer none, .slice none 0 0] 61))
      rwa [World.size_alloc] at this
    rw [hW2, hbe]
    have H0 := Aside0.mk h0
    clear h0 hW2 hbe hb1
    go_loopw [8, 9, 10, 11, 12, 21] (fun _ _ _ _ _ i w' => ∃ (k : Nat) (acc : List Pk) (f : Int → Nat), k ≤ bs.length ∧ i = .int .i64 k ∧ Aside0 (LayAt w bs b (b + 1) k w' acc f)) (fun _ _ _ _ _ i _ => bs.length - (intOf i).toNat)
    case atStart => exact ⟨0, [], fun _ => 0, by omega, rfl, H0⟩
    case round =>
      obtain ⟨k, acc, f, hk, rfl, HL⟩ := hrel
      by_cases hlt : k < bs.length
      · obtain ⟨br, hbk⟩ : ∃ br, bs[k]? = some br := ⟨bs[k], List.getElem?_eq_getElem hlt⟩
        obtain ⟨g, S, cs, rfl, hg, h1, h2, h3, h4, h5⟩ := HB.out k br hbk
        have hdrop : bs.drop k = br :: bs.drop (k + 1) := by rw [List.drop_eq_getElem_cons hlt]; congr 1; exact (List.getElem?_eq_some_iff.1 hbk).2
        have hsm := HS.out br (List.mem_of_getElem? hbk)
        have hck2 := HL.out.chk
        rw [hdrop] at hck2
        obtain ⟨hr1, hr2, hr3, hr4, hr5⟩ := checkB_cons _ _ _ hck2
        have hrr : 0 ≤ br.pid ∧ br.pid < 8191 ∧ 0 ≤ br.at_ ∧ br.at_ ≤ 1048576 := by simp [rightB] at hr1; omega
        obtain ⟨hp0, hp1, ha0, ha1⟩ := hrr
        have hc0 := (HL.out.bel.cell (p := ⟨g, k * 3, none⟩) hg).trans h1
        have hc1 := (HL.out.bel.cell (p := ⟨g, k * 3 + 1, none⟩) hg).trans h2
        have hc2 := (HL.out.bel.cell (p := ⟨g, k * 3 + 2, none⟩) hg).trans h3
        have H5 := Aside0.mk h5
        have HR3 := Aside0.mk hr3
        have HR5 := Aside0.mk hr5
        have HR2 := Aside0.mk hr2
        have HDR := Aside0.mk hdrop
        clear h1 h2 h3 h5 hr3 hr5 hr2 hr1 hck2 hdrop
        go_wp2_with (fail)
        obtain ⟨q, hq⟩ : ∃ q, wr.heap.size = q := ⟨_, rfl⟩
        obtain ⟨W3, hW3⟩ : ∃ W3, wr.alloc (.cells #[.int .i64 br.pid, .int .i64 br.at_, .slice S br.l.length cs] 35) = W3 := ⟨_, rfl⟩
        have h3 : InnerAt w b (b + 1) k q W3 br S cs (acc ++ List.replicate 0 nullPk) f := by
          rw [← hW3, ← hq]
          refine ⟨?_, HL.out.map.below ((Below.refl _ wr).alloc (Nat.le_refl _) _), HL.out.bel.alloc HL.out.bel.size _, blk_new _ _, ?_⟩
          · rw [List.replicate_zero, List.append_nil]; exact HL.out.bd.alloc _
          · have := (blk_lt (HL.out.bd.blk.2.choose_spec.choose_spec)); omega
        rw [hW3, hq]
        have H3 := Aside0.mk h3
        clear h3 hW3 hq hc0 hc1 hc2
        obtain ⟨kk, hkk⟩ : ∃ kk, br.at_.toNat - acc.length = kk := ⟨_, rfl⟩
        have hkk2 : br.at_ = acc.length + kk := by omega
        have HKK := Aside0.mk hkk2
        clear hkk hkk2
        have HHB : Aside0 (w.heap.size ≤ b) := ⟨HL.out.hb⟩
        have hwm : IntKind.i64.wrap (br.at_ * 188) = br.at_ * 188 := by rw [IntKind.wrap_i64]; omega
        go_loopg [25] kk (fun kq _ w' => ∃ j : Nat, j + kq = kk ∧ Aside0 (InnerAt w b (b + 1) k q w' br S cs (acc ++ List.replicate j nullPk) f))
        case atStart => exact ⟨0, by omega, H3⟩
        case round =>
          obtain ⟨j, hj, HI⟩ := hrel
          have hacc := HL.out.len
          obtain ⟨ac2, hac2⟩ : ∃ ac2, acc ++ List.replicate j nullPk = ac2 := ⟨_, rfl⟩
          have hal : ac2.length = acc.length + j := by rw [← hac2]; simp
          have hok2 : ∀ p ∈ ac2, pkOk p := by
            intro p hp
            rw [← hac2] at hp
            rcases List.mem_append.1 hp with hp | hp
            · exact HL.out.ok p hp
            · rw [(List.mem_replicate.1 hp).2]; exact nullPk_ok
          rw [hac2] at HI
          obtain ⟨lst, hlst⟩ : ∃ lst, ac2.flatMap encL = lst := ⟨_, rfl⟩
          have hkk2 := HKK.out
          have hll : lst.length = 188 * (acc.length + j) := by rw [← hlst, encs_length _ hok2, hal]
          have HBD : Aside0 (Bd wr b b lst) := ⟨by rw [← hlst]; exact HI.out.bd⟩
          have HLST := Aside0.mk hlst
          have HAC2 := Aside0.mk hac2
          have HAL := Aside0.mk hal
          have HOK2 := Aside0.mk hok2
          have HLEN : Aside0 (∀ n, Calls Tryd.prog 20 #[.pointer (some ⟨b, 0, none⟩)] (wr.drewN n) fun e w' => e = .returned (.int .i64 lst.length) ∧ wr.drewN n = w') := ⟨fun n => bd_len b b lst _ (HBD.out.drewN n)⟩
          have hd0 := blk_cell HI.out.box 0
          have hd1 := blk_cell HI.out.box 1
          have hd2 := blk_cell HI.out.box 2
          have hbw : b ≤ wr.heap.size := Nat.le_of_lt HBD.out.lt
          have HLL := Aside0.mk hll
          have hll2 : lst.length ≤ 1200000000 := by omega
          clear hlst hac2 hal hok2 hll hkk2
          cases gk with
          | zero =>
            have hdec : decide ((lst.length : Int) < br.at_ * 188) = false := by have := HLL.out; have := HKK.out; simp; omega
            go_wp2_with (fail)
            go_quiet ((go_at_call 20; exact quiet_left (HLEN.out _)))
            obtain ⟨W4, hW4⟩ : ∃ W4, wr.drewN nq = W4 := ⟨_, rfl⟩
            have h4' : InnerAt w b (b + 1) k q W4 br S cs ac2 f := by
              rw [← hW4]
              exact ⟨HI.out.bd.drewN nq, HI.out.map.same rfl, pw_below_drewN HI.out.bel _, blk_drewN HI.out.box nq, HI.out.qb⟩
            rw [hW4]
            have H4 := Aside0.mk h4'
            clear h4' hW4 HBD hbw hd0 hd1 hd2 HLEN HI hdec
            have hd0 := blk_cell H4.out.box 0
            have hd1 := blk_cell H4.out.box 1
            have hd2 := blk_cell H4.out.box 2
            obtain ⟨D, hown, hism, hfd⟩ := H4.out.map
            have hkey : keyOf Tryd.prog 3 (.int .i64 br.pid) = some (.int .i64 br.pid) := Maps.keyOf_int_mk Tryd.underlying3 (wfI (by omega))
            go_wp2_with (at_lookup; refine wpList_lookup_own_int _ rfl _ _ 62 rfl 3 3 .i64 (Maps.int_keyed Tryd.underlying3) Tryd.underlying62 Tryd.underlying3 (Tryd.zeroValue3 _) (b + 1) k D rfl hown _ _ rfl hkey ?_; intro cc hat hwc)
            have hcc : cc = f br.pid := by rw [hfd br.pid] at hat; cases hat; rfl
            have hclt := HL.out.lt br.pid
            rw [hcc]
            clear hcc hat hwc
            have HM := Aside0.mk (And.intro hown (And.intro hism hfd))
            clear hown hism hfd
            have hpk := pack_any br.pid (f br.pid) S cs br.l W4 (ReadsOf.below H5.out H4.out.bel) h4 hp0 hp1 hclt hsm.1 hsm.2
            refine hpk.mono ?_
            rintro e W5 ⟨v, hb5, ⟨hx, rfl⟩ | ⟨hx, rfl, hrow⟩⟩
            · exact absurd HR3.out hx
            obtain ⟨n, hne⟩ : ∃ n, (packF br.l).length = n := ⟨_, rfl⟩
            have hpl : (pks br.pid (f br.pid) (packF br.l)).length = n := by rw [pks_length, hne]
            have hnp : 0 < n := by rw [← hne]; exact packF_pos br.l HR2.out
            rw [hne] at hrow
            obtain ⟨gg, cg, rfl, hgg⟩ := hrow.form hnp
            have hpok : ∀ p ∈ pks br.pid (f br.pid) (packF br.l), pkOk p := pks_ok _ _ _ hp0 hp1 hclt (packN_bodies _ _ _)
            rw [hne]
            obtain ⟨fn, hfn⟩ : ∃ fn, (f br.pid + n) % 16 = fn := ⟨_, rfl⟩
            rw [hfn]
            have hfn16 : fn < 16 := by rw [← hfn]; exact Nat.mod_lt _ (by omega)
            have htm : ((fn : Int).tmod 16) = fn := by rw [Int.tmod_eq_emod_of_nonneg (by omega)]; omega
            have htm2 : ((fn : Int) % 16) = fn := by omega
            have HFN := Aside0.mk hfn
            clear hfn
            have HROW : Aside0 (W5.ownsRow W4.heap.size 92 5 (.slice (some ⟨gg, 0, none⟩) n cg) n (rowOf (pks br.pid (f br.pid) (packF br.l)))) := ⟨hrow⟩
            have HB5 := Aside0.mk hb5
            have HPOK := Aside0.mk hpok
            have HPL := Aside0.mk hpl
            have HNE := Aside0.mk hne
            have hmb := manyOf_bound br.l hsm.1
            have hnb : n ≤ 4097000 := by
              have e : (manyOf br.l).1 = n := by unfold manyOf; rw [if_neg HR2.out, if_neg (by simp [HR3.out])]; exact hne
              omega
            clear hrow hb5 hpok hpl hne hpk hkey hx hd0 hd1 hd2 hmb
            have hd0 := blk_cell (blk_below H4.out.box HB5.out) 0
            go_wp2_with (fail)
            have hW5 : Wd W5 := hW.below (below_then2 H4.out.bel HB5.out H4.out.bel.size)
            have hby : Calls Tryd.prog 24 #[.slice (some ⟨gg, 0, none⟩) n cg] W5 fun e w' => e = .returned (.tuple #[.string ⟨((pks br.pid (f br.pid) (packF br.l)).flatMap encL).toArray⟩, .int .i64 0]) ∧ Below W5.heap.size W5 w' := by
              have h := HROW.out
              rw [← HPL.out] at h ⊢
              exact pbytes_any W4.heap.size gg cg _ W5 h HPOK.out hW5 (by rw [HPL.out]; omega)
            obtain ⟨tx, htx⟩ : ∃ tx : ByteArray, (⟨((pks br.pid (f br.pid) (packF br.l)).flatMap encL).toArray⟩ : ByteArray) = tx := ⟨_, rfl⟩
            have htd : tx.data.toList = (pks br.pid (f br.pid) (packF br.l)).flatMap encL := by rw [← htx]
            have hts : tx.size = 188 * n := by rw [← htx]; show (List.toArray _).size = _; rw [List.size_toArray, encs_length _ HPOK.out, HPL.out]
            rw [htx] at hby
            refine hby.mono ?_
            rintro e W6 ⟨rfl, hb6⟩
            have HTD := Aside0.mk htd
            have hbd6 := ((H4.out.bd.below HB5.out).below hb6)
            rw [HLST.out] at hbd6
            have HBD6 := Aside0.mk hbd6
            have HB6 := Aside0.mk hb6
            clear hby htx htd hbd6 hb6
            go_wp2_with (fail)
            refine (bd_write b b lst tx W6 HBD6.out (by omega) (Nat.le_of_lt HBD6.out.lt)).mono ?_
            rintro e W7 ⟨rfl, hbd7, hb7, hk7⟩
            have hm7 : MapAt W7 (b + 1) k f := (((H4.out.map.below HB5.out).below HB6.out).others (by omega) hk7)
            have hbox7 := hk7 _ _ (blk_below (blk_below H4.out.box HB5.out) HB6.out) (by simpa using H4.out.qb) (by intro c fz hh; cases hh)
            have hbel7 : Below w.heap.size w W7 := (below_then2 (below_then2 H4.out.bel HB5.out H4.out.bel.size) HB6.out (Nat.le_trans H4.out.bel.size HB5.out.size)).trans (hb7.mono HHB.out)
            rw [HTD.out] at hbd7
            obtain ⟨D7, hown7, hism7, hfd7⟩ := hm7
            have he0 := blk_cell hbox7 0
            have HBD7 := Aside0.mk hbd7
            have HBEL7 := Aside0.mk hbel7
            have hkey : keyOf Tryd.prog 3 (.int .i64 br.pid) = some (.int .i64 br.pid) := Maps.keyOf_int_mk Tryd.underlying3 (wfI (by omega))
            have hval : plainElem (H := Unit) Tryd.prog 3 (.int .i64 (fn : Int)) = some (.lit (.int .i64 (fn : Int)), []) := plainElem_int Tryd.underlying3 (wfI (by omega))
            clear hbd7 hbel7 hb7 hk7 hbox7 HBD6 HB6 HROW HB5 hd0
            go_wp2_with (at_mapUpdate; refine wpList_mapUpdate_own _ rfl _ _ _ 62 rfl 3 3 (Maps.int_keyed Tryd.underlying3) Tryd.underlying62 _ (b + 1) k D7 rfl hown7 (by unfold maxLen; omega) _ _ _ rfl rfl hkey _ [] hval ?_; intro w8 hown8 hgr8)
            refine ⟨⟨k + 1, ac2 ++ pks br.pid (f br.pid) (packF br.l), fun p => if p = br.pid then fn else f p, by omega, by go_num, ⟨?_⟩⟩, by simp [intOf]; omega⟩
            have hjk : j = kk := by omega
            have hal := HAL.out
            have hkk2 := HKK.out
            have hal2 : ac2.length = br.at_.toNat := by omega
            have hal3 : (ac2 ++ pks br.pid (f br.pid) (packF br.l)).length = br.at_.toNat + n := by rw [List.length_append, HPL.out, hal2]
            have hob7 : ∃ es clock, W7.heap[b + 1]? = some (.map es clock) := by
              obtain ⟨es, clock, hb7, _⟩ := hown7
              exact ⟨es, clock, hb7⟩
            refine ⟨?_, ⟨_, hown8, hism7.put _ _, fun p => ?_⟩, ?_, HHB.out, ?_, ?_, ?_, ?_, ?_⟩
            · rw [List.flatMap_append, HLST.out]; exact HBD7.out.turned hgr8 hob7
            · by_cases hp : p = br.pid
              · subst hp
                rw [Maps.atKey_put_same hism7 (by simp [WideAt.IsKeyLit])]; simp
              · rw [Maps.atKey_put_other (fun h => hp (by injection h))]
                simp only [if_neg hp]
                exact hfd7 p
            · exact pw_below_grown HBEL7.out _ HBEL7.out.size hgr8 (fun r hr => by cases hr; have := HHB.out; omega)
            · intro p hp
              rcases List.mem_append.1 hp with hp | hp
              · exact HOK2.out p hp
              · exact HPOK.out p hp
            · rw [hal3]
              have := HR5.out
              rw [HNE.out] at this
              rwa [show ((br.at_.toNat + n : Nat) : Int) = br.at_ + n by omega]
            · have h := HL.out.eq
              rw [HDR.out] at h
              simp only [layPk] at h
              rw [HNE.out, HFN.out] at h
              rw [hal3, ← h, ← HAC2.out, show br.at_.toNat - acc.length = j by omega]
              simp only [List.append_assoc]
            · intro p
              by_cases hp : p = br.pid
              · simp only [if_pos hp]; exact hfn16
              · simp only [if_neg hp]; exact HL.out.lt p
            · rw [hal3]; omega
          | succ gk =>
            have hdec : decide ((lst.length : Int) < br.at_ * 188) = true := by have := HLL.out; have := HKK.out; simp; omega
            go_wp2_with (fail)
            go_quiet ((go_at_call 20; exact quiet_left (HLEN.out _)))
            obtain ⟨W4, hW4⟩ : ∃ W4, wr.drewN nq = W4 := ⟨_, rfl⟩
            have h4' : InnerAt w b (b + 1) k q W4 br S cs ac2 f := by
              rw [← hW4]
              exact ⟨HI.out.bd.drewN nq, HI.out.map.same rfl, pw_below_drewN HI.out.bel _, blk_drewN HI.out.box nq, HI.out.qb⟩
            have HBD4 : Aside0 (Bd W4 b b lst) := ⟨by rw [← hW4]; exact HBD.out.drewN nq⟩
            have hbw4 : b ≤ W4.heap.size := by rw [← hW4]; exact hbw
            rw [hW4]
            have H4 := Aside0.mk h4'
            clear h4' hW4 HBD hbw hd0 hd1 hd2 HLEN HI
            go_wp2_with (fail)
            refine (empty_any W4 (hW.below H4.out.bel)).mono ?_
            rintro e W5 ⟨rfl, hb5⟩
            have hel : emptyL.length = 188 := encL_length _ nullPk_ok
            obtain ⟨em, hem⟩ : ∃ em : ByteArray, (⟨emptyL.toArray⟩ : ByteArray) = em := ⟨_, rfl⟩
            have hems : em.size = 188 := by rw [← hem]; show (List.toArray _).size = 188; rw [List.size_toArray, hel]
            have hemd : em.data.toList = emptyL := by rw [← hem]
            rw [hem]
            have hbd5 := HBD4.out.below hb5
            go_wp2_with (fail)
            refine (bd_write b b lst em W5 hbd5 (by omega) (Nat.le_trans hbw4 hb5.size)).mono ?_
            rintro e W6 ⟨rfl, hbd6, hb6, hk6⟩
            have HN : Aside0 (InnerAt w b (b + 1) k q W6 br S cs (acc ++ List.replicate (j + 1) nullPk) f) := ⟨by
              refine ⟨?_, (H4.out.map.below hb5).others (by omega) hk6, (below_then2 H4.out.bel hb5 H4.out.bel.size).trans (hb6.mono HHB.out), hk6 _ _ (blk_below H4.out.box hb5) (by simpa using H4.out.qb) (by intro c fz hh; cases hh), H4.out.qb⟩
              rw [List.replicate_succ', ← List.append_assoc, HAC2.out, List.flatMap_append, HLST.out, ← show em.data.toList = [nullPk].flatMap encL by rw [hemd]; simp [emptyL]]
              exact hbd6⟩
            clear hbd5 hb5 hbd6 hb6 hk6 H4 HBD4 hem hemd
            go_wp2_with (fail)
            go_roundg gk
            case rel => exact ⟨j + 1, by omega, HN⟩
            case measure => omega
      · obtain rfl : k = bs.length := by omega
        go_wp2_with (fail)
        refine (bd_string b b _ wr HL.out.bd (Nat.le_of_lt HL.out.bd.lt)).mono ?_
        rintro e w3 ⟨rfl, -, hb3, -⟩
        have hf := HL.out.bel.trans (hb3.mono HL.out.hb)
        have heq := HL.out.eq
        rw [List.drop_length] at heq
        simp only [layPk, List.append_nil] at heq
        rw [heq]
        clear HL
        go_wp2_with (fail)
        go_ret2
        exact ⟨rfl, hf⟩
  · have hc1 : (ck == 0) = false := by simpa using hc0
    go_enter Tryd.func10, Tryd.ntmps10
    go_wp2_with (fail)
    refine HCK.out.mono ?_
    rintro e W1 ⟨rfl, hb1⟩
    go_wp2_with (fail)
    go_ret2
    exact ⟨rfl, hb1⟩
end Go.Proofs.YthmddhbccifcoaaDoor.Clar
