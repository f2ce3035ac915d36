/- The law's helpers that the print knows come to an answer: made, texts, bursts, few, same. -/
/- What the laws ask of bursts in memory and of the packets of all slots. -/
/- The law's few and same; the piece of the example. -/
import Derived.Test.YthmddhbccifcoaaDoorPSliceLaysx5
import Derived.Test.YthmddhbccifcoaaDoorPSliceLaysx8
import Derived.Test.YthmddhbccifcoaaDoorGLH
set_option linter.unusedVariables false
set_option linter.unusedSimpArgs false
namespace Go.Proofs.YthmddhbccifcoaaDoor.Clar
open Go.RowKit Go.Proofs.YthmddhbccifcoaaDoorW.PrintWords Go.Proofs.YthmddhbccifcoaaDoorW.PrintLast Go.Proofs.YthmddhbccifcoaaDoorW.PrintMore Go.Proofs.YthmddhbccifcoaaDoor.PSliceLays

theorem strOfNums_size (l : List Int) : (strOfNums l).size = l.length := by
  have h : (strOfNums l).size = (strOfNums l).data.toList.length := Array.length_toList.symm
  rw [h, strOfNums_data, List.length_map]
theorem wrap64_small (x : Int) (h : -1000000000000 ≤ x) (h2 : x ≤ 1000000000000) : wrap64 x = x := by unfold wrap64; omega
/-! ### text (twice), the sum of 16-bit words, the check sum -/
theorem text07_l0 (l : List Int) (hl : l.length ≤ 1000) : ∀ (d i : Nat) (acc : ByteArray), i + d = l.length → acc.size ≤ 1000000 + i → ∃ r : ByteArray, Ev (fun k => clarionref07_text.l0 k l acc i) r ∧ r.size = acc.size + d := by
  intro d
  induction d with
  | zero =>
    intro i acc hi ha
    refine ⟨acc, ⟨1, fun k hk => ?_⟩, rfl⟩
    obtain ⟨k, rfl⟩ : ∃ m, k = m + 1 := ⟨k - 1, by omega⟩
    simp only [clarionref07_text.l0]
    rw [if_neg (by omega)]
  | succ d ih =>
    intro i acc hi ha
    obtain ⟨r, hr, hs⟩ := ih (i + 1) (acc ++ strOfNums [rd l i % 256]) (by omega) (by rw [ByteArray.size_append, strOfNums_size]; simp; omega)
    refine ⟨r, Ev.step (fun k => ?_) hr, by rw [hs, ByteArray.size_append, strOfNums_size]; simp; omega⟩
    simp only [clarionref07_text.l0, Option.bind_some]
    rw [if_pos (by omega), if_pos (by omega), if_pos (by rw [strOfNums_size]; simp; omega), wrap64_small _ (by omega) (by omega)]
    rfl
theorem text07_ev (l : List Int) (hl : l.length ≤ 1000) : ∃ r : ByteArray, Ev (fun k => clarionref07_text.f k l) r ∧ r.size = l.length := by
  obtain ⟨r, h, hs⟩ := text07_l0 l hl l.length 0 ⟨#[]⟩ (by omega) (by show 0 ≤ _; omega)
  exact ⟨r, h, by rw [hs]; show 0 + _ = _; omega⟩
theorem text10_l0 (l : List Int) (hl : l.length ≤ 1000) : ∀ (d i : Nat) (acc : ByteArray), i + d = l.length → acc.size ≤ 1000000 + i → ∃ r : ByteArray, Ev (fun k => clarionref10_text.l0 k l acc i) r ∧ r.size = acc.size + d := by
  intro d
  induction d with
  | zero =>
    intro i acc hi ha
    refine ⟨acc, ⟨1, fun k hk => ?_⟩, rfl⟩
    obtain ⟨k, rfl⟩ : ∃ m, k = m + 1 := ⟨k - 1, by omega⟩
    simp only [clarionref10_text.l0]
    rw [if_neg (by omega)]
  | succ d ih =>
    intro i acc hi ha
    obtain ⟨r, hr, hs⟩ := ih (i + 1) (acc ++ strOfNums [rd l i % 256]) (by omega) (by rw [ByteArray.size_append, strOfNums_size]; simp; omega)
    refine ⟨r, Ev.step (fun k => ?_) hr, by rw [hs, ByteArray.size_append, strOfNums_size]; simp; omega⟩
    simp only [clarionref10_text.l0, Option.bind_some]
    rw [if_pos (by omega), if_pos (by omega), if_pos (by rw [strOfNums_size]; simp; omega), wrap64_small _ (by omega) (by omega)]
    rfl
theorem text10_ev (l : List Int) (hl : l.length ≤ 1000) : ∃ r : ByteArray, Ev (fun k => clarionref10_text.f k l) r ∧ r.size = l.length := by
  obtain ⟨r, h, hs⟩ := text10_l0 l hl l.length 0 ⟨#[]⟩ (by omega) (by show 0 ≤ _; omega)
  exact ⟨r, h, by rw [hs]; show 0 + _ = _; omega⟩
theorem sum07_l0 (s : ByteArray) (hs : s.size ≤ 1000000) : ∀ (d i : Nat) (n : Int), s.size ≤ i + d → i ≤ s.size + 1 → ∃ r : Int, Ev (fun k => clarionref07_Sum.l0 k s n i) r := by
  intro d
  induction d with
  | zero =>
    intro i n hi _
    refine ⟨wrap64 (65535 - n), 1, fun k hk => ?_⟩
    obtain ⟨k, rfl⟩ : ∃ m, k = m + 1 := ⟨k - 1, by omega⟩
    simp only [clarionref07_Sum.l0]
    rw [if_neg (by omega)]
  | succ d ih =>
    intro i n hi hi2
    by_cases hlt : i < s.size
    · have e1 : wrap64 ((i : Int) + 1) = (i : Int) + 1 := wrap64_small _ (by omega) (by omega)
      have e2 : wrap64 ((i : Int) + 2) = ((i + 2 : Nat) : Int) := by rw [wrap64_small _ (by omega) (by omega)]; omega
      have key : ∀ m : Int, ∃ r : Int, Ev (fun k => clarionref07_Sum.l0 k s m ((i + 2 : Nat) : Int)) r := by
        intro m
        by_cases h : i + 2 ≤ s.size + 1
        · exact ih (i + 2) m (by omega) h
        · omega
      by_cases h1 : i + 1 < s.size
      · by_cases h2 : wrap64 (wrap64 (n + wrap64 (256 * wrap64 (bt s i))) + wrap64 (bt s ((i : Int) + 1))) > 65535
        · obtain ⟨r, hr⟩ := key (wrap64 (wrap64 (wrap64 (n + wrap64 (256 * wrap64 (bt s i))) + wrap64 (bt s ((i : Int) + 1))) - 65535))
          refine ⟨r, Ev.step (fun k => ?_) hr⟩
          simp only [clarionref07_Sum.l0, e1, e2]
          rw [if_pos (by omega), if_pos (by omega), if_pos (by omega), if_pos (by omega), if_pos h2]
        · obtain ⟨r, hr⟩ := key (wrap64 (wrap64 (n + wrap64 (256 * wrap64 (bt s i))) + wrap64 (bt s ((i : Int) + 1))))
          refine ⟨r, Ev.step (fun k => ?_) hr⟩
          simp only [clarionref07_Sum.l0, e1, e2]
          rw [if_pos (by omega), if_pos (by omega), if_pos (by omega), if_pos (by omega), if_neg h2]
      · by_cases h2 : wrap64 (n + wrap64 (256 * wrap64 (bt s i))) > 65535
        · obtain ⟨r, hr⟩ := key (wrap64 (wrap64 (n + wrap64 (256 * wrap64 (bt s i))) - 65535))
          refine ⟨r, Ev.step (fun k => ?_) hr⟩
          simp only [clarionref07_Sum.l0, e1, e2]
          rw [if_pos (by omega), if_pos (by omega), if_neg (by omega), if_pos h2]
        · obtain ⟨r, hr⟩ := key (wrap64 (n + wrap64 (256 * wrap64 (bt s i))))
          refine ⟨r, Ev.step (fun k => ?_) hr⟩
          simp only [clarionref07_Sum.l0, e1, e2]
          rw [if_pos (by omega), if_pos (by omega), if_neg (by omega), if_neg h2]
    · refine ⟨wrap64 (65535 - n), 1, fun k hk => ?_⟩
      obtain ⟨k, rfl⟩ : ∃ m, k = m + 1 := ⟨k - 1, by omega⟩
      simp only [clarionref07_Sum.l0]
      rw [if_neg (by omega)]
theorem sum07_ev (s : ByteArray) (hs : s.size ≤ 1000000) : ∃ r : Int, Ev (fun k => clarionref07_Sum.f k s) r := sum07_l0 s hs s.size 0 0 (by omega) (by omega)
theorem more_l1 (s : ByteArray) (hs : s.size ≤ 1000000) (i : Nat) (hi : i < s.size) (hnext : ∀ x : Int, ∃ r : Int, Ev (fun k => clarionref05_More.l0 k x s ((i + 1 : Nat) : Int)) r) :
    ∀ (d n u : Nat) (x : Int), n + d = 8 → u = 128 / 2 ^ n → ∃ r : Int, Ev (fun k => clarionref05_More.l1 k x s i u n) r := by
  intro d
  induction d with
  | zero =>
    intro n u x hn hu
    obtain ⟨r, hr⟩ := hnext x
    refine ⟨r, Ev.step (fun k => ?_) hr⟩
    simp only [clarionref05_More.l1]
    rw [if_neg (by omega), wrap64_small _ (by omega) (by omega)]
    rfl
  | succ d ih =>
    intro n u x hn hu
    have hu2 : u ≠ 0 ∧ u ≤ 128 ∧ u / 2 = 128 / 2 ^ (n + 1) := by
      subst hu
      rcases (show n = 0 ∨ n = 1 ∨ n = 2 ∨ n = 3 ∨ n = 4 ∨ n = 5 ∨ n = 6 ∨ n = 7 by omega) with rfl | rfl | rfl | rfl | rfl | rfl | rfl | rfl <;> decide
    obtain ⟨h0, h1, h2⟩ := hu2
    have e1 : wrap64 ((n : Int) + 1) = ((n + 1 : Nat) : Int) := by rw [wrap64_small _ (by omega) (by omega)]; omega
    have e2 : wrap64 ((u : Int).tdiv 2) = ((u / 2 : Nat) : Int) := by rw [Int.tdiv_eq_ediv_of_nonneg (by omega), wrap64_small _ (by omega) (by omega)]; omega
    by_cases hc : ((decide (x ≥ 2147483648)) != ((Int.tmod (wrap64 (Int.tdiv (wrap64 (bt s i)) (u : Int))) 2) == 1)) = true
    · obtain ⟨r, hr⟩ := ih (n + 1) (u / 2) (Go.bits .xor .u32 ((x * 2) % 4294967296) 79764919) (by omega) h2
      refine ⟨r, Ev.step (fun k => ?_) hr⟩
      simp only [clarionref05_More.l1, e1, e2]
      rw [if_pos (by omega), if_pos (by omega), if_pos (by omega), if_neg (by omega), if_pos hc]
    · obtain ⟨r, hr⟩ := ih (n + 1) (u / 2) ((x * 2) % 4294967296) (by omega) h2
      refine ⟨r, Ev.step (fun k => ?_) hr⟩
      simp only [clarionref05_More.l1, e1, e2]
      rw [if_pos (by omega), if_pos (by omega), if_pos (by omega), if_neg (by omega), if_neg hc]
theorem more_l0 (s : ByteArray) (hs : s.size ≤ 1000000) : ∀ (d i : Nat) (x : Int), i + d = s.size → ∃ r : Int, Ev (fun k => clarionref05_More.l0 k x s i) r := by
  intro d
  induction d with
  | zero =>
    intro i x hi
    refine ⟨x, ⟨1, fun k hk => ?_⟩⟩
    obtain ⟨k, rfl⟩ : ∃ m, k = m + 1 := ⟨k - 1, by omega⟩
    simp only [clarionref05_More.l0]
    rw [if_neg (by omega)]
  | succ d ih =>
    intro i x hi
    obtain ⟨r, hr⟩ := more_l1 s hs i (by omega) (fun y => ih (i + 1) y (by omega)) 8 0 128 x (by omega) rfl
    refine ⟨r, Ev.step (fun k => ?_) hr⟩
    simp only [clarionref05_More.l0]
    rw [if_pos (by omega)]
    rfl
theorem sum05_ev (s : ByteArray) (hs : s.size ≤ 1000000) : ∃ r : Int, Ev (fun k => clarionref05_Sum.f k s) r := by
  obtain ⟨r, hr⟩ := more_l0 s hs s.size 0 4294967295 (by omega)
  refine ⟨r, ?_⟩
  unfold clarionref05_Sum.f
  exact Ev.bind hr (Ev.now r)
theorem seal_ev (s : ByteArray) (hs : s.size ≤ 1000000) : ∃ r : ByteArray, Ev (fun k => clarionref05_Seal.f k s) r ∧ r.size = s.size + 4 := by
  obtain ⟨x, hx⟩ := sum05_ev s hs
  obtain ⟨t, ht⟩ : ∃ t, clarionref05_Four.f x = some t := ⟨_, rfl⟩
  have h4 : t.size = 4 := by
    unfold clarionref05_Four.f at ht
    injection ht with ht
    rw [← ht, strOfNums_size]; rfl
  refine ⟨s ++ t, ?_, by rw [ByteArray.size_append, h4]⟩
  unfold clarionref05_Seal.f
  refine Ev.bind hx ?_
  simp only [ht, Option.bind_some]
  rw [if_pos (by omega)]
  exact Ev.now _
theorem make4_ev (a b body : ByteArray) (ha : a.size = 4) (hb : b.size = 4) (hs : body.size ≤ 4000) : ∃ r : ByteArray, Ev (fun k => clarionref07_Make4.f k a b 17 body) (r, 0) ∧ r.size = 20 + body.size := by
  have e0 : wrap64 (20 + (body.size : Int)) = 20 + (body.size : Int) := wrap64_small _ (by omega) (by omega)
  obtain ⟨t1, h1, s1⟩ := text07_ev [69, 0, wrap64 (Int.tdiv (20 + (body.size : Int)) 256), Int.tmod (20 + (body.size : Int)) 256, 0, 0, 0, 0, 64, 17] (by simp)
  have s1' : t1.size = 10 := s1
  have z2 : (⟨#[0, 0]⟩ : ByteArray).size = 2 := rfl
  obtain ⟨x, hx⟩ := sum07_ev (((t1 ++ (⟨#[0, 0]⟩ : ByteArray)) ++ a) ++ b) (by simp only [ByteArray.size_append]; omega)
  obtain ⟨t2, h2, s2⟩ := text07_ev [wrap64 (Int.tdiv x 256), Int.tmod x 256] (by simp)
  have s2' : t2.size = 2 := s2
  refine ⟨(((t1 ++ t2) ++ a) ++ b) ++ body, ?_, by simp only [ByteArray.size_append]; omega⟩
  have c1 : t1.size + 2 ≤ 9223372036854775807 := by omega
  have c2 : (t1 ++ (⟨#[0, 0]⟩ : ByteArray)).size + a.size ≤ 9223372036854775807 := by simp only [ByteArray.size_append]; omega
  have c3 : ((t1 ++ (⟨#[0, 0]⟩ : ByteArray)) ++ a).size + b.size ≤ 9223372036854775807 := by simp only [ByteArray.size_append]; omega
  have d1 : t1.size + t2.size ≤ 9223372036854775807 := by omega
  have d2 : (t1 ++ t2).size + a.size ≤ 9223372036854775807 := by simp only [ByteArray.size_append]; omega
  have d3 : ((t1 ++ t2) ++ a).size + b.size ≤ 9223372036854775807 := by simp only [ByteArray.size_append]; omega
  have d4 : (((t1 ++ t2) ++ a) ++ b).size + body.size ≤ 9223372036854775807 := by simp only [ByteArray.size_append]; omega
  have n1 : ¬ ((17 : Int) < 0) := by omega
  have n2 : ¬ (decide ((17 : Int) > 255) = true) := by decide
  have n3 : ¬ (20 + (body.size : Int) > 4080) := by omega
  unfold clarionref07_Make4.f
  simp only [e0, if_neg n1]
  refine Ev.step (fun _ => rfl) ?_
  simp only [clarionref07_Make4.j0, if_neg n2, if_neg n3]
  refine Ev.bind h1 ?_
  simp only [if_pos c1, if_pos c2, if_pos c3]
  refine Ev.bind hx (Ev.bind h2 ?_)
  simp only [if_pos d1, if_pos d2, if_pos d3, if_pos d4]
  exact Ev.now _
theorem bytes10_ev (mac d at_ : Int) (t f : Bool) (s : ByteArray) (hs : s.size ≤ 900000) (ht : t = false) (hf : f = false) : ∃ r : ByteArray, Ev (fun k => clarionref10_Bytes.f k mac d t f at_ s) r ∧ r.size = 16 + s.size := by
  subst ht hf
  obtain ⟨x, hx⟩ : ∃ x, wrap64 ((wrap64 (16 * (Int.tmod d 16))) + (wrap64 (Int.tdiv at_ 65536))) = x := ⟨_, rfl⟩
  obtain ⟨y, hy⟩ : ∃ y, wrap64 (13 + (s.size : Int)) = y := ⟨_, rfl⟩
  obtain ⟨t1, h1, s1⟩ := text10_ev [62, wrap64 (176 + (wrap64 (Int.tdiv y 256))), Int.tmod y 256, wrap64 (Int.tdiv mac 256), Int.tmod mac 256, 193, 0, 0, wrap64 (Int.tdiv d 16), x, Int.tmod (wrap64 (Int.tdiv at_ 256)) 256, Int.tmod at_ 256] (by simp)
  have s1' : t1.size = 12 := s1
  obtain ⟨r, hr, sr⟩ := seal_ev (t1 ++ s) (by rw [ByteArray.size_append]; omega)
  refine ⟨r, ?_, by rw [sr, ByteArray.size_append]; omega⟩
  have c1 : t1.size + s.size ≤ 9223372036854775807 := by omega
  have n1 : ¬ (false = true) := by simp
  unfold clarionref10_Bytes.f
  simp only [hx, hy, if_neg n1]
  refine Ev.step (fun _ => rfl) ?_
  simp only [clarionref10_Bytes.j0, if_neg n1]
  refine Ev.bind h1 ?_
  simp only [if_pos c1]
  exact Ev.bind hr (Ev.now _)
theorem made_l0 (n tb b : Int) (gram : Bool) (t : ByteArray) : ∀ (d i : Nat) (l : List Int), l.length ≤ 4000 → i + d = l.length → ∃ r : ByteArray, Ev (fun k => clarionlaw20_made.l0 k l i n tb b gram t) r ∧ r.size ≤ 4100 := by
  intro d
  induction d with
  | zero =>
    intro i l hl hi
    cases gram with
    | true =>
      obtain ⟨x, hx, sx⟩ := make4_ev (⟨#[97, 98, 99, 100]⟩ : ByteArray) (⟨#[101, 102, 103, 104]⟩ : ByteArray) (strOfNums l) rfl rfl (by rw [strOfNums_size]; exact hl)
      rw [strOfNums_size] at sx
      obtain ⟨r, hr, sr⟩ := bytes10_ev 3 9 (wrap64 b) false false x (by omega) rfl rfl
      refine ⟨r, ?_, by omega⟩
      refine Ev.step (fun _ => rfl) ?_
      have n1 : ¬ ((i : Int) < l.length) := by omega
      simp only [clarionlaw20_made.l0, if_neg n1, if_true]
      exact Ev.bind hx (Ev.bind hr (Ev.now _))
    | false =>
      have n1 : ¬ ((i : Int) < l.length) := by omega
      have n2 : ¬ (false = true) := by simp
      obtain ⟨hd, hhd⟩ : ∃ hd : List Int, [tb, (wrap64 (176 + (wrap64 (Int.tdiv (wrap64 ((l.length : Int) + 9)) 256)))) % 256, (Int.tmod (wrap64 ((l.length : Int) + 9)) 256) % 256, 0, 1, 193, 0, 0] = hd := ⟨_, rfl⟩
      have h8 : hd.length = 8 := by rw [← hhd]; rfl
      obtain ⟨r, hr, sr⟩ := seal_ev (strOfNums hd ++ strOfNums l) (by rw [ByteArray.size_append, strOfNums_size, strOfNums_size]; omega)
      have c1 : (strOfNums hd).size + (strOfNums l).size ≤ 9223372036854775807 := by rw [strOfNums_size, strOfNums_size]; omega
      refine ⟨r, ?_, by rw [sr, ByteArray.size_append, strOfNums_size, strOfNums_size]; omega⟩
      refine Ev.step (fun _ => rfl) ?_
      simp only [clarionlaw20_made.l0, if_neg n1, if_neg n2, hhd, Option.bind_some, if_pos c1]
      exact Ev.bind hr (Ev.now _)
  | succ d ih =>
    intro i l hl hi
    have e1 : wrap64 ((i : Int) + 1) = ((i + 1 : Nat) : Int) := by rw [wrap64_small _ (by omega) (by omega)]; omega
    obtain ⟨r, hr, sr⟩ := ih (i + 1) (l.set i ((b + ((Int.tmod (i : Int) 5) % 256)) % 256)) (by simpa using hl) (by simp; omega)
    refine ⟨r, Ev.step (fun k => ?_) hr, sr⟩
    simp only [clarionlaw20_made.l0, e1]
    rw [if_pos (by omega), if_pos (by omega)]
    rfl
/-- Each piece has its bytes, and they are not many. -/
theorem made_ev (p : S50) (h : p.f4.size ≤ 5000) : ∃ r : ByteArray, Ev (fun k => clarionlaw20_made.f k p.f0 p.f1 p.f2 p.f3 p.f4) r ∧ r.size ≤ 5000 := by
  unfold clarionlaw20_made.f
  by_cases h0 : p.f4.toList = []
  · obtain ⟨m, hm⟩ : ∃ m, mx 0 (mn p.f0 4000) = m := ⟨_, rfl⟩
    have hm2 : 0 ≤ m ∧ m ≤ 4000 := by rw [← hm]; unfold mx mn; omega
    have c2 : m.toNat ≤ 281474976710656 := by omega
    simp only [if_pos h0, hm, if_pos hm2.1, if_pos c2]
    obtain ⟨r, hr, sr⟩ := made_l0 p.f0 p.f1 p.f2 p.f3 p.f4 m.toNat 0 (List.replicate m.toNat 0) (by simp; omega) (by simp)
    exact ⟨r, hr, by omega⟩
  · simp only [if_neg h0]
    exact ⟨_, Ev.now _, h⟩
theorem texts_l0 (l : List S50) (hl : l.length ≤ 8) (hs : ∀ p ∈ l, p.f4.size ≤ 5000) : ∀ (d i : Nat) (acc : List ByteArray), i + d = l.length → acc.length = i → (∀ s ∈ acc, s.size ≤ 5000) → ∃ r : List ByteArray, Ev (fun k => clarionlaw20_texts.l0 k l acc i) r ∧ r.length = l.length ∧ ∀ s ∈ r, s.size ≤ 5000 := by
  intro d
  induction d with
  | zero =>
    intro i acc hi ha hss
    refine ⟨acc, ⟨1, fun k hk => ?_⟩, by omega, hss⟩
    obtain ⟨k, rfl⟩ : ∃ m, k = m + 1 := ⟨k - 1, by omega⟩
    simp only [clarionlaw20_texts.l0]
    rw [if_neg (by omega)]
  | succ d ih =>
    intro i acc hi ha hss
    have hin : rd_T50 l i ∈ l := by
      unfold rd_T50
      rw [List.getD_eq_getElem?_getD, List.getElem?_eq_getElem (by simp; omega)]
      exact List.getElem_mem _
    obtain ⟨t, ht, st⟩ := made_ev (rd_T50 l i) (hs _ hin)
    obtain ⟨r, hr, h1, h2⟩ := ih (i + 1) (acc ++ [t]) (by omega) (by simp; omega) (by
      intro s hs
      rcases List.mem_append.1 hs with h | h
      · exact hss s h
      · rw [List.mem_singleton.1 h]; exact st)
    refine ⟨r, ?_, h1, h2⟩
    refine Ev.step (fun _ => rfl) ?_
    have c1 : (i : Int) < l.length := by omega
    have c2 : (0 : Int) ≤ i := by omega
    have c3 : acc.length < 8796093022208 := by omega
    have e1 : wrap64 ((i : Int) + 1) = ((i + 1 : Nat) : Int) := by rw [wrap64_small _ (by omega) (by omega)]; omega
    simp only [clarionlaw20_texts.l0, if_pos c1, if_pos c2, if_pos c3, e1]
    exact Ev.bind ht hr
theorem texts_ev (l : List S50) (hl : l.length ≤ 8) (hs : ∀ p ∈ l, p.f4.size ≤ 5000) : ∃ r : List ByteArray, Ev (fun k => clarionlaw20_texts.f k l) r ∧ r.length = l.length ∧ ∀ s ∈ r, s.size ≤ 5000 :=
  texts_l0 l hl hs l.length 0 [] (by omega) rfl (by simp)
def runOk (x : S45) : Prop := x.f2.length ≤ 8 ∧ (x.f1 ≤ 300 ∨ 1048570 ≤ x.f1) ∧ ∀ p ∈ x.f2, p.f4.size ≤ 5000
def fewB (l : List S45) : Prop := l.length ≤ 8 ∧ ∀ x ∈ l, runOk x
theorem bursts_l0 (l : List S45) (hl : l.length ≤ 8) (hs : ∀ x ∈ l, runOk x) : ∀ (d i : Nat) (acc : List S35), i + d = l.length → acc.length = i → (∀ b ∈ acc, b.f2.length ≤ 8 ∧ ∀ s ∈ b.f2, s.size ≤ 5000) →
    ∃ r : List S35, Ev (fun k => clarionlaw20_bursts.l0 k l acc i) r ∧ r.length = l.length ∧ (∀ b ∈ r, b.f2.length ≤ 8 ∧ ∀ s ∈ b.f2, s.size ≤ 5000) ∧ (∃ r2, r = acc ++ r2 ∧ r2.map (fun b => (b.f0, b.f1)) = (l.drop i).map (fun b => (b.f0, b.f1))) := by
  intro d
  induction d with
  | zero =>
    intro i acc hi ha hss
    refine ⟨acc, ⟨1, fun k hk => ?_⟩, by omega, hss, [], by simp, by rw [List.drop_of_length_le (by omega)]; rfl⟩
    obtain ⟨k, rfl⟩ : ∃ m, k = m + 1 := ⟨k - 1, by omega⟩
    simp only [clarionlaw20_bursts.l0]
    rw [if_neg (by omega)]
  | succ d ih =>
    intro i acc hi ha hss
    have hget : rd_T45 l i = l[i]'(by omega) := by
      unfold rd_T45
      rw [List.getD_eq_getElem?_getD, List.getElem?_eq_getElem (by simp; omega)]
      rfl
    have hin : rd_T45 l i ∈ l := by rw [hget]; exact List.getElem_mem _
    obtain ⟨o1, o2, o3⟩ := hs _ hin
    obtain ⟨t, ht, st1, st2⟩ := texts_ev (rd_T45 l i).f2 o1 o3
    obtain ⟨r, hr, h1, h2, r2, h3, h4⟩ := ih (i + 1) (acc ++ [⟨(rd_T45 l i).f0, (rd_T45 l i).f1, t⟩]) (by omega) (by simp; omega) (by
      intro b hb
      rcases List.mem_append.1 hb with h | h
      · exact hss b h
      · rw [List.mem_singleton.1 h]; exact ⟨by simp only; omega, st2⟩)
    refine ⟨r, ?_, h1, h2, ⟨(rd_T45 l i).f0, (rd_T45 l i).f1, t⟩ :: r2, by rw [h3]; simp, ?_⟩
    · refine Ev.step (fun _ => rfl) ?_
      have c1 : (i : Int) < l.length := by omega
      have c2 : (0 : Int) ≤ i := by omega
      have c3 : acc.length < 3518437208883 := by omega
      have e1 : wrap64 ((i : Int) + 1) = ((i + 1 : Nat) : Int) := by rw [wrap64_small _ (by omega) (by omega)]; omega
      simp only [clarionlaw20_bursts.l0, if_pos c1, if_pos c2, if_pos c3, e1]
      exact Ev.bind ht hr
    · rw [List.drop_eq_getElem_cons (show i < l.length by omega), List.map_cons, List.map_cons, h4, hget]
theorem bursts_ev (l : List S45) (h : fewB l) : ∃ r : List S35, Ev (fun k => clarionlaw20_bursts.f k l) r ∧ r.length = l.length ∧ (∀ b ∈ r, b.f2.length ≤ 8 ∧ ∀ s ∈ b.f2, s.size ≤ 5000) ∧ r.map (fun b => (b.f0, b.f1)) = l.map (fun b => (b.f0, b.f1)) := by
  obtain ⟨r, h1, h2, h3, r2, h4, h5⟩ := bursts_l0 l h.1 h.2 l.length 0 [] (by omega) rfl (by simp)
  exact ⟨r, h1, h2, h3, by rw [h4]; simpa using h5⟩
end Go.Proofs.YthmddhbccifcoaaDoor.Clar
namespace Go.Proofs.YthmddhbccifcoaaDoor.Clar
open Go.RowKit Go.Proofs.YthmddhbccifcoaaDoorW.PrintWords Go.Proofs.YthmddhbccifcoaaDoorW.PrintLast Go.Proofs.YthmddhbccifcoaaDoorW.PrintMore Go.Proofs.YthmddhbccifcoaaDoor.PSliceLays

/-! ### The printed words' rows and ours -/
theorem sr_of_C {w : World} {A : Option Addr} {l : List ByteArray} (h : Kd.C Kd.string w A l.length l) : SR w A l := by
  refine ⟨rfl, h.2.1, fun hp => ?_⟩
  obtain ⟨ad, rfl, hc⟩ := h.2.2 hp
  refine ⟨ad, rfl, fun j hj => ?_⟩
  obtain ⟨c, _, hr, hcell⟩ := hc j _ (List.getElem?_eq_getElem hj)
  have hr2 : c = [.string l[j]] := hr
  have := hcell 0 (.string l[j]) (by rw [hr2]; rfl)
  have e : j * (Kd.string).sz + 0 = j := by show j * 1 + 0 = j; omega
  rw [e] at this
  rw [List.getD_eq_getElem?_getD, List.getElem?_eq_getElem hj]
  exact this
theorem C_of_sr {w : World} {A : Option Addr} {l : List ByteArray} (h : SR w A l) : Kd.C Kd.string w A l.length l := by
  refine ⟨rfl, h.2.1, fun hp => ?_⟩
  obtain ⟨ad, rfl, hc⟩ := h.2.2 hp
  refine ⟨ad, rfl, fun j p hj => ⟨[.string p], rfl, rfl, fun i u hu => ?_⟩⟩
  have hjl := (List.getElem?_eq_some_iff.1 hj).1
  have := hc j hjl
  rw [List.getD_eq_getElem?_getD, hj] at this
  have hi : i = 0 ∧ u = .string p := by
    cases i with
    | zero => simp at hu; exact ⟨rfl, hu.symm⟩
    | succ i => simp at hu
  obtain ⟨rfl, rfl⟩ := hi
  have e : j * (Kd.string).sz + 0 = j := by show j * 1 + 0 = j; omega
  rw [e]
  exact this
def brOf (b : S35) : Br := ⟨b.f0, b.f1, b.f2⟩
theorem bat_of_S {w : World} {base : Nat} {v : Value} {r : List S35} (h : Kd.S k35 35 w base (fun _ => True) v r) : ∃ A c, v = .slice A r.length c ∧ r.length ≤ c ∧ BAt w A (r.map brOf) := by
  obtain ⟨A, c, hv, hl, hC⟩ := Kd.S_reads h
  refine ⟨A, c, hv, hl, fun k b hk => ?_⟩
  rw [List.getElem?_map] at hk
  obtain ⟨x, hx, rfl⟩ := Option.map_eq_some_iff.1 hk
  have hkl := (List.getElem?_eq_some_iff.1 hx).1
  obtain ⟨g, cap, hv2, _, hg, _⟩ := Kd.S_form h (by omega)
  rw [hv] at hv2
  injection hv2 with hA _ _
  subst hA
  obtain ⟨ad, A2, c2, hA2, h1, h2, h3, h4, h5⟩ := at_T35 hC k (by omega) (by omega)
  injection hA2 with hA2
  subst hA2
  have hrd : rd_T35 r k = x := by
    unfold rd_T35
    rw [List.getD_eq_getElem?_getD]
    have e : ((k : Nat) : Int).toNat = k := rfl
    rw [e, hx]; rfl
  have ht : ((k : Nat) : Int).toNat = k := rfl
  rw [hrd, ht, add_plain] at h1 h2 h3
  rw [hrd] at h4 h5
  exact ⟨g, A2, c2, rfl, hg, h1, h2, h3, h4, sr_of_C h5⟩

/-! ### Packets of all slots -/
theorem packN_pos (k : Nat) (left : List UInt8) (l : List ByteArray) : ∀ x ∈ packN k left l, 0 < x.2.length := by
  induction k generalizing left l with
  | zero => intro x hx; simp [packN] at hx
  | succ k ih =>
    intro x hx
    simp only [packN] at hx
    split at hx
    · simp at hx
    · rcases List.mem_cons.1 hx with rfl | hx
      · exact (nextF_len left l).2
      · exact ih _ _ x hx
theorem pks_pos (pid : Int) (c : Nat) (l : List (Bool × List UInt8)) (hl : ∀ x ∈ l, 0 < x.2.length) : ∀ p ∈ pks pid c l, p.body.size ≠ 0 ∧ p.pid = pid := by
  induction l generalizing c with
  | nil => intro p hp; simp [pks] at hp
  | cons x r ih =>
    intro p hp
    simp only [pks, List.mem_cons] at hp
    rcases hp with rfl | hp
    · refine ⟨?_, rfl⟩
      show (List.toArray x.2).size ≠ 0
      rw [List.size_toArray]
      have := hl x (by simp)
      omega
    · exact ih _ (fun y hy => hl y (by simp [hy])) p hp
theorem lay_ok (bs : List Br) (e : Nat) (f : Int → Nat) (hf : ∀ p, f p < 16) (hc : checkB e bs = 0) : ∀ p ∈ layPk e f bs, pkOk p ∧ p.body.size ≠ 0 ∧ (p = nullPk ∨ p.pid < 8191) := by
  induction bs generalizing e f with
  | nil => intro p hp; simp [layPk] at hp
  | cons b r ih =>
    obtain ⟨hr1, hr2, hr3, hr4, hr5⟩ := checkB_cons _ _ _ hc
    have hrr : 0 ≤ b.pid ∧ b.pid < 8191 ∧ 0 ≤ b.at_ := by simp [rightB] at hr1; omega
    have hcast : ((b.at_.toNat + (packF b.l).length : Nat) : Int) = b.at_ + (packF b.l).length := by omega
    have hr6 : checkB ((b.at_.toNat + (packF b.l).length : Nat) : Int) r = 0 := by rw [hcast]; exact hr5
    intro p hp
    simp only [layPk, List.mem_append] at hp
    rcases hp with (hp | hp) | hp
    · rw [(List.mem_replicate.1 hp).2]
      refine ⟨nullPk_ok, ?_, .inl rfl⟩
      show (List.toArray (List.replicate 184 (255 : UInt8))).size ≠ 0
      rw [List.size_toArray, List.length_replicate]; omega
    · have h1 := pks_ok b.pid (f b.pid) (packF b.l) hrr.1 hrr.2.1 (hf _) (packN_bodies _ _ _) p hp
      obtain ⟨h2, h3⟩ := pks_pos b.pid (f b.pid) (packF b.l) (packN_pos _ _ _) p hp
      exact ⟨h1, h2, .inr (by rw [h3]; exact hrr.2.1)⟩
    · refine ih _ _ ?_ hr6 p hp
      intro q
      split
      · exact Nat.mod_lt _ (by omega)
      · exact hf q
theorem map_data_inj {a b : List ByteArray} (h : (a.map fun s => s.data.toList) = b.map fun s => s.data.toList) : a = b := by
  refine List.map_inj_right (f := fun s : ByteArray => s.data.toList) ?_ |>.1 h
  intro x y hxy
  exact (bytes_eq (s := x) rfl).trans ((bytes_eq (s := y) (show y.data.toList = x.data.toList from hxy.symm)).symm) |> fun h => by simpa using h
/-- What is read of a Pid. -/
theorem read_all (pid : Int) (hpid : pid < 8191) (bs : List Br) (hc : checkB 0 bs = 0) (hl : ∀ b ∈ bs, b.l.length ≤ 184) :
    ∃ s2 : RS, readB pid 0 (-1) 0 ⟨⟨#[]⟩, 0, [], [], []⟩ (layPk 0 (fun _ => 0) bs) = some (s2, usedOf pid bs) ∧ s2.texts = wantOf pid bs := by
  obtain ⟨s2, h1, h2⟩ := read_lay pid hpid bs 0 (fun _ => 0) (fun _ => by omega) hc hl 0 (-1) (.inl ⟨by omega, rfl⟩) 0 ⟨⟨#[]⟩, 0, [], [], []⟩ rfl
  rw [Nat.zero_add] at h1
  refine ⟨s2, h1, map_data_inj ?_⟩
  simpa [toL] using h2
/-- What is wanted of a Pid grows burst by burst. -/
theorem want_step (pid : Int) (bs : List Br) (j : Nat) (b : Br) (h : bs[j]? = some b) : wantOf pid (bs.take (j + 1)) = wantOf pid (bs.take j) ++ (if b.pid = pid then b.l else []) ∧ usedOf pid (bs.take (j + 1)) = usedOf pid (bs.take j) + (if b.pid = pid then (packF b.l).length else 0) := by
  rw [List.take_add_one, h]
  unfold wantOf usedOf
  simp only [Option.toList_some, List.filter_append, List.flatMap_append, List.map_append, List.sum_append]
  by_cases hb : b.pid = pid
  · simp [hb]
  · simp [hb]
theorem want_none (pid : Int) (bs : List Br) (h : ∀ b ∈ bs, b.pid ≠ pid) : wantOf pid bs = [] ∧ usedOf pid bs = 0 := by
  have hf : bs.filter (fun b => b.pid == pid) = [] := by
    rw [List.filter_eq_nil_iff]
    intro b hb
    simpa using h b hb
  unfold wantOf usedOf
  rw [hf]
  exact ⟨rfl, rfl⟩
theorem want_len (pid : Int) (bs : List Br) (n : Nat) (h : ∀ b ∈ bs, b.l.length ≤ n) : (wantOf pid bs).length ≤ n * bs.length := by
  unfold wantOf
  induction bs with
  | nil => simp
  | cons b r ih =>
    have h1 := h b (by simp)
    have h2 := ih fun x hx => h x (by simp [hx])
    rw [List.filter_cons]
    have e : n * (b :: r).length = n * r.length + n := by rw [List.length_cons, Nat.mul_succ]
    split
    · rw [List.flatMap_cons, List.length_append]
      omega
    · omega
theorem where_le (q : Br → Bool) (bs : List Br) : sumWhere q bs ≤ totalOf bs := by
  unfold totalOf
  induction bs with
  | nil => exact Nat.le_refl _
  | cons b r ih =>
    simp only [sumWhere, if_true]
    split <;> omega
theorem first_step {fb X X' c : Bool} (h : fb = !X) (hn : X' = (X || c)) : (fb && !c) = !X' := by subst h hn; cases X <;> cases c <;> rfl
theorem where_none (bs : List Br) : sumWhere (fun b => (bs.take 0).any fun y => y.pid == b.pid) bs = 0 := by
  rw [sumWhere_congr _ (fun _ => false) bs (fun b _ => by simp)]
  induction bs with
  | nil => rfl
  | cons b r ih => simp only [sumWhere]; rw [ih]; rfl
theorem used_le (pid : Int) (bs : List Br) : usedOf pid bs ≤ totalOf bs := by rw [usedOf_where]; exact where_le _ _
theorem used_take_le (pid : Int) (bs : List Br) (n : Nat) : usedOf pid (bs.take n) ≤ totalOf bs := by
  refine Nat.le_trans (used_le pid _) ?_
  unfold totalOf
  induction bs generalizing n with
  | nil => simp
  | cons b r ih =>
    cases n with
    | zero => simp [sumWhere]
    | succ n => simp only [List.take_succ_cons, sumWhere, if_true]; have := ih n; omega
theorem manyOf_ok (e : Int) (bs : List Br) (h : checkB e bs = 0) : ∀ b ∈ bs, manyOf b.l = ((packF b.l).length, 0) ∧ rightB b.pid b.at_ = true := by
  induction bs generalizing e with
  | nil => intro b hb; simp at hb
  | cons b r ih =>
    obtain ⟨hr1, hr2, hr3, hr4, hr5⟩ := checkB_cons _ _ _ h
    intro x hx
    rcases List.mem_cons.1 hx with rfl | hx
    · refine ⟨?_, hr1⟩
      unfold manyOf
      rw [if_neg hr2, if_neg (by simp [hr3])]
    · exact ih _ hr5 x hx
/-- The empty packet's bytes. -/
theorem emptyL_eq : emptyL = 71 :: 31 :: 255 :: 16 :: List.replicate 184 255 := by
  unfold emptyL encL stuffedL
  have h1 : nullPk.body.size = 184 := by show (List.toArray (List.replicate 184 (255 : UInt8))).size = 184; rw [List.size_toArray, List.length_replicate]
  have h2 : nullPk.body.data.toList = List.replicate 184 255 := rfl
  rw [h1, if_pos rfl, h2]
  have h3 : headL nullPk = [71, 31, 255, 16] := by
    have hw : whatOf nullPk = 1 := by
      have he : nullPk.body.toList.isEmpty = false := by rw [Go.ByteArray.toList_eq, h2]; rfl
      unfold whatOf
      rw [he, h1]; rfl
    unfold headL
    rw [hw]; rfl
  rw [h3]
  rfl
/-- Of the first slots so many are empty. -/
def noneOf (ps : List Pk) (i : Nat) : Nat := ((ps.take i).filter fun p => p.pid == 8191).length
theorem none_step (ps : List Pk) (i : Nat) (p : Pk) (h : ps[i]? = some p) (hok : pkOk p) (hp : p = nullPk ∨ p.pid < 8191) : (encL p = emptyL → noneOf ps (i + 1) = noneOf ps i + 1) ∧ (encL p ≠ emptyL → noneOf ps (i + 1) = noneOf ps i) := by
  unfold noneOf
  rw [List.take_add_one, h]
  simp only [Option.toList_some, List.filter_append, List.length_append]
  rcases hp with rfl | hp
  · exact ⟨fun _ => rfl, fun hh => absurd rfl hh⟩
  · have hne : (p.pid == 8191) = false := by simp; omega
    exact ⟨fun hh => absurd hh (encL_not_empty p hok hp), fun _ => by simp [List.filter_cons, hne]⟩
theorem none_le (ps : List Pk) (i : Nat) : noneOf ps i ≤ i := by
  unfold noneOf
  have h1 := List.length_filter_le (fun p : Pk => p.pid == 8191) (ps.take i)
  have h2 := List.length_take_le i ps
  omega
end Go.Proofs.YthmddhbccifcoaaDoor.Clar
namespace Go.Proofs.YthmddhbccifcoaaDoor.Clar
open Go.RowKit Go.Proofs.YthmddhbccifcoaaDoorW.PrintWords Go.Proofs.YthmddhbccifcoaaDoorW.PrintLast Go.Proofs.YthmddhbccifcoaaDoorW.PrintMore Go.Proofs.YthmddhbccifcoaaDoor.PSliceLays

def fewFrom (l : List S45) (i : Nat) : Prop := l.length ≤ 8 ∧ ∀ x ∈ l.drop i, runOk x
theorem few_l1 (l : List S45) (hl : l.length ≤ 9223372036854775807) (i : Nat) (hi : i < l.length) (h8 : (rd_T45 l i).f2.length ≤ 8) (hnext : ∃ r, Ev (fun k => clarionlaw20_few.l0 k l ((i + 1 : Nat) : Int)) r ∧ (r = true → fewFrom l (i + 1))) :
    ∀ (d j : Nat), j + d = (rd_T45 l i).f2.length → ∃ r, Ev (fun k => clarionlaw20_few.l1 k l i j) r ∧ (r = true → (∀ p ∈ (rd_T45 l i).f2.drop j, p.f4.size ≤ 5000) ∧ fewFrom l (i + 1)) := by
  intro d
  induction d with
  | zero =>
    intro j hj
    obtain ⟨r, hr, h⟩ := hnext
    refine ⟨r, Ev.step (fun k => ?_) hr, fun hh => ⟨?_, h hh⟩⟩
    · simp only [clarionlaw20_few.l1]
      rw [if_pos (by omega), if_pos (by omega), if_neg (by omega)]
      have e : wrap64 ((i : Int) + 1) = ((i + 1 : Nat) : Int) := by unfold wrap64; omega
      rw [e]
    · rw [List.drop_of_length_le (by omega)]; simp
  | succ d ih =>
    intro j hj
    have e1 : wrap64 ((j : Int) + 1) = ((j + 1 : Nat) : Int) := by unfold wrap64; omega
    have hget : rd_T50 (rd_T45 l i).f2 j = (rd_T45 l i).f2[j]'(by omega) := by
      unfold rd_T50
      rw [List.getD_eq_getElem?_getD, List.getElem?_eq_getElem (by simp; omega)]
      rfl
    by_cases h5 : ((rd_T50 (rd_T45 l i).f2 j).f4.size : Int) > 5000
    · refine ⟨false, ⟨1, fun k hk => ?_⟩, fun h => by cases h⟩
      obtain ⟨k, rfl⟩ : ∃ m, k = m + 1 := ⟨k - 1, by omega⟩
      simp only [clarionlaw20_few.l1]
      rw [if_pos (by omega), if_pos (by omega), if_pos (by omega), if_pos (by omega), if_pos h5]
    · obtain ⟨r, hr, h⟩ := ih (j + 1) (by omega)
      refine ⟨r, Ev.step (fun k => ?_) hr, fun hh => ⟨?_, (h hh).2⟩⟩
      · simp only [clarionlaw20_few.l1]
        rw [if_pos (by omega), if_pos (by omega), if_pos (by omega), if_pos (by omega), if_neg h5, e1]
      · rw [List.drop_eq_getElem_cons (show j < (rd_T45 l i).f2.length by omega)]
        intro p hp
        rcases List.mem_cons.1 hp with rfl | hp
        · rw [← hget]; omega
        · exact (h hh).1 p hp
theorem few_l0 (l : List S45) (hl : l.length ≤ 9223372036854775807) : ∀ (d i : Nat), i + d = l.length → ∃ r, Ev (fun k => clarionlaw20_few.l0 k l i) r ∧ (r = true → fewFrom l i) := by
  intro d
  induction d with
  | zero =>
    intro i hi
    refine ⟨decide ((l.length : Int) ≤ 8), ⟨1, fun k hk => ?_⟩, fun h => ?_⟩
    · obtain ⟨k, rfl⟩ : ∃ m, k = m + 1 := ⟨k - 1, by omega⟩
      simp only [clarionlaw20_few.l0]
      rw [if_neg (by omega)]
    · have := of_decide_eq_true h
      refine ⟨by omega, ?_⟩
      rw [List.drop_of_length_le (by omega)]; simp
  | succ d ih =>
    intro i hi
    have hget : rd_T45 l i = l[i]'(by omega) := by
      unfold rd_T45
      rw [List.getD_eq_getElem?_getD, List.getElem?_eq_getElem (by simp; omega)]
      rfl
    have bad : ∃ r, Ev (fun k => clarionlaw20_few.j1 k l i true) r ∧ (r = true → fewFrom l i) := by
      refine ⟨false, ⟨1, fun k hk => ?_⟩, fun h => by cases h⟩
      obtain ⟨k, rfl⟩ : ∃ m, k = m + 1 := ⟨k - 1, by omega⟩
      simp only [clarionlaw20_few.j1, if_true]
    by_cases h8 : ((rd_T45 l i).f2.length : Int) > 8
    · obtain ⟨r, hr, h⟩ := bad
      refine ⟨r, Ev.step (fun k => ?_) hr, h⟩
      simp only [clarionlaw20_few.l0]
      rw [if_pos (by omega), if_pos (by omega), if_pos h8]
    · have good : ((rd_T45 l i).f1 ≤ 300 ∨ 1048570 ≤ (rd_T45 l i).f1) → ∃ r, Ev (fun k => clarionlaw20_few.j1 k l i false) r ∧ (r = true → fewFrom l i) := by
        intro hat
        obtain ⟨r, hr, h⟩ := few_l1 l hl i (by omega) (by omega) (ih (i + 1) (by omega)) (rd_T45 l i).f2.length 0 (by omega)
        refine ⟨r, Ev.step (fun k => ?_) hr, fun hh => ?_⟩
        · simp only [clarionlaw20_few.j1]
          rw [if_neg (by simp)]
          rfl
        · obtain ⟨g1, g2, g3⟩ := h hh
          refine ⟨g2, ?_⟩
          rw [List.drop_eq_getElem_cons (show i < l.length by omega)]
          intro x hx
          rcases List.mem_cons.1 hx with rfl | hx
          · rw [← hget]; exact ⟨by omega, hat, g1⟩
          · exact g3 x hx
      by_cases h300 : (rd_T45 l i).f1 > 300
      · by_cases hlt : (rd_T45 l i).f1 < 1048570
        · obtain ⟨r, hr, h⟩ := bad
          refine ⟨r, Ev.step (fun k => ?_) hr, h⟩
          simp only [clarionlaw20_few.l0]
          rw [if_pos (by omega), if_pos (by omega), if_neg h8, if_pos h300, decide_eq_true hlt]
        · obtain ⟨r, hr, h⟩ := good (.inr (by omega))
          refine ⟨r, Ev.step (fun k => ?_) hr, h⟩
          simp only [clarionlaw20_few.l0]
          rw [if_pos (by omega), if_pos (by omega), if_neg h8, if_pos h300, decide_eq_false hlt]
      · obtain ⟨r, hr, h⟩ := good (.inl (by omega))
        refine ⟨r, Ev.step (fun k => ?_) hr, h⟩
        simp only [clarionlaw20_few.l0]
        rw [if_pos (by omega), if_pos (by omega), if_neg h8, if_neg h300]
theorem few_ev (l : List S45) (hl : l.length ≤ 9223372036854775807) : ∃ r, Ev (fun k => clarionlaw20_few.f k l) r ∧ (r = true → fewB l) := by
  obtain ⟨r, hr, h⟩ := few_l0 l hl l.length 0 (by omega)
  exact ⟨r, hr, fun hh => by have := h hh; unfold fewFrom at this; simpa [fewB] using this⟩
theorem same_l0 (l : List ByteArray) (hl : l.length ≤ 1000000000) : ∀ (d i : Nat), i + d = l.length → Ev (fun k => clarionlaw20_same.l0 k l l i) true := by
  intro d
  induction d with
  | zero =>
    intro i hi
    refine ⟨1, fun k hk => ?_⟩
    obtain ⟨k, rfl⟩ : ∃ m, k = m + 1 := ⟨k - 1, by omega⟩
    simp only [clarionlaw20_same.l0]
    rw [if_neg (by omega)]
  | succ d ih =>
    intro i hi
    refine Ev.step (fun k => ?_) (ih (i + 1) (by omega))
    have e1 : wrap64 ((i : Int) + 1) = ((i + 1 : Nat) : Int) := by rw [wrap64_small _ (by omega) (by omega)]; omega
    simp only [clarionlaw20_same.l0, e1]
    rw [if_pos (by omega), if_pos (by omega), if_pos (by omega), if_true]
theorem same_ev (l : List ByteArray) (hl : l.length ≤ 1000000000) : Ev (fun k => clarionlaw20_same.f k l l) true := by
  unfold clarionlaw20_same.f
  simp only [if_true]
  exact same_l0 l hl l.length 0 (by omega)
/-- The example's section. -/
theorem made_awake : ∃ t : ByteArray, t.size = 4 ∧ Ev (fun k => clarionlaw20_made.f k 2 66 0 false ⟨#[]⟩) ((strOfNums [66, 176, 11, 0, 1, 193, 0, 0] ++ strOfNums [0, 1]) ++ t) := by
  obtain ⟨x, hx⟩ := sum05_ev (strOfNums [66, 176, 11, 0, 1, 193, 0, 0] ++ strOfNums [0, 1]) (by rw [ByteArray.size_append, strOfNums_size, strOfNums_size]; simp)
  obtain ⟨t, ht⟩ : ∃ t, clarionref05_Four.f x = some t := ⟨_, rfl⟩
  have h4 : t.size = 4 := by
    unfold clarionref05_Four.f at ht
    injection ht with ht
    rw [← ht, strOfNums_size]; rfl
  refine ⟨t, h4, ?_⟩
  have hz : (strOfNums [66, 176, 11, 0, 1, 193, 0, 0] ++ strOfNums [0, 1]).size = 10 := by rw [ByteArray.size_append, strOfNums_size, strOfNums_size]; rfl
  have hseal : Ev (fun k => clarionref05_Seal.f k (strOfNums [66, 176, 11, 0, 1, 193, 0, 0] ++ strOfNums [0, 1])) ((strOfNums [66, 176, 11, 0, 1, 193, 0, 0] ++ strOfNums [0, 1]) ++ t) := by
    unfold clarionref05_Seal.f
    refine Ev.bind hx ?_
    simp only [ht, Option.bind_some]
    rw [if_pos (by omega)]
    exact Ev.now _
  have hc : (strOfNums [66, 176, 11, 0, 1, 193, 0, 0]).size + (strOfNums [0, 1]).size ≤ 9223372036854775807 := by rw [strOfNums_size, strOfNums_size]; simp
  have m0 : mx 0 (mn 2 4000) = 2 := by unfold mx mn; omega
  unfold clarionlaw20_made.f
  have h0 : (⟨#[]⟩ : ByteArray).toList = [] := by rw [Go.ByteArray.toList_eq]
  simp only [if_pos h0, m0]
  have c1 : (0 : Int) ≤ 2 := by omega
  have c2 : (2 : Int).toNat ≤ 281474976710656 := by decide
  simp only [if_pos c1, if_pos c2]
  have e1 : wrap64 ((0 : Int) + 1) = 1 := by unfold wrap64; omega
  have e2 : wrap64 ((1 : Int) + 1) = 2 := by unfold wrap64; omega
  have l0 : List.replicate (2 : Int).toNat (0 : Int) = [0, 0] := rfl
  rw [l0]
  have i0 : (0 : Int) < (([0, 0] : List Int).length : Int) := by decide
  have i1 : (1 : Int) < (([0, 0] : List Int).length : Int) := by decide
  have i2 : ¬ ((2 : Int) < (([0, 1] : List Int).length : Int)) := by decide
  have z0 : (0 : Int) ≤ 0 := by omega
  have z1 : (0 : Int) ≤ 1 := by omega
  have s0 : ([0, 0] : List Int).set (0 : Int).toNat ((0 + (Int.tmod 0 5) % 256) % 256) = [0, 0] := rfl
  have s1 : ([0, 0] : List Int).set (1 : Int).toNat ((0 + (Int.tmod 1 5) % 256) % 256) = [0, 1] := rfl
  refine Ev.step (f := fun k => clarionlaw20_made.l0 k [0, 0] 1 2 66 0 false ⟨#[]⟩) (fun k => by simp only [clarionlaw20_made.l0]; rw [if_pos i0, if_pos z0, e1, s0]) ?_
  refine Ev.step (f := fun k => clarionlaw20_made.l0 k [0, 1] 2 2 66 0 false ⟨#[]⟩) (fun k => by simp only [clarionlaw20_made.l0]; rw [if_pos i1, if_pos z1, e2, s1]) ?_
  refine Ev.step (f := fun k => (clarionref05_Seal.f k ((strOfNums [66, 176, 11, 0, 1, 193, 0, 0]) ++ (strOfNums [0, 1]))).bind fun t152 => (some t152)) (fun k => ?_) (Ev.bind hseal (Ev.now _))
  simp only [clarionlaw20_made.l0]
  rw [if_neg i2, if_neg (by simp)]
  have hw1 : wrap64 (((([0, 1] : List Int).length : Nat) : Int) + 9) = 11 := by show wrap64 (((2 : Nat) : Int) + 9) = 11; unfold wrap64; omega
  have hw2 : wrap64 (Int.tdiv 11 256) = 0 := by rw [show Int.tdiv 11 256 = 0 from rfl]; unfold wrap64; omega
  have hw3 : wrap64 (176 + 0) = 176 := by unfold wrap64; omega
  have hw4 : (176 : Int) % 256 = 176 := by decide
  have hw5 : (Int.tmod 11 256) % 256 = 11 := by decide
  simp only [hw1, hw2, hw3, hw4, hw5, Option.bind_some]
  rw [if_pos hc]
end Go.Proofs.YthmddhbccifcoaaDoor.Clar
