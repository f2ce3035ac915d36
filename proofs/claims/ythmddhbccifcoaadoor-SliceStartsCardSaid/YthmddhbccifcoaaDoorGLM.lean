/- The law SliceLays, walked. -/
/- The laws' arguments opened: runs of pieces. -/
import Derived.Test.YthmddhbccifcoaaDoorGLI
import Derived.Test.YthmddhbccifcoaaDoorGLJ
import Derived.Test.YthmddhbccifcoaaDoorGLN
import Derived.Test.YthmddhbccifcoaaDoorGLK
import Derived.Test.YthmddhbccifcoaaDoorGLF
import Derived.Deep.Slices
import Derived.Deep.Fields
import Derived.ChangeSame
set_option linter.unusedVariables false
set_option linter.unusedSimpArgs false
namespace Go.Proofs.YthmddhbccifcoaaDoor.Clar
open Go.RowKit Go.Proofs.YthmddhbccifcoaaDoorW.PrintWords Go.Proofs.YthmddhbccifcoaaDoorW.PrintLast Go.Proofs.YthmddhbccifcoaaDoorW.PrintMore Go.Proofs.YthmddhbccifcoaaDoor.PSliceLays

theorem bodies_ok : BodiesOk := fun A c l w hl hc hn hck => bodies_any A c l w hl hc hn hck
/-- What the law asks of the reference's Read. -/
def ReadOk : Prop := ∀ (s : ByteArray) (pid : Int) (ps : List Pk) (w : World) (res : RS × Nat), s = ⟨(ps.flatMap encL).toArray⟩ → (∀ p ∈ ps, pkOk p ∧ p.body.size ≠ 0) → ps.length ≤ 1000 →
  readB pid 0 (-1) 0 ⟨⟨#[]⟩, 0, [], [], []⟩ ps = some res →
  Calls Tryd.prog 12 #[.string s, .int .i64 pid] w fun e w' => ∃ v1 v2 v3, e = .returned (.agg #[v1, v2, v3, .int .i64 res.2, .bool true]) ∧ Below w.heap.size w w' ∧
      w'.ownsRow w.heap.size 9 1 v1 res.1.texts.length (strsOf res.1.texts) ∧ w'.ownsRow w.heap.size 3 1 v2 res.1.slots.length (intsOf res.1.slots) ∧ w'.ownsRow w.heap.size 3 1 v3 res.1.ends.length (intsOf res.1.ends)
theorem drawn_below {w w' : World} (h : Drawn0 w w') : Below w.heap.size w w' := h.below
/-- few, for whoever calls it. -/
theorem few_any (A : Option Addr) (c : Nat) (l : List S45) (w : World) (hr : Kd.C k45 w A l.length l) (hc : l.length ≤ c) (hl : l.length ≤ 9223372036854775807) :
    ∃ r : Bool, (r = true → fewB l) ∧ Calls Tryd.prog 5 #[.slice A l.length c] w fun e w' => e = .returned (.bool r) ∧ Below w.heap.size w w' := by
  obtain ⟨r, ⟨K, hK⟩, h⟩ := few_ev l hl
  exact ⟨r, h, (clarionlaw20_few.calls K A c l r w hr hc (hK K (Nat.le_refl _))).mono fun _ _ hh => ⟨hh.1, drawn_below hh.2⟩⟩
/-- bursts, for whoever calls it. -/
theorem bursts_any (A : Option Addr) (c : Nat) (l : List S45) (w : World) (hr : Kd.C k45 w A l.length l) (hc : l.length ≤ c) (hf : fewB l) :
    ∃ bs : List Br, bs.length = l.length ∧ bs.length ≤ 8 ∧ (∀ b ∈ bs, b.l.length ≤ 8 ∧ ∀ s ∈ b.l, s.size ≤ 5000) ∧ bs.map (fun b => (b.pid, b.at_)) = l.map (fun b => (b.f0, b.f1)) ∧
      Calls Tryd.prog 7 #[.slice A l.length c] w fun e w' => ∃ A' c', e = .returned (.slice A' bs.length c') ∧ bs.length ≤ c' ∧ BAt w' A' bs ∧ Below w.heap.size w w' := by
  obtain ⟨r, ⟨K, hK⟩, h1, h2, h3⟩ := bursts_ev l hf
  refine ⟨r.map brOf, by simp [h1], by simp [h1]; exact hf.1, ?_, ?_, ?_⟩
  · intro b hb
    obtain ⟨x, hx, rfl⟩ := List.mem_map.1 hb
    exact h2 x hx
  · rw [List.map_map, ← h3]; rfl
  · refine (clarionlaw20_bursts.calls K A c l r w hr hc (hK K (Nat.le_refl _))).mono ?_
    rintro e w' ⟨v, rfl, hS, hb⟩
    obtain ⟨A', c', rfl, hl, hB⟩ := bat_of_S hS
    exact ⟨A', c', by rw [List.length_map], by rw [List.length_map]; exact hl, hB, hb⟩
theorem near_any (n : Int) (w : World) : Calls Tryd.prog 9 #[.int .i64 n] w fun e w' => e = .returned (.bool (decide (n < 1000))) ∧ Below w.heap.size w w' :=
  (clarionlaw20_near.calls n _ w rfl).mono fun _ _ hh => ⟨hh.1, drawn_below hh.2⟩
theorem sr_of_own {w : World} {base e n c : Nat} {A : Option Addr} {L : List ByteArray} (h : w.ownsRow base e 1 (.slice A n c) L.length (encs Value.string L)) : n = L.length ∧ SR w A L ∧ L.length ≤ c := by
  obtain ⟨A', c', hv, hr⟩ := own_reads_of (enc := Value.string) (d := ByteArray.empty) h
  injection hv with h1 h2 h3
  subst h1 h2 h3
  exact ⟨rfl, hr, own_le h⟩
theorem same_any (L : List ByteArray) (A1 A2 : Option Addr) (c1 c2 : Nat) (w : World) (h1 : SR w A1 L) (h2 : SR w A2 L) (hc1 : L.length ≤ c1) (hc2 : L.length ≤ c2) (hl : L.length ≤ 1000000000) :
    Calls Tryd.prog 13 #[.slice A1 L.length c1, .slice A2 L.length c2] w fun e w' => e = .returned (.bool true) ∧ Below w.heap.size w w' := by
  obtain ⟨K, hK⟩ := same_ev L hl
  exact (clarionlaw20_same.calls K A1 c1 L A2 c2 L true w (C_of_sr h1) hc1 (C_of_sr h2) hc2 (hK K (Nat.le_refl _))).mono fun _ _ hh => ⟨hh.1, drawn_below hh.2⟩
theorem run_slice_lh2 (W : World) (s : ByteArray) (l h : Int) (h0 : 0 ≤ l) (h1 : l ≤ h) (h2 : h ≤ s.size) : (Instr.slice 9 (.string s) (some (.int .i64 l)) (some (.int .i64 h)) none).run Tryd.prog W = .ok (.string (s.extract l.toNat h.toNat)) W := by
  have ht := Tryd.underlying9
  have eh : (h.toNat : Int) = h := Int.toNat_of_nonneg (by omega)
  simp [Instr.slice, eh, run_underlying ht, Instr.sliceBounds, run_sliceBound, sliced, *, (by omega : 0 ≤ h), (by omega : l ≤ (s.size : Int))]
theorem enc_slice2 (ps : List Pk) (hok : ∀ p ∈ ps, pkOk p) (i : Nat) (p : Pk) (h : ps[i]? = some p) : (⟨(ps.flatMap encL).toArray⟩ : ByteArray).extract (188 * i) (188 * i + 188) = ⟨(encL p).toArray⟩ := by
  refine bytes_eq ?_
  rw [data_extract]
  simp only
  induction ps generalizing i with
  | nil => simp at h
  | cons q ps ih =>
    have hq := encL_length q (hok q (by simp))
    cases i with
    | zero =>
      obtain rfl : q = p := by simpa using h
      simp only [List.flatMap_cons, Nat.mul_zero, Nat.zero_add, List.drop_zero]
      rw [List.take_append_of_le_length (by omega), List.take_of_length_le (by omega)]
    | succ i =>
      have := ih (fun x hx => hok x (by simp [hx])) i (by simpa using h)
      simp only [List.flatMap_cons]
      rw [← this]
      rw [List.take_append, List.take_of_length_le (by omega), hq, show 188 * (i + 1) + 188 - 188 = 188 * i + 188 by omega, List.drop_append, List.drop_of_length_le (by omega), hq, show 188 * (i + 1) - 188 = 188 * i by omega, List.nil_append]
theorem small_of {b : Br} (h : b.l.length ≤ 8 ∧ ∀ s ∈ b.l, s.size ≤ 5000) : b.small := ⟨by omega, fun s hs => by have := h.2 s hs; omega⟩
/-- What stands when Lay has answered: the bursts, the packets, their bytes. -/
structure LaidAt (W : World) (A : Option Addr) (bs : List Br) (en : Nat) (ps : List Pk) (s : ByteArray) : Prop where
  bat : BAt W A bs
  few : bs.length ≤ 8 ∧ ∀ b ∈ bs, b.l.length ≤ 8 ∧ ∀ s ∈ b.l, s.size ≤ 5000
  ok : checkB 0 bs = 0
  pk : ps = layPk 0 (fun _ => 0) bs
  str : s = ⟨(ps.flatMap encL).toArray⟩
  len : ps.length = en
  near : en < 1000
  size : s.size = 188 * en
set_option maxHeartbeats 40000000 in
set_option maxRecDepth 100000 in
theorem sliceLays_any (hRead : ReadOk) (A0 : Option Addr) (c0 : Nat) (l0 : List S45) (w : World) (hr : Kd.C k45 w A0 l0.length l0) (hc : l0.length ≤ c0) (hl : l0.length ≤ 9223372036854775807) (hW : Wd w) :
    Calls Tryd.prog 3 #[.slice A0 l0.length c0] w fun e w' => e = .returned (.bool true) ∧ Below w.heap.size w w' := by
  obtain ⟨fr, hfr, hfew⟩ := few_any A0 c0 l0 w hr hc hl
  have HFEW := Aside0.mk hfew
  have HFR := Aside0.mk hfr
  have HR := Aside0.mk hr
  have HC := Aside0.mk hc
  have HW := Aside0.mk hW
  have HREAD := Aside0.mk hRead
  have HAW := Aside0.mk awake_any
  clear hfr hfew hr hc hW hRead hl
  go_enter Tryd.func3, Tryd.ntmps3
  go_wp2_with (fail)
  refine HFEW.out.mono ?_
  rintro e w1 ⟨rfl, hb1⟩
  have HB1 := Aside0.mk hb1
  clear hb1 HFEW
  cases fr with
  | false =>
    go_wp2_with (fail)
    refine (HAW.out _).mono ?_
    rintro e w2 ⟨rfl, hb2⟩
    have HB2 : Aside0 (Below w.heap.size w w2) := ⟨below_then2 HB1.out hb2 HB1.out.size⟩
    clear hb2
    go_wp2_with (fail)
    go_ret
    exact ⟨rfl, HB2.out⟩
  | true =>
    obtain ⟨bs, k1, k2, k3, k4, hbu⟩ := bursts_any A0 c0 l0 w1 (Kd.C_below HR.out HB1.out) HC.out (HFR.out rfl)
    have HBU := Aside0.mk hbu
    have HK3 := Aside0.mk k3
    clear hbu k1 k3 k4 HFR HR HC
    go_wp2_with (fail)
    refine HBU.out.mono ?_
    rintro e w2 ⟨A, c, rfl, hcb, hbat, hb2⟩
    have HBAT := Aside0.mk hbat
    have HB2 : Aside0 (Below w.heap.size w w2) := ⟨below_then2 HB1.out hb2 HB1.out.size⟩
    have HW2 := Aside0.mk (HW.out.below HB2.out)
    have hsm : ∀ b ∈ bs, b.small := fun b hb => small_of (HK3.out b hb)
    have HSM := Aside0.mk hsm
    clear hb2 hbat HBU HB1 HW hsm
    obtain ⟨ck, hck⟩ : ∃ ck, checkB 0 bs = ck := ⟨_, rfl⟩
    obtain ⟨en, hen⟩ : ∃ en, (if checkB 0 bs = 0 then endB 0 bs else 0) = en := ⟨_, rfl⟩
    have hwr := wrong_any bodies_ok A c bs w2 HBAT.out (by omega) HSM.out
    rw [hen, hck] at hwr
    rw [hck] at hen
    have HWR := Aside0.mk hwr
    have HCK := Aside0.mk hck
    have HEN := Aside0.mk hen
    clear hwr hck hen
    go_wp2_with (fail)
    refine HWR.out.mono ?_
    rintro e w3 ⟨rfl, hb3⟩
    have HBAT3 := Aside0.mk (HBAT.out.below hb3)
    have HB3 : Aside0 (Below w.heap.size w w3) := ⟨below_then2 HB2.out hb3 HB2.out.size⟩
    have HW3 := Aside0.mk (HW2.out.below hb3)
    clear hb3 HBAT HB2 HW2 HWR
    dsimp only
    by_cases hz : ck = 0
    · subst hz
      have hll := lay_length bs 0 (fun _ => 0) HCK.out
      rw [if_pos rfl] at HEN
      obtain ⟨ps, hps⟩ : ∃ ps, layPk 0 (fun _ => 0) bs = ps := ⟨_, rfl⟩
      rw [hps] at hll
      have hlen : (ps.length : Int) = en := by rw [← HEN.out]; have h1 := hll.1; have h2 : ((0 : Nat) : Int) = 0 := rfl; rw [h2] at h1; omega
      have HTOT : Aside0 ((ps.filter fun p => p.pid == 8191).length + totalOf bs = ps.length) := ⟨hll.2⟩
      have HPS := Aside0.mk hps
      clear hll hps
      subst hlen
      by_cases hnear : ps.length < 1000
      · have hnd : decide ((ps.length : Int) < 1000) = true := by simp; omega
        go_wp2_with (fail)
        refine (near_any _ _).mono ?_
        rintro e w4 ⟨rfl, hb4⟩
        rw [hnd]
        have HBAT4 := Aside0.mk (HBAT3.out.below hb4)
        have HB4 : Aside0 (Below w.heap.size w w4) := ⟨below_then2 HB3.out hb4 HB3.out.size⟩
        have HW4 := Aside0.mk (HW3.out.below hb4)
        clear hb4 HBAT3 HB3 HW3
        have hlay := lay_any A c bs w4 HBAT4.out (by omega) HSM.out HW4.out
        rw [if_pos HCK.out, HPS.out, HCK.out] at hlay
        obtain ⟨s, hs⟩ : ∃ s : ByteArray, (⟨(ps.flatMap encL).toArray⟩ : ByteArray) = s := ⟨_, rfl⟩
        rw [hs] at hlay
        have HLAY := Aside0.mk hlay
        have HS := Aside0.mk hs
        clear hlay hs
        go_wp2_with (fail)
        refine HLAY.out.mono ?_
        rintro e w5 ⟨rfl, hb5⟩
        have HBAT5 := Aside0.mk (HBAT4.out.below hb5)
        have HB5 : Aside0 (Below w.heap.size w w5) := ⟨below_then2 HB4.out hb5 HB4.out.size⟩
        clear hb5 HBAT4 HB4 HW4 HLAY
        have hok := lay_ok bs 0 (fun _ => 0) (fun _ => by omega) HCK.out
        rw [HPS.out] at hok
        have hsz : s.size = 188 * ps.length := by
          rw [← HS.out]; show (List.toArray _).size = _
          rw [List.size_toArray, encs_length ps (fun p hp => (hok p hp).1)]
        have HOK := Aside0.mk hok
        clear hok
        have hnz : ((s.size : Int) != 188 * (ps.length : Int)) = false := by simp; omega
        have htl : totalOf bs ≤ ps.length := by have := HTOT.out; omega
        have HBW : Aside0 (w.heap.size ≤ w5.heap.size) := ⟨HB5.out.size⟩
        dsimp only
        go_wp2_with (fail)
        obtain ⟨kk, hkk⟩ : ∃ kk, bs.length = kk := ⟨_, rfl⟩
        have HKK := Aside0.mk hkk
        clear hkk
        go_loopg [8, 9] kk (fun kq u i w' => ∃ k us : Nat, u = .int .i64 us ∧ i = .int .i64 k ∧ k + kq = bs.length ∧ us ≤ 1000 ∧ Aside0 (us = sumWhere (fun b => (bs.take k).any fun y => y.pid == b.pid) bs) ∧ Aside0 (Below w5.heap.size w5 w'))
        case atStart => exact ⟨0, 0, rfl, rfl, by have := HKK.out; omega, by omega, ⟨(where_none bs).symm⟩, ⟨Below.refl _ _⟩⟩
        case round =>
          obtain ⟨k, us, rfl, rfl, hk, hus, HUS, HBE⟩ := hrel
          by_cases hlt : k < bs.length
          · obtain ⟨bi, hbi⟩ : ∃ b, bs[k]? = some b := ⟨bs[k], List.getElem?_eq_getElem hlt⟩
            have HBI := Aside0.mk hbi
            clear hbi
            obtain ⟨go, rfl⟩ : ∃ g, g = gk := ⟨_, rfl⟩
            go_wp2_with (fail)
            go_loopg [10, 11] k (fun kq f j w' => ∃ (m : Nat) (fb : Bool), f = .bool fb ∧ j = .int .i64 m ∧ m + kq = k ∧ Aside0 (fb = !(bs.take m).any (fun y => y.pid == bi.pid)) ∧ Aside0 (Below w5.heap.size w5 w'))
            case atStart => exact ⟨0, true, rfl, rfl, by omega, ⟨by simp⟩, HBE⟩
            case round =>
              obtain ⟨m, fb, rfl, rfl, hm, HFB, HBM⟩ := hrel
              by_cases hmk : m < k
              · obtain ⟨bm, hbm⟩ : ∃ b, bs[m]? = some b := ⟨bs[m]'(by omega), List.getElem?_eq_getElem (by omega)⟩
                obtain ⟨g, S, cs, hA, hg, h1, _, _, _, _⟩ := (HBAT5.out.below HBM.out) m bm hbm
                subst hA
                obtain ⟨g', S', cs', hA', _, h1', _, _, _, _⟩ := (HBAT5.out.below HBM.out) k bi HBI.out
                injection hA' with hA'
                injection hA' with hA' _ _
                subst hA'
                have HN : Aside0 ((bs.take (m + 1)).any (fun y => y.pid == bi.pid) = ((bs.take m).any (fun y => y.pid == bi.pid) || bm.pid == bi.pid)) := ⟨by rw [List.take_add_one, hbm]; simp⟩
                obtain ⟨g1, rfl⟩ : ∃ g1, gk = g1 + 1 := ⟨gk - 1, by omega⟩
                clear hbm
                have HN2 := Aside0.mk (first_step HFB.out HN.out)
                clear HN HFB
                cases fb with
                | false =>
                  go_wp2_with (fail)
                  go_quiet (fail)
                  have HBM2 : Aside0 (Below w5.heap.size w5 (wr.drewN nq)) := ⟨pw_below_drewN HBM.out nq⟩
                  clear HBM h1 h1'
                  go_wp2_with (fail)
                  go_roundg g1
                  case measure => omega
                  case rel => exact ⟨m + 1, false, rfl, by go_num, by omega, ⟨by rw [← HN2.out]; rfl⟩, HBM2⟩
                | true =>
                  by_cases hp : bm.pid = bi.pid
                  · have e1 : (bm.pid != bi.pid) = false := by simp [hp]
                    have HP := Aside0.mk hp
                    clear hp
                    go_wp2_with (fail)
                    go_quiet (fail)
                    have HBM2 : Aside0 (Below w5.heap.size w5 (wr.drewN nq)) := ⟨pw_below_drewN HBM.out nq⟩
                    clear HBM h1 h1'
                    go_wp2_with (fail)
                    go_roundg g1
                    case measure => omega
                    case rel => exact ⟨m + 1, false, rfl, by go_num, by omega, ⟨by rw [← HN2.out]; simp [HP.out]⟩, HBM2⟩
                  · have e1 : (bm.pid != bi.pid) = true := by simpa using hp
                    have HP := Aside0.mk hp
                    clear hp
                    go_wp2_with (fail)
                    go_quiet (fail)
                    have HBM2 : Aside0 (Below w5.heap.size w5 (wr.drewN nq)) := ⟨pw_below_drewN HBM.out nq⟩
                    clear HBM h1 h1'
                    go_wp2_with (fail)
                    go_roundg g1
                    case measure => omega
                    case rel => exact ⟨m + 1, true, rfl, by go_num, by omega, ⟨by rw [← HN2.out]; have := HP.out; simp [this]⟩, HBM2⟩
              · obtain rfl : m = k := by omega
                cases fb with
                | false =>
                  have HU2 : Aside0 (us = sumWhere (fun b => (bs.take (m + 1)).any fun y => y.pid == b.pid) bs) := ⟨by
                    rw [HUS.out, List.take_add_one, HBI.out]
                    have hx : ∃ y ∈ bs.take m, y.pid = bi.pid := by
                      have := HFB.out
                      have h2 : (bs.take m).any (fun y => y.pid == bi.pid) = true := by simpa using this
                      obtain ⟨y, hy, hyb⟩ := List.any_eq_true.1 h2
                      exact ⟨y, hy, by simpa using hyb⟩
                    exact (seen_same bs (bs.take m) bi hx).symm⟩
                  clear HFB HUS
                  go_wp2_with (fail)
                  go_roundg (go - 1)
                  case measure => omega
                  case rel => exact ⟨m + 1, us, rfl, by go_num, by omega, hus, HU2, HBM⟩
                | true =>
                  have hnone : ∀ y ∈ bs.take m, y.pid ≠ bi.pid := by
                    intro y hy h
                    have := HFB.out
                    have h2 : (bs.take m).any (fun y => y.pid == bi.pid) = false := by simpa using this
                    have h3 := List.any_eq_false.1 h2 y hy
                    exact h3 (by simpa using h)
                  obtain ⟨hw0, hu0⟩ := want_none bi.pid (bs.take m) hnone
                  have HU2 : Aside0 (us + usedOf bi.pid bs = sumWhere (fun b => (bs.take (m + 1)).any fun y => y.pid == b.pid) bs) := ⟨by
                    rw [HUS.out, List.take_add_one, HBI.out]
                    exact (seen_step bs (bs.take m) bi hnone).symm⟩
                  have HW0 := Aside0.mk hw0
                  have HU0 := Aside0.mk hu0
                  clear HFB hnone hw0 hu0
                  go_wp2_with (fail)
                  go_loopg [12, 13, 14] go (fun kq v n j w' => ∃ (q nn : Nat) (L : List ByteArray) (A' : Option Addr) (c' : Nat), v = .slice A' L.length c' ∧ n = .int .i64 nn ∧ j = .int .i64 q ∧ q + kq = bs.length ∧ nn ≤ 1000 ∧ L.length ≤ 64 ∧ Aside0 (nn = usedOf bi.pid (bs.take q)) ∧ Aside0 (L = wantOf bi.pid (bs.take q)) ∧ Aside0 (w'.ownsRow w5.heap.size 9 1 (.slice A' L.length c') L.length (encs Value.string L)) ∧ Aside0 (Below w5.heap.size w5 w'))
                  case atStart => exact ⟨m, 0, [], none, 0, rfl, rfl, rfl, hk, by omega, by simp, ⟨HU0.out.symm⟩, ⟨HW0.out.symm⟩, ⟨own_nil _ _ _ _⟩, HBM⟩
                  case round =>
                    obtain ⟨q, nn, L, A', c', rfl, rfl, rfl, hq, hnn, hL, HNN, HL, HROW, HBQ⟩ := hrel
                    clear HBM HW0 HU0 HBE
                    by_cases hqk : q < bs.length
                    · obtain ⟨bq, hbq⟩ : ∃ b, bs[q]? = some b := ⟨bs[q]'(by omega), List.getElem?_eq_getElem (by omega)⟩
                      obtain ⟨g, S, cs, hA, hg, h1, h2, h3, h4, h5⟩ := (HBAT5.out.below HBQ.out) q bq hbq
                      subst hA
                      obtain ⟨g', S', cs', hA', _, h1', _, _, _, _⟩ := (HBAT5.out.below HBQ.out) m bi HBI.out
                      injection hA' with hA'
                      injection hA' with hA' _ _
                      subst hA'
                      obtain ⟨hws, hus2⟩ := want_step bi.pid bs q bq hbq
                      have hmem := List.mem_of_getElem? hbq
                      obtain ⟨hmo, _⟩ := manyOf_ok 0 bs HCK.out bq hmem
                      have hb8 := (HK3.out bq hmem).1
                      have hul : usedOf bi.pid (bs.take (q + 1)) ≤ 1000 := by
                        have := used_take_le bi.pid bs (q + 1)
                        omega
                      have hll : (wantOf bi.pid (bs.take (q + 1))).length ≤ 64 := by
                        have := want_len bi.pid (bs.take (q + 1)) 8 (fun b hb => (HK3.out b (List.mem_of_mem_take hb)).1)
                        have h8 := List.length_take_le (q + 1) bs
                        have h9 : (bs.take (q + 1)).length ≤ 8 := by rw [List.length_take]; omega
                        have : 8 * (bs.take (q + 1)).length ≤ 8 * 8 := Nat.mul_le_mul_left 8 h9
                        omega
                      have HWS := Aside0.mk hws
                      have HUS2 := Aside0.mk hus2
                      have HMO := Aside0.mk hmo
                      have HUL := Aside0.mk hul
                      have HLL := Aside0.mk hll
                      have H5 := Aside0.mk h5
                      obtain ⟨g1, rfl⟩ : ∃ g1, gk = g1 + 1 := ⟨gk - 1, by omega⟩
                      have HBQ0 := Aside0.mk hbq
                      clear hws hus2 hmo hul hll h5 hbq
                      by_cases hp : bq.pid = bi.pid
                      · have e1 : (bq.pid == bi.pid) = true := by simpa using hp
                        have HP := Aside0.mk hp
                        clear hp
                        go_wp2_with (fail)
                        go_quiet (fail)
                        obtain ⟨W2, hW2⟩ : ∃ W2, wr.drewN nq = W2 := ⟨_, rfl⟩
                        have hx : Below w5.heap.size w5 W2 ∧ W2.cell? ⟨g, q * 3 + 2, none⟩ = some (.slice S bq.l.length cs) ∧ SR W2 S bq.l ∧ W2.ownsRow w5.heap.size 9 1 (.slice A' L.length c') L.length (encs Value.string L) := by
                          rw [← hW2]
                          exact ⟨pw_below_drewN HBQ.out nq, h3, ReadsOf.drewN H5.out _, pw_own_below HROW.out (pw_below_drewN (Below.refl _ _) nq)⟩
                        rw [hW2]
                        clear h1 h1' h2 h3 hW2 HBQ H5 HROW
                        obtain ⟨x1, h3, x3, x4⟩ := hx
                        have HBQ := Aside0.mk x1
                        have H5 := Aside0.mk x3
                        have HROW := Aside0.mk x4
                        clear x1 x3 x4
                        go_wp2_with (at_builtin; refine print_append_row_of (w0 := w5) Value.string ByteArray.empty w5.heap.size rfl _ _ 33 9 (.string ⟨#[]⟩) 16 rfl Tryd.underlying33 infoStr rfl (by decide) (fun _ => rfl) (.slice A' L.length c') L bq.l S bq.l.length cs rfl rfl HROW.out H5.out HBQ.out HBQ.out.size ?e1 ?_)
                        case e1 => omega
                        intro v1 w6 hr1 hb6 hg6 _
                        obtain ⟨L2, hL2⟩ : ∃ L2, L ++ bq.l = L2 := ⟨_, rfl⟩
                        replace hr1 : w6.ownsRow w5.heap.size 9 1 v1 L2.length (encs Value.string L2) := by rw [← hL2]; simpa [encs] using hr1
                        obtain ⟨A1, c1, rfl⟩ := own_len hr1
                        have HLC := Aside0.mk hL2
                        clear hL2
                        obtain ⟨g2, S2, cs2, hA2, _, _, _, h32, h42, h52⟩ := (HBAT5.out.below hb6) q bq HBQ0.out
                        injection hA2 with hA2
                        injection hA2 with hA2 _ _
                        subst hA2
                        have HROW6 := Aside0.mk hr1
                        have HBQ6 := Aside0.mk hb6
                        have H52 := Aside0.mk h52
                        clear hr1 hb6 hg6 HROW HBQ H5 h3 h52
                        go_wp2_with (fail)
                        refine (lawMany_any bodies_ok S2 cs2 bq.l w6 H52.out h42 (by omega)).mono ?_
                        rintro e w7 ⟨rfl, hb7⟩
                        rw [HMO.out]
                        have HROW7 := Aside0.mk (pw_own_below HROW6.out hb7)
                        have HBQ7 : Aside0 (Below w5.heap.size w5 w7) := ⟨below_then2 HBQ6.out hb7 HBQ6.out.size⟩
                        clear hb7 HROW6 HBQ6 H52 h32
                        have hL2 := HLC.out
                        obtain ⟨mq, hmq⟩ : ∃ mq, (packF bq.l).length = mq := ⟨_, rfl⟩
                        have hnl : nn + mq ≤ 1000 := by
                          have h1 := HUL.out
                          rw [HUS2.out, if_pos HP.out, ← HNN.out, hmq] at h1
                          exact h1
                        have hll2 : L2.length ≤ 64 := by
                          have h1 := HLL.out
                          rw [HWS.out, if_pos HP.out, ← HL.out, hL2] at h1
                          exact h1
                        dsimp only
                        rw [hmq]
                        have HN2 : Aside0 (nn + mq = usedOf bi.pid (bs.take (q + 1))) := ⟨by rw [HUS2.out, if_pos HP.out, ← HNN.out, hmq]⟩
                        have HL2 : Aside0 (L2 = wantOf bi.pid (bs.take (q + 1))) := ⟨by rw [HWS.out, if_pos HP.out, ← HL.out, hL2]⟩
                        clear hmq hL2
                        go_wp2_with (fail)
                        go_roundg g1
                        case measure => omega
                        case rel => exact ⟨q + 1, nn + mq, L2, A1, c1, rfl, by go_num, by go_num, by omega, hnl, hll2, HN2, HL2, HROW7, HBQ7⟩
                      · have e1 : (bq.pid == bi.pid) = false := by simpa using hp
                        have HP := Aside0.mk hp
                        clear hp
                        go_wp2_with (fail)
                        go_quiet (fail)
                        have HBQ2 : Aside0 (Below w5.heap.size w5 (wr.drewN nq)) := ⟨pw_below_drewN HBQ.out nq⟩
                        have HROW2 : Aside0 ((wr.drewN nq).ownsRow w5.heap.size 9 1 (.slice A' L.length c') L.length (encs Value.string L)) := ⟨pw_own_below HROW.out (pw_below_drewN (Below.refl _ _) nq)⟩
                        clear HBQ h1 h1' h2 h3 HROW
                        go_wp2_with (fail)
                        go_roundg g1
                        case measure => omega
                        case rel => exact ⟨q + 1, nn, L, A', c', rfl, rfl, by go_num, by omega, hnn, hL, ⟨by rw [HUS2.out, if_neg HP.out, HNN.out]; rfl⟩, ⟨by rw [HWS.out, if_neg HP.out, List.append_nil, HL.out]⟩, HROW2, HBQ2⟩
                    · obtain rfl : q = bs.length := by omega
                      have htk : bs.take bs.length = bs := List.take_length
                      have HNN2 : Aside0 (nn = usedOf bi.pid bs) := ⟨by rw [HNN.out, htk]⟩
                      have HL2 : Aside0 (L = wantOf bi.pid bs) := ⟨by rw [HL.out, htk]⟩
                      obtain ⟨g, S, cs, hA, hg, h1, _, _, _, _⟩ := (HBAT5.out.below HBQ.out) m bi HBI.out
                      subst hA
                      have hpid : bi.pid < 8191 := by
                        have := (manyOf_ok 0 bs HCK.out bi (List.mem_of_getElem? HBI.out)).2
                        simp [rightB] at this; omega
                      obtain ⟨s2, hs2, hs3⟩ := read_all bi.pid hpid bs HCK.out (fun b hb => by have := (HK3.out b hb).1; omega)
                      rw [HPS.out, ← HNN2.out] at hs2
                      rw [← HL2.out] at hs3
                      have hrd := HREAD.out s bi.pid ps wr (s2, nn) HS.out.symm (fun p hp => ⟨(HOK.out p hp).1, (HOK.out p hp).2.1⟩) (by omega) hs2
                      dsimp only at hrd
                      rw [hs3] at hrd
                      have HRD := Aside0.mk hrd
                      clear htk hs2 hs3 hrd HNN HL
                      go_wp2_with (fail)
                      refine HRD.out.mono ?_
                      rintro e w6 ⟨v1, v2, v3, rfl, hb6, ho1, ho2, ho3⟩
                      have ho1' : w6.ownsRow wr.heap.size 9 1 v1 L.length (encs Value.string L) := ho1
                      obtain ⟨A1, c1, rfl⟩ := own_len ho1
                      obtain ⟨A2, c2, rfl⟩ := own_len ho2
                      obtain ⟨A3, c3, rfl⟩ := own_len ho3
                      have HB6 : Aside0 (Below w5.heap.size w5 w6) := ⟨below_then2 HBQ.out hb6 HBQ.out.size⟩
                      have HR6 := Aside0.mk (pw_own_below HROW.out hb6)
                      have HO1 := Aside0.mk ho1'
                      clear hb6 ho1 ho2 ho3 ho1' h1 HROW HBQ HRD
                      dsimp only
                      obtain ⟨_, hs1, hc1⟩ := sr_of_own HO1.out
                      obtain ⟨_, hs2, hc2⟩ := sr_of_own HR6.out
                      have HSA := Aside0.mk hs1
                      have HSB := Aside0.mk hs2
                      have hne : ((nn : Int) != (nn : Int)) = false := by simp
                      have hul : us + nn ≤ 1000 := by
                        have h1 := HU2.out
                        rw [← HNN2.out] at h1
                        have h2 := where_le (fun b => (bs.take (m + 1)).any fun y => y.pid == b.pid) bs
                        omega
                      have HU3 : Aside0 (us + nn = sumWhere (fun b => (bs.take (m + 1)).any fun y => y.pid == b.pid) bs) := ⟨by rw [← HU2.out, ← HNN2.out]⟩
                      clear hs1 hs2 HU2 HUS
                      go_wp2_with (fail)
                      refine (same_any L A1 A' c1 c' _ (ReadsOf.allocS HSA.out _) (ReadsOf.allocS HSB.out _) hc1 hc2 (by omega)).mono ?_
                      rintro e w8 ⟨rfl, hb8⟩
                      have HB8 : Aside0 (Below w5.heap.size w5 w8) := ⟨below_then2 (HB6.out.alloc HB6.out.size _) hb8 (Nat.le_trans HB6.out.size (by simp))⟩
                      clear hb8 HB6 HR6 HO1 HSA HSB
                      go_wp2_with (fail)
                      go_roundg (go - 1)
                      case measure => omega
                      case rel => exact ⟨m + 1, us + nn, by go_num, by go_num, by omega, hul, HU3, HB8⟩
          · obtain rfl : k = bs.length := by omega
            have htk : bs.take bs.length = bs := List.take_length
            have HUT : Aside0 (us = totalOf bs) := ⟨by rw [HUS.out, htk, seen_all]⟩
            have hmk : ∀ W : World, (Instr.makeSlice 42 (.int .i64 188) (.int .i64 188)).run Tryd.prog W = .ok (.slice (some ⟨W.heap.size, 0, none⟩) 188 188) (W.alloc (.cells (madeCells #[.int .u8 0] 188) 5)) := fun W => print_make_of 42 5 (.int .u8 0) 1 Tryd.underlying42 infoU8 rfl (by decide) 188 (by decide) W
            have hown := own_made_of (enc := Value.int .u8) (d := 0) wr w.heap.size 5 188 (by have := HBE.out.size; have := HBW.out; omega) (by omega)
            have HBX : Aside0 (Below w.heap.size w (wr.alloc (.cells (madeCells #[.int .u8 0] 188) 5))) := ⟨(below_then2 HB5.out HBE.out HB5.out.size).alloc (by have := HBE.out.size; have := HBW.out; omega) _⟩
            have HOWN := Aside0.mk hown
            have hgb : w.heap.size ≤ wr.heap.size := by have := HBE.out.size; have := HBW.out; omega
            clear HUS htk hown HBE HB5
            go_wp2_with (fail)
            obtain ⟨W6, hW6⟩ : ∃ W6, wr.alloc (.cells (madeCells #[.int .u8 0] 188) 5) = W6 := ⟨_, rfl⟩
            obtain ⟨g, hg⟩ : ∃ g, wr.heap.size = g := ⟨_, rfl⟩
            rw [hW6] at HOWN HBX ⊢
            rw [hg] at HOWN hgb ⊢
            clear hW6 hg hmk
            go_loopg [19] 188 (fun kq i w' => ∃ k : Nat, i = .int .i64 k ∧ k + kq = 188 ∧ Aside0 (w'.ownsRow w.heap.size 5 1 (.slice (some ⟨g, 0, none⟩) 188 188) 188 (encs (Value.int .u8) (List.replicate k 255 ++ List.replicate (188 - k) 0))) ∧ Aside0 (Below w.heap.size w w'))
            case atStart => exact ⟨0, rfl, rfl, HOWN, HBX⟩
            case round =>
              obtain ⟨k, rfl, hk, HOK1, HBK⟩ := hrel
              by_cases hlt : k < 188
              · obtain ⟨hcell, hfz⟩ := own_at_of (d := (0 : Int)) HOK1.out (k : Int) (by omega) (by omega)
                obtain ⟨hst, _⟩ := own_store_of HOK1.out (k : Int) 255
                have hset : (List.replicate k (255 : Int) ++ List.replicate (188 - k) 0).set ((k : Nat) : Int).toNat 255 = List.replicate (k + 1) 255 ++ List.replicate (188 - (k + 1)) 0 := by
                  rw [show ((k : Nat) : Int).toNat = k from rfl, List.set_append_right _ _ (by simp), List.length_replicate, Nat.sub_self, show 188 - k = (188 - (k + 1)) + 1 by omega, List.replicate_succ, List.set_cons_zero, List.replicate_succ', List.append_assoc]
                  rfl
                rw [hset] at hst
                rw [show ((k : Nat) : Int).toNat = k from rfl] at hst hcell hfz
                have HST := Aside0.mk hst
                have HBK2 : Aside0 (Below w.heap.size w (wr.setCell ⟨g, k, none⟩ (.int .u8 255))) := ⟨HBK.out.setCell (by show w.heap.size ≤ g; omega) _⟩
                obtain ⟨g1, rfl⟩ : ∃ g1, gk = g1 + 1 := ⟨gk - 1, by omega⟩
                clear hst hset
                go_wp2_with (fail)
                go_roundg g1
                case measure => omega
                case rel => exact ⟨k + 1, by go_num, by omega, HST, HBK2⟩
              · obtain rfl : k = 188 := by omega
                obtain ⟨hcell0, hfz0⟩ := own_at_of (d := (0 : Int)) HOK1.out 0 (by omega) (by omega)
                obtain ⟨hst0, _⟩ := own_store_of HOK1.out 0 71
                obtain ⟨hcell1, hfz1⟩ := own_at_of (d := (0 : Int)) hst0 1 (by omega) (by omega)
                obtain ⟨hst1, _⟩ := own_store_of hst0 1 31
                obtain ⟨hcell3, hfz3⟩ := own_at_of (d := (0 : Int)) hst1 3 (by omega) (by omega)
                obtain ⟨hst3, _⟩ := own_store_of hst1 3 16
                have e0 : (0 : Int).toNat = 0 := rfl
                have e1 : (1 : Int).toNat = 1 := rfl
                have e3 : (3 : Int).toNat = 3 := rfl
                rw [e0] at hcell0 hfz0 hcell1 hfz1 hcell3 hfz3 hst3
                rw [e1] at hcell1 hfz1 hcell3 hfz3 hst3
                rw [e3] at hcell3 hfz3 hst3
                have hls : (((List.replicate 188 (255 : Int) ++ List.replicate (188 - 188) 0).set 0 71).set 1 31).set 3 16 = 71 :: 31 :: 255 :: 16 :: List.replicate 184 255 := rfl
                rw [hls] at hst3
                have hconv := own_string (src := 42) (dst := 9) Tryd.underlying42 Tryd.underlying5 Tryd.underlying9 (show _ from hst3)
                have HST := Aside0.mk hst3
                have HBK2 : Aside0 (Below w.heap.size w (((wr.setCell ⟨g, 0, none⟩ (.int .u8 71)).setCell ⟨g, 1, none⟩ (.int .u8 31)).setCell ⟨g, 3, none⟩ (.int .u8 16))) := ⟨((HBK.out.setCell (by show w.heap.size ≤ g; omega) _).setCell (by show w.heap.size ≤ g; omega) _).setCell (by show w.heap.size ≤ g; omega) _⟩
                clear e0 e1 e3 hls hst0 hst1 hst3 hconv HOK1 HBK
                go_upto_region 43 with fail
                obtain ⟨W7, hW7⟩ : ∃ W7, ((wr.setCell ⟨g, 0, none⟩ (.int .u8 71)).setCell ⟨g, 1, none⟩ (.int .u8 31)).setCell ⟨g, 3, none⟩ (.int .u8 16) = W7 := ⟨_, rfl⟩
                obtain ⟨emp, hemp⟩ : ∃ emp, strOfNums (71 :: 31 :: 255 :: 16 :: List.replicate 184 255) = emp := ⟨_, rfl⟩
                have HEMP : Aside0 (emp.data.toList = emptyL) := ⟨by rw [← hemp, strOfNums_data, emptyL_eq]; rfl⟩
                have HES := Aside0.mk hemp
                rw [hW7] at HST HBK2 ⊢
                clear hW7 hemp hcell0 hfz0 hcell1 hfz1 hcell3 hfz3
                go_wp2_with (fail)
                obtain ⟨kp, hkp⟩ : ∃ kp, ps.length = kp := ⟨_, rfl⟩
                have HKP := Aside0.mk hkp
                clear hkp
                go_loopg [20, 21] kp (fun kq nv i w' => ∃ k : Nat, i = .int .i64 k ∧ nv = .int .i64 (noneOf ps k) ∧ k + kq = ps.length ∧ Aside0 (w'.ownsRow w.heap.size 5 1 (.slice (some ⟨g, 0, none⟩) 188 188) 188 (encs (Value.int .u8) (71 :: 31 :: 255 :: 16 :: List.replicate 184 255))) ∧ Aside0 (Below w.heap.size w w'))
                case atStart => exact ⟨0, rfl, rfl, by have := HKP.out; omega, HST, HBK2⟩
                case round =>
                  obtain ⟨k, rfl, rfl, hk, HOK2, HBK3⟩ := hrel
                  have hnl := none_le ps k
                  by_cases hlt : k < ps.length
                  · obtain ⟨p, hp⟩ : ∃ p, ps[k]? = some p := ⟨ps[k], List.getElem?_eq_getElem hlt⟩
                    obtain ⟨po1, po2, po3⟩ := HOK.out p (List.mem_of_getElem? hp)
                    obtain ⟨hn1, hn2⟩ := none_step ps k p hp po1 po3
                    obtain ⟨en, hen⟩ : ∃ en : ByteArray, (⟨(encL p).toArray⟩ : ByteArray) = en := ⟨_, rfl⟩
                    have hsl : ∀ W : World, (Instr.slice 9 (.string s) (some (.int .i64 (188 * (k : Int)))) (some (.int .i64 (188 * (k : Int) + 188))) none).run Tryd.prog W = .ok (.string en) W := by
                      intro W
                      rw [run_slice_lh2 W s _ _ (by omega) (by omega) (by omega), show (188 * (k : Int)).toNat = 188 * k by omega, show (188 * (k : Int) + 188).toNat = 188 * k + 188 by omega, ← HS.out, enc_slice2 ps (fun q hq => (HOK.out q hq).1) k p hp, hen]
                    have hcv : ∀ n, (convert 42 9 (.slice (some ⟨g, 0, none⟩) 188 188)).run Tryd.prog (wr.drewN n) = .ok (.string emp) (wr.drewN n) := by
                      intro n
                      have := own_string (src := 42) (dst := 9) Tryd.underlying42 Tryd.underlying5 Tryd.underlying9 (show (wr.drewN n).ownsRow w.heap.size 5 1 (.slice (some ⟨g, 0, none⟩) 188 188) 188 (nums .u8 (71 :: 31 :: 255 :: 16 :: List.replicate 184 255)) from pw_own_below HOK2.out (pw_below_drewN (Below.refl _ _) n))
                      rw [HES.out] at this
                      exact this
                    obtain ⟨g1, rfl⟩ : ∃ g1, gk = g1 + 1 := ⟨gk - 1, by omega⟩
                    have HN1 := Aside0.mk hn1
                    have HN2 := Aside0.mk hn2
                    have hel : en.toList = encL p := by rw [Go.ByteArray.toList_eq, ← hen]
                    have hml : emp.toList = emptyL := by rw [Go.ByteArray.toList_eq, HEMP.out]
                    have HEL := Aside0.mk hel
                    have HML := Aside0.mk hml
                    clear hn1 hn2 hp hen hel hml
                    by_cases heq : encL p = emptyL
                    · have e1 : (en.toList == emp.toList) = true := by rw [HEL.out, HML.out, heq]; simp
                      have HQ := Aside0.mk heq
                      clear heq
                      go_wp2_with (fail)
                      go_quiet (fail)
                      have HBK4 : Aside0 (Below w.heap.size w (wr.drewN nq)) := ⟨pw_below_drewN HBK3.out nq⟩
                      have HOK3 : Aside0 ((wr.drewN nq).ownsRow w.heap.size 5 1 (.slice (some ⟨g, 0, none⟩) 188 188) 188 (encs (Value.int .u8) (71 :: 31 :: 255 :: 16 :: List.replicate 184 255))) := ⟨pw_own_below HOK2.out (pw_below_drewN (Below.refl _ _) nq)⟩
                      clear HBK3 HOK2 hcv hsl
                      go_wp2_with (fail)
                      go_roundg g1
                      case measure => omega
                      case rel => exact ⟨k + 1, by go_num, by rw [HN1.out HQ.out]; go_num, by omega, HOK3, HBK4⟩
                    · have e1 : (en.toList == emp.toList) = false := by rw [HEL.out, HML.out]; simpa using heq
                      have HQ := Aside0.mk heq
                      clear heq
                      go_wp2_with (fail)
                      go_quiet (fail)
                      have HBK4 : Aside0 (Below w.heap.size w (wr.drewN nq)) := ⟨pw_below_drewN HBK3.out nq⟩
                      have HOK3 : Aside0 ((wr.drewN nq).ownsRow w.heap.size 5 1 (.slice (some ⟨g, 0, none⟩) 188 188) 188 (encs (Value.int .u8) (71 :: 31 :: 255 :: 16 :: List.replicate 184 255))) := ⟨pw_own_below HOK2.out (pw_below_drewN (Below.refl _ _) nq)⟩
                      clear HBK3 HOK2 hcv hsl
                      go_wp2_with (fail)
                      go_roundg g1
                      case measure => omega
                      case rel => exact ⟨k + 1, by go_num, by rw [HN2.out HQ.out], by omega, HOK3, HBK4⟩
                  · obtain rfl : k = ps.length := by omega
                    have htk : ps.take ps.length = ps := List.take_length
                    have hno : noneOf ps ps.length + us = ps.length := by
                      have h1 := HTOT.out
                      rw [← HUT.out] at h1
                      unfold noneOf
                      rw [htk]
                      exact h1
                    have hfin : ((noneOf ps ps.length : Int) == (ps.length : Int) - us) = true := by simp; omega
                    obtain ⟨nz, hnz2⟩ : ∃ nz, noneOf ps ps.length = nz := ⟨_, rfl⟩
                    rw [hnz2] at hfin hno hnl ⊢
                    have HNO := Aside0.mk hno
                    clear htk hno hnz2
                    go_wp2_with (fail)
                    refine (HAW.out _).mono ?_
                    rintro e w9 ⟨rfl, hb9⟩
                    have HB9 : Aside0 (Below w.heap.size w w9) := ⟨below_then2 HBK3.out hb9 HBK3.out.size⟩
                    clear hb9
                    go_wp2_with (fail)
                    go_ret
                    exact ⟨rfl, HB9.out⟩
      · have hnd : decide ((ps.length : Int) < 1000) = false := by simp; omega
        go_wp2_with (fail)
        refine (near_any _ _).mono ?_
        rintro e w4 ⟨rfl, hb4⟩
        rw [hnd]
        have HB4 : Aside0 (Below w.heap.size w w4) := ⟨below_then2 HB3.out hb4 HB3.out.size⟩
        clear hb4
        go_wp2_with (fail)
        refine (HAW.out _).mono ?_
        rintro e w5 ⟨rfl, hb5⟩
        have HB5 : Aside0 (Below w.heap.size w w5) := ⟨below_then2 HB4.out hb5 HB4.out.size⟩
        clear hb5
        go_wp2_with (fail)
        go_ret
        exact ⟨rfl, HB5.out⟩
    · have hlay := lay_any A c bs w3 HBAT3.out (by omega) HSM.out HW3.out
      rw [HCK.out, if_neg hz] at hlay
      have HLAY := Aside0.mk hlay
      clear hlay
      have hzz : (ck == 0) = false := by simpa using hz
      have hzn : (ck != 0) = true := by simpa using hz
      have hcc : (ck == ck) = true := by simp
      go_wp2_with (fail)
      refine HLAY.out.mono ?_
      rintro e w4 ⟨rfl, hb4⟩
      have HB4 : Aside0 (Below w.heap.size w w4) := ⟨below_then2 HB3.out hb4 HB3.out.size⟩
      clear hb4
      have e1 : ((⟨#[]⟩ : ByteArray).toList == []) = true := by rw [Go.ByteArray.toList_eq]; rfl
      go_wp2_with (fail)
      refine (HAW.out _).mono ?_
      rintro e w5 ⟨rfl, hb5⟩
      have HB5 : Aside0 (Below w.heap.size w w5) := ⟨below_then2 HB4.out hb5 HB4.out.size⟩
      clear hb5
      go_wp2_with (fail)
      go_ret
      exact ⟨rfl, HB5.out⟩
end Go.Proofs.YthmddhbccifcoaaDoor.Clar
namespace Go.Proofs.YthmddhbccifcoaaDoor.Clar
open Go.ChangeShapes Go.WideShapes Go.Deep Go.RowKit Go.Proofs.YthmddhbccifcoaaDoorW.PrintWords Go.Proofs.YthmddhbccifcoaaDoor.PSliceLays

section
variable {H : Type} {enc : TypeId × Value → H} {P : Program} {w : World} {base : Nat} {spare : Nat → Bool} {held : Bool}
/-- A slice of structs of one-cell fields: every element's every field. -/
theorem open_slice_fields {t e : TypeId} {fs : Array Field} {fuel : Nat} {cs : List Value} {x : DataW H × List MemPlace} (ht : P.underlying t = some (.slice e)) (he : P.underlying e = some (.struct fs))
    (hone : oneCellFields P fs = true) (hC : P.cellsOf e = fs.size) (h : DataW.trod enc P w base spare held fuel t cs = some x) :
    (cs = [.slice none 0 0]) ∨
    ∃ (a : Addr) (len cap : Nat), cs = [.slice (some a) len cap] ∧ len ≤ cap ∧ cap ≤ maxLen ∧
      ∀ i, i < len → ∃ n, ∀ (j : Nat) (f : Field), fs[j]? = some f → ∃ (v : Value) (y : DataW H × List MemPlace), w.cell? (a.add (i * fs.size + j)) = some v ∧ DataW.trod enc P w base spare held n f.type [v] = some y := by
  rcases open_slice ht h with ⟨h0, _⟩ | ⟨a, len, cap, m, n, D, Pl, hcs, hb, hl, hm, hmm, hx, hi⟩
  · exact .inl h0
  · refine .inr ⟨a, len, cap, hcs, hl, hm, fun i him => ?_⟩
    obtain ⟨cs', hc, ht'⟩ := hi i (by rw [hmm]; split <;> omega)
    rw [hC] at hc
    obtain ⟨ys, n', hn', hy, hlen, hyl, hf⟩ := DataW.trod_struct he ht'
    obtain ⟨_, hcl, hat⟩ := World.cells?_some hc
    refine ⟨n', fun j f hj => ?_⟩
    obtain ⟨ho, hk⟩ := hone_of hone j f hj
    have hjl : j < fs.size := (Array.getElem?_eq_some_iff.1 hj).1
    have hcell := hat j hjl
    have hv : cs'[j]? = some (cs'[j]'(by omega)) := List.getElem?_eq_getElem (by omega)
    have h1 := hf j f hj
    rw [ho, hk] at h1
    have hone' : (cs'.drop j).take 1 = [cs'[j]'(by omega)] := by
      rw [List.drop_eq_getElem_cons (by omega)]
      rfl
    rw [hone'] at h1
    have hys : ys[j]? = some (ys[j]'(by omega)) := List.getElem?_eq_getElem (by omega)
    refine ⟨_, _, ?_, h1.trans hys⟩
    rw [← Go.Deep.add_add, hcell, hv]
/-- Elements that are known one by one are read as a row. -/
theorem row_of {α : Type} [Inhabited α] (d : Kd α) {a : Addr} {len : Nat} (hm : len ≤ 9223372036854775807) (h : ∀ i, i < len → ∃ p : α, ∃ c : List Value, d.K w p c ∧ ∀ j u, c[j]? = some u → w.cell? (a.add (i * d.sz + j)) = some u) :
    ∃ l : List α, l.length = len ∧ d.C w (some a) len l := by
  obtain ⟨f, hf⟩ := choose_lt (p := fun i (p : α) => ∃ c : List Value, d.K w p c ∧ ∀ j u, c[j]? = some u → w.cell? (a.add (i * d.sz + j)) = some u) h
  refine ⟨(List.range len).map f, by simp, by simp, hm, fun hp => ⟨a, rfl, fun j p hj => ?_⟩⟩
  rw [List.getElem?_map] at hj
  obtain ⟨i, hi, rfl⟩ := Option.map_eq_some_iff.1 hj
  have hjl := (List.getElem?_eq_some_iff.1 hi).1
  rw [List.length_range] at hjl
  have : i = j := by rw [List.getElem?_range hjl] at hi; injection hi with hi; exact hi.symm
  subst this
  obtain ⟨c, hk, hc⟩ := hf i hjl
  exact ⟨c, d.K_len hk, hk, hc⟩
end
instance : Inhabited S50 := ⟨z50⟩
instance : Inhabited S45 := ⟨z45⟩
section
variable {H : Type} {enc : TypeId × Value → H} {w : World} {base : Nat} {spare : Nat → Bool} {held : Bool}
theorem open_pieces {fuel : Nat} {v : Value} {x : DataW H × List MemPlace} (h : DataW.trod enc Tryd.prog w base spare held fuel 43 [v] = some x) :
    ∃ A c l, v = .slice A l.length c ∧ l.length ≤ c ∧ k50.C w A l.length l := by
  rcases open_slice_fields Tryd.underlying43 Tryd.underlying50 (by kernel_rfl) (by kernel_rfl) h with h0 | ⟨a, len, cap, hcs, hl, hm, hi⟩
  · obtain rfl : v = .slice none 0 0 := by simpa using h0
    exact ⟨none, 0, [], rfl, Nat.le_refl _, rfl, by simp, fun hp => by simp at hp⟩
  · obtain rfl : v = .slice (some a) len cap := by simpa using hcs
    obtain ⟨l, hll, hC⟩ := row_of (w := w) (a := a) k50 (len := len) (by unfold maxLen at hm; omega) (fun i hil => by
      obtain ⟨n, hf⟩ := hi i hil
      obtain ⟨v0, y0, c0, t0⟩ := hf 0 _ rfl
      obtain ⟨v1, y1, c1, t1⟩ := hf 1 _ rfl
      obtain ⟨v2, y2, c2, t2⟩ := hf 2 _ rfl
      obtain ⟨v3, y3, c3, t3⟩ := hf 3 _ rfl
      obtain ⟨v4, y4, c4, t4⟩ := hf 4 _ rfl
      obtain ⟨n0, e0, _, _⟩ := DataW.trod_int Tryd.underlying3 t0
      obtain ⟨n1, e1, _, _⟩ := DataW.trod_int Tryd.underlying5 t1
      obtain ⟨n2, e2, _, _⟩ := DataW.trod_int Tryd.underlying5 t2
      obtain ⟨n3, e3, _⟩ := DataW.trod_bool Tryd.underlying4 t3
      obtain ⟨n4, e4, _, _⟩ := DataW.trod_string Tryd.underlying9 t4
      simp only [List.cons.injEq, and_true] at e0 e1 e2 e3 e4
      subst e0 e1 e2 e3 e4
      refine ⟨⟨n0, n1, n2, n3, n4⟩, _, k50_mk w _, fun j u hj => ?_⟩
      match j, hj with
      | 0, hj => simp at hj; subst hj; exact c0
      | 1, hj => simp at hj; subst hj; exact c1
      | 2, hj => simp at hj; subst hj; exact c2
      | 3, hj => simp at hj; subst hj; exact c3
      | 4, hj => simp at hj; subst hj; exact c4
      | j + 5, hj => simp at hj)
    subst hll
    exact ⟨some a, cap, l, rfl, hl, hC⟩
theorem open_runs {fuel : Nat} {v : Value} {x : DataW H × List MemPlace} (h : DataW.trod enc Tryd.prog w base spare held fuel 22 [v] = some x) :
    ∃ A c l, v = .slice A l.length c ∧ l.length ≤ c ∧ l.length ≤ 9223372036854775807 ∧ k45.C w A l.length l := by
  rcases open_slice_fields Tryd.underlying22 Tryd.underlying45 (by kernel_rfl) (by kernel_rfl) h with h0 | ⟨a, len, cap, hcs, hl, hm, hi⟩
  · obtain rfl : v = .slice none 0 0 := by simpa using h0
    exact ⟨none, 0, [], rfl, Nat.le_refl _, by simp, rfl, by simp, fun hp => by simp at hp⟩
  · obtain rfl : v = .slice (some a) len cap := by simpa using hcs
    obtain ⟨l, hll, hC⟩ := row_of (w := w) (a := a) k45 (len := len) (by unfold maxLen at hm; omega) (fun i hil => by
      obtain ⟨n, hf⟩ := hi i hil
      obtain ⟨v0, y0, c0, t0⟩ := hf 0 _ rfl
      obtain ⟨v1, y1, c1, t1⟩ := hf 1 _ rfl
      obtain ⟨v2, y2, c2, t2⟩ := hf 2 _ rfl
      obtain ⟨n0, e0, _, _⟩ := DataW.trod_int Tryd.underlying3 t0
      obtain ⟨n1, e1, _, _⟩ := DataW.trod_int Tryd.underlying3 t1
      obtain ⟨A2, cp2, l2, e2, g1, g2⟩ := open_pieces t2
      simp only [List.cons.injEq, and_true] at e0 e1
      subst e0 e1 e2
      refine ⟨⟨n0, n1, l2⟩, _, k45_mk w ⟨n0, n1, l2⟩ g1 g2, fun j u hj => ?_⟩
      match j, hj with
      | 0, hj => simp at hj; subst hj; exact c0
      | 1, hj => simp at hj; subst hj; exact c1
      | 2, hj => simp at hj; subst hj; exact c2
      | j + 3, hj => simp at hj)
    subst hll
    exact ⟨some a, cap, l, rfl, hl, by unfold maxLen at hm; omega, hC⟩
end
end Go.Proofs.YthmddhbccifcoaaDoor.Clar
