/- The walk of Hash.Write. -/
import Derived.Test.YthojhmkahjpflaaDoorDigE
namespace Go.Proofs.YthojhmkahjpflaaDoor
open Go.RowKit Go.Dray

/-- Slicing an array behind a pointer, from k on. -/
theorem arr_cut_l {P : Program} {t e : TypeId} {n : Nat} (h : P.underlying t = some (.array n e)) (hs : (P.info? e).map (·.size) = some 1) (b o k : Nat) (hk : k < n) (kd : IntKind) :
    ∀ W : World, (Instr.sliceAt t (.pointer (some ⟨b, o, none⟩)) (some (.int kd k)) none none).run P W = .ok (.slice (some ⟨b, o + k, none⟩) (n - k) (n - k)) W := by
  intro W
  have he : P.elem t = e := by simp [Program.elem, h]
  have hl : P.arrayLen t = n := by simp [Program.arrayLen, h]
  cases hq : P.info? e with
  | none => simp [hq] at hs
  | some i =>
    have hi : i.size = 1 := by simpa [hq] using hs
    rw [run_sliceAt_array_l W t ⟨b, o, none⟩ (by rw [he, hl]; exact h) kd k (by omega) (by rw [hl]; omega)]
    simp [hl, he, sizeOf, typeInfo, hq, hi, slicedAt, Addr.add_lit]
    omega

set_option maxRecDepth 100000 in
set_option maxHeartbeats 1000000 in
theorem write_any (w : World) (g : Nat) (kind : Int) (hk : IsKind kind) (bs tl : List Int) (h : HashIs w g kind bs tl) (A : Option Addr) (n c : Nat) (zs : List Int) (hs : Ints .u8 w A n zs) (hz : ∀ z ∈ zs, 0 ≤ z ∧ z ≤ 255) (hnc : n ≤ c)
    (hne : 0 < n → bl A ≠ g) (hT : Tabs w) (hg : 3 ≤ g) (hn : bs.length + n ≤ 100000000000000) :
    Calls Tryd.prog 14 #[.pointer (some ⟨g, 0, none⟩), .slice A n c] w (WritePost w g kind (bs ++ zs)) := by
  have HT := Lib.hid hT
  have HH := Lib.hid h
  have HK := Lib.hid hk
  have HZ := Lib.hid hz
  have HS := Lib.hid hs
  have HNE := Lib.hid hne
  have HN := Lib.hid hn
  clear hT h hk hz hs hne hn
  go_enter Tryd.func14, Tryd.ntmps14
  go_wp2
  go_loopw [1] (fun b wr => ∃ (A' : Option Addr) (m c' : Nat) (ys bs' tl' : List Int), b = .slice A' m c' ∧ m ≤ c' ∧ bs'.length + m ≤ 100000000000000 ∧ Hid (Ints .u8 w A' m ys) ∧ Hid (∀ z ∈ ys, 0 ≤ z ∧ z ≤ 255) ∧ Hid (0 < m → bl A' ≠ g) ∧ Hid (bs' ++ ys = bs ++ zs) ∧ Hid (HashIs wr g kind bs' tl') ∧ Hid (Upd [some g] w wr))
    (fun b _ => match b with | .slice _ m _ => m | _ => 0)
  case atStart => exact ⟨A, n, c, zs, bs, tl, rfl, hnc, HN.out, HS, HZ, HNE, rfl, HH, Upd.refl _ _⟩
  case round =>
    obtain ⟨A', m, c', ys, bs', tl', rfl, hmc, hmn, HS', HZ', HNE', HE, HH', HU⟩ := hrel
    by_cases hm : 0 < m
    · have d0 : decide (0 < m) = true := by simp; omega
      obtain ⟨L, HL⟩ : ∃ L, Hid (L = bs'.length) := ⟨_, rfl⟩
      obtain ⟨k, HKK⟩ : ∃ k, Hid (k = L % 64) := ⟨_, rfl⟩
      have hk64 : k < 64 := by have := HKK.out; omega
      rw [← HL.out] at hmn
      have hsz : wr.cell? ⟨g, 73, none⟩ = some (.int .u64 (L : Int)) := by rw [HL.out]; exact HH'.out.at_.size_
      have hrem : (L : Int).tmod 64 = (k : Int) := by have := HKK.out; rw [Int.tmod_eq_emod_of_nonneg (by omega)]; omega
      have hcut := arr_cut_l (P := Tryd.prog) (t := 48) (n := 64) (e := 5) (by kernel_rfl) (by kernel_rfl) g 9 k hk64 .u64
      go_wp2
      go_still_tail 10, (by kernel_rfl)
      change wpList _ _ _ _ _ wr.drew
      obtain ⟨w4, hw4⟩ : ∃ w4 : World, w4 = wr.drew := ⟨_, rfl⟩
      rw [← hw4]
      have HH4 : Hid (HashIs w4 g kind bs' tl') := by rw [hw4]; exact HH'.out.drewN 1
      have HU4 : Hid (Upd [some g] w w4) := by rw [hw4]; exact HU.out.drew
      clear hw4 hsz hrem hcut HU HH'
      have hs4 : Ints .u8 w4 A' m ys := HS'.out.upd HU4.out (fun hp => by have := HNE'.out hp; simp; exact this)
      obtain ⟨q, HQ⟩ : ∃ q, Hid (q = min m (64 - k)) := ⟨_, rfl⟩
      obtain ⟨w5, hr5, hh5, hu5⟩ := hash_copyT HH4.out.at_ (c := c') hs4 hm hk64
      rw [← HQ.out] at hr5 hh5
      have HU5 := Lib.hid (hu5 [some g] w HU4.out (Or.inl (by simp)))
      have hq1 : 1 ≤ q := by have := HQ.out; omega
      have hqm : q ≤ m := by have := HQ.out; omega
      have hqk : q ≤ 64 - k := by have := HQ.out; omega
      have HPL : Hid ((ys.take (64 - k)).length = q) := by
        show _ = _
        rw [List.length_take, hs4.len.out, HQ.out, Nat.min_comm]
      have hsz5 : w5.cell? ⟨g, 73, none⟩ = some (.int .u64 (L : Int)) := by rw [HL.out]; exact hh5.size_
      have fz5 := hh5.blk.frozen 73
      have hcut2 := run_cut_l el_byte A' m c' .i64 (q : Int) q rfl hqm
      have HH6 := Lib.hid (hh5.setSize ((L : Int) + q))
      have HH5 := Lib.hid hh5
      have HTL : Hid (tl'.take k ++ ys.take (64 - k) ++ tl'.drop (k + q) = tl'.take (bs'.length % 64) ++ ys.take (64 - k) ++ tl'.drop (bs'.length % 64 + (ys.take (64 - k)).length)) := by
        show _ = _
        rw [HPL.out, ← HL.out, ← HKK.out]
      have HZP : Hid (∀ z ∈ ys.take (64 - k), 0 ≤ z ∧ z ≤ 255) := fun z hz => HZ'.out z (List.mem_of_mem_take hz)
      rw [HL.out, ← HPL.out] at HH6
      obtain ⟨hm1, hm2⟩ := hash_more HH4.out HZP.out _ (by rw [← HTL.out, HPL.out]) HH6.out
      have HM1 := Lib.hid hm1
      have HM2 := Lib.hid hm2
      have HU6 : Hid (Upd [some g] w (w5.setCell ⟨g, 73, none⟩ (.int .u64 ((L : Int) + q)))) := HU5.out.putIn (by simp) _
      rw [← HL.out, HPL.out, ← HKK.out] at HM1 HM2
      rw [← HL.out, HPL.out] at HH6
      have HSN := Lib.hid (cut_slice HS'.out hqm hmc)
      have HZN : Hid (∀ z ∈ ys.drop q, 0 ≤ z ∧ z ≤ 255) := fun z hz => HZ'.out z (List.mem_of_mem_drop hz)
      have HEN : Hid ((bs' ++ ys.take (64 - k)) ++ ys.drop q = bs ++ zs) := by
        show _ = _
        rw [List.append_assoc, ← HE.out]
        congr 1
        rcases Nat.lt_or_ge (64 - k) m with hc | hc
        · rw [show q = 64 - k from by have := HQ.out; omega, List.take_append_drop]
        · rw [List.take_of_length_le (by rw [hs4.len.out]; exact hc), List.drop_of_length_le (by rw [hs4.len.out]; have := HQ.out; omega), List.append_nil]
      have HLN : Hid ((bs' ++ ys.take (64 - k)).length + (m - q) ≤ 100000000000000) := by
        show _ ≤ _
        rw [List.length_append, HPL.out, ← HL.out]
        omega
      clear hs4 hh5 hu5 hm1 hm2 HS' HZ' HE HH4 HU4 HU5
      by_cases hfull : k + q = 64
      · have d1 : (((L : Int) + q) % 64 == 0) = true := by have := HKK.out; simp; omega
        obtain ⟨hbd, hmod, hfin⟩ := HM2.out hfull
        have HBD := Lib.hid hbd
        have HFIN := Lib.hid hfin
        clear hbd hmod hfin hfull
        go_wp2_with fail
        generalize hw6 : w5.setCell _ _ = w6 at *
        have HT6 : Hid (Tabs w6) := HT.out.upd HU6.out (by intro b hb; simp at hb; omega)
        clear hw6 hr5 hsz5 fz5
        refine (block_any w6 g kind HK.out _ _ _ (runB_len _ _ _) HH6.out HBD.out HT6.out hg).mono ?_
        rintro e w7 ⟨rfl, hh7, hu7⟩
        have HH7 := Lib.hid hh7
        have HU7 := Lib.hid (HU6.out.trans hu7)
        clear hh7 hu7
        go_wp2
        go_roundw
        case rel => exact ⟨cutA 1 A' c' q, m - q, c' - q, ys.drop q, bs' ++ ys.take (64 - k), _, rfl, by omega, HLN.out, HSN, HZN, fun hp => by rw [bl_cut]; exact HNE'.out (by omega), HEN, HFIN.out _ HH7.out, HU7⟩
        case measure => simp; omega
      · have d1 : (((L : Int) + q) % 64 == 0) = false := by have := HKK.out; simp; omega
        have HHN := Lib.hid (HM1.out (by omega))
        clear hfull
        go_wp2
        go_roundw
        case rel => exact ⟨cutA 1 A' c' q, m - q, c' - q, ys.drop q, bs' ++ ys.take (64 - k), _, rfl, by omega, HLN.out, HSN, HZN, fun hp => by rw [bl_cut]; exact HNE'.out (by omega), HEN, HHN, HU6⟩
        case measure => simp; omega
    · obtain rfl : m = 0 := by omega
      go_wp2
      go_end0
      have h0 := HS'.out.len.out
      have he : ys = [] := List.eq_nil_of_length_eq_zero h0
      refine ⟨rfl, ⟨tl', ?_⟩, HU.out⟩
      rw [← HE.out, he, List.append_nil]
      exact HH'.out

end Go.Proofs.YthojhmkahjpflaaDoor
