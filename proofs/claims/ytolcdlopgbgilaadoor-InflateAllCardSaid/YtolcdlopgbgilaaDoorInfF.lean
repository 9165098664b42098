/- The walk of inflate's unpacker: stored. -/
import Derived.Test.YtolcdlopgbgilaaDoorInfD
namespace Go.Proofs.YtolcdlopgbgilaaDoor
open Go.RowKit Go.Dray

theorem run_align {bs : List Bool} {most p : Nat} {k : Pr} {o : List Int} : run bs most (.align k) p o = run bs most k (alignUp p) o := by rw [run]
/-- A byte is the number of its bits. -/
theorem num_byte (zs : List Int) (i : Nat) (hi : i < zs.length) (hb : ∀ z ∈ zs, 0 ≤ z ∧ z ≤ 255) : num (((bitsOf zs).drop (8 * i)).take 8) = zs.getD i 0 := by
  have hz : zs[i]? = some zs[i] := List.getElem?_eq_getElem hi
  have hzb := hb zs[i] (List.getElem_mem hi)
  have hg : zs.getD i 0 = zs[i] := by simp [List.getD, hi]
  have hlen := bitsOf_len zs
  have hbit : ∀ j (hj : j < 8), (bitsOf zs)[8 * i + j]'(by rw [hlen]; omega) = low (zs[i] / 2 ^ j) := fun j hj => by
    rw [bitsOf_get, show (8 * i + j) / 8 = i from by omega, show (8 * i + j) % 8 = j from by omega, hg]
  have step : ∀ k, k ≤ 8 → num (((bitsOf zs).drop (8 * i)).take k) = zs[i] % 2 ^ k := by
    intro k
    induction k with
    | zero => intro _; simp [num]
    | succ k ih =>
      intro hk
      rw [num_take_succ _ _ _ (by rw [hlen]; omega), ih (by omega), hbit k (by omega), b2i_low]
      have hp : (0 : Int) < 2 ^ k := Int.pow_pos (by decide)
      rw [Int.pow_succ]
      have h1 := Int.emod_add_mul_ediv zs[i] (2 ^ k)
      have h2 := Int.emod_add_mul_ediv (zs[i] / 2 ^ k) 2
      have h3 := Int.emod_add_mul_ediv zs[i] (2 ^ k * 2)
      have h4 : zs[i] / (2 ^ k * 2) = zs[i] / 2 ^ k / 2 := (Int.ediv_ediv_of_nonneg (Int.le_of_lt hp)).symm
      rw [h4] at h3
      generalize zs[i] / 2 ^ k / 2 = c at h2 h3
      generalize zs[i] / 2 ^ k = d at h1 h2 ⊢
      generalize (2 : Int) ^ k = P at h1 h3 ⊢
      subst_vars
      have e : P * 2 * c = P * (2 * c) := Int.mul_assoc _ _ _
      rw [e] at h3
      have e2 : d % 2 * P = P * (d % 2) := Int.mul_comm _ _
      rw [e2]
      have e3 : P * d = P * (d % 2) + P * (2 * c) := by rw [← Int.mul_add]; congr 1; omega
      omega
  rw [step 8 (Nat.le_refl _), hg]
  omega
theorem bytesAt_eq (zs : List Int) (f m : Nat) (h : f + m ≤ zs.length) (hb : ∀ z ∈ zs, 0 ≤ z ∧ z ≤ 255) : bytesAt (bitsOf zs) (8 * f) m = (zs.drop f).take m := by
  unfold bytesAt
  apply List.ext_getElem?
  intro i
  by_cases hi : i < m
  · rw [tab_get _ hi, show 8 * f + 8 * i = 8 * (f + i) from by omega, num_byte zs (f + i) (by omega) hb, List.getElem?_take_of_lt hi, List.getElem?_drop, List.getElem?_eq_getElem (by omega)]
    simp [List.getD, show f + i < zs.length from by omega]
  · rw [List.getElem?_eq_none (by rw [tab_len]; omega), List.getElem?_eq_none (by rw [List.length_take]; omega)]

set_option maxRecDepth 100000 in
set_option maxHeartbeats 4000000 in
theorem stored_any {w : World} {B u g : Nat} {RA : Option Addr} {rn rc : Nat} {ys : List Int} {most p : Nat} {OA : Option Addr} {on oc : Nat} {o : List Int} (h : USt w B u g RA rn rc ys most p OA on oc o) :
    Calls Tryd.prog 55 #[.pointer (some ⟨u, 0, none⟩)] w (GoPost w B u g RA rn rc ys most p OA o storedPr) := by
  have HU := Lib.hid h
  have hc0 := h.blk.cell 0
  simp at hc0
  have hp8 := h.pos
  have hrb := h.rb
  clear h
  go_enter Tryd.func55, Tryd.ntmps55
  go_wp2_with fail
  refine (align_any HU.out.rd (by omega)).mono ?_
  rintro e w1 ⟨rfl, hr1, hv1⟩
  obtain ⟨f, hf⟩ : ∃ f, alignUp p = 8 * f := ⟨(p + 7) / 8, by unfold alignUp; omega⟩
  have hf8 : f ≤ rn := by unfold alignUp at hf; omega
  have hpf : p ≤ 8 * f := by have := alignUp_ge p; omega
  have HF := Lib.hid hf
  rw [hf] at hr1
  have HU1 := Lib.hid (HU.out.read hr1 hv1 (by omega))
  have HV1 := Lib.hid hv1
  have HR1 : Hid (∀ k, run (bitsOf ys) most (storedPr k) p o = run (bitsOf ys) most (.take 16 fun n => .take 16 fun m => if m ≠ 65535 - n then .fail 3 else .bytes n.toNat fun b => .emit b k) (8 * f) o) := fun k => by unfold storedPr; rw [run_align, HF.out]
  clear hr1 hv1 hc0 hf
  have hc0 := HU1.out.blk.cell 0
  simp at hc0
  go_wp2_with fail
  refine (take_any HU1.out 16 (by omega)).mono ?_
  rintro e w2 (⟨hl2, rfl, hr2, hv2⟩ | ⟨hl2, rfl, hr2, hv2⟩)
  · have hnb := num_bd ((bitsOf ys).drop (8 * f)) 16 16 (Nat.le_refl _)
    obtain ⟨v, hv⟩ : ∃ v, v = num (((bitsOf ys).drop (8 * f)).take 16) := ⟨_, rfl⟩
    rw [← hv] at hnb ⊢
    have hv0 := hnb.1
    have hv1' : v ≤ 65535 := by have := hnb.2; omega
    have HR2 : Hid (∀ k, run (bitsOf ys) most (storedPr k) p o = run (bitsOf ys) most (.take 16 fun m => if m ≠ 65535 - v then .fail 3 else .bytes v.toNat fun b => .emit b k) (8 * f + 16) o) := fun k => by rw [HR1.out, run_take_ok (by rw [HU1.out.bits]; exact hl2), ← hv]
    have HU2 := Lib.hid (HU1.out.read hr2 hv2 hl2)
    have HV2 := Lib.hid (HV1.out.trans hv2)
    clear hv hnb hr2 hv2 hc0 HR1
    have hc0 := HU2.out.blk.cell 0
    simp at hc0
    go_wp2_with fail
    refine (take_any HU2.out 16 (by omega)).mono ?_
    rintro e w3 (⟨hl3, rfl, hr3, hv3⟩ | ⟨hl3, rfl, hr3, hv3⟩)
    · have hmb := num_bd ((bitsOf ys).drop (8 * f + 16)) 16 16 (Nat.le_refl _)
      obtain ⟨m, hm⟩ : ∃ m, m = num (((bitsOf ys).drop (8 * f + 16)).take 16) := ⟨_, rfl⟩
      rw [← hm] at hmb ⊢
      have HR3 : Hid (∀ k, run (bitsOf ys) most (storedPr k) p o = run (bitsOf ys) most (if m ≠ 65535 - v then .fail 3 else .bytes v.toNat fun b => .emit b k) (8 * f + 16 + 16) o) := fun k => by rw [HR2.out, run_take_ok (by rw [HU2.out.bits]; exact hl3), ← hm]
      have HU3 := Lib.hid (HU2.out.read hr3 hv3 hl3)
      have HV3 := Lib.hid (HV2.out.trans hv3)
      clear hm hmb hr3 hv3 hc0 HR2
      have hc0 := HU3.out.blk.cell 0
      simp at hc0
      by_cases hmn : m = 65535 - v
      · have hd1 : (m != 65535 - v) = false := by simp [hmn]
        obtain ⟨n, hn⟩ := Int.eq_ofNat_of_zero_le hv0
        have HR4 : Hid (∀ k, run (bitsOf ys) most (storedPr k) p o = run (bitsOf ys) most (.bytes n fun b => .emit b k) (8 * (f + 4)) o) := fun k => by rw [HR3.out, if_neg (by simp [hmn]), hn, Int.toNat_natCast, show 8 * f + 16 + 16 = 8 * (f + 4) from by omega]
        subst hn
        have hal : alignUp (8 * f + 16 + 16) = 8 * (f + 4) := by unfold alignUp; omega
        clear hmn HR3
        by_cases hfit : f + 4 + n ≤ rn
        · go_wp2_with fail
          refine (rbytes_ok n HU3.out.rd HU3.out.pos (by omega) (f + 4) hal hfit).mono ?_
          rintro e w4 ⟨D, dc, rfl, hD, hr4, hv4⟩
          have HU4 := Lib.hid (HU3.out.read hr4 hv4 (by omega))
          have HV4 := Lib.hid (HV3.out.trans hv4)
          have hyl : ys.length = rn := by have := HU3.out.rd.2.len; rw [List.length_map] at this; omega
          obtain ⟨bs, hbs⟩ : ∃ bs, bs = (ys.drop (f + 4)).take n := ⟨_, rfl⟩
          rw [← hbs] at hD
          have hbl : bs.length = n := by rw [hbs, List.length_take, List.length_drop]; omega
          have HBB : Hid (∀ z ∈ bs, 0 ≤ z ∧ z ≤ 255) := fun z hz => HU.out.yb z (by rw [hbs] at hz; exact List.mem_of_mem_drop (List.mem_of_mem_take hz))
          have HR5 : Hid (∀ k, run (bitsOf ys) most (storedPr k) p o = run (bitsOf ys) most (.emit bs k) (8 * (f + 4 + n)) o) := fun k => by
            rw [HR4.out, run, show alignUp (8 * (f + 4)) = 8 * (f + 4) from by unfold alignUp; omega, if_pos (by rw [HU3.out.bits]; omega), bytesAt_eq ys (f + 4) n (by omega) HU.out.yb, ← hbs, show 8 * (f + 4) + 8 * n = 8 * (f + 4 + n) from by omega]
          have HBL := Lib.hid hbl
          have HD := Lib.hid hD
          clear hbs hbl hD hr4 hv4 hc0 hal HR4 hyl
          have hc1 := HU4.out.blk.cell 1
          have hc2 := HU4.out.blk.cell 2
          simp at hc1 hc2
          have hroom := HU4.out.room
          have hmb := HU4.out.mb
          by_cases hlg : (most : Int) - on < n
          · have hd2 : decide ((most : Int) - on < n) = true := by simp; omega
            go_wp2
            go_quiet (fail)
            go_wp2
            go_ret
            exact ⟨4, 8 * (f + 4 + n), OA, on, oc, o, rfl, HU4.out.drewN _, (HV4.out.drewN _).one, fun x hx => Or.inl hx, Or.inl ⟨by decide, fun k => by rw [HR5.out, run, HBL.out, HU4.out.olen, if_neg (by omega)]⟩⟩
          · have hd2 : decide ((most : Int) - on < n) = false := by simp; omega
            go_wp2
            go_quiet (fail)
            have HU5 := Lib.hid (HU4.out.drewN nq)
            have HV5 := Lib.hid (HV4.out.drewN nq)
            have HD5 := Lib.hid (HD.out.drewN nq)
            generalize w4.drewN nq = w5 at HU5 HV5 HD5 ⊢
            clear hc1 hc2 HU4 HV4 HD
            have hc1 := HU5.out.blk.cell 1
            simp at hc1
            have hbw := HU5.out.bw
            have hO := HU5.out.own
            go_wp2_with (at_builtin; refine wpList_app rfl rfl el_byte rfl hO rfl (HD5.out.seg) (ints_one _ _) (by simp only [maxLen]; omega) (by omega) hbw ?_; intro X6 c6 w6 hown6 hu6 hfr6; have HB6 := Lib.hid (HU5.out.blk.upd hu6 (by have := HU5.out.own.neBlk HU5.out.blk (by decide); simp; exact fun e => this e.symm)); have k1 : w6.cell? ⟨u, 1, none⟩ = some (.slice OA on oc) := (by rw [HB6.out.cell]; rfl); have kf := HB6.out.frozen 1)
            go_ret
            have hpu := HU5.out.push (l := bs) (m := n) hown6 hu6 hfr6 (by omega) HBB.out
            refine ⟨0, 8 * (f + 4 + n), X6, on + n, c6, o ++ bs, rfl, hpu.1, HV5.out.one.trans hpu.2, fun x hx => ?_, Or.inr ⟨rfl, by omega, fun k => by rw [HR5.out, run, HBL.out, HU5.out.olen, if_pos (by omega)]⟩⟩
            rcases hfr6 x hx with h1 | h1
            · exact Or.inl h1
            · right; have := HV5.out.size; omega
        · go_wp2_with fail
          refine (rbytes_no (n : Int) HU3.out.rd HU3.out.pos (by omega) (Or.inr (by rw [hal]; omega))).mono ?_
          rintro e w4 ⟨rfl, hr4, hv4⟩
          go_wp2
          go_ret
          exact ⟨2, _, OA, on, oc, o, rfl, HU3.out.read hr4 hv4 (by rw [hal]; omega), (HV3.out.trans hv4).one, fun x hx => Or.inl hx, Or.inl ⟨by decide, fun k => by rw [HR4.out, run, show alignUp (8 * (f + 4)) = 8 * (f + 4) from by unfold alignUp; omega, if_neg (by rw [HU3.out.bits]; omega)]⟩⟩
      · have hd1 : (m != 65535 - v) = true := by simp [hmn]
        go_wp2
        go_ret
        exact ⟨3, 8 * f + 16 + 16, OA, on, oc, o, rfl, HU3.out, HV3.out.one, fun x hx => Or.inl hx, Or.inl ⟨by decide, fun k => by rw [HR3.out, if_pos hmn, run]⟩⟩
    · go_wp2
      go_ret
      exact ⟨2, 8 * f + 16, OA, on, oc, o, rfl, HU2.out.read hr3 hv3 hl2, (HV2.out.trans hv3).one, fun x hx => Or.inl hx, Or.inl ⟨by decide, fun k => by rw [HR2.out, run_take_no (by rw [HU2.out.bits]; exact hl3)]⟩⟩
  · go_wp2
    go_ret
    exact ⟨2, 8 * f, OA, on, oc, o, rfl, HU1.out.read hr2 hv2 (by omega), (HV1.out.trans hv2).one, fun x hx => Or.inl hx, Or.inl ⟨by decide, fun k => by rw [HR1.out, run_take_no (by rw [HU1.out.bits]; exact hl2)]⟩⟩

end Go.Proofs.YtolcdlopgbgilaaDoor
