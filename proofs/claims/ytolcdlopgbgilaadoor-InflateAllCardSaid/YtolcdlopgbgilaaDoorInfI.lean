/- The walks of inflate's unpacker: block; and of inflate.Inflate. -/
import Derived.Test.YtolcdlopgbgilaaDoorInfE
import Derived.Test.YtolcdlopgbgilaaDoorInfF
import Derived.Test.YtolcdlopgbgilaaDoorInfH
namespace Go.Dray
open Go.RowKit
theorem run_cut_hm {P : Program} {t e : TypeId} {z : Value} {sz bytes : Nat} (el : El P t e z sz bytes) (A : Option Addr) (n c : Nat) (kh km : IntKind) (ih im : Int) (hi m : Nat) (e2 : ih = hi) (e3 : im = m) (h1 : hi ≤ m) (h2 : m ≤ c) :
    ∀ W : World, (Instr.sliceAt t (.slice A n c) none (some (.int kh ih)) (some (.int km im))).run P W = .ok (.slice A hi m) W := by
  intro W
  subst e2 e3
  obtain ⟨i, hi, hz, hs, hb⟩ := info_parts el.info
  have he : P.elem t = e := by simp [Program.elem, el.under]
  have ht : P.underlying t = some (.slice (P.elem t)) := by rw [he]; exact el.under
  rw [run_sliceAt_slice (h := ht), run_slice_hm (ht := ht) (h0 := by omega) (h2 := by omega) (h3 := by omega)]
  have ha : ∀ a : Addr, a.add 0 = a := fun a => by simp [Addr.add]
  cases A <;> simp [he, sizeOf, typeInfo, hi, sliced, ha]
end Go.Dray
namespace Go.Proofs.YtolcdlopgbgilaaDoor
open Go.RowKit Go.Dray

theorem fixedL_chk : chk fixedL = 0 := by decide +kernel
theorem fixedD_chk : chk fixedD = 0 := by decide +kernel

set_option maxRecDepth 100000 in
set_option maxHeartbeats 4000000 in
theorem block_any {w : World} {B u g : Nat} {RA : Option Addr} {rn rc : Nat} {ys : List Int} {most p : Nat} {OA : Option Addr} {on oc : Nat} {o : List Int} (h : USt w B u g RA rn rc ys most p OA on oc o) (ho : OSt w B u g) (F : Nat) (hF : 8 * rn - p < F) :
    Calls Tryd.prog 25 #[.pointer (some ⟨u, 0, none⟩)] w (GoPost w B u g RA rn rc ys most p OA o (blockPr F)) := by
  have HU := Lib.hid h
  have HO := Lib.hid ho
  have hc0 := h.blk.cell 0
  simp at hc0
  clear h ho
  go_enter Tryd.func25, Tryd.ntmps25
  go_wp2_with fail
  refine (take_any HU.out 2 (by omega)).mono ?_
  rintro e w1 (⟨hl1, rfl, hr1, hv1⟩ | ⟨hl1, rfl, hr1, hv1⟩)
  · have hnb := num_bd ((bitsOf ys).drop p) 2 2 (Nat.le_refl _)
    obtain ⟨v, hv⟩ : ∃ v, v = num (((bitsOf ys).drop p).take 2) := ⟨_, rfl⟩
    rw [← hv] at hnb ⊢
    have HR : Hid (∀ k, run (bitsOf ys) most (blockPr F k) p o = run (bitsOf ys) most (if v = 0 then storedPr k else if v = 1 then symPr fixedL fixedD F k else if v = 2 then lensPr F fun lits dists => symPr lits dists F k else .fail 3) (p + 2) o) := fun k => by
      unfold blockPr
      rw [run_take_ok (by rw [HU.out.bits]; exact hl1), ← hv]
    have HU1 := Lib.hid (HU.out.read hr1 hv1 hl1)
    have HV1 := Lib.hid hv1
    have HO1 := Lib.hid (HO.out.upd hv1 (by intro b hb; simp at hb; rw [hb]; exact HO.out.gb))
    have hv4 : v = 0 ∨ v = 1 ∨ v = 2 ∨ v = 3 := by omega
    have HR0 : Hid (v = 0 → ∀ k, run (bitsOf ys) most (blockPr F k) p o = run (bitsOf ys) most (storedPr k) (p + 2) o) := fun h k => by rw [HR.out, if_pos h]
    have HR1 : Hid (v = 1 → ∀ k, run (bitsOf ys) most (blockPr F k) p o = run (bitsOf ys) most (symPr fixedL fixedD F k) (p + 2) o) := fun h k => by rw [HR.out, if_neg (by omega), if_pos h]
    have HR2 : Hid (v = 2 → ∀ k, run (bitsOf ys) most (blockPr F k) p o = run (bitsOf ys) most (lensPr F fun lits dists => symPr lits dists F k) (p + 2) o) := fun h k => by rw [HR.out, if_neg (by omega), if_neg (by omega), if_pos h]
    have HR3 : Hid (v = 3 → ∀ k, run (bitsOf ys) most (blockPr F k) p o = .err 3) := fun h k => by rw [HR.out, if_neg (by omega), if_neg (by omega), if_neg (by omega), run]
    clear hv hnb hr1 hv1 hc0 HR
    rcases hv4 with rfl | rfl | rfl | rfl
    · have HS := Lib.hid (HR0.out rfl)
      clear HR0 HR1 HR2 HR3
      go_wp2_with fail
      refine (stored_any HU1.out).mono ?_
      rintro e w2 ⟨err, p2, OA2, on2, oc2, o2, rfl, hu2, hv2, hf2, hres⟩
      go_wp2
      go_ret
      refine ⟨err, p2, OA2, on2, oc2, o2, rfl, hu2, HV1.out.one.trans hv2, fun x hx => ?_, ?_⟩
      · rcases hf2 x hx with h3 | h3
        · exact Or.inl h3
        · right; have := HV1.out.size; omega
      · rcases hres with ⟨he, hrun⟩ | ⟨he, hp2, hrun⟩
        · exact Or.inl ⟨he, fun k => by rw [HS.out]; exact hrun k⟩
        · exact Or.inr ⟨he, by omega, fun k => by rw [HS.out]; exact hrun k⟩
    · have HS := Lib.hid (HR1.out rfl)
      clear HR0 HR1 HR2 HR3
      go_wp2_with fail
      refine (fixed_any w1).mono ?_
      rintro e w2 ⟨LA, lc, DA, dc, rfl, hL, hD, hv2⟩
      have HU2 := Lib.hid (HU1.out.grow hv2)
      have HV2 : Hid (Upd [some g] w w2) := HV1.out.trans (hv2.mono (by simp))
      have HL := Lib.hid hL
      have HD := Lib.hid hD
      clear hL hD hv2
      go_wp2_with fail
      refine (symbols_any HU2.out LA DA 288 lc 32 dc fixedL fixedD HL.out HD.out fixedL_chk fixedD_chk F (by omega)).mono ?_
      rintro e w3 ⟨err, p2, OA2, on2, oc2, o2, rfl, hu2, hv2, hf2, hres⟩
      go_wp2
      go_ret
      refine ⟨err, p2, OA2, on2, oc2, o2, rfl, hu2, HV2.out.one.trans hv2, fun x hx => ?_, ?_⟩
      · rcases hf2 x hx with h3 | h3
        · exact Or.inl h3
        · right; have := HV2.out.size; omega
      · rcases hres with ⟨he, hrun⟩ | ⟨he, hp2, hrun⟩
        · exact Or.inl ⟨he, fun k => by rw [HS.out]; exact hrun k⟩
        · exact Or.inr ⟨he, by omega, fun k => by rw [HS.out]; exact hrun k⟩
    · have HS := Lib.hid (HR2.out rfl)
      clear HR0 HR1 HR2 HR3
      go_wp2_with fail
      refine (lengths4_any HU1.out HO1.out F (by omega)).mono ?_
      rintro e w2 ⟨err, p2, LA, ln, lc, DA, dn, dc, rfl, hu2, hv2, ⟨he, hrun⟩ | ⟨rfl, hp2, lz, dz, hL, hD, kl, kd, hrun⟩⟩
      · have hd1 : (err != 0) = true := by simp [he]
        go_wp2
        go_ret
        exact ⟨err, p2, OA, on, oc, o, rfl, hu2, (HV1.out.trans hv2).one, fun x hx => Or.inl hx, Or.inl ⟨he, fun k => by rw [HS.out]; exact hrun (fun lits dists => symPr lits dists F k)⟩⟩
      · have HU2 := Lib.hid hu2
        have HV2 : Hid (Upd [some g] w w2) := HV1.out.trans hv2
        have HL := Lib.hid hL
        have HD := Lib.hid hD
        have HKL := Lib.hid kl
        have HKD := Lib.hid kd
        have HR2 : Hid (∀ k, run (bitsOf ys) most (blockPr F k) p o = run (bitsOf ys) most (symPr lz dz F k) p2 o) := fun k => by rw [HS.out]; exact hrun (fun lits dists => symPr lits dists F k)
        clear hL hD hv2 hu2 kl kd hrun
        go_wp2_with fail
        refine (symbols_any HU2.out LA DA ln lc dn dc lz dz HL.out HD.out HKL.out HKD.out F (by omega)).mono ?_
        rintro e w3 ⟨err, p3, OA2, on2, oc2, o2, rfl, hu3, hv3, hf3, hres⟩
        go_wp2
        go_ret
        refine ⟨err, p3, OA2, on2, oc2, o2, rfl, hu3, HV2.out.one.trans hv3, fun x hx => ?_, ?_⟩
        · rcases hf3 x hx with h3 | h3
          · exact Or.inl h3
          · right; have := HV2.out.size; omega
        · rcases hres with ⟨he, hrun⟩ | ⟨he, hp3, hrun⟩
          · exact Or.inl ⟨he, fun k => by rw [HR2.out]; exact hrun k⟩
          · exact Or.inr ⟨he, by omega, fun k => by rw [HR2.out]; exact hrun k⟩
    · have HS := Lib.hid (HR3.out rfl)
      clear HR0 HR1 HR2 HR3
      go_wp2
      go_ret
      exact ⟨3, p + 2, OA, on, oc, o, rfl, HU1.out, HV1.out.one, fun x hx => Or.inl hx, Or.inl ⟨by decide, HS.out⟩⟩
  · go_wp2
    go_ret
    exact ⟨2, p, OA, on, oc, o, rfl, HU.out.read hr1 hv1 HU.out.pos, hv1.one, fun x hx => Or.inl hx, Or.inl ⟨by decide, fun k => by unfold blockPr; rw [run_take_no (by rw [HU.out.bits]; exact hl1)]⟩⟩

end Go.Proofs.YtolcdlopgbgilaaDoor
