/- The walks of the reference's One and Same, of equal tags. -/
import Derived.Test.YtogknbpbjgdldaaRfC
import Derived.BigQuiet
namespace Go.Proofs.Ytogknbpbjgdldaa
open Go.RowKit Go.Dray

set_option maxRecDepth 100000 in
set_option maxHeartbeats 1000000 in
theorem one_any (w : World) (p q : TagP) (t : TagV) (hp : TagM w p t) (hq : TagM w q t) :
    Calls Try.prog 16 #[.agg #[.int .i64 t.tag, .int .i64 t.typ, .slice p.IA p.i p.ic, .slice p.TA p.n p.tc, .slice p.BA p.m p.bc], .agg #[.int .i64 t.tag, .int .i64 t.typ, .slice q.IA q.i q.ic, .slice q.TA q.n q.tc, .slice q.BA q.m q.bc]] w (RetU (.bool true) w) := by
  obtain ⟨IA, i, ic, TA, n, tc, BA, m, bc⟩ := p
  obtain ⟨IB, i', jc, TB, n', uc, BB, m', dc⟩ := q
  have e1 : i = i' := hp.ints.len.out.symm.trans hq.ints.len.out
  have e2 : n = n' := hp.texts.len.out.symm.trans hq.texts.len.out
  have e3 : m = m' := hp.bytes.len.out.symm.trans hq.bytes.len.out
  subst e1
  subst e2
  subst e3
  have hli := hp.li
  have hln := hp.ln
  have hlm := hp.lm
  have HP := Lib.hid hp
  have HQ := Lib.hid hq
  clear hp hq
  obtain ⟨tg, HTG⟩ : ∃ tg, Hid (t.tag = tg) := ⟨t.tag, rfl⟩
  obtain ⟨ty, HTY⟩ : ∃ ty, Hid (t.typ = ty) := ⟨t.typ, rfl⟩
  rw [HTG.out, HTY.out]
  simp only at hli hln hlm ⊢
  go_enter Try.func16, Try.ntmps16
  go_upto_region 1 with (fail)
  have HB1 : Hid (Blk ((w.alloc (.cells #[.int .i64 tg, .int .i64 ty, .slice IA i ic, .slice TA n tc, .slice BA m bc] 40)).alloc (.cells #[.int .i64 tg, .int .i64 ty, .slice IB i jc, .slice TB n uc, .slice BB m dc] 40)) w.heap.size 40 #[.int .i64 tg, .int .i64 ty, .slice IA i ic, .slice TA n tc, .slice BA m bc]) := (Blk.new _ _ _).alloc _
  have HB2 : Hid (Blk ((w.alloc (.cells #[.int .i64 tg, .int .i64 ty, .slice IA i ic, .slice TA n tc, .slice BA m bc] 40)).alloc (.cells #[.int .i64 tg, .int .i64 ty, .slice IB i jc, .slice TB n uc, .slice BB m dc] 40)) (w.heap.size + 1) 40 #[.int .i64 tg, .int .i64 ty, .slice IB i jc, .slice TB n uc, .slice BB m dc]) := by
    have := Blk.new (w.alloc (.cells #[.int .i64 tg, .int .i64 ty, .slice IA i ic, .slice TA n tc, .slice BA m bc] 40)) 40 #[.int .i64 tg, .int .i64 ty, .slice IB i jc, .slice TB n uc, .slice BB m dc]
    simp at this
    exact this
  have HU2 : Hid (Upd [] w ((w.alloc (.cells #[.int .i64 tg, .int .i64 ty, .slice IA i ic, .slice TA n tc, .slice BA m bc] 40)).alloc (.cells #[.int .i64 tg, .int .i64 ty, .slice IB i jc, .slice TB n uc, .slice BB m dc] 40))) := ((Upd.refl _ _).alloc _).alloc _
  obtain ⟨B, HB⟩ : ∃ B, Hid (B = w.heap.size) := ⟨_, rfl⟩
  rw [← HB.out] at HB1 HB2 ⊢
  generalize hw2 : World.alloc (w.alloc _) _ = w2 at *
  clear hw2
  have HP2 := Lib.hid (HP.out.upd0 HU2.out)
  have HQ2 := Lib.hid (HQ.out.upd0 HU2.out)
  clear HP HQ
  have a0 : w2.cell? ⟨B, 0, none⟩ = some (.int .i64 tg) := by rw [HB1.out.cell]; rfl
  have a1 : w2.cell? ⟨B, 1, none⟩ = some (.int .i64 ty) := by rw [HB1.out.cell]; rfl
  have a2 : w2.cell? ⟨B, 2, none⟩ = some (.slice IA i ic) := by rw [HB1.out.cell]; rfl
  have a3 : w2.cell? ⟨B, 3, none⟩ = some (.slice TA n tc) := by rw [HB1.out.cell]; rfl
  have a4 : w2.cell? ⟨B, 4, none⟩ = some (.slice BA m bc) := by rw [HB1.out.cell]; rfl
  have b0 : w2.cell? ⟨(B + 1), 0, none⟩ = some (.int .i64 tg) := by rw [HB2.out.cell]; rfl
  have b1 : w2.cell? ⟨(B + 1), 1, none⟩ = some (.int .i64 ty) := by rw [HB2.out.cell]; rfl
  have b2 : w2.cell? ⟨(B + 1), 2, none⟩ = some (.slice IB i jc) := by rw [HB2.out.cell]; rfl
  have b3 : w2.cell? ⟨(B + 1), 3, none⟩ = some (.slice TB n uc) := by rw [HB2.out.cell]; rfl
  have b4 : w2.cell? ⟨(B + 1), 4, none⟩ = some (.slice BB m dc) := by rw [HB2.out.cell]; rfl
  have s1 := Ints.str HP2.out.bytes Try.underlying25 Try.underlying5 Try.underlying9 bc
  have s2 := Ints.str HQ2.out.bytes Try.underlying25 Try.underlying5 Try.underlying9 dc
  simp only at s1 s2
  have HV2 : Hid (Upd [] w2 w2) := Upd.refl _ _
  go_wp2_with fail
  clear s1 s2 a0 a1 a2 a3 a4 b0 b1 b2 b3 b4
  go_loopw [5] (fun x wr => ∃ k : Nat, k ≤ i ∧ x = .int .i64 k ∧ Hid (Upd [] w2 wr)) (fun x _ => i - (intOf x).toNat)
  case atStart => exact ⟨0, by omega, rfl, HV2⟩
  case round =>
    obtain ⟨k, hk, rfl, HV⟩ := hrel
    clear HV2
    have HBA := Lib.hid (HB1.out.upd HV.out (by simp))
    have HBB := Lib.hid (HB2.out.upd HV.out (by simp))
    have a0 : wr.cell? ⟨B, 0, none⟩ = some (.int .i64 tg) := by rw [HBA.out.cell]; rfl
    have a1 : wr.cell? ⟨B, 1, none⟩ = some (.int .i64 ty) := by rw [HBA.out.cell]; rfl
    have a2 : wr.cell? ⟨B, 2, none⟩ = some (.slice IA i ic) := by rw [HBA.out.cell]; rfl
    have a3 : wr.cell? ⟨B, 3, none⟩ = some (.slice TA n tc) := by rw [HBA.out.cell]; rfl
    have a4 : wr.cell? ⟨B, 4, none⟩ = some (.slice BA m bc) := by rw [HBA.out.cell]; rfl
    have b0 : wr.cell? ⟨(B + 1), 0, none⟩ = some (.int .i64 tg) := by rw [HBB.out.cell]; rfl
    have b1 : wr.cell? ⟨(B + 1), 1, none⟩ = some (.int .i64 ty) := by rw [HBB.out.cell]; rfl
    have b2 : wr.cell? ⟨(B + 1), 2, none⟩ = some (.slice IB i jc) := by rw [HBB.out.cell]; rfl
    have b3 : wr.cell? ⟨(B + 1), 3, none⟩ = some (.slice TB n uc) := by rw [HBB.out.cell]; rfl
    have b4 : wr.cell? ⟨(B + 1), 4, none⟩ = some (.slice BB m dc) := by rw [HBB.out.cell]; rfl
    have HPr := Lib.hid (HP2.out.upd0 HV.out)
    have HQr := Lib.hid (HQ2.out.upd0 HV.out)
    by_cases hlt : k < i
    · obtain ⟨z, HX, hcell⟩ := HPr.out.ints.int hlt
      obtain ⟨z', HX', hcell'⟩ := HQr.out.ints.int hlt
      obtain rfl : z' = z := by have h1 := HX.out; rw [HX'.out] at h1; injection h1
      have hix := HPr.out.ints.index el_int ic .i64 k hlt
      have hix' := HQr.out.ints.index el_int jc .i64 k hlt
      go_wp2
      go_quiet (fail)
      generalize hw3 : wr.drewN _ = w3
      have HV3 : Hid (Upd [] w2 w3) := by rw [← hw3]; exact HV.out.drewN _
      clear hw3 hix hix' hcell hcell' a0 a1 a2 a3 a4 b0 b1 b2 b3 b4
      go_wp2
      go_roundw
      case rel => exact ⟨k + 1, by omega, by go_num, HV3⟩
      case measure => simp [intOf]; omega
    · obtain rfl : i = k := by omega
      go_wp2_with fail
      clear a0 a1 a2 a3 a4 b0 b1 b2 b3 b4 HBA HBB HPr HQr
      have HV2 := HV
      clear HV
      go_loopw [6] (fun x wr => ∃ k : Nat, k ≤ n ∧ x = .int .i64 k ∧ Hid (Upd [] w2 wr)) (fun x _ => n - (intOf x).toNat)
      case atStart => exact ⟨0, by omega, rfl, HV2⟩
      case round =>
        obtain ⟨k, hk, rfl, HV⟩ := hrel
        clear HV2
        have HBA := Lib.hid (HB1.out.upd HV.out (by simp))
        have HBB := Lib.hid (HB2.out.upd HV.out (by simp))
        have a0 : wr.cell? ⟨B, 0, none⟩ = some (.int .i64 tg) := by rw [HBA.out.cell]; rfl
        have a1 : wr.cell? ⟨B, 1, none⟩ = some (.int .i64 ty) := by rw [HBA.out.cell]; rfl
        have a2 : wr.cell? ⟨B, 2, none⟩ = some (.slice IA i ic) := by rw [HBA.out.cell]; rfl
        have a3 : wr.cell? ⟨B, 3, none⟩ = some (.slice TA n tc) := by rw [HBA.out.cell]; rfl
        have a4 : wr.cell? ⟨B, 4, none⟩ = some (.slice BA m bc) := by rw [HBA.out.cell]; rfl
        have b0 : wr.cell? ⟨(B + 1), 0, none⟩ = some (.int .i64 tg) := by rw [HBB.out.cell]; rfl
        have b1 : wr.cell? ⟨(B + 1), 1, none⟩ = some (.int .i64 ty) := by rw [HBB.out.cell]; rfl
        have b2 : wr.cell? ⟨(B + 1), 2, none⟩ = some (.slice IB i jc) := by rw [HBB.out.cell]; rfl
        have b3 : wr.cell? ⟨(B + 1), 3, none⟩ = some (.slice TB n uc) := by rw [HBB.out.cell]; rfl
        have b4 : wr.cell? ⟨(B + 1), 4, none⟩ = some (.slice BB m dc) := by rw [HBB.out.cell]; rfl
        have HPr := Lib.hid (HP2.out.upd0 HV.out)
        have HQr := Lib.hid (HQ2.out.upd0 HV.out)
        by_cases hlt : k < n
        · obtain ⟨z, HX, hcell⟩ := HPr.out.texts.str hlt
          obtain ⟨z', HX', hcell'⟩ := HQr.out.texts.str hlt
          obtain rfl : z' = z := by have h1 := HX.out; rw [HX'.out] at h1; injection h1
          have hix := HPr.out.texts.index tc k hlt
          have hix' := HQr.out.texts.index uc k hlt
          go_wp2
          go_quiet (fail)
          generalize hw3 : wr.drewN _ = w3
          have HV3 : Hid (Upd [] w2 w3) := by rw [← hw3]; exact HV.out.drewN _
          clear hw3 hix hix' hcell hcell' a0 a1 a2 a3 a4 b0 b1 b2 b3 b4
          go_wp2
          go_roundw
          case rel => exact ⟨k + 1, by omega, by go_num, HV3⟩
          case measure => simp [intOf]; omega
        · obtain rfl : n = k := by omega
          go_wp2
          go_ret
          exact ⟨rfl, HU2.out.trans HV.out⟩

set_option maxRecDepth 100000 in
set_option maxHeartbeats 1000000 in
theorem same_any (w : World) (A : Option Addr) (n c : Nat) (D : Option Addr) (d : Nat) (ts : List TagV) (hA : Tags w A n ts) (hD : Tags w D n ts) (hn : n ≤ 1000000) :
    Calls Try.prog 14 #[.slice A n c, .slice D n d] w (RetU (.bool true) w) := by
  have HA := Lib.hid hA
  have HD := Lib.hid hD
  clear hA hD
  go_enter Try.func14, Try.ntmps14
  go_wp2_with fail
  go_loopw [5] (fun x wr => ∃ k : Nat, k ≤ n ∧ x = .int .i64 k ∧ Hid (Upd [] w wr)) (fun x _ => n - (intOf x).toNat)
  case atStart => exact ⟨0, by omega, rfl, Upd.refl _ _⟩
  case round =>
    obtain ⟨k, hk, rfl, HU⟩ := hrel
    by_cases hlt : k < n
    · obtain ⟨t, p, HT, HP, a0, a1, a2, a3, a4⟩ := (HA.out.upd0 HU.out).get hlt
      obtain ⟨u, q, HS, HQ, b0, b1, b2, b3, b4⟩ := (HD.out.upd0 HU.out).get hlt
      obtain rfl : u = t := by have h1 := HT.out; rw [HS.out] at h1; injection h1
      have hix := (HA.out.upd0 HU.out).index c k hlt
      have hiy := (HD.out.upd0 HU.out).index d k hlt
      go_wp2
      have f0 := fun x => later_cell a0 x
      have f1 := fun x => later_cell a1 x
      have f2 := fun x => later_cell a2 x
      have f3 := fun x => later_cell a3 x
      have f4 := fun x => later_cell a4 x
      have g0 := fun x => later_cell b0 x
      have g1 := fun x => later_cell b1 x
      have g2 := fun x => later_cell b2 x
      have g3 := fun x => later_cell b3 x
      have g4 := fun x => later_cell b4 x
      clear a0 a1 a2 a3 a4 b0 b1 b2 b3 b4
      refine wp_region_later (by kernel_rfl) (by kernel_rfl) ?_
      repeat (go_big_quiet_step (first | (go_at_call 16; exact laterU (one_any _ p q u (HP.out.upd0 (later_upd _ _)) (HQ.out.upd0 (later_upd _ _))))))
      refine wpQuiet_nil ?_
      intro _ hw'
      obtain ⟨xq, hw''⟩ := hw'
      subst hw''
      obtain ⟨w5, hw5⟩ : ∃ w5 : World, w5 = later wr xq := ⟨_, rfl⟩
      rw [← hw5]
      have HU5 : Hid (Upd [] w w5) := by rw [hw5]; exact HU.out.trans (later_upd wr xq)
      clear hw5 f0 f1 f2 f3 f4 g0 g1 g2 g3 g4 hix hiy
      go_wp2
      go_roundw
      case rel => exact ⟨k + 1, by omega, by go_num, HU5⟩
      case measure => simp [intOf]; omega
    · obtain rfl : k = n := by omega
      go_wp2
      go_ret
      exact ⟨rfl, HU.out⟩

end Go.Proofs.Ytogknbpbjgdldaa
