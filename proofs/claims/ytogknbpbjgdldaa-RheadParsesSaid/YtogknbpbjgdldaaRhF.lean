/- The walk of rhead.Print. -/
import Derived.Test.YtogknbpbjgdldaaRhE
namespace Go.Proofs.Ytogknbpbjgdldaa
open Go.RowKit Go.Dray

theorem ints_lit (w : World) (kd : IntKind) (t : TypeId) (zs : List Int) : Ints kd (w.alloc (.cells (zs.map (Value.int kd)).toArray t)) (some ⟨w.heap.size, 0, none⟩) zs.length zs := by
  have := (Blk.new w t (zs.map (Value.int kd)).toArray).seg
  simp at this
  exact this

/-- What right tags are. -/
structure Good (t : TagV) : Prop where
  lo : 100 ≤ t.tag
  hi : t.tag ≤ 2147483647
  ty1 : 1 ≤ t.typ
  ty9 : t.typ ≤ 9
  right : rightP t
theorem errT_good {q : Option Int} {t : TagV} (h : errT q t = 0) : Good t := by
  unfold errT at h
  split at h
  · cases h
  · rename_i h1
    split at h
    · cases h
    · split at h
      · cases h
      · rename_i h2
        split at h
        · cases h
        · rename_i h3
          refine ⟨by omega, by omega, by omega, by omega, ?_⟩
          unfold rightB at h3
          simpa using h3
theorem chk_good {q : Option Int} {ts : List TagV} (h : chk q ts = 0) : ∀ t ∈ ts, Good t := by
  induction ts generalizing q with
  | nil => intro t ht; cases ht
  | cons t ts ih =>
    unfold chk at h
    split at h
    · rename_i h1
      intro u hu
      rcases List.mem_cons.1 hu with rfl | hu
      · exact errT_good h1
      · exact ih h u hu
    · rename_i h1; exact absurd h h1
theorem Good.ints {t : TagV} (h : Good t) : ∀ z ∈ t.ints, 0 ≤ z := by
  intro z hz
  have hr := h.right
  unfold rightP at hr
  split at hr
  · exact (hr.2.2.2 z hz).1
  · split at hr
    · rw [hr.2.1] at hz; cases hz
    · rw [hr.2.2.1] at hz; cases hz
theorem check_zero {ts : List TagV} (h : checkE ts = 0) : ts.length ≤ 256 ∧ chk none ts = 0 ∧ dlen ts + 16 ≤ 1048576 := by
  unfold checkE at h
  split at h
  · cases h
  · split at h
    · rename_i h1 h2
      split at h
      · cases h
      · rename_i h3
        exact ⟨by omega, h2, by omega⟩
    · rename_i h1 h2
      exact absurd h h2
theorem dlen_app (us bs : List TagV) : dlen us ≤ dlen (us ++ bs) := by
  induction bs using snoc_ind with
  | h0 => simp
  | h1 bs t ih =>
    rw [← List.append_assoc, dlen_snoc]
    have := upN_ge (dlen (us ++ bs)) (sizeT t.typ) (sizeT_bd t.typ).1
    omega
theorem dlen_take (ts : List TagV) (k : Nat) : dlen (ts.take k) ≤ dlen ts := by
  have := dlen_app (ts.take k) (ts.drop k)
  rwa [List.take_append_drop] at this
theorem dlen_step {ts : List TagV} {k : Nat} {t : TagV} (h : ts[k]? = some t) : upN (dlen (ts.take k)) (sizeT t.typ) + lenT t ≤ dlen ts := by
  obtain ⟨hk, he⟩ := List.getElem?_eq_some_iff.1 h
  have h1 := dlen_take ts (k + 1)
  rw [List.take_succ_eq_append_getElem hk, he, dlen_snoc] at h1
  exact h1
theorem cnt_le (t : TagV) : t.ints.length ≤ lenT t ∧ t.texts.length ≤ lenT t ∧ t.bytes.length ≤ lenT t ∧ cntT t ≤ lenT t := by
  have h := (sizeT_bd t.typ).1
  have h1 : t.ints.length ≤ t.ints.length * sizeT t.typ := Nat.le_mul_of_pos_right _ (by omega)
  have h2 : t.texts.length ≤ textLen t.texts := by
    unfold textLen
    induction t.texts with
    | nil => simp
    | cons s l ih => simp at ih ⊢; omega
  unfold cntT lenT
  omega

theorem mod_nat (m j s : Nat) : ((m : Int) + j) % s = (((m + j) % s : Nat) : Int) := by rw [Int.natCast_emod, Int.natCast_add]

theorem nat_ne_b {x : Nat} (h : x ≠ 0) : ((x : Int) != 0) = true := by simp; exact h

/-- What Print hands back. -/
def PrintPost (ts : List TagV) (w : World) (e : Ending) (w' : World) : Prop :=
  ∃ X c, e = .returned (.tuple #[.slice X (printB ts).length c, .int .i64 0]) ∧ Own w' w.heap.size 5 1 X (printB ts).length c ((printB ts).map (Value.int .u8)) ∧ Upd [] w w'

set_option maxRecDepth 100000 in
set_option maxHeartbeats 400000 in
theorem print_err (w : World) (A : Option Addr) (n c : Nat) (ts : List TagV) (h : Tags w A n ts) (hd : dsum ts ≤ 100000000000000) (hn : n ≤ 1000000000000000) (he : checkE ts ≠ 0) :
    Calls Try.prog 9 #[.slice A n c] w (RetU (.tuple #[.slice none 0 0, .int .i64 (checkE ts)]) w) := by
  have HH := Lib.hid h
  have d0 : (checkE ts != 0) = true := by simpa using he
  clear h he
  go_enter Try.func9, Try.ntmps9
  go_wp2_with fail
  refine (check_any w A n c ts HH.out hd hn).mono ?_
  rintro e w1 ⟨rfl, hv1⟩
  go_wp2
  go_ret2
  exact ⟨rfl, hv1⟩

set_option maxRecDepth 100000 in
set_option maxHeartbeats 2000000 in
theorem print_ok (w : World) (A : Option Addr) (n c : Nat) (ts : List TagV) (h : Tags w A n ts) (hd : dsum ts ≤ 100000000000000) (he : checkE ts = 0) :
    Calls Try.prog 9 #[.slice A n c] w (PrintPost ts w) := by
  have HH := Lib.hid h
  have HL := Lib.hid h.len
  have HE := Lib.hid he
  obtain ⟨hz1, hz2, hz3⟩ := check_zero he
  have HC := Lib.hid hz2
  rw [HL.out] at hz1
  obtain ⟨dl, HDL⟩ : ∃ dl, Hid (dl = dlen ts) := ⟨_, rfl⟩
  rw [← HDL.out] at hz3
  have HG := Lib.hid (chk_good hz2)
  clear h he hz2
  go_enter Try.func9, Try.ntmps9
  go_wp2_with fail
  refine (check_any w A n c ts HH.out hd (by omega)).mono ?_
  rintro e w1 ⟨rfl, hv1⟩
  rw [HE.out]
  have HR1 : Hid (PR w w1 none 0 0 none 0 0 [] []) := ⟨Own.nil _ _ _ _, Own.nil _ _ _ _, (fun g hg => by cases hg), hv1⟩
  clear hv1
  go_wp2_with fail
  go_loopw [5, 6, 23] (fun x d i wr => ∃ (k m : Nat) (X : Option Addr) (xc : Nat) (D : Option Addr) (dc : Nat), k ≤ n ∧ m ≤ dl ∧ i = .int .i64 k ∧ x = .slice X (16 * k) xc ∧ d = .slice D m dc ∧ Hid (m = dlen (ts.take k)) ∧ Hid (PR w wr X (16 * k) xc D m dc (idxB ts k) (dataB (ts.take k)))) (fun _ _ i _ => n - (intOf i).toNat)
  case atStart => exact ⟨0, 0, none, 0, none, 0, by omega, by omega, rfl, rfl, rfl, rfl, HR1⟩
  case round =>
    clear HR1
    obtain ⟨k, m, X, xc, D, dc, hk, hm, rfl, rfl, rfl, HM, HR⟩ := hrel
    by_cases hlt : k < n
    · obtain ⟨t, p, HT, HP, v0, v1, v2, v3, v4⟩ := HH.out.get hlt
      have c0 := HR.out.upd.cell v0 (by simp)
      have c1 := HR.out.upd.cell v1 (by simp)
      have c2 := HR.out.upd.cell v2 (by simp)
      have c3 := HR.out.upd.cell v3 (by simp)
      have c4 := HR.out.upd.cell v4 (by simp)
      clear v0 v1 v2 v3 v4
      have hix := HH.out.index c k hlt
      have HGT := Lib.hid (HG.out t (List.mem_of_getElem? HT.out))
      have hst := dlen_step HT.out
      rw [← HM.out, ← HDL.out] at hst
      have hcn := cnt_le t
      obtain ⟨s, HS⟩ : ∃ s, Hid (s = sizeT t.typ) := ⟨_, rfl⟩
      have hsb := sizeT_bd t.typ
      rw [← HS.out] at hsb hst
      have hsz : (sizeT t.typ : Int) = (s : Int) := by rw [HS.out]
      have hlt1 : lenT t ≤ dl := by omega
      have HLI := HP.out.ints.len
      have HLN := HP.out.texts.len
      have HLM := HP.out.bytes.len
      have hpi : p.i ≤ dl := by have h1 := HLI.out; omega
      have hpn : p.n ≤ dl := by have h1 := HLN.out; omega
      have hpm : p.m ≤ dl := by have h1 := HLM.out; omega
      have hg1 := HGT.out.lo
      have hg2 := HGT.out.hi
      have hg3 := HGT.out.ty1
      have hg4 := HGT.out.ty9
      have HPU : Hid (∀ W, Upd [] w W → TagM W p t) := fun W hW => HP.out.upd0 hW
      obtain ⟨P, HPP⟩ : ∃ P, Hid (P = padL m s) := ⟨_, rfl⟩
      have hmP : m + P + lenT t ≤ dl := by
        have h1 := upN_ge m s hsb.1
        rw [HPP.out]
        unfold padL
        omega
      have HMP : Hid (m + P = upN m s) := by
        show _ = _
        have h1 := upN_ge m s hsb.1
        rw [HPP.out]
        unfold padL
        omega
      clear hst hcn
      go_wp2_with fail
      obtain ⟨B, HB⟩ : ∃ B, Hid (B = wr.heap.size) := ⟨_, rfl⟩
      have HBK : Hid (Blk (wr.alloc (.cells #[.int .i64 t.tag, .int .i64 t.typ, .slice p.IA p.i p.ic, .slice p.TA p.n p.tc, .slice p.BA p.m p.bc] 40)) wr.heap.size 40 #[.int .i64 t.tag, .int .i64 t.typ, .slice p.IA p.i p.ic, .slice p.TA p.n p.tc, .slice p.BA p.m p.bc]) := Blk.new _ _ _
      have HV0 : Hid (Upd [] wr (wr.alloc (.cells #[.int .i64 t.tag, .int .i64 t.typ, .slice p.IA p.i p.ic, .slice p.TA p.n p.tc, .slice p.BA p.m p.bc] 40))) := (Upd.refl _ _).alloc _
      rw [← HB.out] at HBK ⊢
      generalize hw2 : wr.alloc _ = w2 at *
      have HR2 := Lib.hid (HR.out.keep HV0.out)
      clear hw2 HV0 HR c0 c1 c2 c3 c4
      obtain ⟨wo, HWO⟩ : ∃ wo : World, Hid (wo = wr) := ⟨_, rfl⟩
      go_loopw [6] (fun d wr => ∃ (j : Nat) (D : Option Addr) (dc : Nat), j ≤ P ∧ d = .slice D (m + j) dc ∧ Hid (PR w wr X (16 * k) xc D (m + j) dc (idxB ts k) (dataB (ts.take k) ++ List.replicate j 0)) ∧ Hid (Blk wr B 40 #[.int .i64 t.tag, .int .i64 t.typ, .slice p.IA p.i p.ic, .slice p.TA p.n p.tc, .slice p.BA p.m p.bc])) (fun d _ => match d with | .slice _ q _ => m + 10 - q | _ => 0)
      case atStart => exact ⟨0, D, dc, by omega, rfl, by show PR _ _ _ _ _ _ _ _ _ _; simpa using HR2.out, HBK⟩
      case round =>
        clear HR2 HBK
        obtain ⟨j, D, dc, hj, rfl, HR, HBK⟩ := hrel
        have e1 : wr.cell? ⟨B, 1, none⟩ = some (.int .i64 t.typ) := by rw [HBK.out.cell]; rfl
        have hP8 : P ≤ 7 := by
          have h1 := upN_le m s hsb.1 hsb.2
          have h2 := HMP.out
          omega
        by_cases hjP : j < P
        · have d1 : (((m : Int) + j) % s != 0) = true := by
            have h1 := pad_more m s j hsb.1 (by rw [← HPP.out]; exact hjP)
            rw [mod_nat]
            exact nat_ne_b h1
          have hB1 : w.heap.size ≤ wr.heap.size := HR.out.upd.size
          go_wp2_with fail
          refine (size_any t.typ wr).mono ?_
          rintro e w' ⟨rfl, rfl⟩
          rw [hsz]
          go_wp2_with (at_builtin; refine wpList_app rfl rfl el_byte rfl (HR.out.dat.alloc _) rfl (Seg.one _ _ _) (by intro u hu; simp at hu; subst hu; rfl) (by simp only [maxLen]; omega) (by omega) (by simp; omega) ?_; intro D3 c3 w3 hown3 hu3 hfr3)
          have HV : Hid (Upd [ob D] wr w3) := ((Upd.refl _ _).alloc _).trans hu3
          have HF : Hid (Fresh wr D D3) := fun g hg => by
            rcases hfr3 g hg with h | h
            · exact Or.inl h
            · right; simp at h; omega
          have HR3 : Hid (PR w w3 X (16 * k) xc D3 (m + (j + 1)) c3 (idxB ts k) (dataB (ts.take k) ++ List.replicate (j + 1) 0)) := by
            refine HR.out.moreD ?_ HV.out HF.out
            rw [List.replicate_succ', ← List.append_assoc, List.map_append]
            exact hown3
          have HBK3 := Lib.hid (HBK.out.upd HV.out (by simp; exact fun h => HR.out.dat.neBlk HBK.out (by decide) h.symm))
          clear hown3 hu3 hfr3 HR HBK
          go_roundw
          case rel => exact ⟨j + 1, D3, c3, by omega, rfl, HR3, HBK3⟩
          case measure => simp; omega
        · obtain rfl : j = P := by omega
          have d1 : (((m : Int) + j) % s != 0) = false := by
            have h1 := pad_done m s hsb.1
            rw [← HPP.out] at h1
            rw [mod_nat, h1]
            rfl
          have e0 : wr.cell? ⟨B, 0, none⟩ = some (.int .i64 t.tag) := by rw [HBK.out.cell]; rfl
          have e2 : wr.cell? ⟨B, 2, none⟩ = some (.slice p.IA p.i p.ic) := by rw [HBK.out.cell]; rfl
          have e3 : wr.cell? ⟨B, 3, none⟩ = some (.slice p.TA p.n p.tc) := by rw [HBK.out.cell]; rfl
          have e4 : wr.cell? ⟨B, 4, none⟩ = some (.slice p.BA p.m p.bc) := by rw [HBK.out.cell]; rfl
          go_wp2_with fail
          refine (size_any t.typ wr).mono ?_
          rintro e w' ⟨rfl, rfl⟩
          rw [hsz]
          go_wp2_with fail
          have HXL : Hid (∀ b, ob X = some b → b < wr.heap.size) := fun b hb => (HR.out.idx.base hb).2
          have hB1 : w.heap.size ≤ wr.heap.size := HR.out.upd.size
          have hv2 : Upd [] wr (wr.alloc (.cells #[.int .i64 t.tag, .int .i64 t.typ, .int .i64 ((m : Int) + j), .int .i64 ((p.i : Int) + p.n + p.m)] 3)) := (Upd.refl _ _).alloc _
          refine (put_any (wr.alloc (.cells #[.int .i64 t.tag, .int .i64 t.typ, .int .i64 ((m : Int) + j), .int .i64 ((p.i : Int) + p.n + p.m)] 3)) w.heap.size X (16 * k) xc (idxB ts k) (HR.out.idx.upd hv2 (by simp)) (by simp; omega) (by omega) _ 4 4 [t.tag, t.typ, (m : Int) + j, (p.i : Int) + p.n + p.m] (ints_lit wr .i64 _ [t.tag, t.typ, (m : Int) + j, (p.i : Int) + p.n + p.m]) (by intro z hz; simp at hz; omega) (by omega) (fun _ => by simp [bl]; intro h; have := HXL.out _ h.symm; omega)).mono ?_
          rintro e w3 ⟨X3, xc3, rfl, ho3, hv3, hf3⟩
          have HV : Hid (Upd [ob X] wr w3) := (hv2.mono (by simp)).trans hv3
          have HF : Hid (Fresh wr X X3) := fun g hg => by
            rcases hf3 g hg with h | h
            · exact Or.inl h
            · right; simp at h; omega
          obtain ⟨ds0, HDS0⟩ : ∃ ds0 : List Int, Hid (ds0 = dataB (ts.take k) ++ List.replicate j 0) := ⟨dataB (ts.take k) ++ List.replicate j 0, rfl⟩
          have HR3 : Hid (PR w w3 X3 (16 * (k + 1)) xc3 D (m + j) dc (idxB ts (k + 1)) ds0) := by
            have h1 : idxB ts (k + 1) = idxB ts k ++ be4s [t.tag, t.typ, (m : Int) + j, (p.i : Int) + p.n + p.m] := by
              rw [idxB_succ HT.out, ← HM.out, ← HS.out, ← HMP.out]
              unfold cntT
              rw [HLI.out, HLN.out, HLM.out, Int.natCast_add, Int.natCast_add, Int.natCast_add]
            rw [h1, HDS0.out]
            exact HR.out.moreX ho3 HV.out HF.out
          have HBK3 := Lib.hid (HBK.out.upd HV.out (by simp; exact fun h => HR.out.idx.neBlk HBK.out (by decide) h.symm))
          clear ho3 hv3 hf3 hv2 HR HBK e0 e1 e2 e3 e4 d1 HV HF
          have e2 : w3.cell? ⟨B, 2, none⟩ = some (.slice p.IA p.i p.ic) := by rw [HBK3.out.cell]; rfl
          obtain ⟨m3, HM3⟩ : ∃ m3, Hid (m3 = m + j) := ⟨_, rfl⟩
          rw [← HM3.out] at HR3 hmP ⊢
          go_wp2_with fail
          go_loopw [6, 61] (fun d i wr => ∃ (q : Nat) (D : Option Addr) (dc : Nat), q ≤ p.i ∧ i = .int .i64 q ∧ d = .slice D (m3 + q * s) dc ∧ Hid (PR w wr X3 (16 * (k + 1)) xc3 D (m3 + q * s) dc (idxB ts (k + 1)) (ds0 ++ intsB t q)) ∧ Hid (Blk wr B 40 #[.int .i64 t.tag, .int .i64 t.typ, .slice p.IA p.i p.ic, .slice p.TA p.n p.tc, .slice p.BA p.m p.bc])) (fun _ i _ => p.i - (intOf i).toNat)
          case atStart => exact ⟨0, D, dc, by omega, rfl, by rw [Nat.zero_mul]; rfl, by show PR _ _ _ _ _ _ _ _ _ _; simpa [intsB] using HR3.out, HBK3⟩
          case round =>
            clear HR3 HBK3 e2
            obtain ⟨q, D, dc, hq, rfl, rfl, HR, HBK⟩ := hrel
            have hqs : q * s ≤ p.i * s := Nat.mul_le_mul_right s hq
            have hil : p.i * s ≤ lenT t := by
              unfold lenT
              rw [HLI.out, ← HS.out]
              omega
            by_cases hqi : q < p.i
            · have HPr := Lib.hid (HPU.out wr HR.out.upd)
              obtain ⟨z, HZ, hcell⟩ := HPr.out.ints.int hqi
              have hixz := HPr.out.ints.index el_int p.ic .i64 q hqi
              have hz0 := HGT.out.ints z (List.mem_of_getElem? HZ.out)
              have hz1 := (HPr.out.ib z (List.mem_of_getElem? HZ.out)).2
              have e1 : wr.cell? ⟨B, 1, none⟩ = some (.int .i64 t.typ) := by rw [HBK.out.cell]; rfl
              obtain ⟨a, HA⟩ : ∃ a, Hid (a = m3 + q * s) := ⟨_, rfl⟩
              have hab : a ≤ dl := by have := HA.out; omega
              rw [← HA.out] at HR ⊢
              go_wp2_with fail
              refine (size_any t.typ wr).mono ?_
              rintro e w' ⟨rfl, rfl⟩
              rw [hsz]
              go_wp2_with fail
              refine (be_any wr z s (by omega) (by omega)).mono ?_
              rintro e w4 ⟨E, ec, rfl, hE, hv4⟩
              rw [Int.toNat_natCast] at hE ⊢
              have HR4 := Lib.hid (HR.out.keep hv4)
              have HBK4 := Lib.hid (HBK.out.upd hv4 (by simp))
              have HE4 := Lib.hid hE
              have hB4 : w.heap.size ≤ w4.heap.size := HR4.out.upd.size
              clear hE hv4 HR HBK hcell hixz e1
              go_wp2_with (at_builtin; refine wpList_app rfl rfl el_byte rfl HR4.out.dat rfl HE4.out.seg (ints_one _ _) (by simp only [maxLen]; omega) (by omega) hB4 ?_; intro D5 c5 w5 hown5 hu5 hfr5)
              have HR5 : Hid (PR w w5 X3 (16 * (k + 1)) xc3 D5 (m3 + (q + 1) * s) c5 (idxB ts (k + 1)) (ds0 ++ intsB t (q + 1))) := by
                have e : a + s = m3 + (q + 1) * s := by rw [HA.out, Nat.succ_mul]; omega
                rw [e] at hown5
                refine HR4.out.moreD ?_ hu5 hfr5
                rw [intsB_succ t HZ.out, ← HS.out, ← List.append_assoc, List.map_append]
                exact hown5
              have HBK5 := Lib.hid (HBK4.out.upd hu5 (by simp; exact fun h => HR4.out.dat.neBlk HBK4.out (by decide) h.symm))
              have HAE : Hid (a + s = m3 + (q + 1) * s) := by show _ = _; rw [HA.out, Nat.succ_mul]; omega
              clear hown5 hu5 hfr5 HR4 HBK4 HE4
              rw [HAE.out]
              go_roundw
              case rel => exact ⟨q + 1, D5, c5, by omega, by go_num, rfl, HR5, HBK5⟩
              case measure => simp [intOf]; omega
            · obtain rfl : q = p.i := by omega
              have e3 : wr.cell? ⟨B, 3, none⟩ = some (.slice p.TA p.n p.tc) := by rw [HBK.out.cell]; rfl
              obtain ⟨m4, HM4⟩ : ∃ m4, Hid (m4 = m3 + p.i * s) := ⟨_, rfl⟩
              rw [← HM4.out] at HR ⊢
              obtain ⟨ds1, HDS1⟩ : ∃ ds1 : List Int, Hid (ds1 = ds0 ++ intsB t p.i) := ⟨ds0 ++ intsB t p.i, rfl⟩
              rw [← HDS1.out] at HR
              have HBD : Hid (m4 + textLen t.texts + p.m ≤ dl) := by
                have h1 := HM4.out
                have h2 : lenT t = p.i * s + p.m + textLen t.texts := by unfold lenT; rw [HLI.out, HLM.out, ← HS.out]
                show _ ≤ _
                omega
              go_wp2_with fail
              go_loopw [6, 77] (fun d i wr => ∃ (v a : Nat) (D : Option Addr) (dc : Nat), v ≤ p.n ∧ a ≤ dl ∧ i = .int .i64 v ∧ d = .slice D a dc ∧ Hid (a = m4 + textLen (t.texts.take v)) ∧ Hid (PR w wr X3 (16 * (k + 1)) xc3 D a dc (idxB ts (k + 1)) (ds1 ++ textsB (t.texts.take v))) ∧ Hid (Blk wr B 40 #[.int .i64 t.tag, .int .i64 t.typ, .slice p.IA p.i p.ic, .slice p.TA p.n p.tc, .slice p.BA p.m p.bc])) (fun _ i _ => p.n - (intOf i).toNat)
              case atStart => exact ⟨0, m4, D, dc, by omega, by have := HBD.out; omega, rfl, rfl, rfl, by show PR _ _ _ _ _ _ _ _ _ _; simpa [textsB] using HR.out, HBK⟩
              case round =>
                clear HR HBK e3
                obtain ⟨v, a, D, dc, hv, hab, rfl, rfl, HA, HR, HBK⟩ := hrel
                by_cases hvn : v < p.n
                · have HPr := Lib.hid (HPU.out wr HR.out.upd)
                  obtain ⟨x, HX, hcell⟩ := HPr.out.texts.str hvn
                  have hixs := HPr.out.texts.index p.tc v hvn
                  have htl := textLen_take HX.out
                  have htl2 := textLen_le t.texts (v + 1)
                  rw [htl] at htl2
                  have hxs : a + x.size + 1 ≤ dl := by have h1 := HA.out; have h2 := HBD.out; omega
                  have HTL := Lib.hid htl
                  have hB4 : w.heap.size ≤ wr.heap.size := HR.out.upd.size
                  clear htl htl2
                  go_upto_region 21 with (at_builtin; refine wpList_appS rfl rfl el_byte Try.underlying9 rfl HR.out.dat rfl (by simp only [maxLen]; omega) (by omega) hB4 ?_; intro D5 c5 w5 hown5 hu5 hfr5; have HO5 := Lib.hid hown5; have HV5 := Lib.hid hu5; have HF5 := Lib.hid hfr5; clear hown5 hu5 hfr5)
                  have HR5 : Hid (PR w w5 X3 (16 * (k + 1)) xc3 D5 (a + x.size) c5 (idxB ts (k + 1)) (ds1 ++ textsB (t.texts.take v) ++ sb x)) := by
                    refine HR.out.moreD ?_ HV5.out HF5.out
                    rw [List.map_append]
                    exact HO5.out
                  have HBK5 := Lib.hid (HBK.out.upd HV5.out (by simp; exact fun h => HR.out.dat.neBlk HBK.out (by decide) h.symm))
                  have hB5 : w.heap.size ≤ w5.heap.size := HR5.out.upd.size
                  clear HR HBK HO5 HV5 HF5 hcell hixs
                  go_wp2_with (at_builtin; refine wpList_app rfl rfl el_byte rfl (HR5.out.dat.alloc _) rfl (Seg.one _ _ _) (by intro u hu; simp at hu; subst hu; rfl) (by simp only [maxLen]; omega) (by omega) (by simp; omega) ?_; intro D6 c6 w6 hown6 hu6 hfr6)
                  have HV : Hid (Upd [ob D5] w5 w6) := ((Upd.refl _ _).alloc _).trans hu6
                  have HF : Hid (Fresh w5 D5 D6) := fun g hg => by
                    rcases hfr6 g hg with h | h
                    · exact Or.inl h
                    · right; simp at h; omega
                  have HR6 : Hid (PR w w6 X3 (16 * (k + 1)) xc3 D6 (a + x.size + 1) c6 (idxB ts (k + 1)) (ds1 ++ textsB (t.texts.take (v + 1)))) := by
                    refine HR5.out.moreD ?_ HV.out HF.out
                    rw [textsB_take HX.out, ← List.append_assoc, ← List.append_assoc, List.map_append]
                    exact hown6
                  have HBK6 := Lib.hid (HBK5.out.upd HV.out (by simp; exact fun h => HR5.out.dat.neBlk HBK5.out (by decide) h.symm))
                  clear hown6 hu6 hfr6 HR5 HBK5
                  go_roundw
                  case rel => exact ⟨v + 1, a + x.size + 1, D6, c6, by omega, by omega, by go_num, rfl, by show _ = _; rw [HTL.out, HA.out]; omega, HR6, HBK6⟩
                  case measure => simp [intOf]; omega
                · obtain rfl : v = p.n := by omega
                  have e4 : wr.cell? ⟨B, 4, none⟩ = some (.slice p.BA p.m p.bc) := by rw [HBK.out.cell]; rfl
                  have HPr := Lib.hid (HPU.out wr HR.out.upd)
                  have HA2 : Hid (a = m4 + textLen t.texts) := by
                    show _ = _
                    rw [HA.out, List.take_of_length_le (by rw [HLN.out]; exact Nat.le_refl _)]
                  have ham : a + p.m ≤ dl := by have h1 := HA2.out; have h2 := HBD.out; omega
                  have hB4 : w.heap.size ≤ wr.heap.size := HR.out.upd.size
                  go_wp2_with (at_builtin; refine wpList_app rfl rfl el_byte rfl HR.out.dat rfl HPr.out.bytes (ints_one _ _) (by simp only [maxLen]; omega) (by omega) hB4 ?_; intro D5 c5 w5 hown5 hu5 hfr5)
                  have HR5 : Hid (PR w w5 X3 (16 * (k + 1)) xc3 D5 (a + p.m) c5 (idxB ts (k + 1)) (dataB (ts.take (k + 1)))) := by
                    refine HR.out.moreD ?_ hu5 hfr5
                    have e : dataB (ts.take (k + 1)) = ds1 ++ textsB (t.texts.take p.n) ++ t.bytes := by
                      rw [dataB_take HT.out, ← HM.out, ← HS.out, ← HPP.out, ← HDS0.out, HDS1.out, List.take_of_length_le (by rw [HLN.out]; exact Nat.le_refl _)]
                      unfold bodyT
                      rw [HLI.out]
                      simp
                    rw [e, List.map_append]
                    exact hown5
                  have HMN : Hid (a + p.m = dlen (ts.take (k + 1))) := by
                    show _ = _
                    obtain ⟨hkl, hke⟩ := List.getElem?_eq_some_iff.1 HT.out
                    rw [List.take_succ_eq_append_getElem hkl, hke, dlen_snoc, ← HM.out, ← HS.out, ← HMP.out, ← HM3.out, HA2.out, HM4.out]
                    unfold lenT
                    rw [HLI.out, HLM.out, ← HS.out]
                    omega
                  clear hown5 hu5 hfr5
                  go_roundw
                  case rel => exact ⟨k + 1, a + p.m, X3, xc3, D5, c5, by omega, ham, by go_num, rfl, rfl, HMN, HR5⟩
                  case measure => simp [intOf]; omega
    · obtain rfl : k = n := by omega
      have HME : Hid (m = dlen ts) := by
        show _ = _
        rw [HM.out, List.take_of_length_le (by rw [HL.out]; exact Nat.le_refl _)]
      have HRE : Hid (PR w wr X (16 * k) xc D m dc (idxB ts k) (dataB ts)) := by
        have h := HR.out
        rw [List.take_of_length_le (by rw [HL.out]; exact Nat.le_refl _)] at h
        exact h
      have hB1 : w.heap.size ≤ wr.heap.size := HRE.out.upd.size
      clear HR
      go_wp2_with fail
      refine (put_any (wr.alloc (.cells #[.int .i64 ((k : Int) + 1), .int .i64 ((m : Int) + 16)] 3)) wr.heap.size none 0 0 [] (Own.nil _ _ _ _) (by simp) (by omega) _ 2 2 [(k : Int) + 1, (m : Int) + 16] (ints_lit wr .i64 _ [(k : Int) + 1, (m : Int) + 16]) (by intro z hz; simp at hz; omega) (by omega) (fun _ => by simp [ob])).mono ?_
      rintro e w3 ⟨O3, o3, rfl, ho3, hv3, _⟩
      have HO3 := Lib.hid ho3
      have HV3 : Hid (Upd [] wr w3) := ((Upd.refl _ _).alloc _).then hv3 (by simp [ob])
      have hs3 : wr.heap.size ≤ w3.heap.size := HV3.out.size
      clear ho3 hv3
      rw [List.nil_append] at HO3
      go_wp2_with fail
      refine (put_any (w3.alloc (.cells #[.int .i64 63, .int .i64 7, .int .i64 m, .int .i64 16] 3)) wr.heap.size O3 8 o3 (be4s [(k : Int) + 1, (m : Int) + 16]) (HO3.out.alloc _) (by simp; omega) (by omega) _ 4 4 [63, 7, m, 16] (ints_lit w3 .i64 _ [63, 7, m, 16]) (by intro z hz; simp at hz; omega) (by omega) (fun _ => by simp [bl]; intro h; have := (HO3.out.base h.symm).2; omega)).mono ?_
      rintro e w4 ⟨O4, o4, rfl, ho4, hv4, _⟩
      have HO4 := Lib.hid ho4
      have HV4 : Hid (Upd [] wr w4) := (HV3.out.alloc _).then hv4 (fun b hb => by simp at hb; right; exact (HO3.out.base hb.symm).1)
      have hs4 : wr.heap.size ≤ w4.heap.size := HV4.out.size
      have HI4 := Lib.hid (HRE.out.idx.upd HV4.out (by simp))
      clear ho4 hv4 HO3 HV3
      go_upto_region 29 with (at_builtin; refine wpList_app rfl rfl el_byte rfl HO4.out rfl HI4.out.seg (ints_one _ _) (by simp only [maxLen]; omega) (by omega) hs4 ?_; intro O5 o5 w5 ho5 hv5 hf5; have HO5 := Lib.hid ho5; have HV5 : Hid (Upd [] wr w5) := HV4.out.then hv5 (fun b hb => by simp at hb; right; exact (HO4.out.base hb.symm).1); clear ho5 hv5 hf5)
      have hs5 : wr.heap.size ≤ w5.heap.size := HV5.out.size
      have HD5 := Lib.hid (HRE.out.dat.upd HV5.out (by simp))
      rw [← List.map_append] at HO5
      clear HO4 HV4 HI4
      go_upto_region 30 with (at_builtin; refine wpList_app rfl rfl el_byte rfl HO5.out rfl HD5.out.seg (ints_one _ _) (by simp only [maxLen]; omega) (by omega) hs5 ?_; intro O6 o6 w6 ho6 hv6 hf6; have HO6 := Lib.hid ho6; have HV6 : Hid (Upd [] wr w6) := HV5.out.then hv6 (fun b hb => by simp at hb; right; exact (HO5.out.base hb.symm).1); clear ho6 hv6 hf6)
      have hs6 : wr.heap.size ≤ w6.heap.size := HV6.out.size
      rw [← List.map_append] at HO6
      clear HO5 HV5 HD5
      go_wp2_with fail
      refine (put_any (w6.alloc (.cells #[.int .i64 63, .int .i64 7, .int .i64 (4294967296 - 16 * ((k : Int) + 1)), .int .i64 16] 3)) wr.heap.size O6 _ o6 _ (HO6.out.alloc _) (by simp; omega) (by omega) _ 4 4 [63, 7, 4294967296 - 16 * ((k : Int) + 1), 16] (ints_lit w6 .i64 _ [63, 7, 4294967296 - 16 * ((k : Int) + 1), 16]) (by intro z hz; simp at hz; omega) (by omega) (fun _ => by simp [bl]; intro h; have := (HO6.out.base h.symm).2; omega)).mono ?_
      rintro e w7 ⟨O7, o7, rfl, ho7, hv7, _⟩
      have HO7 := Lib.hid ho7
      have HV7 : Hid (Upd [] wr w7) := (HV6.out.alloc _).then hv7 (fun b hb => by simp at hb; right; exact (HO6.out.base hb.symm).1)
      have HPB : Hid (be4s [(k : Int) + 1, (m : Int) + 16] ++ be4s [63, 7, m, 16] ++ idxB ts k ++ dataB ts ++ be4s [63, 7, 4294967296 - 16 * ((k : Int) + 1), 16] = printB ts) := by
        show _ = _
        unfold printB
        rw [HL.out, ← HME.out]
        simp only [Int.natCast_add]
        rfl
      rw [HPB.out] at HO7
      have HPL : Hid (8 + 4 * 4 + 16 * k + m + 4 * 4 = (printB ts).length) := by
        show _ = _
        rw [← HPB.out]
        simp only [List.length_append, be4s_len, idxB_len k (by rw [HL.out]; exact Nat.le_refl _), dataB_len, ← HME.out]
        simp
      clear ho7 hv7 HO6 HV6
      go_wp2_with fail
      rw [HPL.out] at HO7 ⊢
      go_ret2
      exact ⟨O7, o7, rfl, HO7.out.monoB hB1, HRE.out.upd.trans HV7.out⟩

end Go.Proofs.Ytogknbpbjgdldaa
