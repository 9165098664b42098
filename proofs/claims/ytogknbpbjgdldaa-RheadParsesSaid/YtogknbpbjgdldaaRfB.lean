/- The walks of the reference's Check, four, add. -/
import Derived.Test.YtogknbpbjgdldaaRfA
import Derived.Test.YtogknbpbjgdldaaRhP
namespace Go.Proofs.Ytogknbpbjgdldaa
open Go.RowKit Go.Dray

/-- What is wrong with light tags. -/
noncomputable def rchk (ts : List TagV) : Int := if 256 < ts.length then 4 else chk none ts
theorem rchk_err {ts : List TagV} {k : Nat} {t : TagV} {e : Int} (hn : ts.length ≤ 256) (hC : chk none ts = chk (prevT ts k) (ts.drop k)) (ht : ts[k]? = some t) (he : errT (prevT ts k) t = e) (h0 : e ≠ 0) : rchk ts = e := by
  have h1 : chk none ts = e := by rw [hC, chk_step ht, he, if_neg h0]
  unfold rchk
  rw [if_neg (by omega), h1]

set_option maxRecDepth 100000 in
set_option maxHeartbeats 1000000 in
theorem rcheck_any (w : World) (A : Option Addr) (n c : Nat) (ts : List TagV) (h : Tags w A n ts) (hx : ∀ t ∈ ts, ∀ s ∈ t.texts, s.size ≤ 1000000000000000) (hn : n ≤ 1000000000000000) :
    Calls Try.prog 20 #[.slice A n c] w (RetU (.int .i64 (rchk ts)) w) := by
  have HH := Lib.hid h
  have HXX := Lib.hid hx
  have HL := Lib.hid h.len
  clear h hx
  by_cases hbig : 256 < n
  · have d1 : decide ((256 : Int) < n) = true := by simp; omega
    go_enter Try.func20, Try.ntmps20
    go_wp2
    go_ret
    refine ⟨ret_int ?_, Upd.refl _ _⟩
    unfold rchk
    rw [if_pos (by rw [HL.out]; exact hbig)]
  · have d1 : decide ((256 : Int) < n) = false := by simp; omega
    go_enter Try.func20, Try.ntmps20
    go_wp2
    go_loopw [3] (fun i wr => ∃ (k : Nat), k ≤ n ∧ i = .int .i64 k ∧ Hid (chk none ts = chk (prevT ts k) (ts.drop k)) ∧ Hid (Upd [] w wr)) (fun i _ => n - (intOf i).toNat)
    case atStart => exact ⟨0, by omega, rfl, rfl, Upd.refl _ _⟩
    case round =>
      obtain ⟨k, hk, rfl, HC, HU⟩ := hrel
      by_cases hlt : k < n
      · have HHr := Lib.hid (HH.out.upd0 HU.out)
        obtain ⟨t, p, HT, HP, c0, c1, c2, c3, c4⟩ := HHr.out.get hlt
        have hix := HHr.out.index c k hlt
        have hkb : k ≤ 256 := by omega
        go_upto_region 7 with (fail)
        obtain ⟨B, HB⟩ : ∃ B, Hid (B = wr.heap.size) := ⟨_, rfl⟩
        have HBK : Hid (Blk (wr.alloc (.cells #[.int .i64 t.tag, .int .i64 t.typ, .slice p.IA p.i p.ic, .slice p.TA p.n p.tc, .slice p.BA p.m p.bc] 40)) wr.heap.size 40 #[.int .i64 t.tag, .int .i64 t.typ, .slice p.IA p.i p.ic, .slice p.TA p.n p.tc, .slice p.BA p.m p.bc]) := Blk.new _ _ _
        have HV0 : Hid (Upd [] wr (wr.alloc (.cells #[.int .i64 t.tag, .int .i64 t.typ, .slice p.IA p.i p.ic, .slice p.TA p.n p.tc, .slice p.BA p.m p.bc] 40))) := (Upd.refl _ _).alloc _
        rw [← HB.out] at HBK ⊢
        generalize hw2 : wr.alloc _ = w2 at *
        have HU2 : Hid (Upd [] w w2) := HU.out.trans HV0.out
        have HP2 : Hid (TagM w2 p t) := HP.out.upd0 HV0.out
        have HH2 : Hid (Tags w2 A n ts) := HHr.out.upd0 HV0.out
        clear hw2 HV0 HP HHr c0 c1 c2 c3 c4
        have e0 : w2.cell? ⟨B, 0, none⟩ = some (.int .i64 t.tag) := by rw [HBK.out.cell]; rfl
        have e1 : w2.cell? ⟨B, 1, none⟩ = some (.int .i64 t.typ) := by rw [HBK.out.cell]; rfl
        have e2 : w2.cell? ⟨B, 2, none⟩ = some (.slice p.IA p.i p.ic) := by rw [HBK.out.cell]; rfl
        have e3 : w2.cell? ⟨B, 3, none⟩ = some (.slice p.TA p.n p.tc) := by rw [HBK.out.cell]; rfl
        have e4 : w2.cell? ⟨B, 4, none⟩ = some (.slice p.BA p.m p.bc) := by rw [HBK.out.cell]; rfl
        by_cases b0 : t.tag < 100
        · have d2 : decide (t.tag < 100) = true := by simpa using b0
          go_wp2
          go_ret
          exact ⟨ret_int (rchk_err (by rw [HL.out]; omega) HC.out HT.out (errT_lo b0) (by decide)).symm, HU2.out⟩
        · have d2 : decide (t.tag < 100) = false := by simpa using b0
          by_cases b1 : 2147483647 < t.tag
          · have d3 : decide (2147483647 < t.tag) = true := by simpa using b1
            go_wp2
            go_ret
            exact ⟨ret_int (rchk_err (by rw [HL.out]; omega) HC.out HT.out (errT_hi b1) (by decide)).symm, HU2.out⟩
          · have d3 : decide (2147483647 < t.tag) = false := by simpa using b1
            by_cases hk0 : 0 < k
            · have d4 : decide (0 < k) = true := by simpa using hk0
              obtain ⟨q, HPV, cq⟩ := HH2.out.prev hlt hk0
              have hixp := HH2.out.index c (k - 1) (by omega)
              have hke : ((k - 1 : Nat) : Int) = (k : Int) - 1 := by omega
              rw [hke] at hixp
              have hwk : IntKind.i64.wrap ((k : Int) - 1) = (k : Int) - 1 := by rw [IntKind.wrap_i64]; omega
              clear hke
              by_cases hord : t.tag ≤ q
              · have d5 : decide (t.tag ≤ q) = true := by simpa using hord
                go_wp2
                go_quiet (fail)
                clear hwk hixp
                go_wp2
                go_ret
                exact ⟨ret_int (rchk_err (by rw [HL.out]; omega) HC.out HT.out (by rw [HPV.out]; exact errT_ord (by omega) (by omega) (by omega)) (by decide)).symm, HU2.out.drewN _⟩
              · have d5 : decide (t.tag ≤ q) = false := by simpa using hord
                have HQ : Hid ((prevT ts k).any (fun x => decide (t.tag ≤ x)) = false) := by rw [HPV.out]; show _ = _; simpa using hord
                go_wp2
                go_quiet (fail)
                clear hwk hixp cq d5
                generalize hw3 : w2.drewN _ = w3
                have HU3 : Hid (Upd [] w w3) := by rw [← hw3]; exact HU2.out.drewN _
                have HP3 : Hid (TagM w3 p t) := by rw [← hw3]; exact HP2.out.drewN _
                have HBK3 : Hid (Blk w3 B 40 #[.int .i64 t.tag, .int .i64 t.typ, .slice p.IA p.i p.ic, .slice p.TA p.n p.tc, .slice p.BA p.m p.bc]) := by rw [← hw3]; exact HBK.out.drewN _
                clear hw3 e0 e1 e2 e3 e4 HU2 HP2 HBK HH2
                have e0 : w3.cell? ⟨B, 0, none⟩ = some (.int .i64 t.tag) := by rw [HBK3.out.cell]; rfl
                have e1 : w3.cell? ⟨B, 1, none⟩ = some (.int .i64 t.typ) := by rw [HBK3.out.cell]; rfl
                have e2 : w3.cell? ⟨B, 2, none⟩ = some (.slice p.IA p.i p.ic) := by rw [HBK3.out.cell]; rfl
                have e3 : w3.cell? ⟨B, 3, none⟩ = some (.slice p.TA p.n p.tc) := by rw [HBK3.out.cell]; rfl
                have e4 : w3.cell? ⟨B, 4, none⟩ = some (.slice p.BA p.m p.bc) := by rw [HBK3.out.cell]; rfl
                by_cases ht1 : t.typ < 1
                · have f1 : decide (t.typ < 1) = true := by simpa using ht1
                  go_wp2
                  go_ret
                  exact ⟨ret_int (rchk_err (by rw [HL.out]; omega) HC.out HT.out (errT_typ (by omega) (by omega) HQ.out (Or.inl (by omega))) (by decide)).symm, HU3.out⟩
                · have f1 : decide (t.typ < 1) = false := by simpa using ht1
                  by_cases ht9 : 9 < t.typ
                  · have f2 : decide (9 < t.typ) = true := by simpa using ht9
                    go_wp2
                    go_ret
                    exact ⟨ret_int (rchk_err (by rw [HL.out]; omega) HC.out HT.out (errT_typ (by omega) (by omega) HQ.out (Or.inr (by omega))) (by decide)).symm, HU3.out⟩
                  · have f2 : decide (9 < t.typ) = false := by simpa using ht9
                    go_wp2_with fail
                    refine (rright_any w3 p t HP3.out (HXX.out t (List.mem_of_getElem? HT.out))).mono ?_
                    rintro e w4 ⟨rfl, hv4⟩
                    have HU4 := Lib.hid (HU3.out.trans hv4)
                    cases hr : rightB t with
                    | false =>
                      have HR := Lib.hid hr
                      clear hr
                      go_wp2
                      go_ret
                      exact ⟨ret_int (rchk_err (by rw [HL.out]; omega) HC.out HT.out (errT_form (by omega) (by omega) HQ.out (by omega) (by omega) HR.out) (by decide)).symm, HU4.out⟩
                    | true =>
                      have HR := Lib.hid hr
                      clear hr hv4 HU3
                      go_wp2
                      go_roundw
                      case rel =>
                        refine ⟨k + 1, by omega, by go_num, ?_, HU4⟩
                        show _ = _
                        rw [HC.out, chk_step HT.out, if_pos (errT_ok (by omega) (by omega) HQ.out (by omega) (by omega) HR.out)]
                      case measure => simp [intOf]; omega
            · have d4 : decide (0 < k) = false := by simpa using hk0
              have HQ : Hid ((prevT ts k).any (fun x => decide (t.tag ≤ x)) = false) := by
                have : k = 0 := by omega
                subst this
                rfl
              go_wp2
              go_quiet (fail)
              generalize hw3 : w2.drewN _ = w3
              have HU3 : Hid (Upd [] w w3) := by rw [← hw3]; exact HU2.out.drewN _
              have HP3 : Hid (TagM w3 p t) := by rw [← hw3]; exact HP2.out.drewN _
              have HBK3 : Hid (Blk w3 B 40 #[.int .i64 t.tag, .int .i64 t.typ, .slice p.IA p.i p.ic, .slice p.TA p.n p.tc, .slice p.BA p.m p.bc]) := by rw [← hw3]; exact HBK.out.drewN _
              clear hw3 e0 e1 e2 e3 e4 HU2 HP2 HBK HH2
              have e0 : w3.cell? ⟨B, 0, none⟩ = some (.int .i64 t.tag) := by rw [HBK3.out.cell]; rfl
              have e1 : w3.cell? ⟨B, 1, none⟩ = some (.int .i64 t.typ) := by rw [HBK3.out.cell]; rfl
              have e2 : w3.cell? ⟨B, 2, none⟩ = some (.slice p.IA p.i p.ic) := by rw [HBK3.out.cell]; rfl
              have e3 : w3.cell? ⟨B, 3, none⟩ = some (.slice p.TA p.n p.tc) := by rw [HBK3.out.cell]; rfl
              have e4 : w3.cell? ⟨B, 4, none⟩ = some (.slice p.BA p.m p.bc) := by rw [HBK3.out.cell]; rfl
              by_cases ht1 : t.typ < 1
              · have f1 : decide (t.typ < 1) = true := by simpa using ht1
                go_wp2
                go_ret
                exact ⟨ret_int (rchk_err (by rw [HL.out]; omega) HC.out HT.out (errT_typ (by omega) (by omega) HQ.out (Or.inl (by omega))) (by decide)).symm, HU3.out⟩
              · have f1 : decide (t.typ < 1) = false := by simpa using ht1
                by_cases ht9 : 9 < t.typ
                · have f2 : decide (9 < t.typ) = true := by simpa using ht9
                  go_wp2
                  go_ret
                  exact ⟨ret_int (rchk_err (by rw [HL.out]; omega) HC.out HT.out (errT_typ (by omega) (by omega) HQ.out (Or.inr (by omega))) (by decide)).symm, HU3.out⟩
                · have f2 : decide (9 < t.typ) = false := by simpa using ht9
                  go_wp2_with fail
                  refine (rright_any w3 p t HP3.out (HXX.out t (List.mem_of_getElem? HT.out))).mono ?_
                  rintro e w4 ⟨rfl, hv4⟩
                  have HU4 := Lib.hid (HU3.out.trans hv4)
                  cases hr : rightB t with
                  | false =>
                    have HR := Lib.hid hr
                    clear hr
                    go_wp2
                    go_ret
                    exact ⟨ret_int (rchk_err (by rw [HL.out]; omega) HC.out HT.out (errT_form (by omega) (by omega) HQ.out (by omega) (by omega) HR.out) (by decide)).symm, HU4.out⟩
                  | true =>
                    have HR := Lib.hid hr
                    clear hr hv4 HU3
                    go_wp2
                    go_roundw
                    case rel =>
                      refine ⟨k + 1, by omega, by go_num, ?_, HU4⟩
                      show _ = _
                      rw [HC.out, chk_step HT.out, if_pos (errT_ok (by omega) (by omega) HQ.out (by omega) (by omega) HR.out)]
                    case measure => simp [intOf]; omega
      · obtain rfl : k = n := by omega
        have HE : Hid (rchk ts = 0) := by
          show _ = _
          unfold rchk
          rw [if_neg (by rw [HL.out]; omega), HC.out, List.drop_of_length_le (by rw [HL.out]; exact Nat.le_refl _)]
          rfl
        go_wp2
        go_ret
        exact ⟨ret_int HE.out.symm, HU.out⟩

theorem str_cat (a b : List Int) : strOfNums a ++ strOfNums b = strOfNums (a ++ b) := by
  unfold strOfNums
  apply ByteArray.ext
  simp [ByteArray.data_append]
set_option maxHeartbeats 400000 in
theorem four_any (z : Int) (h0 : 0 ≤ z) (h1 : z ≤ 4294967296) (w : World) : Calls Try.prog 22 #[.int .i64 z] w (RetU (.string (strOfNums (beB z 4))) w) := by
  go_enter Try.func22, Try.ntmps22
  go_wp2_with fail
  refine (rbe_any w z 4 h0 (by omega) (by omega) (by omega)).mono ?_
  rintro e w1 ⟨X, c, rfl, ho, hu⟩
  have hs : (convert 25 9 (.slice X 4 c)).run Try.prog w1 = .ok (.string (strOfNums (beB z 4))) w1 := Ints.str (Ints.ofOwn ho) Try.underlying25 Try.underlying5 Try.underlying9 c
  go_wp2
  go_ret
  exact ⟨rfl, hu⟩

theorem str_zero (a : List Int) : strOfNums a ++ (⟨#[0]⟩ : ByteArray) = strOfNums (a ++ [0]) := str_cat a [0]
theorem str_sb (a : List Int) (s : ByteArray) : strOfNums a ++ s = strOfNums (a ++ sb s) := by
  rw [← str_cat]
  rw [strOfNums_sb]
set_option maxRecDepth 100000 in
set_option maxHeartbeats 1000000 in
theorem add_any (w : World) (ds : List Int) (p : TagP) (t : TagV) (h : TagM w p t) (hd : ds.length ≤ 1000000000) (hlen : lenT t ≤ 1000000000) (hi : ∀ z ∈ t.ints, 0 ≤ z) (hn0 : numT t.typ = false → t.ints = []) :
    Calls Try.prog 21 #[.string (strOfNums ds), .agg #[.int .i64 t.tag, .int .i64 t.typ, .slice p.IA p.i p.ic, .slice p.TA p.n p.tc, .slice p.BA p.m p.bc]] w (RetU (.tuple #[.string (strOfNums (ds ++ List.replicate (padL ds.length (sizeT t.typ)) 0 ++ bodyT t)), .int .i64 (upN ds.length (sizeT t.typ) : Nat)]) w) := by
  have HH := Lib.hid h
  have HI := Lib.hid hi
  have HN0 := Lib.hid hn0
  have HLI := h.ints.len
  have HLN := h.texts.len
  have HLM := h.bytes.len
  have hli := h.li
  have hln := h.ln
  have hlm := h.lm
  clear h hi hn0
  go_enter Try.func21, Try.ntmps21
  go_upto_region 1 with (fail)
  obtain ⟨B, HB⟩ : ∃ B, Hid (B = w.heap.size) := ⟨_, rfl⟩
  have HBK : Hid (Blk (w.alloc (.cells #[.int .i64 t.tag, .int .i64 t.typ, .slice p.IA p.i p.ic, .slice p.TA p.n p.tc, .slice p.BA p.m p.bc] 40)) w.heap.size 40 #[.int .i64 t.tag, .int .i64 t.typ, .slice p.IA p.i p.ic, .slice p.TA p.n p.tc, .slice p.BA p.m p.bc]) := Blk.new _ _ _
  have HU : Hid (Upd [] w (w.alloc (.cells #[.int .i64 t.tag, .int .i64 t.typ, .slice p.IA p.i p.ic, .slice p.TA p.n p.tc, .slice p.BA p.m p.bc] 40))) := (Upd.refl _ _).alloc _
  rw [← HB.out] at HBK ⊢
  generalize hw2 : w.alloc _ = w2 at *
  clear hw2
  have c0 : w2.cell? ⟨B, 0, none⟩ = some (.int .i64 t.tag) := by rw [HBK.out.cell]; rfl
  have c1 : w2.cell? ⟨B, 1, none⟩ = some (.int .i64 t.typ) := by rw [HBK.out.cell]; rfl
  have c2 : w2.cell? ⟨B, 2, none⟩ = some (.slice p.IA p.i p.ic) := by rw [HBK.out.cell]; rfl
  have c3 : w2.cell? ⟨B, 3, none⟩ = some (.slice p.TA p.n p.tc) := by rw [HBK.out.cell]; rfl
  have c4 : w2.cell? ⟨B, 4, none⟩ = some (.slice p.BA p.m p.bc) := by rw [HBK.out.cell]; rfl
  obtain ⟨s, HS⟩ : ∃ s, Hid (s = rsz t.typ) := ⟨_, rfl⟩
  have hsz : (rsz t.typ : Int) = (s : Int) := by rw [HS.out]
  have hs8 : s ≤ 8 := by rw [HS.out]; unfold rsz; have := sizeT_bd t.typ; split <;> omega
  go_wp2_with fail
  refine (rsize_any t.typ _).mono ?_
  rintro e w' ⟨rfl, rfl⟩
  rw [hsz]
  clear hsz
  obtain ⟨m, HM⟩ : ∃ m, Hid (m = padL ds.length (sizeT t.typ)) := ⟨_, rfl⟩
  have hm7 : m ≤ 7 := by
    rw [HM.out]
    have h1 := sizeT_bd t.typ
    have h2 := upN_le ds.length (sizeT t.typ) h1.1 h1.2
    unfold padL
    omega
  have HPM : Hid (∀ j, j < m → 0 < s ∧ (ds.length + j) % s ≠ 0) := by
    intro j hj
    rw [HM.out] at hj
    have h1 := sizeT_bd t.typ
    have h2 := pad_more ds.length (sizeT t.typ) j h1.1 hj
    cases hn : numT t.typ with
    | true => rw [HS.out]; unfold rsz; rw [if_pos hn]; exact ⟨by omega, h2⟩
    | false =>
      exfalso
      apply h2
      have : sizeT t.typ = 1 := by unfold sizeT; unfold numT at hn; simp at hn; rw [if_neg (by omega), if_neg (by omega), if_neg (by omega)]
      rw [this]
      exact Nat.mod_one _
  have HPD : Hid (0 < s → (ds.length + m) % s = 0) := by
    intro h0
    have : s = sizeT t.typ := by
      rw [HS.out] at h0 ⊢
      unfold rsz at h0 ⊢
      split at h0
      · rename_i h; rw [if_pos h]
      · omega
    rw [this, HM.out]
    exact pad_done _ _ (sizeT_bd t.typ).1
  obtain ⟨dl, HDL⟩ : ∃ dl, Hid (dl = ds.length) := ⟨_, rfl⟩
  have hdl : dl ≤ 1000000000 := by rw [HDL.out]; exact hd
  go_wp2_with fail
  go_loop [0] (fun x => ∃ (j : Nat), j ≤ m ∧ x = .string (strOfNums (ds ++ List.replicate j 0))) (fun x => match x with | .string y => dl + m - y.size | _ => 0)
  case atStart => exact ⟨0, by omega, by simp⟩
  case round =>
    obtain ⟨j, hj, rfl⟩ := hrel
    obtain ⟨x, HX⟩ : ∃ x, Hid (x = strOfNums (ds ++ List.replicate j 0)) := ⟨strOfNums (ds ++ List.replicate j 0), rfl⟩
    rw [← HX.out]
    have hxs : x.size = dl + j := by rw [HX.out, strOfNums_size, List.length_append, List.length_replicate, HDL.out]
    by_cases hlt : j < m
    · have hp := HPM.out j hlt
      have d0 : decide ((0 : Int) < s) = true := by simp; omega
      have hmn : (((dl : Int) + j) % s != 0) = true := by
        rw [mod_nat]
        refine nat_ne_b ?_
        rw [HDL.out]
        exact hp.2
      have hs0 : ((s : Int) == 0) = false := by simp; omega
      go_wp2
      go_round
      case rel =>
        refine ⟨j + 1, by omega, ?_⟩
        rw [HX.out, str_zero, List.append_assoc]
        rw [show List.replicate j (0 : Int) ++ [0] = List.replicate (j + 1) 0 from (List.replicate_succ' ..).symm]
      case measure =>
        simp only [ByteArray.size_append]
        have : (ByteArray.mk #[0]).size = 1 := rfl
        omega
    · obtain rfl : j = m := by omega
      have HAT : Hid (upN ds.length (sizeT t.typ) = dl + j) := by
        show _ = _
        have := upN_ge ds.length (sizeT t.typ) (sizeT_bd t.typ).1
        have h2 := HM.out
        unfold padL at h2
        rw [HDL.out]
        omega
      obtain ⟨pre, HPRE⟩ : ∃ pre, Hid (pre = ds ++ List.replicate j 0) := ⟨ds ++ List.replicate j 0, rfl⟩
      have hprl : pre.length ≤ 1000000007 := by rw [HPRE.out, List.length_append, List.length_replicate]; omega
      rw [← HPRE.out] at HX
      by_cases h0 : 0 < s
      · have d0 : decide ((0 : Int) < s) = true := by simp; omega
        have hmn : (((dl : Int) + j) % s != 0) = false := by
          rw [mod_nat, HDL.out, HPD.out h0]
          rfl
        have hs0 : ((s : Int) == 0) = false := by simp; omega
        go_wp2_with fail
        clear hmn d0
        clear c0 c1 HPM HPD hs8
        go_loopw [0, 8] (fun x i wr => ∃ (k : Nat), k ≤ p.i ∧ i = .int .i64 k ∧ x = .string (strOfNums (pre ++ intsB t k)) ∧ Hid (Upd [] w2 wr)) (fun _ i _ => p.i - (intOf i).toNat)
        case atStart => exact ⟨0, by omega, rfl, by rw [HX.out]; simp [intsB], Upd.refl _ _⟩
        case round =>
          obtain ⟨k, hk, rfl, rfl, HV⟩ := hrel
          have e2 := HV.out.cell c2 (by simp)
          have HMr := Lib.hid (HH.out.upd0 (HU.out.trans HV.out))
          by_cases hlt : k < p.i
          · obtain ⟨z, HZ, hcell⟩ := HMr.out.ints.int hlt
            have hix := HMr.out.ints.index el_int p.ic .i64 k hlt
            have HMEM := Lib.hid (List.mem_of_getElem? HZ.out)
            have hzb := HMr.out.ib z HMEM.out
            have hz0 := HI.out z HMEM.out
            have HSS : Hid (1 ≤ s ∧ s ≤ 8 ∧ s = sizeT t.typ) := by
              have h1 := sizeT_bd t.typ
              cases hn : numT t.typ with
              | true =>
                have h2 := HS.out
                unfold rsz at h2
                rw [if_pos hn] at h2
                exact ⟨by omega, by omega, h2⟩
              | false =>
                have h2 := HN0.out hn
                rw [h2] at HMEM
                cases HMEM.out
            obtain ⟨y, HY⟩ : ∃ y, Hid (y = strOfNums (pre ++ intsB t k)) := ⟨strOfNums (pre ++ intsB t k), rfl⟩
            rw [← HY.out]
            have hys : y.size ≤ 3000000000 := by
              rw [HY.out, strOfNums_size, List.length_append, intsB_len t k (by rw [HLI.out]; omega)]
              have h1 : k * sizeT t.typ ≤ t.ints.length * sizeT t.typ := Nat.mul_le_mul_right _ (by rw [HLI.out]; omega)
              unfold lenT at hlen
              omega
            have hbs : (strOfNums (beB z s)).size = s := by rw [strOfNums_size, beB_len]
            have hss8 : s ≤ 8 := HSS.out.2.1
            go_wp2_with fail
            refine (rbe_any wr z s hz0 (by omega) (by have := HSS.out; omega) (by have := HSS.out; omega)).mono ?_
            rintro e w5 ⟨X, c, rfl, ho, hu⟩
            have hcv : (convert 25 9 (.slice X s c)).run Try.prog w5 = .ok (.string (strOfNums (beB z s))) w5 := Ints.str (Ints.ofOwn ho) Try.underlying25 Try.underlying5 Try.underlying9 c
            have HV5 := Lib.hid (HV.out.trans hu)
            clear ho hu
            go_wp2
            go_roundw
            case rel =>
              refine ⟨k + 1, by omega, by go_num, ?_, HV5⟩
              rw [HY.out, str_cat, List.append_assoc, intsB_succ t HZ.out, ← HSS.out.2.2]
            case measure => simp [intOf]; omega
          · obtain rfl : k = p.i := by omega
            obtain ⟨pr2, HPR2⟩ : ∃ pr2, Hid (pr2 = pre ++ intsB t t.ints.length) := ⟨_, rfl⟩
            have HPE : Hid (pre ++ intsB t p.i = pr2) := by show _ = _; rw [HPR2.out, HLI.out]
            rw [HPE.out]
            clear HPE
            go_wp2_with fail
            clear e2
            go_loop [0, 9] (fun x i => ∃ (k : Nat), k ≤ p.n ∧ i = .int .i64 k ∧ x = .string (strOfNums (pr2 ++ textsB (t.texts.take k)))) (fun _ i => p.n - (intOf i).toNat)
            case atStart => exact ⟨0, by omega, rfl, by simp [textsB]⟩
            case round =>
              obtain ⟨k, hk, rfl, rfl⟩ := hrel
              have e3 := HV.out.cell c3 (by simp)
              obtain ⟨y, HY⟩ : ∃ y, Hid (y = strOfNums (pr2 ++ textsB (t.texts.take k))) := ⟨strOfNums (pr2 ++ textsB (t.texts.take k)), rfl⟩
              rw [← HY.out]
              have hys : y.size ≤ 3000000000 := by
                rw [HY.out, strOfNums_size, List.length_append, textsB_len, HPR2.out, List.length_append, intsB_len t _ (Nat.le_refl _)]
                have h1 := textLen_le t.texts k
                unfold lenT at hlen
                omega
              by_cases hlt : k < p.n
              · obtain ⟨tx, HZ, hcell⟩ := HMr.out.texts.str hlt
                have hix := HMr.out.texts.index p.tc k hlt
                have htx : tx.size ≤ 1000000000 := by
                  have h1 := textLen_le t.texts (k + 1)
                  rw [textLen_take HZ.out] at h1
                  unfold lenT at hlen
                  omega
                go_wp2
                go_round
                case rel =>
                  refine ⟨k + 1, by omega, by go_num, ?_⟩
                  rw [HY.out, str_sb, str_zero, textsB_take HZ.out, List.append_assoc, List.append_assoc, List.append_assoc]
                case measure => simp [intOf]; omega
              · obtain rfl : k = p.n := by omega
                have e4 := HV.out.cell c4 (by simp)
                have hcv := Ints.str HMr.out.bytes Try.underlying25 Try.underlying5 Try.underlying9 p.bc
                have hbs : (strOfNums t.bytes).size = p.m := by rw [strOfNums_size, HLM.out]
                go_wp2
                refine bodyPost_ret (v := .tuple #[.string (y ++ strOfNums t.bytes), .int .i64 ((dl : Int) + j)]) (by simp [results, Try.results21, go_sem]) rfl ⟨?_, HU.out.trans HV.out⟩
                rw [HY.out, str_cat, HPR2.out, List.take_of_length_le (by rw [HLN.out]; omega)]
                unfold bodyT
                simp [List.append_assoc]
                exact ⟨by rw [HPRE.out, ← HM.out]; simp only [List.append_assoc], by rw [HAT.out]; omega⟩
      · have d0 : decide ((0 : Int) < s) = false := by simp; omega
        go_wp2_with fail
        clear c0 c1 HPM HPD hs8
        go_loopw [0, 8] (fun x i wr => ∃ (k : Nat), k ≤ p.i ∧ i = .int .i64 k ∧ x = .string (strOfNums (pre ++ intsB t k)) ∧ Hid (Upd [] w2 wr)) (fun _ i _ => p.i - (intOf i).toNat)
        case atStart => exact ⟨0, by omega, rfl, by rw [HX.out]; simp [intsB], Upd.refl _ _⟩
        case round =>
          obtain ⟨k, hk, rfl, rfl, HV⟩ := hrel
          have e2 := HV.out.cell c2 (by simp)
          have HMr := Lib.hid (HH.out.upd0 (HU.out.trans HV.out))
          by_cases hlt : k < p.i
          · obtain ⟨z, HZ, hcell⟩ := HMr.out.ints.int hlt
            have hix := HMr.out.ints.index el_int p.ic .i64 k hlt
            have HMEM := Lib.hid (List.mem_of_getElem? HZ.out)
            have hzb := HMr.out.ib z HMEM.out
            have hz0 := HI.out z HMEM.out
            have HSS : Hid (1 ≤ s ∧ s ≤ 8 ∧ s = sizeT t.typ) := by
              have h1 := sizeT_bd t.typ
              cases hn : numT t.typ with
              | true =>
                have h2 := HS.out
                unfold rsz at h2
                rw [if_pos hn] at h2
                exact ⟨by omega, by omega, h2⟩
              | false =>
                have h2 := HN0.out hn
                rw [h2] at HMEM
                cases HMEM.out
            obtain ⟨y, HY⟩ : ∃ y, Hid (y = strOfNums (pre ++ intsB t k)) := ⟨strOfNums (pre ++ intsB t k), rfl⟩
            rw [← HY.out]
            have hys : y.size ≤ 3000000000 := by
              rw [HY.out, strOfNums_size, List.length_append, intsB_len t k (by rw [HLI.out]; omega)]
              have h1 : k * sizeT t.typ ≤ t.ints.length * sizeT t.typ := Nat.mul_le_mul_right _ (by rw [HLI.out]; omega)
              unfold lenT at hlen
              omega
            have hbs : (strOfNums (beB z s)).size = s := by rw [strOfNums_size, beB_len]
            have hss8 : s ≤ 8 := HSS.out.2.1
            go_wp2_with fail
            refine (rbe_any wr z s hz0 (by omega) (by have := HSS.out; omega) (by have := HSS.out; omega)).mono ?_
            rintro e w5 ⟨X, c, rfl, ho, hu⟩
            have hcv : (convert 25 9 (.slice X s c)).run Try.prog w5 = .ok (.string (strOfNums (beB z s))) w5 := Ints.str (Ints.ofOwn ho) Try.underlying25 Try.underlying5 Try.underlying9 c
            have HV5 := Lib.hid (HV.out.trans hu)
            clear ho hu
            go_wp2
            go_roundw
            case rel =>
              refine ⟨k + 1, by omega, by go_num, ?_, HV5⟩
              rw [HY.out, str_cat, List.append_assoc, intsB_succ t HZ.out, ← HSS.out.2.2]
            case measure => simp [intOf]; omega
          · obtain rfl : k = p.i := by omega
            obtain ⟨pr2, HPR2⟩ : ∃ pr2, Hid (pr2 = pre ++ intsB t t.ints.length) := ⟨_, rfl⟩
            have HPE : Hid (pre ++ intsB t p.i = pr2) := by show _ = _; rw [HPR2.out, HLI.out]
            rw [HPE.out]
            clear HPE
            go_wp2_with fail
            clear e2
            go_loop [0, 9] (fun x i => ∃ (k : Nat), k ≤ p.n ∧ i = .int .i64 k ∧ x = .string (strOfNums (pr2 ++ textsB (t.texts.take k)))) (fun _ i => p.n - (intOf i).toNat)
            case atStart => exact ⟨0, by omega, rfl, by simp [textsB]⟩
            case round =>
              obtain ⟨k, hk, rfl, rfl⟩ := hrel
              have e3 := HV.out.cell c3 (by simp)
              obtain ⟨y, HY⟩ : ∃ y, Hid (y = strOfNums (pr2 ++ textsB (t.texts.take k))) := ⟨strOfNums (pr2 ++ textsB (t.texts.take k)), rfl⟩
              rw [← HY.out]
              have hys : y.size ≤ 3000000000 := by
                rw [HY.out, strOfNums_size, List.length_append, textsB_len, HPR2.out, List.length_append, intsB_len t _ (Nat.le_refl _)]
                have h1 := textLen_le t.texts k
                unfold lenT at hlen
                omega
              by_cases hlt : k < p.n
              · obtain ⟨tx, HZ, hcell⟩ := HMr.out.texts.str hlt
                have hix := HMr.out.texts.index p.tc k hlt
                have htx : tx.size ≤ 1000000000 := by
                  have h1 := textLen_le t.texts (k + 1)
                  rw [textLen_take HZ.out] at h1
                  unfold lenT at hlen
                  omega
                go_wp2
                go_round
                case rel =>
                  refine ⟨k + 1, by omega, by go_num, ?_⟩
                  rw [HY.out, str_sb, str_zero, textsB_take HZ.out, List.append_assoc, List.append_assoc, List.append_assoc]
                case measure => simp [intOf]; omega
              · obtain rfl : k = p.n := by omega
                have e4 := HV.out.cell c4 (by simp)
                have hcv := Ints.str HMr.out.bytes Try.underlying25 Try.underlying5 Try.underlying9 p.bc
                have hbs : (strOfNums t.bytes).size = p.m := by rw [strOfNums_size, HLM.out]
                go_wp2
                refine bodyPost_ret (v := .tuple #[.string (y ++ strOfNums t.bytes), .int .i64 ((dl : Int) + j)]) (by simp [results, Try.results21, go_sem]) rfl ⟨?_, HU.out.trans HV.out⟩
                rw [HY.out, str_cat, HPR2.out, List.take_of_length_le (by rw [HLN.out]; omega)]
                unfold bodyT
                simp [List.append_assoc]
                exact ⟨by rw [HPRE.out, ← HM.out]; simp only [List.append_assoc], by rw [HAT.out]; omega⟩

end Go.Proofs.Ytogknbpbjgdldaa
