/- The walk of the reference's Print. -/
import Derived.Test.YtogknbpbjgdldaaRfB
import Derived.Test.YtogknbpbjgdldaaCalm
import Derived.Test.YtogknbpbjgdldaaRhT
import Derived.Lib.ConvBytes
namespace Go.Proofs.Ytogknbpbjgdldaa
open Go.RowKit Go.Dray

theorem bytes_conv (w : World) (e : TypeId) (s : ByteArray) : Ints .u8 (Lib.bytesWorld w e s) (some ⟨w.heap.size, 0, none⟩) s.size (sb s) :=
  ⟨by rw [List.length_map, sb_len, Nat.mul_one], fun _ => rfl, fun k u hu => by
    have hk : k < s.size := by
      have := (List.getElem?_eq_some_iff.1 hu).1
      rw [List.length_map, sb_len] at this
      exact this
    rw [List.getElem?_map, sb_get hk] at hu
    simp at hu
    subst hu
    show (Lib.bytesWorld w e s).cell? ⟨w.heap.size, 0 + k, none⟩ = _
    rw [Nat.zero_add, Lib.bytesWorld_cell w e s k hk]
    have : s.data.toList.getD k 0 = s[k] := by
      have hk2 : k < s.data.size := hk
      rw [List.getD_eq_getElem?_getD, Array.getElem?_toList, Array.getElem?_eq_getElem hk2]
      rfl
    rw [this]⟩
theorem bytes_upd (w : World) (e : TypeId) (s : ByteArray) : Upd [] w (Lib.bytesWorld w e s) := ⟨rfl, rfl, rfl, by rw [Lib.bytesWorld_size]; omega, fun k hk _ => Lib.bytesWorld_at_old w e s k hk⟩

theorem Tags.bb {w : World} {A : Option Addr} {n : Nat} {ts : List TagV} (h : Tags w A n ts) : ∀ t ∈ ts, ∀ z ∈ t.bytes, 0 ≤ z ∧ z ≤ 255 := fun t ht => by
  obtain ⟨k, hk, he⟩ := List.mem_iff_getElem.1 ht
  obtain ⟨p, hp, _⟩ := h.tag k t (by rw [List.getElem?_eq_getElem hk, he])
  exact hp.bb
def RPrintPost (ts : List TagV) (w : World) (e : Ending) (w' : World) : Prop :=
  ∃ X n c, e = .returned (.tuple #[.slice X n c, .int .i64 0]) ∧ Ints .u8 w' X n (printB ts) ∧ Upd [] w w'

set_option maxRecDepth 100000 in
set_option maxHeartbeats 400000 in
theorem rprint_err (w : World) (A : Option Addr) (n c : Nat) (ts : List TagV) (h : Tags w A n ts) (hx : ∀ t ∈ ts, ∀ s ∈ t.texts, s.size ≤ 1000000000000000) (hn : n ≤ 1000000000000000) (he : rchk ts ≠ 0) :
    Calls Try.prog 10 #[.slice A n c] w (RetU (.tuple #[.slice none 0 0, .int .i64 (rchk ts)]) w) := by
  have HH := Lib.hid h
  have HX := Lib.hid hx
  have d0 : (rchk ts != 0) = true := by simpa using he
  clear h he hx
  go_enter Try.func10, Try.ntmps10
  go_wp2_with fail
  refine (rcheck_any w A n c ts HH.out HX.out hn).mono ?_
  rintro e w1 ⟨rfl, hv1⟩
  go_wp2
  go_ret2
  exact ⟨rfl, hv1⟩

def FourPost (z : Int) (w : World) (e : Ending) (w' : World) : Prop := ∃ s : ByteArray, e = .returned (.string s) ∧ Hid (s = strOfNums (beB z 4)) ∧ s.size = 4 ∧ Upd [] w w'
theorem four_post (z : Int) (h0 : 0 ≤ z) (h1 : z ≤ 4294967296) (w : World) : Calls Try.prog 22 #[.int .i64 z] w (FourPost z w) :=
  (four_any z h0 h1 w).mono fun _ _ ⟨h1, h2⟩ => ⟨_, h1, rfl, by rw [strOfNums_size, beB_len], h2⟩
theorem four_size (z : Int) : (strOfNums (beB z 4)).size = 4 := by rw [strOfNums_size, beB_len]
theorem idx_str (is : List Int) (a b c d : Int) : strOfNums is ++ strOfNums (beB a 4) ++ strOfNums (beB b 4) ++ strOfNums (beB c 4) ++ strOfNums (beB d 4) = strOfNums (is ++ be4s [a, b, c, d]) := by
  rw [str_cat, str_cat, str_cat, str_cat]
  congr 1
  simp [be4s]

set_option maxRecDepth 100000 in
set_option maxHeartbeats 2000000 in
theorem rprint_ok (w : World) (A : Option Addr) (n c : Nat) (ts : List TagV) (h : Tags w A n ts) (hx : ∀ t ∈ ts, ∀ s ∈ t.texts, s.size ≤ 1000000000000000) (hd : dlen ts ≤ 1000000) (he : rchk ts = 0) :
    Calls Try.prog 10 #[.slice A n c] w (RPrintPost ts w) := by
  have HH := Lib.hid h
  have HL := Lib.hid h.len
  have HX := Lib.hid hx
  have HE := Lib.hid he
  have hn : n ≤ 256 ∧ chk none ts = 0 := by
    unfold rchk at he
    split at he
    · cases he
    · rw [← h.len]; exact ⟨by omega, he⟩
  have HG := Lib.hid (chk_good hn.2)
  have hn := hn.1
  obtain ⟨dl, HDL⟩ : ∃ dl, Hid (dl = dlen ts) := ⟨_, rfl⟩
  rw [← HDL.out] at hd
  clear h he hx
  go_enter Try.func10, Try.ntmps10
  go_wp2_with fail
  refine (rcheck_any w A n c ts HH.out HX.out (by omega)).mono ?_
  rintro e w1 ⟨rfl, hv1⟩
  rw [HE.out]
  have HU1 := Lib.hid hv1
  clear hv1
  go_wp2_with fail
  go_loopw [5, 6, 7] (fun x d i wr => ∃ (k : Nat), k ≤ n ∧ i = .int .i64 k ∧ x = .string (strOfNums (idxB ts k)) ∧ d = .string (strOfNums (dataB (ts.take k))) ∧ Hid (Upd [] w wr)) (fun _ _ i _ => n - (intOf i).toNat)
  case atStart => exact ⟨0, by omega, rfl, rfl, rfl, HU1⟩
  case round =>
    clear HU1
    obtain ⟨k, hk, rfl, rfl, rfl, HU⟩ := hrel
    by_cases hlt : k < n
    · have HHr := Lib.hid (HH.out.upd0 HU.out)
      obtain ⟨t, p, HT, HP, c0, c1, c2, c3, c4⟩ := HHr.out.get hlt
      have hix := HHr.out.index c k hlt
      have HGT := Lib.hid (HG.out t (List.mem_of_getElem? HT.out))
      have hst := dlen_step HT.out
      have hcn := cnt_le t
      have HLI := HP.out.ints.len
      have HLN := HP.out.texts.len
      have HLM := HP.out.bytes.len
      obtain ⟨m, HM⟩ : ∃ m, Hid (m = dlen (ts.take k)) := ⟨_, rfl⟩
      have hm : m ≤ dl := by rw [HM.out, HDL.out]; exact dlen_take ts k
      obtain ⟨a, HA⟩ : ∃ a, Hid (a = upN m (sizeT t.typ)) := ⟨_, rfl⟩
      rw [← HM.out, ← HA.out, ← HDL.out] at hst
      obtain ⟨ix, HIX⟩ : ∃ ix, Hid (ix = strOfNums (idxB ts k)) := ⟨strOfNums (idxB ts k), rfl⟩
      have hixs : ix.size = 16 * k := by rw [HIX.out, strOfNums_size, idxB_len k (by rw [HL.out]; omega)]
      rw [← HIX.out]
      have hdm : (dataB (ts.take k)).length = m := by rw [dataB_len, HM.out]
      go_wp2_with fail
      refine (add_any wr (dataB (ts.take k)) p t HP.out (by omega) (by omega) HGT.out.ints (fun hnn => by
        have hr := HGT.out.right
        unfold rightP at hr
        rw [hnn, if_neg (by decide)] at hr
        split at hr
        · exact hr.2.1
        · exact hr.2.2.1)).mono ?_
      rintro e w2 ⟨rfl, hv2⟩
      have HDE : Hid (dataB (ts.take k) ++ List.replicate (padL (dataB (ts.take k)).length (sizeT t.typ)) 0 ++ bodyT t = dataB (ts.take (k + 1))) := by
        show _ = _
        rw [dataB_take HT.out, dataB_len]
      have HAE : Hid (upN (dataB (ts.take k)).length (sizeT t.typ) = a) := by show _ = _; rw [dataB_len, ← HM.out, ← HA.out]
      rw [HDE.out, HAE.out]
      have HU2 := Lib.hid (HU.out.trans hv2)
      have e0 := hv2.cell c0 (by simp)
      have e1 := hv2.cell c1 (by simp)
      have e2 := hv2.cell c2 (by simp)
      have e3 := hv2.cell c3 (by simp)
      have e4 := hv2.cell c4 (by simp)
      have hg1 := HGT.out.lo
      have hg2 := HGT.out.hi
      have hg3 := HGT.out.ty1
      have hg4 := HGT.out.ty9
      have hpc : p.i + p.n + p.m = cntT t := by unfold cntT; rw [HLI.out, HLN.out, HLM.out]
      have hct : cntT t ≤ dl := by omega
      clear c0 c1 c2 c3 c4 hv2
      go_wp2
      have g0 := fun x => later_cell e0 x
      have g1 := fun x => later_cell e1 x
      have g2 := fun x => later_cell e2 x
      have g3 := fun x => later_cell e3 x
      have g4 := fun x => later_cell e4 x
      have hw1 : IntKind.i64.wrap ((p.i : Int) + p.n) = (p.i : Int) + p.n := by rw [IntKind.wrap_i64]; omega
      have hw2 : IntKind.i64.wrap ((p.i : Int) + p.n + p.m) = (cntT t : Nat) := by rw [IntKind.wrap_i64]; omega
      have z1 := four_size t.tag
      have z2 := four_size t.typ
      have z3 := four_size (a : Int)
      have z4 := four_size (cntT t : Nat)
      clear e0 e1 e2 e3 e4
      refine wp_region_later (by kernel_rfl) (by kernel_rfl) ?_
      repeat (go_big_quiet_step (first | (go_at_call 22; exact laterU (four_any _ (by omega) (by omega) _))))
      refine wpQuiet_nil ?_
      intro _ hw'
      obtain ⟨xq, hw''⟩ := hw'
      subst hw''
      obtain ⟨w5, hw5⟩ : ∃ w5 : World, w5 = later w2 xq := ⟨_, rfl⟩
      rw [← hw5]
      have HU5 : Hid (Upd [] w w5) := by rw [hw5]; exact HU2.out.trans (later_upd w2 xq)
      clear hw5 g0 g1 g2 g3 g4 hw1 hw2 z1 z2 z3 z4
      go_wp2
      go_roundw
      case rel =>
        refine ⟨k + 1, by omega, by go_num, ?_, rfl, HU5⟩
        rw [HIX.out, idx_str, idxB_succ HT.out, ← HM.out, ← HA.out]
      case measure => simp [intOf]; omega
    · obtain rfl : k = n := by omega
      obtain ⟨ix, HIX⟩ : ∃ ix, Hid (ix = strOfNums (idxB ts k)) := ⟨strOfNums (idxB ts k), rfl⟩
      have hixs : ix.size = 16 * k := by rw [HIX.out, strOfNums_size, idxB_len k (by rw [HL.out]; omega)]
      obtain ⟨dx, HDX⟩ : ∃ dx, Hid (dx = strOfNums (dataB (ts.take k))) := ⟨strOfNums (dataB (ts.take k)), rfl⟩
      have HTK : Hid (ts.take k = ts) := by show _ = _; exact List.take_of_length_le (by rw [HL.out]; exact Nat.le_refl _)
      have hdxs : dx.size = dl := by rw [HDX.out, strOfNums_size, dataB_len, HTK.out, HDL.out]
      rw [← HIX.out, ← HDX.out]
      go_wp2_with fail
      refine (four_post _ (by omega) (by omega) _).mono ?_
      rintro e v1 ⟨s1, rfl, H1, hs1, hv⟩
      have HV1 := Lib.hid (HU.out.trans hv)
      clear hv
      go_wp2_with fail
      refine (four_post _ (by omega) (by omega) _).mono ?_
      rintro e v2 ⟨s2, rfl, H2, hs2, hv⟩
      have HV2 := Lib.hid (HV1.out.trans hv)
      clear hv
      go_wp2_with fail
      refine (four_post _ (by omega) (by omega) _).mono ?_
      rintro e v3 ⟨s3, rfl, H3, hs3, hv⟩
      have HV3 := Lib.hid (HV2.out.trans hv)
      clear hv
      go_wp2_with fail
      refine (four_post _ (by omega) (by omega) _).mono ?_
      rintro e v4 ⟨s4, rfl, H4, hs4, hv⟩
      have HV4 := Lib.hid (HV3.out.trans hv)
      clear hv
      go_wp2_with fail
      refine (four_post _ (by omega) (by omega) _).mono ?_
      rintro e v5 ⟨s5, rfl, H5, hs5, hv⟩
      have HV5 := Lib.hid (HV4.out.trans hv)
      clear hv
      go_wp2_with fail
      refine (four_post _ (by omega) (by omega) _).mono ?_
      rintro e v6 ⟨s6, rfl, H6, hs6, hv⟩
      have HV6 := Lib.hid (HV5.out.trans hv)
      clear hv
      go_wp2_with fail
      refine (four_post _ (by omega) (by omega) _).mono ?_
      rintro e v7 ⟨s7, rfl, H7, hs7, hv⟩
      have HV7 := Lib.hid (HV6.out.trans hv)
      clear hv
      go_wp2_with fail
      refine (four_post _ (by omega) (by omega) _).mono ?_
      rintro e v8 ⟨s8, rfl, H8, hs8, hv⟩
      have HV8 := Lib.hid (HV7.out.trans hv)
      clear hv
      go_wp2_with fail
      refine (four_post _ (by omega) (by omega) _).mono ?_
      rintro e v9 ⟨s9, rfl, H9, hs9, hv⟩
      have HV9 := Lib.hid (HV8.out.trans hv)
      clear hv
      go_wp2_with fail
      refine (four_post _ (by omega) (by omega) _).mono ?_
      rintro e v10 ⟨s10, rfl, H10, hs10, hv⟩
      have HV10 := Lib.hid (HV9.out.trans hv)
      clear hv
      have kc := fun (W : World) (s : ByteArray) => Lib.run_convert_string_bytes (P := Try.prog) W 9 25 5 s Try.underlying9 Try.underlying25 Try.underlying5
      go_wp2
      have HS : Hid ((s1 ++ s2 ++ s3 ++ s4 ++ s5 ++ s6 ++ ix ++ dx ++ s7 ++ s8 ++ s9 ++ s10) = strOfNums (printB ts)) := by
        show _ = _
        rw [H1.out, H2.out, H3.out, H4.out, H5.out, H6.out, H7.out, H8.out, H9.out, H10.out, HIX.out, HDX.out, HTK.out]
        simp only [str_cat]
        congr 1
        unfold printB be4s
        rw [← HDL.out, HL.out]
        simp [List.append_assoc]
      have HZ : Hid ((s1 ++ s2 ++ s3 ++ s4 ++ s5 ++ s6 ++ ix ++ dx ++ s7 ++ s8 ++ s9 ++ s10).size = 24 + 16 * k + dl + 4 + 4 + 4 + 4) := by
        show _ = _
        simp only [ByteArray.size_append, hs1, hs2, hs3, hs4, hs5, hs6, hs7, hs8, hs9, hs10, hixs, hdxs]
        try omega
      have HI := Lib.hid (bytes_conv v10 5 (s1 ++ s2 ++ s3 ++ s4 ++ s5 ++ s6 ++ ix ++ dx ++ s7 ++ s8 ++ s9 ++ s10))
      go_ret2
      refine ⟨_, _, _, rfl, ?_, HV10.out.trans (bytes_upd _ _ _)⟩
      have h := HI.out
      rw [HZ.out] at h
      rw [show sb (s1 ++ s2 ++ s3 ++ s4 ++ s5 ++ s6 ++ ix ++ dx ++ s7 ++ s8 ++ s9 ++ s10) = printB ts by rw [HS.out]; exact sb_strOfNums _ (print_bd ts HH.out.bb)] at h
      exact h

end Go.Proofs.Ytogknbpbjgdldaa
