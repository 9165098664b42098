/- What is wrong with tags; tags in memory; the walk of rhead.Check. -/
import Derived.Test.YtogknbpbjgdldaaRhB
import Derived.Test.YtogknbpbjgdldaaCalm
namespace Go.Proofs.Ytogknbpbjgdldaa
open Go.RowKit Go.Dray

/-- What is wrong with a tag behind another. -/
noncomputable def errT (q : Option Int) (t : TagV) : Int :=
  if t.tag < 100 ∨ 2147483647 < t.tag then 1 else if q.any (fun x => decide (t.tag ≤ x)) = true then 15 else if t.typ < 1 ∨ 9 < t.typ then 9 else if rightB t = false then 3 else 0
/-- What is wrong with tags, one by one. -/
noncomputable def chk : Option Int → List TagV → Int
  | _, [] => 0
  | q, t :: ts => if errT q t = 0 then chk (some t.tag) ts else errT q t
/-- How many bytes of data tags take. -/
def dlen (ts : List TagV) : Nat := ts.foldl (fun d t => upN d (sizeT t.typ) + lenT t) 0
noncomputable def checkE (ts : List TagV) : Int := if 256 < ts.length then 4 else if chk none ts = 0 then (if 1048576 < dlen ts + 16 then 4 else 0) else chk none ts
/-- A bound on the data. -/
def dsum (ts : List TagV) : Nat := (ts.map fun t => lenT t + 8).sum

theorem dlen_snoc (ts : List TagV) (t : TagV) : dlen (ts ++ [t]) = upN (dlen ts) (sizeT t.typ) + lenT t := by simp [dlen]
theorem dsum_snoc (ts : List TagV) (t : TagV) : dsum (ts ++ [t]) = dsum ts + (lenT t + 8) := by simp [dsum]
theorem upN_le (a s : Nat) (h1 : 1 ≤ s) (h8 : s ≤ 8) : upN a s ≤ a + 7 := by
  unfold upN
  have := Nat.div_mul_le_self (a + s - 1) s
  omega
theorem dlen_le (ts : List TagV) : dlen ts ≤ dsum ts := by
  induction ts using snoc_ind with
  | h0 => simp [dlen]
  | h1 ts t ih =>
    have h := sizeT_bd t.typ
    have := upN_le (dlen ts) (sizeT t.typ) h.1 h.2
    rw [dlen_snoc, dsum_snoc]
    omega
theorem dsum_take (ts : List TagV) (k : Nat) : dsum (ts.take k) ≤ dsum ts := by
  have h := congrArg dsum (List.take_append_drop k ts)
  unfold dsum at h ⊢
  rw [List.map_append, List.sum_append] at h
  omega

/-- The tag ahead. -/
def prevT (ts : List TagV) (k : Nat) : Option Int := if k = 0 then none else (ts[k - 1]?).map (·.tag)
theorem chk_step {ts : List TagV} {k : Nat} {t : TagV} (h : ts[k]? = some t) : chk (prevT ts k) (ts.drop k) = if errT (prevT ts k) t = 0 then chk (prevT ts (k + 1)) (ts.drop (k + 1)) else errT (prevT ts k) t := by
  obtain ⟨hk, he⟩ := List.getElem?_eq_some_iff.1 h
  rw [List.drop_eq_getElem_cons hk, he]
  have : prevT ts (k + 1) = some t.tag := by unfold prevT; rw [if_neg (by omega), Nat.add_sub_cancel, h]; rfl
  rw [this]
  rfl

/-- A slice of tags. -/
structure Tags (w : World) (A : Option Addr) (n : Nat) (ts : List TagV) : Prop where
  len : ts.length = n
  at_ : 0 < n → A = some ⟨bl A, ofs A, none⟩
  tag : ∀ k t, ts[k]? = some t → ∃ p : TagP, TagM w p t ∧ ∀ j v, (tagC p t)[j]? = some v → w.cell? ⟨bl A, ofs A + k * 5 + j, none⟩ = some v

theorem Tags.upd0 {w w' : World} {A : Option Addr} {n : Nat} {ts : List TagV} (h : Tags w A n ts) (hu : Upd [] w w') : Tags w' A n ts :=
  ⟨h.len, h.at_, fun k t hk => by
    obtain ⟨p, hp, hc⟩ := h.tag k t hk
    exact ⟨p, hp.upd0 hu, fun j v hv => hu.cell (hc j v hv) (by simp)⟩⟩
theorem Tags.index {w : World} {A : Option Addr} {n : Nat} {ts : List TagV} (h : Tags w A n ts) (c k : Nat) (hk : k < n) :
    ∀ W : World, (Instr.indexAt 22 (.slice A n c) (.int .i64 k)).run Try.prog W = .ok (.pointer (some ⟨bl A, ofs A + k * 5, none⟩)) W := run_index el_tag h.at_ c .i64 k hk
theorem Tags.get {w : World} {A : Option Addr} {n : Nat} {ts : List TagV} (h : Tags w A n ts) {k : Nat} (hk : k < n) : ∃ (t : TagV) (p : TagP), Hid (ts[k]? = some t) ∧ Hid (TagM w p t) ∧
    w.cell? ⟨bl A, ofs A + k * 5, none⟩ = some (.int .i64 t.tag) ∧ w.cell? ⟨bl A, ofs A + k * 5 + 1, none⟩ = some (.int .i64 t.typ) ∧ w.cell? ⟨bl A, ofs A + k * 5 + 2, none⟩ = some (.slice p.IA p.i p.ic) ∧
    w.cell? ⟨bl A, ofs A + k * 5 + 3, none⟩ = some (.slice p.TA p.n p.tc) ∧ w.cell? ⟨bl A, ofs A + k * 5 + 4, none⟩ = some (.slice p.BA p.m p.bc) := by
  have hl : k < ts.length := by rw [h.len]; exact hk
  obtain ⟨p, hp, hc⟩ := h.tag k ts[k] (List.getElem?_eq_getElem hl)
  exact ⟨ts[k], p, List.getElem?_eq_getElem hl, hp, hc 0 _ rfl, hc 1 _ rfl, hc 2 _ rfl, hc 3 _ rfl, hc 4 _ rfl⟩

/-- The tag ahead in memory. -/
theorem Tags.prev {w : World} {A : Option Addr} {n : Nat} {ts : List TagV} (h : Tags w A n ts) {k : Nat} (hk : k < n) (h0 : 0 < k) : ∃ q : Int, Hid (prevT ts k = some q) ∧ w.cell? ⟨bl A, ofs A + (k - 1) * 5, none⟩ = some (.int .i64 q) := by
  obtain ⟨t, p, HT, _, c0, _⟩ := h.get (k := k - 1) (by omega)
  refine ⟨t.tag, ?_, c0⟩
  show _ = _
  unfold prevT
  rw [if_neg (by omega), HT.out]
  rfl

theorem check_err {ts : List TagV} {k : Nat} {t : TagV} {e : Int} (hn : ts.length ≤ 256) (hC : chk none ts = chk (prevT ts k) (ts.drop k)) (ht : ts[k]? = some t) (he : errT (prevT ts k) t = e) (h0 : e ≠ 0) : checkE ts = e := by
  have h1 : chk none ts = e := by rw [hC, chk_step ht, he, if_neg h0]
  unfold checkE
  rw [if_neg (by omega), h1, if_neg h0]
theorem errT_lo {q : Option Int} {t : TagV} (h : t.tag < 100) : errT q t = 1 := by unfold errT; rw [if_pos (Or.inl h)]
theorem errT_hi {q : Option Int} {t : TagV} (h : 2147483647 < t.tag) : errT q t = 1 := by unfold errT; rw [if_pos (Or.inr h)]
theorem errT_ord {q : Int} {t : TagV} (h1 : ¬ t.tag < 100) (h2 : ¬ 2147483647 < t.tag) (h : t.tag ≤ q) : errT (some q) t = 15 := by
  unfold errT
  rw [if_neg (by omega), if_pos (by simpa using h)]
theorem errT_typ {q : Option Int} {t : TagV} (h1 : ¬ t.tag < 100) (h2 : ¬ 2147483647 < t.tag) (h3 : q.any (fun x => decide (t.tag ≤ x)) = false) (h : t.typ < 1 ∨ 9 < t.typ) : errT q t = 9 := by
  unfold errT
  rw [if_neg (by omega), h3, if_neg (by decide), if_pos h]
theorem errT_form {q : Option Int} {t : TagV} (h1 : ¬ t.tag < 100) (h2 : ¬ 2147483647 < t.tag) (h3 : q.any (fun x => decide (t.tag ≤ x)) = false) (h4 : ¬ t.typ < 1) (h5 : ¬ 9 < t.typ) (h : rightB t = false) : errT q t = 3 := by
  unfold errT
  rw [if_neg (by omega), h3, if_neg (by decide), if_neg (by omega), if_pos h]
theorem errT_ok {q : Option Int} {t : TagV} (h1 : ¬ t.tag < 100) (h2 : ¬ 2147483647 < t.tag) (h3 : q.any (fun x => decide (t.tag ≤ x)) = false) (h4 : ¬ t.typ < 1) (h5 : ¬ 9 < t.typ) (h : rightB t = true) : errT q t = 0 := by
  unfold errT
  rw [if_neg (by omega), h3, if_neg (by decide), if_neg (by omega), if_neg (by rw [h]; decide)]
theorem lenT_le {ts : List TagV} {k : Nat} {t : TagV} (h : ts[k]? = some t) : lenT t ≤ dsum ts := by
  obtain ⟨hk, he⟩ := List.getElem?_eq_some_iff.1 h
  have h1 := dsum_take ts (k + 1)
  rw [List.take_succ_eq_append_getElem hk, he, dsum_snoc] at h1
  omega

set_option maxRecDepth 100000 in
set_option maxHeartbeats 1000000 in
theorem check_any (w : World) (A : Option Addr) (n c : Nat) (ts : List TagV) (h : Tags w A n ts) (hd : dsum ts ≤ 100000000000000) (hn : n ≤ 1000000000000000) :
    Calls Try.prog 11 #[.slice A n c] w (RetU (.int .i64 (checkE ts)) w) := by
  have HH := Lib.hid h
  have HL := Lib.hid h.len
  clear h
  by_cases hbig : 256 < n
  · have d1 : decide ((256 : Int) < n) = true := by simp; omega
    go_enter Try.func11, Try.ntmps11
    go_wp2
    go_ret
    refine ⟨ret_int ?_, Upd.refl _ _⟩
    unfold checkE
    rw [if_pos (by rw [HL.out]; exact hbig)]
  · have d1 : decide ((256 : Int) < n) = false := by simp; omega
    go_enter Try.func11, Try.ntmps11
    go_wp2
    go_loopw [3, 11] (fun x i wr => ∃ (k m : Nat), k ≤ n ∧ i = .int .i64 k ∧ x = .int .i64 m ∧ Hid (m = dlen (ts.take k)) ∧ Hid (chk none ts = chk (prevT ts k) (ts.drop k)) ∧ Hid (Upd [] w wr)) (fun _ i _ => n - (intOf i).toNat)
    case atStart => exact ⟨0, 0, by omega, rfl, rfl, rfl, rfl, Upd.refl _ _⟩
    case round =>
      obtain ⟨k, m, hk, rfl, rfl, HM, HC, HU⟩ := hrel
      have hm : m ≤ 100000000000000 := by
        rw [HM.out]
        exact Nat.le_trans (dlen_le _) (Nat.le_trans (dsum_take _ _) hd)
      by_cases hlt : k < n
      · have HHr := Lib.hid (HH.out.upd0 HU.out)
        obtain ⟨t, p, HT, HP, c0, c1, c2, c3, c4⟩ := HHr.out.get hlt
        have hix := HHr.out.index c k hlt
        have hkb : k ≤ 256 := by omega
        go_upto_region 7 with (fail)
        obtain ⟨B, HB⟩ : ∃ B, Hid (B = wr.heap.size) := ⟨_, rfl⟩
        have HBK : Hid (Blk (wr.alloc (.cells #[.int .i64 t.tag, .int .i64 t.typ, .slice p.IA p.i p.ic, .slice p.TA p.n p.tc, .slice p.BA p.m p.bc] 40)) wr.heap.size 40 #[.int .i64 t.tag, .int .i64 t.typ, .slice p.IA p.i p.ic, .slice p.TA p.n p.tc, .slice p.BA p.m p.bc]) := Blk.new _ _ _
        have HV0 : Hid (Upd [] wr (wr.alloc (.cells #[.int .i64 t.tag, .int .i64 t.typ, .slice p.IA p.i p.ic, .slice p.TA p.n p.tc, .slice p.BA p.m p.bc] 40))) := (Upd.refl _ _).alloc _
        rw [← HB.out] at HBK ⊢
        generalize hw2 : wr.alloc _ = w2 at *
        have HU2 : Hid (Upd [] w w2) := HU.out.trans HV0.out
        have HP2 : Hid (TagM w2 p t) := HP.out.upd0 HV0.out
        have HH2 : Hid (Tags w2 A n ts) := HHr.out.upd0 HV0.out
        clear hw2 HV0 HP HHr c0 c1 c2 c3 c4
        have e0 : w2.cell? ⟨B, 0, none⟩ = some (.int .i64 t.tag) := by rw [HBK.out.cell]; rfl
        have e1 : w2.cell? ⟨B, 1, none⟩ = some (.int .i64 t.typ) := by rw [HBK.out.cell]; rfl
        have e2 : w2.cell? ⟨B, 2, none⟩ = some (.slice p.IA p.i p.ic) := by rw [HBK.out.cell]; rfl
        have e3 : w2.cell? ⟨B, 3, none⟩ = some (.slice p.TA p.n p.tc) := by rw [HBK.out.cell]; rfl
        have e4 : w2.cell? ⟨B, 4, none⟩ = some (.slice p.BA p.m p.bc) := by rw [HBK.out.cell]; rfl
        by_cases b0 : t.tag < 100
        · have d2 : decide (t.tag < 100) = true := by simpa using b0
          go_wp2
          go_ret
          exact ⟨ret_int (check_err (by rw [HL.out]; omega) HC.out HT.out (errT_lo b0) (by decide)).symm, HU2.out⟩
        · have d2 : decide (t.tag < 100) = false := by simpa using b0
          by_cases b1 : 2147483647 < t.tag
          · have d3 : decide (2147483647 < t.tag) = true := by simpa using b1
            go_wp2
            go_ret
            exact ⟨ret_int (check_err (by rw [HL.out]; omega) HC.out HT.out (errT_hi b1) (by decide)).symm, HU2.out⟩
          · have d3 : decide (2147483647 < t.tag) = false := by simpa using b1
            by_cases hk0 : 0 < k
            · have d4 : decide (0 < k) = true := by simpa using hk0
              obtain ⟨q, HPV, cq⟩ := HH2.out.prev hlt hk0
              have hixp := HH2.out.index c (k - 1) (by omega)
              have hke : ((k - 1 : Nat) : Int) = (k : Int) - 1 := by omega
              rw [hke] at hixp
              have hwk : IntKind.i64.wrap ((k : Int) - 1) = (k : Int) - 1 := by rw [IntKind.wrap_i64]; omega
              clear hke
              by_cases hord : t.tag ≤ q
              · have d5 : decide (t.tag ≤ q) = true := by simpa using hord
                go_wp2
                go_quiet (fail)
                clear hwk hixp
                go_wp2
                go_ret
                exact ⟨ret_int (check_err (by rw [HL.out]; omega) HC.out HT.out (by rw [HPV.out]; exact errT_ord (by omega) (by omega) (by omega)) (by decide)).symm, HU2.out.drewN _⟩
              · have d5 : decide (t.tag ≤ q) = false := by simpa using hord
                have HQ : Hid ((prevT ts k).any (fun x => decide (t.tag ≤ x)) = false) := by rw [HPV.out]; show _ = _; simpa using hord
                go_wp2
                go_quiet (fail)
                clear hwk hixp cq d5
                generalize hw3 : w2.drewN _ = w3
                have HU3 : Hid (Upd [] w w3) := by rw [← hw3]; exact HU2.out.drewN _
                have HP3 : Hid (TagM w3 p t) := by rw [← hw3]; exact HP2.out.drewN _
                have HBK3 : Hid (Blk w3 B 40 #[.int .i64 t.tag, .int .i64 t.typ, .slice p.IA p.i p.ic, .slice p.TA p.n p.tc, .slice p.BA p.m p.bc]) := by rw [← hw3]; exact HBK.out.drewN _
                clear hw3 e0 e1 e2 e3 e4 HU2 HP2 HBK HH2
                have e1 : w3.cell? ⟨B, 1, none⟩ = some (.int .i64 t.typ) := by rw [HBK3.out.cell]; rfl
                have e0 : w3.cell? ⟨B, 0, none⟩ = some (.int .i64 t.tag) := by rw [HBK3.out.cell]; rfl
                have e2 : w3.cell? ⟨B, 2, none⟩ = some (.slice p.IA p.i p.ic) := by rw [HBK3.out.cell]; rfl
                have e3 : w3.cell? ⟨B, 3, none⟩ = some (.slice p.TA p.n p.tc) := by rw [HBK3.out.cell]; rfl
                have e4 : w3.cell? ⟨B, 4, none⟩ = some (.slice p.BA p.m p.bc) := by rw [HBK3.out.cell]; rfl
                by_cases ht1 : t.typ < 1
                · have f1 : decide (t.typ < 1) = true := by simpa using ht1
                  go_wp2
                  go_ret
                  exact ⟨ret_int (check_err (by rw [HL.out]; omega) HC.out HT.out (errT_typ (by omega) (by omega) HQ.out (Or.inl (by omega))) (by decide)).symm, HU3.out⟩
                · have f1 : decide (t.typ < 1) = false := by simpa using ht1
                  by_cases ht9 : 9 < t.typ
                  · have f2 : decide (9 < t.typ) = true := by simpa using ht9
                    go_wp2
                    go_ret
                    exact ⟨ret_int (check_err (by rw [HL.out]; omega) HC.out HT.out (errT_typ (by omega) (by omega) HQ.out (Or.inr (by omega))) (by decide)).symm, HU3.out⟩
                  · have f2 : decide (9 < t.typ) = false := by simpa using ht9
                    go_wp2_with fail
                    refine (right_any w3 p t HP3.out).mono ?_
                    rintro e w4 ⟨rfl, hv4⟩
                    have HU4 := Lib.hid (HU3.out.trans hv4)
                    cases hr : rightB t with
                    | false =>
                      have HR := Lib.hid hr
                      clear hr
                      go_wp2
                      go_ret
                      exact ⟨ret_int (check_err (by rw [HL.out]; omega) HC.out HT.out (errT_form (by omega) (by omega) HQ.out (by omega) (by omega) HR.out) (by decide)).symm, HU4.out⟩
                    | true =>
                      have HR := Lib.hid hr
                      clear hr
                      have HP4 := Lib.hid (HP3.out.upd0 hv4)
                      have HBK4 := Lib.hid (HBK3.out.upd hv4 (by simp))
                      clear hv4 e0 e1 e2 e3 e4 HU3 HP3 HBK3
                      have e0 : w4.cell? ⟨B, 0, none⟩ = some (.int .i64 t.tag) := by rw [HBK4.out.cell]; rfl
                      have e1 : w4.cell? ⟨B, 1, none⟩ = some (.int .i64 t.typ) := by rw [HBK4.out.cell]; rfl
                      have e2 : w4.cell? ⟨B, 2, none⟩ = some (.slice p.IA p.i p.ic) := by rw [HBK4.out.cell]; rfl
                      have e3 : w4.cell? ⟨B, 3, none⟩ = some (.slice p.TA p.n p.tc) := by rw [HBK4.out.cell]; rfl
                      have e4 : w4.cell? ⟨B, 4, none⟩ = some (.slice p.BA p.m p.bc) := by rw [HBK4.out.cell]; rfl
                      go_wp2
                      have g0 := fun x => later_cell e0 x
                      have g1 := fun x => later_cell e1 x
                      have g2 := fun x => later_cell e2 x
                      have g3 := fun x => later_cell e3 x
                      have g4 := fun x => later_cell e4 x
                      have hlt2 := lenT_le HT.out
                      have htx : textLen t.texts ≤ lenT t := by unfold lenT; omega
                      have hsb := sizeT_bd t.typ
                      have hup := upN_le m (sizeT t.typ) hsb.1 hsb.2
                      obtain ⟨a, HA⟩ : ∃ a, Hid (a = upN m (sizeT t.typ)) := ⟨_, rfl⟩
                      rw [← HA.out] at hup
                      have hae : (upN m (sizeT t.typ) : Int) = (a : Int) := by rw [HA.out]
                      have hsum : IntKind.i64.wrap ((a : Int) + (lenT t : Nat)) = ((a + lenT t : Nat) : Int) := by rw [IntKind.wrap_i64]; omega
                      clear e0 e1 e2 e3 e4
                      refine wp_region_later (by kernel_rfl) (by kernel_rfl) ?_
                      repeat (go_big_quiet_step (first | (go_at_call 17; exact laterL (size_any _ _)) | (go_at_call 24; exact laterL (up_any m (sizeT t.typ) _ (by omega) hsb.1 hsb.2)) | (go_at_call 25; exact laterU (length_any _ p t (HP4.out.upd0 (later_upd _ _)) (by omega)))))
                      refine wpQuiet_nil ?_
                      intro _ hw'
                      obtain ⟨xq, hw''⟩ := hw'
                      subst hw''
                      obtain ⟨w5, hw5⟩ : ∃ w5 : World, w5 = later w4 xq := ⟨_, rfl⟩
                      rw [← hw5]
                      have HU5 : Hid (Upd [] w w5) := by rw [hw5]; exact HU4.out.trans (later_upd w4 xq)
                      clear hw5 g0 g1 g2 g3 g4 hsum hae
                      go_wp2
                      go_roundw
                      case rel =>
                        obtain ⟨hkl, hke⟩ := List.getElem?_eq_some_iff.1 HT.out
                        refine ⟨k + 1, a + lenT t, by omega, by go_num, rfl, ?_, ?_, HU5⟩
                        · show _ = _
                          rw [List.take_succ_eq_append_getElem hkl, hke, dlen_snoc, ← HM.out, HA.out]
                        · show _ = _
                          rw [HC.out, chk_step HT.out, if_pos (errT_ok (by omega) (by omega) HQ.out (by omega) (by omega) HR.out)]
                      case measure => simp [intOf]; omega
            · have d4 : decide (0 < k) = false := by simpa using hk0
              have HQ : Hid ((prevT ts k).any (fun x => decide (t.tag ≤ x)) = false) := by
                have : k = 0 := by omega
                subst this
                rfl
              go_wp2
              go_quiet (fail)
              generalize hw3 : w2.drewN _ = w3
              have HU3 : Hid (Upd [] w w3) := by rw [← hw3]; exact HU2.out.drewN _
              have HP3 : Hid (TagM w3 p t) := by rw [← hw3]; exact HP2.out.drewN _
              have HBK3 : Hid (Blk w3 B 40 #[.int .i64 t.tag, .int .i64 t.typ, .slice p.IA p.i p.ic, .slice p.TA p.n p.tc, .slice p.BA p.m p.bc]) := by rw [← hw3]; exact HBK.out.drewN _
              clear hw3 e0 e1 e2 e3 e4 HU2 HP2 HBK HH2
              have e1 : w3.cell? ⟨B, 1, none⟩ = some (.int .i64 t.typ) := by rw [HBK3.out.cell]; rfl
              have e0 : w3.cell? ⟨B, 0, none⟩ = some (.int .i64 t.tag) := by rw [HBK3.out.cell]; rfl
              have e2 : w3.cell? ⟨B, 2, none⟩ = some (.slice p.IA p.i p.ic) := by rw [HBK3.out.cell]; rfl
              have e3 : w3.cell? ⟨B, 3, none⟩ = some (.slice p.TA p.n p.tc) := by rw [HBK3.out.cell]; rfl
              have e4 : w3.cell? ⟨B, 4, none⟩ = some (.slice p.BA p.m p.bc) := by rw [HBK3.out.cell]; rfl
              by_cases ht1 : t.typ < 1
              · have f1 : decide (t.typ < 1) = true := by simpa using ht1
                go_wp2
                go_ret
                exact ⟨ret_int (check_err (by rw [HL.out]; omega) HC.out HT.out (errT_typ (by omega) (by omega) HQ.out (Or.inl (by omega))) (by decide)).symm, HU3.out⟩
              · have f1 : decide (t.typ < 1) = false := by simpa using ht1
                by_cases ht9 : 9 < t.typ
                · have f2 : decide (9 < t.typ) = true := by simpa using ht9
                  go_wp2
                  go_ret
                  exact ⟨ret_int (check_err (by rw [HL.out]; omega) HC.out HT.out (errT_typ (by omega) (by omega) HQ.out (Or.inr (by omega))) (by decide)).symm, HU3.out⟩
                · have f2 : decide (9 < t.typ) = false := by simpa using ht9
                  go_wp2_with fail
                  refine (right_any w3 p t HP3.out).mono ?_
                  rintro e w4 ⟨rfl, hv4⟩
                  have HU4 := Lib.hid (HU3.out.trans hv4)
                  cases hr : rightB t with
                  | false =>
                    have HR := Lib.hid hr
                    clear hr
                    go_wp2
                    go_ret
                    exact ⟨ret_int (check_err (by rw [HL.out]; omega) HC.out HT.out (errT_form (by omega) (by omega) HQ.out (by omega) (by omega) HR.out) (by decide)).symm, HU4.out⟩
                  | true =>
                    have HR := Lib.hid hr
                    clear hr
                    have HP4 := Lib.hid (HP3.out.upd0 hv4)
                    have HBK4 := Lib.hid (HBK3.out.upd hv4 (by simp))
                    clear hv4 e0 e1 e2 e3 e4 HU3 HP3 HBK3
                    have e0 : w4.cell? ⟨B, 0, none⟩ = some (.int .i64 t.tag) := by rw [HBK4.out.cell]; rfl
                    have e1 : w4.cell? ⟨B, 1, none⟩ = some (.int .i64 t.typ) := by rw [HBK4.out.cell]; rfl
                    have e2 : w4.cell? ⟨B, 2, none⟩ = some (.slice p.IA p.i p.ic) := by rw [HBK4.out.cell]; rfl
                    have e3 : w4.cell? ⟨B, 3, none⟩ = some (.slice p.TA p.n p.tc) := by rw [HBK4.out.cell]; rfl
                    have e4 : w4.cell? ⟨B, 4, none⟩ = some (.slice p.BA p.m p.bc) := by rw [HBK4.out.cell]; rfl
                    go_wp2
                    have g0 := fun x => later_cell e0 x
                    have g1 := fun x => later_cell e1 x
                    have g2 := fun x => later_cell e2 x
                    have g3 := fun x => later_cell e3 x
                    have g4 := fun x => later_cell e4 x
                    have hlt2 := lenT_le HT.out
                    have htx : textLen t.texts ≤ lenT t := by unfold lenT; omega
                    have hsb := sizeT_bd t.typ
                    have hup := upN_le m (sizeT t.typ) hsb.1 hsb.2
                    obtain ⟨a, HA⟩ : ∃ a, Hid (a = upN m (sizeT t.typ)) := ⟨_, rfl⟩
                    rw [← HA.out] at hup
                    have hae : (upN m (sizeT t.typ) : Int) = (a : Int) := by rw [HA.out]
                    have hsum : IntKind.i64.wrap ((a : Int) + (lenT t : Nat)) = ((a + lenT t : Nat) : Int) := by rw [IntKind.wrap_i64]; omega
                    clear e0 e1 e2 e3 e4
                    refine wp_region_later (by kernel_rfl) (by kernel_rfl) ?_
                    repeat (go_big_quiet_step (first | (go_at_call 17; exact laterL (size_any _ _)) | (go_at_call 24; exact laterL (up_any m (sizeT t.typ) _ (by omega) hsb.1 hsb.2)) | (go_at_call 25; exact laterU (length_any _ p t (HP4.out.upd0 (later_upd _ _)) (by omega)))))
                    refine wpQuiet_nil ?_
                    intro _ hw'
                    obtain ⟨xq, hw''⟩ := hw'
                    subst hw''
                    obtain ⟨w5, hw5⟩ : ∃ w5 : World, w5 = later w4 xq := ⟨_, rfl⟩
                    rw [← hw5]
                    have HU5 : Hid (Upd [] w w5) := by rw [hw5]; exact HU4.out.trans (later_upd w4 xq)
                    clear hw5 g0 g1 g2 g3 g4 hsum hae
                    go_wp2
                    go_roundw
                    case rel =>
                      obtain ⟨hkl, hke⟩ := List.getElem?_eq_some_iff.1 HT.out
                      refine ⟨k + 1, a + lenT t, by omega, by go_num, rfl, ?_, ?_, HU5⟩
                      · show _ = _
                        rw [List.take_succ_eq_append_getElem hkl, hke, dlen_snoc, ← HM.out, HA.out]
                      · show _ = _
                        rw [HC.out, chk_step HT.out, if_pos (errT_ok (by omega) (by omega) HQ.out (by omega) (by omega) HR.out)]
                    case measure => simp [intOf]; omega
      · obtain rfl : k = n := by omega
        have HE : Hid (chk none ts = 0) := by
          rw [HC.out, List.drop_of_length_le (by rw [HL.out]; exact Nat.le_refl _)]
          rfl
        have HM2 : Hid (m = dlen ts) := by show m = dlen ts; rw [HM.out, List.take_of_length_le (by rw [HL.out]; exact Nat.le_refl _)]
        by_cases hbig2 : 1048576 < m + 16
        · have d2 : decide ((1048576 : Int) < (m : Int) + 16) = true := by simp; omega
          go_wp2
          go_ret
          refine ⟨ret_int ?_, HU.out⟩
          unfold checkE
          rw [if_neg (by rw [HL.out]; exact hbig), if_pos HE.out, ← HM2.out, if_pos hbig2]
        · have d2 : decide ((1048576 : Int) < (m : Int) + 16) = false := by simp; omega
          go_wp2
          go_ret
          refine ⟨ret_int ?_, HU.out⟩
          unfold checkE
          rw [if_neg (by rw [HL.out]; exact hbig), if_pos HE.out, ← HM2.out, if_neg hbig2]

end Go.Proofs.Ytogknbpbjgdldaa
