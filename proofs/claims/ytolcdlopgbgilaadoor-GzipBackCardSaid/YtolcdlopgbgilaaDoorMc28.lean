/- Merged by wip/tools/merge.py: GzB. -/
import Derived.Test.YtolcdlopgbgilaaDoorMc27

/-! Text GzB. -/
namespace Go.Proofs.YtolcdlopgbgilaaDoor
open Go.RowKit Go.Dray

theorem and3_bd (a : Int) : 0 ≤ bits .and .i64 a 3 ∧ bits .and .i64 a 3 ≤ 3 := by
  have h : (BitVec.ofInt 64 a &&& BitVec.ofInt 64 3).toNat ≤ 3 := by
    rw [BitVec.toNat_and]
    exact Nat.le_trans Nat.and_le_right (by decide)
  unfold bits
  show 0 ≤ IntKind.i64.wrap (((BitVec.ofInt 64 a &&& BitVec.ofInt 64 3).toNat : Nat) : Int) ∧ IntKind.i64.wrap (((BitVec.ofInt 64 a &&& BitVec.ofInt 64 3).toNat : Nat) : Int) ≤ 3
  rw [IntKind.wrap_i64]
  omega
theorem gzBytes_len (s : ByteArray) (mt : Int) (out zs : List Int) (h : s.size ≤ 200) : (gzBytes s mt out zs).length ≤ out.length + 219 := by
  have h1 := congrArg List.length (gz_is_front s mt out zs [])
  have h2 := gzTail_len s h
  rw [front_len] at h1
  simp [sums8_len] at h1
  omega
/-- Another slice of the call's own is changed. -/
theorem MemsO.bytes {w w' : World} {B B' : Nat} {L X : Option Addr} {lc n c : Nat} {xs : List (MemP × Mem)} {ys : List Value} (h : MemsO w B L lc xs) (hX : Own w B' 5 1 X n c ys) (hd : ∀ x ∈ xs, 0 < x.1.n → ob X ≠ some (bl x.1.A)) (hu : Upd [ob X] w w') : MemsO w' B L lc xs :=
  ⟨h.own.upd hu (by intro g hg; simp; intro e; exact hX.neOwn h.own (by decide) e.symm hg), fun x hx => (h.mems x hx).upd hu (fun h0 => by simp; exact fun e => hd x hx h0 e.symm), h.apart⟩
/-- What has been packed so far. -/
structure BackI (w1 : World) (N : Nat) (xs : List (MemP × Mem)) (pks : List (List Int × Mem)) : Prop where
  same : pks.map (·.2) = xs.map (·.2)
  says : ∀ x ∈ pks, Says x.1 x.2
  sum : dataSum (pks.map (·.2)) ≤ N
  bd : ∀ z ∈ (pks.map (·.1)).flatten, 0 ≤ z ∧ z ≤ 255
  low : ∀ x ∈ xs, 0 < x.1.n → bl x.1.A < w1.heap.size
theorem BackI.nil (w1 : World) : BackI w1 0 [] [] := ⟨rfl, (fun x hx => by cases hx), Nat.le_refl _, (fun z hz => by simp at hz), (fun x hx => by cases hx)⟩
theorem BackI.more {w1 : World} {N d : Nat} {xs : List (MemP × Mem)} {pks : List (List Int × Mem)} (h : BackI w1 N xs pks) {b : List Int} {p : MemP} {m : Mem} (hs : Says b m) (hb : ∀ z ∈ b, 0 ≤ z ∧ z ≤ 255) (hd : m.data.length = d) (hl : 0 < p.n → bl p.A < w1.heap.size) : BackI w1 (N + d) (xs ++ [(p, m)]) (pks ++ [(b, m)]) :=
  ⟨by rw [List.map_append, List.map_append, h.same]; rfl, (fun x hx => by
    rcases List.mem_append.1 hx with hx | hx
    · exact h.says x hx
    · simp at hx; subst hx; exact hs), (by
    have := h.sum
    simp [dataSum] at this ⊢
    omega), (fun z hz => by
    rw [List.map_append, List.flatten_append] at hz
    rcases List.mem_append.1 hz with hz | hz
    · exact h.bd z hz
    · simp at hz; exact hb z hz), (fun x hx h0 => by
    rcases List.mem_append.1 hx with hx | hx
    · exact h.low x hx h0
    · simp at hx; subst hx; exact hl h0)⟩
theorem BackI.mono {w1 : World} {N N' : Nat} {xs : List (MemP × Mem)} {pks : List (List Int × Mem)} (h : BackI w1 N xs pks) (hN : N ≤ N') : BackI w1 N' xs pks := ⟨h.same, h.says, Nat.le_trans h.sum hN, h.bd, h.low⟩
theorem flat_snoc (pks : List (List Int × Mem)) (b : List Int) (m : Mem) : ((pks ++ [(b, m)]).map (·.1)).flatten = (pks.map (·.1)).flatten ++ b := by simp

set_option maxRecDepth 100000 in
set_option maxHeartbeats 8000000 in
theorem gzipBack_walk (A : Option Addr) (n c : Nat) (ms : List Mem) (how : Int) (w : World) (hin : InMems w A n c ms) (_ : (Lit.int .i64 how).wf = true) (hT : Ords w) :
    Calls Tryd.prog 9 #[.slice A n c, .int .i64 how] w fun e w' => e = .returned (.bool true) ∧ Below w.heap.size w w' := by
  suffices hU : Calls Tryd.prog 9 #[.slice A n c, .int .i64 how] w fun e w' => e = .returned (.bool true) ∧ Upd [] w w' from hU.mono fun _ _ ⟨h1, h2⟩ => ⟨h1, h2.below (Nat.le_refl _) (by simp)⟩
  have HR0 := Lib.hid hin.rd
  have HT := Lib.hid hT
  clear hin hT
  by_cases hbig : 10 < n
  · have d1 : decide ((10 : Int) < n) = true := by simp; omega
    go_enter Tryd.func9, Tryd.ntmps9
    go_wp2_with (go_at_call 17; refine (awake6_any _ HT.out).mono ?_; rintro e w1 ⟨rfl, hu1⟩)
    go_ret
    exact ⟨rfl, hu1⟩
  · have d1 : decide ((10 : Int) < n) = false := by simp; omega
    have hn : n ≤ 10 := by omega
    obtain ⟨v, hv⟩ : ∃ v, v = bits .and .i64 how 3 := ⟨_, rfl⟩
    have hvb := and3_bd how
    rw [← hv] at hvb
    have hv0 := hvb.1
    have hv1 := hvb.2
    have HAND := Lib.hid hv.symm
    clear hv hvb hbig
    go_enter Tryd.func9, Tryd.ntmps9
    go_wp2_with fail
    refine (awake6_any w HT.out).mono ?_
    rintro e w1 ⟨rfl, hu1⟩
    have HU1 := Lib.hid hu1
    have HR := Lib.hid (HR0.out.upd0 hu1)
    have HT1 := Lib.hid (HT.out.upd hu1)
    clear hu1 HR0 HT
    go_wp2_with fail
    clear d1
    go_loopw [5, 6, 7, 8] (fun v5 v6 v7 v8 wr => ∃ (k N xn wn : Nat) (X : Option Addr) (xc : Nat) (L : Option Addr) (lc : Nat) (xs : List (MemP × Mem)) (pks : List (List Int × Mem)), v8 = .int .i64 k ∧ v7 = .int .i64 N ∧ v5 = .slice X xn xc ∧ v6 = .slice L wn lc ∧ k ≤ n ∧ N ≤ 3000 ∧ xn ≤ k * 3000300 ∧ xs.length = wn ∧ wn ≤ k ∧ Hid (Own wr w1.heap.size 5 1 X xn xc ((pks.map (·.1)).flatten.map (Value.int .u8))) ∧ Hid (MemsO wr w1.heap.size L lc xs) ∧ Hid (Upd [] w1 wr) ∧ Hid (BackI w1 N xs pks)) (fun _ _ _ v8 _ => n - (intOf v8).toNat)
    case atStart => exact ⟨0, 0, 0, 0, none, 0, none, 0, [], [], rfl, rfl, rfl, rfl, by omega, by omega, by omega, rfl, by omega, Own.nil _ _ _ _, MemsO.nil _ _, Upd.refl _ _, BackI.nil _⟩
    case round =>
      obtain ⟨k, N, xn, wn, X, xc, L, lc, xs, pks, rfl, rfl, rfl, rfl, hk, hN, hxn, hxl, hwn, HO, HM, HU, HI⟩ := hrel
      by_cases hlt : k < n
      · have dlt : decide ((k : Int) < n) = true := by simp; omega
        obtain ⟨m, p, HMK, HP, c0, c1, c2⟩ := (HR.out.upd0 HU.out).get hlt
        have hix := (HR.out.upd0 HU.out).index c k hlt
        by_cases hbg : 3000 - N < p.n
        · have db : decide ((3000 : Int) - N < p.n) = true := by simp; omega
          go_wp2
          go_ret
          exact ⟨rfl, HU1.out.trans HU.out⟩
        · have db : decide ((3000 : Int) - N < p.n) = false := by simp; omega
          have hNp : N + p.n ≤ 3000 := by omega
          obtain ⟨S, hS⟩ : ∃ S, S = m.name := ⟨_, rfl⟩
          obtain ⟨tm, htm⟩ : ∃ tm, tm = m.time := ⟨_, rfl⟩
          rw [← hS] at c0
          rw [← htm] at c1
          have HSN := Lib.hid hS
          have HTM := Lib.hid htm
          have HLA : Hid (bl A < w1.heap.size) := by
            obtain ⟨m', p', _, _, b0, _, _⟩ := HR.out.get hlt
            have h := cell_lt b0
            exact h
          have HLOW : Hid (0 < p.n → bl p.A < w1.heap.size) := fun h0 => by
            obtain ⟨m', p', hm', hp', b0, b1, b2⟩ := HR.out.get hlt
            have h1 := HU.out.cell b2 (by simp)
            rw [c2] at h1
            injection h1 with h1
            injection h1 with e1 e2 e3
            rw [e1]
            exact Seg.lt hp'.out.ints (by omega) (by omega)
          clear hS htm hbg
          have hw : 0 ≤ v + (k : Int) ∧ v + (k : Int) ≤ 13 := by omega
          obtain ⟨hh, hhe⟩ : ∃ hh, hh = (v + (k : Int)) % 3 := ⟨_, rfl⟩
          have hh012 : hh = 0 ∨ hh = 1 ∨ hh = 2 := by omega
          have hHH := Lib.hid hhe.symm
          have HH012 := Lib.hid hh012
          have ha := HAND.out
          clear hhe hh012
          by_cases hbm : BadM S tm
          · obtain ⟨er, her⟩ : ∃ er, er = errM tm := ⟨_, rfl⟩
            have hne : er ≠ 0 := by rw [her]; unfold errM; split <;> omega
            have dne : (er != 0) = true := by simpa using hne
            have HBM := Lib.hid hbm
            have HER := Lib.hid her
            clear hbm her hne
            go_wp2_with fail
            refine (pack_bad S tm p.A p.n p.c ((v + (k : Int)) % 3) wr HBM.out).mono ?_
            rintro e w2 ⟨rfl, hu⟩
            rw [← HER.out]
            have HO2 := Lib.hid (HO.out.upd hu (by simp))
            have HM2 := Lib.hid (HM.out.upd hu)
            have HU2 := Lib.hid (HU.out.trans hu)
            have HI2 := Lib.hid (HI.out.mono (N' := N + p.n) (by omega))
            have hxn2 : xn ≤ (k + 1) * 3000300 := Nat.le_trans hxn (Nat.mul_le_mul_right _ (Nat.le_succ k))
            clear hu ha c0 c1 c2 hix
            go_wp2
            go_roundw
            case rel => exact ⟨k + 1, N + p.n, xn, wn, X, xc, L, lc, xs, pks, by go_num, by go_num, rfl, rfl, by omega, hNp, hxn2, hxl, by omega, HO2, HM2, HU2, HI2⟩
            case measure => simp [intOf]; omega
          · have HNB := Lib.hid hbm
            have hb' := hbm
            unfold BadM at hb'
            have hm0 : 0 ≤ tm := by omega
            have hm1 : tm ≤ 4294967295 := by omega
            have hsz : S.size ≤ 200 := by omega
            have HNL : Hid (¬ 0 ≤ Lib.indexByte S.data.toList 0) := fun e => hb' (Or.inr (Or.inl e))
            clear hbm hb'
            go_wp2_with fail
            refine (pack_ok S tm p.A p.n p.c m.data ((v + (k : Int)) % 3) wr HP.out.ints HP.out.bd HP.out.le (by omega) (by rw [hHH.out]; exact HH012.out) (HT1.out.2.upd HU.out (by simp)) hm0 hm1 (by have := HNL.out; omega) hsz).mono ?_
            rintro e w2 ⟨Y, yn, yc, out, rfl, hyn, hown, hd, hol, hu⟩
            have HDL := HP.out.ints.len
            have HSAY : Hid (Says (gzBytes S tm out m.data) m) := by
              have h := says_own S tm out m.data hm0 hm1 (by have := HNL.out; omega) hsz hd HP.out.bd (by rw [HDL.out]; omega)
              show Says _ m
              have e : (⟨tm, S, m.data⟩ : Mem) = m := by rw [HSN.out, HTM.out]
              rw [e] at h
              exact h
            have HGB : Hid (∀ z ∈ gzBytes S tm out m.data, 0 ≤ z ∧ z ≤ 255) := gzBytes_bd (hd.bd HP.out.bd)
            have hgl := gzBytes_len S tm out m.data hsz
            obtain ⟨G, hG⟩ : ∃ G, G = gzBytes S tm out m.data := ⟨_, rfl⟩
            rw [← hG] at hyn hown HSAY HGB hgl
            have hyl : yn ≤ 3000300 := by omega
            have HO2 := Lib.hid (HO.out.upd hu (by simp))
            have HM2 := Lib.hid (HM.out.upd hu)
            have HU2 := Lib.hid (HU.out.trans hu)
            have HY2 := Lib.hid (Ints.ofOwn hown)
            have HP2 := Lib.hid (HP.out.upd hu (by simp))
            have hsz2 := HU2.out.size
            have k0 := hu.cell c0 (by simp)
            have k1 := hu.cell c1 (by simp)
            have k2 := hu.cell c2 (by simp)
            have HIM := Lib.hid (HI.out.more HSAY.out HGB.out HDL.out HLOW.out)
            clear hyn hown hd hol hu hG ha c0 c1 c2 hgl HO HM HU HI HSAY HGB
            go_upto_region 17 with (at_builtin; refine wpList_app rfl rfl el_byte rfl HO2.out rfl HY2.out (ints_one _ _) (by simp only [maxLen]; omega) (by omega) hsz2 ?_; intro X3 c3 w3 hown3 hu3 hfr3; generalize hNN : xn + yn = N3 at hown3 ⊢)
            have hN3 : N3 ≤ (k + 1) * 3000300 := by omega
            have hX3 : ∀ x : Nat, x < w1.heap.size → ob X ≠ some x := fun x hx e => by have := (HO2.out.base e).1; omega
            have HO3 : Hid (Own w3 w1.heap.size 5 1 X3 N3 c3 (((pks ++ [(G, m)]).map (·.1)).flatten.map (Value.int .u8))) := by
              show Own _ _ _ _ _ _ _ _
              rw [flat_snoc, List.map_append]
              exact hown3
            have HM3 := Lib.hid (HM2.out.bytes HO2.out (fun x hx h0 => hX3 _ (by have h1 := HIM.out.low x (by simp [hx]) h0; exact h1)) hu3)
            have HU3 : Hid (Upd [] w1 w3) := HU2.out.then hu3 (fun b hb => by right; simp at hb; exact (HO2.out.base hb.symm).1)
            have HP3 := Lib.hid (HP2.out.upd hu3 (fun h0 => by simp; exact fun e => hX3 _ (HLOW.out h0) e.symm))
            have g0 : w3.cell? ⟨bl A, ofs A + k * 3, none⟩ = some (.string S) := hu3.cell k0 (by simp; exact fun e => hX3 _ HLA.out e.symm)
            have g1 : w3.cell? ⟨bl A, ofs A + k * 3 + 1, none⟩ = some (.int .i64 tm) := hu3.cell k1 (by simp; exact fun e => hX3 _ HLA.out e.symm)
            have g2 : w3.cell? ⟨bl A, ofs A + k * 3 + 2, none⟩ = some (.slice p.A p.n p.c) := hu3.cell k2 (by simp; exact fun e => hX3 _ HLA.out e.symm)
            clear hown3 hu3 hfr3 hNN k0 k1 k2 HO2 HM2 HU2 HP2 HY2
            have HOW := HM3.out.own
            rw [hxl] at HOW
            have HOW := Lib.hid HOW
            have hsz3 := HU3.out.size
            go_wp2_with (at_builtin; refine wpList_app rfl rfl el_mem rfl (HOW.out.alloc _) rfl (seg_mem _ _ _ _ _) (by intro u hu; simp at hu; rcases hu with rfl | rfl | rfl <;> rfl) (by simp only [maxLen]; omega) (by omega) (by simp; omega) ?_; intro L7 c7 w7 hown7 hu7 hfr7)
            have HV7 : Hid (Upd [ob L] w3 w7) := ((Upd.refl _ _).alloc _).trans hu7
            rw [HSN.out, HTM.out] at hown7
            have HM7 := Lib.hid (HM3.out.more HP3.out (fun h0 hL => by have h1 := (HM3.out.own.base hL).1; have h2 := HLOW.out h0; omega) (k := wn + 1) (by omega) hown7 HV7.out (fun g hg => by rcases hfr7 g hg with h | h; exact Or.inl h; right; simp at h; omega))
            have HO7 := Lib.hid (HO3.out.upd HV7.out (by intro g hg; simp; intro e; exact HO3.out.neOwn HM3.out.own (by decide) hg e.symm))
            have HU7 : Hid (Upd [] w1 w7) := HU3.out.then HV7.out (fun b hb => by right; simp at hb; exact (HM3.out.own.base hb.symm).1)
            clear hown7 hu7 hfr7 g0 g1 g2 hix hX3
            go_roundw
            case rel => exact ⟨k + 1, N + p.n, N3, wn + 1, X3, c3, L7, c7, xs ++ [(p, m)], pks ++ [(G, m)], by go_num, by go_num, rfl, by go_num, by omega, hNp, hN3, by simp [hxl], by omega, HO7, HM7, HU7, HIM⟩
            case measure => simp [intOf]; omega
      · obtain rfl : k = n := by omega
        have dlt : decide ((k : Int) < k) = false := by simp
        have HXL : Hid ((pks.map (·.1)).flatten.length = xn) := (Ints.ofOwn HO.out).len
        obtain ⟨bs, hbs⟩ : ∃ bs, bs = (pks.map (·.1)).flatten := ⟨_, rfl⟩
        rw [← hbs] at HO HXL
        have HBS := Lib.hid hbs
        have HBD : Hid (∀ z ∈ bs, 0 ≤ z ∧ z ≤ 255) := by rw [hbs]; exact HI.out.bd
        have hxc := HO.out.le
        clear hbs
        go_wp2_with fail
        refine (unpack_any X xn xc bs N (8 * xn + 3400) wr (Ints.ofOwn HO.out) HBD.out hxc (by omega) (by omega) (by omega) (HT1.out.1.upd HU.out)).mono ?_
        by_cases hp : pks = []
        · have hw0 : wn = 0 := by
            have h := congrArg List.length HI.out.same
            rw [hp] at h
            simp at h
            omega
          have HUN : Hid (unpackAt (8 * xn + 3400) bs (xn + 1) 0 N [] = .bad 0 2) := by
            have h : bs = [] := by rw [HBS.out, hp]; rfl
            show _ = _
            rw [h]
            exact unpack_none _ _ _
          rw [HUN.out]
          rintro e w4 ⟨-, rfl, hu4⟩
          have HU4 := Lib.hid (HU.out.trans hu4)
          subst hw0
          clear hu4 hp
          go_upto_region 19 with (fail)
          have hv5 : Upd [] w4 (w4.alloc (.cells #[.string ⟨#[]⟩, .int .i64 0, .int .i64 2] 44)) := (Upd.refl _ _).alloc _
          have HB5 : Hid (Blk (w4.alloc (.cells #[.string ⟨#[]⟩, .int .i64 0, .int .i64 2] 44)) w4.heap.size 44 #[.string ⟨#[]⟩, .int .i64 0, .int .i64 2]) := Blk.new _ _ _
          have HU5 := Lib.hid (HU4.out.trans hv5)
          obtain ⟨g, hg⟩ : ∃ g, g = w4.heap.size := ⟨_, rfl⟩
          rw [← hg] at HB5 ⊢
          generalize w4.alloc _ = w5 at hv5 HB5 HU5 ⊢
          clear hg hv5
          have k0 := HB5.out.cell 0
          have k1 := HB5.out.cell 1
          have k2 := HB5.out.cell 2
          simp at k0 k1 k2
          go_wp2
          go_ret
          exact ⟨rfl, HU1.out.trans HU5.out⟩
        · have hwp : 0 < wn := by
            have h := congrArg List.length HI.out.same
            simp at h
            have : 0 < pks.length := List.length_pos_iff.2 hp
            omega
          have dw : ((wn : Int) == 0) = false := by simp; omega
          have HUN : Hid (unpackAt (8 * xn + 3400) bs (xn + 1) 0 N [] = .ok (pks.map (·.2))) := by
            show _ = _
            rw [HBS.out]
            refine unpack_all (by omega) pks (xn + 1) N hp HI.out.says HI.out.sum ?_
            have h := congrArg List.length HI.out.same
            simp at h
            have hl : ∀ l : List (List Int × Mem), (∀ x ∈ l, Says x.1 x.2) → l.length ≤ ((l.map (·.1)).flatten).length := fun l => by
              induction l with
              | nil => intro _; simp
              | cons y l ih =>
                intro hs
                have h1 := (hs y (by simp)).1
                have h2 := ih fun x hx => hs x (by simp [hx])
                simp at h2 ⊢
                omega
            have h3 := hl pks HI.out.says
            rw [← HBS.out, HXL.out] at h3
            omega
          rw [HUN.out]
          rintro e w4 ⟨L2, lc2, ys, hys, rfl, hm4, hu4⟩
          have hyl : ys.length = wn := by
            have h := congrArg List.length hys
            rw [HI.out.same] at h
            simp at h
            omega
          rw [hyl]
          have HU4 := Lib.hid (HU.out.trans hu4)
          have HG4 : Hid (MemsR w4 L2 wn (xs.map (·.2))) := by
            have h := hm4.reads
            rw [← hys, HI.out.same, hyl] at h
            exact h
          have HW4 : Hid (MemsR w4 L wn (xs.map (·.2))) := by
            have h := (HM.out.upd hu4).reads
            rw [hxl] at h
            exact h
          clear hu4 hp hm4 hys hyl
          go_upto_region 19 with (fail)
          have hv5 : Upd [] w4 (w4.alloc (.cells #[.string ⟨#[]⟩, .int .i64 0, .int .i64 0] 44)) := (Upd.refl _ _).alloc _
          have HB5 : Hid (Blk (w4.alloc (.cells #[.string ⟨#[]⟩, .int .i64 0, .int .i64 0] 44)) w4.heap.size 44 #[.string ⟨#[]⟩, .int .i64 0, .int .i64 0]) := Blk.new _ _ _
          have HU5 := Lib.hid (HU4.out.trans hv5)
          have HG5 := Lib.hid (HG4.out.upd0 hv5)
          have HW5 := Lib.hid (HW4.out.upd0 hv5)
          obtain ⟨g, hg⟩ : ∃ g, g = w4.heap.size := ⟨_, rfl⟩
          rw [← hg] at HB5 ⊢
          generalize w4.alloc _ = w5 at hv5 HB5 HU5 HG5 HW5 ⊢
          clear hg hv5
          have k0 := HB5.out.cell 0
          have k1 := HB5.out.cell 1
          have k2 := HB5.out.cell 2
          simp at k0 k1 k2
          go_wp2_with fail
          refine (same6_any w5 L2 wn lc2 L lc (xs.map (·.2)) HG5.out HW5.out (by omega)).mono ?_
          rintro e w6 ⟨rfl, hu6⟩
          have HU6 := Lib.hid (HU5.out.trans hu6)
          clear hu6 k0 k1 k2
          go_wp2
          go_ret
          exact ⟨rfl, HU1.out.trans HU6.out⟩

end Go.Proofs.YtolcdlopgbgilaaDoor
