/- The walk of RheadBack. -/
import Derived.Test.YtogknbpbjgdldaaRhY
import Derived.Test.YtogknbpbjgdldaaRhW
namespace Go.Proofs.Ytogknbpbjgdldaa
open Go.RowKit Go.Dray

theorem zero_tagM (w : World) : TagM w ⟨none, 0, 0, none, 0, 0, none, 0, 0⟩ ⟨0, 0, [], [], []⟩ := ⟨ints_nil _ _, strs_nil _, ints_nil _ _, (fun z hz => by cases hz), (fun z hz => by cases hz), Nat.zero_le _, Nat.zero_le _, Nat.zero_le _⟩
theorem entR_code {b d : List Int} (r : Nat) : ∀ (i : Nat) (q : Option Int) (k : Nat) (c : Int), entR b d i r q = .error (k, c) → c ≠ 0 := by
  induction r with
  | zero => intro i q k c h; unfold entR at h; cases h
  | succ r ih =>
    intro i q k c h
    unfold entR at h
    split at h
    · rename_i e he
      split at h
      · cases h; decide
      · split at h
        · cases h; decide
        · cases h
          exact tagV_code he _ rfl
    · split at h
      · cases h; decide
      · split at h
        · rename_i x hx
          cases h
          exact ih _ _ _ _ hx
        · cases h
theorem parse_code {b : List Int} {k : Nat} {c : Int} (h : parseB b = .error (k, c)) : c ≠ 0 := by
  unfold parseB at h
  split at h
  · cases h; decide
  split at h
  · cases h; decide
  split at h
  · cases h; decide
  split at h
  · cases h; decide
  split at h
  · cases h; decide
  split at h
  · cases h; decide
  exact entR_code _ _ _ _ _ h
/-- Tags of the call's own, where an older block was changed. -/
theorem tagsO_far {w w' : World} {B : Nat} {L : Option Addr} {lc : Nat} {xs : List (TagP × TagV)} {M : List (Option Nat)} (h : TagsO w B L lc xs) (hu : Upd M w w') (hM : ∀ g, B ≤ g → some g ∉ M) : TagsO w' B L lc xs :=
  ⟨h.own.upd hu (fun g hg => hM g (h.own.base hg).1), fun x hx => ⟨(h.tags x hx).ints.upd hu (fun g hg => hM g ((h.tags x hx).ints.base hg).1), (h.tags x hx).texts.upd hu (fun g hg => hM g ((h.tags x hx).texts.base hg).1), (h.tags x hx).bytes.upd hu (fun g hg => hM g ((h.tags x hx).bytes.base hg).1), (h.tags x hx).ib, (h.tags x hx).bb⟩⟩

set_option maxRecDepth 100000 in
set_option maxHeartbeats 4000000 in
theorem rheadBack_walk (A : Option Addr) (n c : Nat) (ts : List TagV) (D : Option Addr) (m d : Nat) (ys : List Int) (tag : Int) (w : World) (hin : InTags w A n c ts) (hin2 : InInts .u8 w D m d ys) (_h : (Lit.int .i64 tag).wf = true) :
    Calls Try.prog 6 #[.slice A n c, .slice D m d, .int .i64 tag] w fun e w' => e = .returned (.bool true) ∧ Below w.heap.size w w' := by
  suffices hU : Calls Try.prog 6 #[.slice A n c, .slice D m d, .int .i64 tag] w fun e w' => e = .returned (.bool true) ∧ Upd [] w w' from hU.mono fun _ _ ⟨h1, h2⟩ => ⟨h1, h2.below (Nat.le_refl _) (by simp)⟩
  have HR := Lib.hid hin.2.2
  have HBI := Lib.hid hin2.1
  have HYL := hin2.1.len
  have hmd := hin2.2.1
  have HBY : Hid (∀ z ∈ ys, 0 ≤ z ∧ z ≤ 255) := fun z hz => by
    have := hin2.2.2.2 z hz
    simp only [Lit.wf, Bool.and_eq_true, decide_eq_true_eq] at this
    exact this
  clear hin hin2 _h
  go_enter Try.func6, Try.ntmps6
  go_wp2_with fail
  refine (awake_any w).mono ?_
  rintro e w1 ⟨rfl, hv1⟩
  have HU1 := Lib.hid hv1
  clear hv1
  go_wp2_with fail
  refine (light_any w1 A n c ts (HR.out.upd0 HU1.out)).mono ?_
  rintro e w2 ⟨b, rfl, hlf, hv2⟩
  have HU2 := Lib.hid (HU1.out.trans hv2)
  clear hv2
  cases b with
  | false =>
    clear hlf
    go_wp2
    go_ret
    exact ⟨rfl, HU2.out⟩
  | true =>
    have HLF := Lib.hid (hlf rfl)
    clear hlf
    by_cases hm5 : 5000 < m
    · have dm : decide ((5000 : Int) < m) = true := by simp; omega
      go_wp2
      go_ret
      exact ⟨rfl, HU2.out⟩
    · have dm : decide ((5000 : Int) < m) = false := by simp; omega
      have hds := HLF.out.dsum
      have HTL : Hid (ts.length = n) := HR.out.len
      have hn : n ≤ 300 := by rw [← HR.out.len]; exact HLF.out.len
      have HT : Hid (∀ W, Upd [] w W → Tags W A n ts) := fun W hW => HLF.out.tags (HR.out.upd0 hW)
      obtain ⟨q, HQ2⟩ : ∃ q, Hid (checkE ts = q) := ⟨checkE ts, rfl⟩
      by_cases h0 : q = 0
      · subst h0
        go_wp2_with fail
        refine (print_ok w2 A n c ts (HT.out w2 HU2.out) (by omega) HQ2.out).mono ?_
        rintro e w3 ⟨X, xc, rfl, ho3, hv3⟩
        have HU3 := Lib.hid (HU2.out.trans hv3)
        have HO3 := Lib.hid ho3
        have hpl := print_len HQ2.out
        have hpc := HO3.out.le
        have hsz3 := HU2.out.size
        clear hv3 ho3
        have HPB : Hid (∀ z ∈ printB ts, 0 ≤ z ∧ z ≤ 255) := print_bd ts (HT.out w3 HU3.out).bb
        obtain ⟨pl, HPL⟩ : ∃ pl, Hid ((printB ts).length = pl) := ⟨(printB ts).length, rfl⟩
        rw [HPL.out] at HO3 hpl hpc ⊢
        go_wp2_with fail
        refine (parse_any w3 X pl xc (printB ts) (Ints.ofOwn HO3.out) HPB.out hpc (by omega)).mono ?_
        rw [parse_print HQ2.out]
        rintro e w5 ⟨L, lc, xs, hxs, rfl, ht5, hv5⟩
        have HU5 := Lib.hid (HU3.out.trans hv5)
        have HO5 := Lib.hid (HO3.out.upd hv5 (by simp))
        have hxb : ∀ g, ob X = some g → g < w3.heap.size := fun g hg => (HO3.out.base hg).2
        have HXB := Lib.hid hxb
        have HTO := Lib.hid ht5
        have HXS := Lib.hid hxs
        have HXN : Hid (xs.length = n) := by
          have h := congrArg List.length hxs
          rw [List.length_map, HTL.out] at h
          exact h.symm
        rw [HXN.out]
        clear hv5 ht5 hxs hxb
        go_upto_region 8 with (fail)
        have HBF : Hid (Blk (w5.alloc (.cells #[.string ⟨#[]⟩, .int .i64 0, .int .i64 0] 32)) w5.heap.size 32 #[.string ⟨#[]⟩, .int .i64 0, .int .i64 0]) := Blk.new _ _ _
        have HNw6 : Hid (Upd [] w5 (w5.alloc (.cells #[.string ⟨#[]⟩, .int .i64 0, .int .i64 0] 32))) := (Upd.refl _ _).alloc _
        obtain ⟨F, HGF⟩ : ∃ F, Hid (F = w5.heap.size) := ⟨_, rfl⟩
        rw [← HGF.out] at HBF ⊢
        generalize hw : w5.alloc _ = w6 at *
        clear hw
        have HU6 := Lib.hid (HU5.out.trans HNw6.out)
        have HO6 := Lib.hid (HO5.out.upd HNw6.out (by simp))
        have HTO6 := Lib.hid (HTO.out.upd HNw6.out)
        go_wp2_with fail
        go_loopw [11] (fun i wr => ∃ (k : Nat) (zs : List Int), k ≤ pl ∧ i = .int .i64 k ∧ Hid (Own wr w2.heap.size 5 1 X pl xc (zs.map (Value.int .u8))) ∧ Hid (Upd [ob X] w6 wr)) (fun i _ => pl - (intOf i).toNat)
        case atStart => exact ⟨0, printB ts, by omega, rfl, HO6, Upd.refl _ _⟩
        case round =>
          obtain ⟨k, zs, hk, rfl, HOr, HVr⟩ := hrel
          by_cases hlt : k < pl
          · obtain ⟨z, HZ, hcell⟩ := (Ints.ofOwn HOr.out).int hlt
            have hix := (Ints.ofOwn HOr.out).index el_byte xc .i64 k hlt
            have hfz := HOr.out.frozen (by omega) k
            have HS4 := Lib.hid (HOr.out.set (k := k) (by omega) (.int .u8 255))
            have HV4 : Hid (Upd [ob X] w6 (wr.setCell ⟨bl X, ofs X + k, none⟩ (.int .u8 255))) := HVr.out.putIn (by rw [HOr.out.obl (by omega)]; simp) _
            go_wp2
            go_roundw
            case rel =>
              refine ⟨k + 1, zs.set k 255, by omega, by go_num, ?_, HV4⟩
              have h := HS4.out
              rw [← List.map_set] at h
              exact h
            case measure => simp [intOf]; omega
          · obtain rfl : pl = k := by omega
            have HUr : Hid (Upd [] w wr) := HU6.out.then HVr.out (fun b hb => by simp at hb; right; have := (HO6.out.base hb.symm).1; omega)
            have HFr := Lib.hid (HBF.out.upd HVr.out (by simp; exact fun h => HO6.out.neBlk HBF.out (by decide) h.symm))
            have HTr : Hid (Tags wr L n ts) := by
              have h := tagsO_far HTO6.out HVr.out (fun g hg => by simp; intro e; have := HXB.out g e.symm; omega)
              rw [HXS.out, ← HXN.out]
              refine h.tags' fun x hx => ?_
              have h1 := lenT_wgt x.2
              have hm : x.2 ∈ ts := by rw [HXS.out]; exact List.mem_map_of_mem hx
              have h2 := lenT_le (List.getElem?_eq_getElem (List.mem_iff_getElem.1 hm).choose_spec.1 |>.trans (by rw [(List.mem_iff_getElem.1 hm).choose_spec.2]))
              omega
            have f0 : wr.cell? ⟨F, 0, none⟩ = some (.string ⟨#[]⟩) := by rw [HFr.out.cell]; rfl
            have f1 : wr.cell? ⟨F, 1, none⟩ = some (.int .i64 0) := by rw [HFr.out.cell]; rfl
            have f2 : wr.cell? ⟨F, 2, none⟩ = some (.int .i64 0) := by rw [HFr.out.cell]; rfl
            go_wp2_with fail
            refine (same_any wr L n lc A c ts HTr.out (HT.out wr HUr.out) (by omega)).mono ?_
            rintro e w4 ⟨rfl, hv4⟩
            have HUw4 := Lib.hid (HUr.out.trans hv4)
            clear hv4 f0 f1 f2
            go_wp2_with fail
            refine (get_any w4 A n c ts tag (HT.out w4 HUw4.out) HLF.out.small (by omega)).mono ?_
            rintro e w5 hg
            rcases hg with ⟨hnone, rfl, hv5⟩ | ⟨j, t, p, hj, htj, hbef, rfl, htm, hv5⟩
            · have HU5 := Lib.hid (HUw4.out.trans hv5)
              have HNO := Lib.hid hnone
              clear hv5 hnone
              go_upto_region 15 with (fail)
              have HBG : Hid (Blk (w5.alloc (.cells #[.int .i64 0, .int .i64 0, .slice none 0 0, .slice none 0 0, .slice none 0 0] 40)) w5.heap.size 40 #[.int .i64 0, .int .i64 0, .slice none 0 0, .slice none 0 0, .slice none 0 0]) := Blk.new _ _ _
              have HNw6 : Hid (Upd [] w5 (w5.alloc (.cells #[.int .i64 0, .int .i64 0, .slice none 0 0, .slice none 0 0, .slice none 0 0] 40))) := (Upd.refl _ _).alloc _
              obtain ⟨G, HGG⟩ : ∃ G, Hid (G = w5.heap.size) := ⟨_, rfl⟩
              rw [← HGG.out] at HBG ⊢
              generalize hw : w5.alloc _ = w6 at *
              clear hw
              have HU6 := Lib.hid (HU5.out.trans HNw6.out)
              go_wp2_with fail
              go_loop [14, 15] (fun x i => ∃ k : Nat, k ≤ n ∧ i = .int .i64 k ∧ x = .bool false) (fun _ i => n - (intOf i).toNat)
              case atStart => exact ⟨0, by omega, rfl, rfl⟩
              case round =>
                obtain ⟨k, hk, rfl, rfl⟩ := hrel
                by_cases hlt : k < n
                · have dlt : decide ((k : Int) < n) = true := by simp; omega
                  obtain ⟨u, q, HUU, HQ, c0, c1, c2, c3, c4⟩ := (HT.out w6 HU6.out).get hlt
                  have hix := (HT.out w6 HU6.out).index c k hlt
                  have d0 : (u.tag == tag) = false := by simpa using HNO.out u (List.mem_of_getElem? HUU.out)
                  go_wp2
                  go_round
                  case rel => exact ⟨k + 1, by omega, by go_num, rfl⟩
                  case measure => simp [intOf]; omega
                · have dlt : decide ((k : Int) < n) = false := by simp; omega
                  obtain rfl : n = k := by omega
                  have g0 : w6.cell? ⟨G, 0, none⟩ = some (.int .i64 0) := by rw [HBG.out.cell]; rfl
                  have g1 : w6.cell? ⟨G, 1, none⟩ = some (.int .i64 0) := by rw [HBG.out.cell]; rfl
                  have g2 : w6.cell? ⟨G, 2, none⟩ = some (.slice none 0 0) := by rw [HBG.out.cell]; rfl
                  have g3 : w6.cell? ⟨G, 3, none⟩ = some (.slice none 0 0) := by rw [HBG.out.cell]; rfl
                  have g4 : w6.cell? ⟨G, 4, none⟩ = some (.slice none 0 0) := by rw [HBG.out.cell]; rfl
                  go_wp2_with fail
                  refine (one_any w6 ⟨none, 0, 0, none, 0, 0, none, 0, 0⟩ ⟨none, 0, 0, none, 0, 0, none, 0, 0⟩ ⟨0, 0, [], [], []⟩ (zero_tagM w6) (zero_tagM w6)).mono ?_
                  rintro e w7 ⟨rfl, hv7⟩
                  have HUw7 := Lib.hid (HU6.out.trans hv7)
                  clear hv7 g0 g1 g2 g3 g4
                  have HI := Lib.hid (HBI.out.upd HUw7.out (by simp))
                  go_wp2_with fail
                  refine (parse_any w7 D m d ys HI.out HBY.out hmd (by omega)).mono ?_
                  obtain ⟨r, HR⟩ : ∃ r, Hid (parseB ys = r) := ⟨parseB ys, rfl⟩
                  rw [HR.out]
                  cases r with
                  | error kc =>
                    obtain ⟨ak, ac⟩ := kc
                    rintro e w10 ⟨rfl, hv10⟩
                    have HU10 := Lib.hid (HUw7.out.trans hv10)
                    have hac := parse_code HR.out
                    clear hv10 HI
                    go_upto_region 26 with (fail)
                    have HBF2 : Hid (Blk (w10.alloc (.cells #[.string ⟨#[]⟩, .int .i64 (ak : Int), .int .i64 ac] 32)) w10.heap.size 32 #[.string ⟨#[]⟩, .int .i64 (ak : Int), .int .i64 ac]) := Blk.new _ _ _
                    have HNw11 : Hid (Upd [] w10 (w10.alloc (.cells #[.string ⟨#[]⟩, .int .i64 (ak : Int), .int .i64 ac] 32))) := (Upd.refl _ _).alloc _
                    obtain ⟨F2, HGF2⟩ : ∃ F2, Hid (F2 = w10.heap.size) := ⟨_, rfl⟩
                    rw [← HGF2.out] at HBF2 ⊢
                    generalize hw : w10.alloc _ = w11 at *
                    clear hw
                    have HU11 := Lib.hid (HU10.out.trans HNw11.out)
                    have f0 : w11.cell? ⟨F2, 0, none⟩ = some (.string ⟨#[]⟩) := by rw [HBF2.out.cell]; rfl
                    have f1 : w11.cell? ⟨F2, 1, none⟩ = some (.int .i64 (ak : Int)) := by rw [HBF2.out.cell]; rfl
                    have f2 : w11.cell? ⟨F2, 2, none⟩ = some (.int .i64 ac) := by rw [HBF2.out.cell]; rfl
                    have d1 : (ac == 0) = false := by simpa using hac
                    have d2 : (ac != 0) = true := by simpa using hac
                    clear hac
                    go_wp2
                    go_ret
                    exact ⟨rfl, HU11.out⟩
                  | ok us =>
                    rintro e w10 ⟨L2, lc2, xs2, hus, rfl, ht10, hv10⟩
                    have HU10 := Lib.hid (HUw7.out.trans hv10)
                    clear hv10 HI
                    have HCK := Lib.hid (parse_check HBY.out (by rw [HYL.out]; omega) HR.out)
                    have HTO := Lib.hid ht10
                    have HUS := Lib.hid hus
                    clear ht10 hus
                    have HSM : Hid (∀ x ∈ xs2, lenT x.2 ≤ 1000000000000000) := by
                      obtain ⟨_, dd, _, h2, _, h5⟩ := parse_good HBY.out HR.out
                      intro x hx
                      have := h5 x.2 (by rw [HUS.out]; exact List.mem_map_of_mem hx)
                      rw [HYL.out] at h2
                      omega
                    have hl2 : xs2.length ≤ 256 := by
                      have h := (check_zero HCK.out.1).1
                      rw [HUS.out, List.length_map] at h
                      exact h
                    have HTK : Hid (∀ W, Upd [] w10 W → Tags W L2 xs2.length us) := fun W hW => by rw [HUS.out]; exact (HTO.out.upd hW).tags' HSM.out
                    obtain ⟨n2, HN2⟩ : ∃ n2, Hid (xs2.length = n2) := ⟨xs2.length, rfl⟩
                    rw [HN2.out] at hl2 HTK ⊢
                    go_upto_region 26 with (fail)
                    have HBF2 : Hid (Blk (w10.alloc (.cells #[.string ⟨#[]⟩, .int .i64 0, .int .i64 0] 32)) w10.heap.size 32 #[.string ⟨#[]⟩, .int .i64 0, .int .i64 0]) := Blk.new _ _ _
                    have HNw11 : Hid (Upd [] w10 (w10.alloc (.cells #[.string ⟨#[]⟩, .int .i64 0, .int .i64 0] 32))) := (Upd.refl _ _).alloc _
                    obtain ⟨F2, HGF2⟩ : ∃ F2, Hid (F2 = w10.heap.size) := ⟨_, rfl⟩
                    rw [← HGF2.out] at HBF2 ⊢
                    generalize hw : w10.alloc _ = w11 at *
                    clear hw
                    have HU11 := Lib.hid (HU10.out.trans HNw11.out)
                    have f0 : w11.cell? ⟨F2, 0, none⟩ = some (.string ⟨#[]⟩) := by rw [HBF2.out.cell]; rfl
                    have f1 : w11.cell? ⟨F2, 1, none⟩ = some (.int .i64 0) := by rw [HBF2.out.cell]; rfl
                    have f2 : w11.cell? ⟨F2, 2, none⟩ = some (.int .i64 0) := by rw [HBF2.out.cell]; rfl
                    go_wp2_with fail
                    refine (print_ok w11 L2 n2 lc2 us (HTK.out w11 HNw11.out) (by have := HCK.out.2; omega) HCK.out.1).mono ?_
                    rintro e w12 ⟨X2, xc2, rfl, ho12, hv12⟩
                    have HO12 := Lib.hid ho12
                    have HU12 := Lib.hid (HU11.out.trans hv12)
                    have HN12 := Lib.hid (HNw11.out.trans hv12)
                    have hpl := print_len HCK.out.1
                    have hpc := HO12.out.le
                    clear ho12 hv12 f0 f1 f2
                    have HPB2 : Hid (∀ z ∈ printB us, 0 ≤ z ∧ z ≤ 255) := print_bd us (HTK.out w12 HN12.out).bb
                    obtain ⟨pl, HPL⟩ : ∃ pl, Hid ((printB us).length = pl) := ⟨(printB us).length, rfl⟩
                    rw [HPL.out] at HO12 hpl hpc ⊢
                    go_wp2_with fail
                    refine (parse_any w12 X2 pl xc2 (printB us) (Ints.ofOwn HO12.out) HPB2.out hpc (by omega)).mono ?_
                    rw [parse_print HCK.out.1]
                    rintro e w13 ⟨L3, lc3, xs3, hus3, rfl, ht13, hv13⟩
                    have HU13 := Lib.hid (HU12.out.trans hv13)
                    have HN13 := Lib.hid (HN12.out.trans hv13)
                    have HSM3 : Hid (∀ x ∈ xs3, lenT x.2 ≤ 1000000000000000) := by
                      intro x hx
                      have hm3 : x.2 ∈ us := by rw [hus3]; exact List.mem_map_of_mem hx
                      rw [HUS.out] at hm3
                      obtain ⟨y, hy, he⟩ := List.mem_map.1 hm3
                      have := HSM.out y hy
                      rw [he] at this
                      exact this
                    have HN3 : Hid (xs3.length = n2) := by
                      have h := congrArg List.length hus3
                      rw [HUS.out, List.length_map, List.length_map, HN2.out] at h
                      exact h.symm
                    have HTK3 : Hid (∀ W, Upd [] w13 W → Tags W L3 n2 us) := fun W hW => by rw [hus3, ← HN3.out]; exact (ht13.upd hW).tags' HSM3.out
                    rw [HN3.out]
                    clear hv13
                    go_upto_region 30 with (fail)
                    have HBF3 : Hid (Blk (w13.alloc (.cells #[.string ⟨#[]⟩, .int .i64 0, .int .i64 0] 32)) w13.heap.size 32 #[.string ⟨#[]⟩, .int .i64 0, .int .i64 0]) := Blk.new _ _ _
                    have HNw14 : Hid (Upd [] w13 (w13.alloc (.cells #[.string ⟨#[]⟩, .int .i64 0, .int .i64 0] 32))) := (Upd.refl _ _).alloc _
                    obtain ⟨F3, HGF3⟩ : ∃ F3, Hid (F3 = w13.heap.size) := ⟨_, rfl⟩
                    rw [← HGF3.out] at HBF3 ⊢
                    generalize hw : w13.alloc _ = w14 at *
                    clear hw
                    have HU14 := Lib.hid (HU13.out.trans HNw14.out)
                    have HN14 := Lib.hid (HN13.out.trans HNw14.out)
                    have f0 : w14.cell? ⟨F3, 0, none⟩ = some (.string ⟨#[]⟩) := by rw [HBF3.out.cell]; rfl
                    have f1 : w14.cell? ⟨F3, 1, none⟩ = some (.int .i64 0) := by rw [HBF3.out.cell]; rfl
                    have f2 : w14.cell? ⟨F3, 2, none⟩ = some (.int .i64 0) := by rw [HBF3.out.cell]; rfl
                    go_wp2_with fail
                    refine (same_any w14 L2 n2 lc2 L3 lc3 us (HTK.out w14 HN14.out) (HTK3.out w14 HNw14.out) (by omega)).mono ?_
                    rintro e w15 ⟨rfl, hv15⟩
                    have HU15 := Lib.hid (HU14.out.trans hv15)
                    clear hv15 f0 f1 f2
                    go_wp2
                    go_ret
                    exact ⟨rfl, HU15.out⟩
            · have HU5 := Lib.hid (HUw4.out.trans hv5)
              have HJ := Lib.hid hj
              have HTJ := Lib.hid htj
              have HBF := Lib.hid hbef
              have HTM := Lib.hid htm
              have hjn : j < n := by
                have := (List.getElem?_eq_some_iff.1 hj).1
                rw [HTL.out] at this
                exact this
              clear hv5 hj htj hbef htm
              go_upto_region 15 with (fail)
              have HBG : Hid (Blk (w5.alloc (.cells #[.int .i64 t.tag, .int .i64 t.typ, .slice p.IA p.i p.ic, .slice p.TA p.n p.tc, .slice p.BA p.m p.bc] 40)) w5.heap.size 40 #[.int .i64 t.tag, .int .i64 t.typ, .slice p.IA p.i p.ic, .slice p.TA p.n p.tc, .slice p.BA p.m p.bc]) := Blk.new _ _ _
              have HNw6 : Hid (Upd [] w5 (w5.alloc (.cells #[.int .i64 t.tag, .int .i64 t.typ, .slice p.IA p.i p.ic, .slice p.TA p.n p.tc, .slice p.BA p.m p.bc] 40))) := (Upd.refl _ _).alloc _
              obtain ⟨G, HGG⟩ : ∃ G, Hid (G = w5.heap.size) := ⟨_, rfl⟩
              rw [← HGG.out] at HBG ⊢
              generalize hw : w5.alloc _ = w6 at *
              clear hw
              have HU6 := Lib.hid (HU5.out.trans HNw6.out)
              have HTM6 := Lib.hid (HTM.out.upd0 HNw6.out)
              go_wp2_with fail
              go_loopw [14, 15] (fun x i wr => ∃ k : Nat, ((k ≤ j ∧ x = .bool false) ∨ (k = j + 1 ∧ x = .bool true)) ∧ i = .int .i64 k ∧ Hid (Upd [] w wr) ∧ Hid (Upd [] w6 wr)) (fun _ i _ => n - (intOf i).toNat)
              case atStart => exact ⟨0, Or.inl ⟨by omega, rfl⟩, rfl, HU6, Upd.refl _ _⟩
              case round =>
                obtain ⟨k, hkx, rfl, HUr, HVr⟩ := hrel
                rcases hkx with ⟨hk, rfl⟩ | ⟨hk, rfl⟩
                · have dlt : decide ((k : Int) < n) = true := by simp; omega
                  obtain ⟨u, q, HUU, HQ, c0, c1, c2, c3, c4⟩ := (HT.out wr HUr.out).get (k := k) (by omega)
                  have hix := (HT.out wr HUr.out).index c k (by omega)
                  by_cases hkj : k = j
                  · subst hkj
                    obtain rfl : u = t := by have h1 := HJ.out; rw [HUU.out] at h1; injection h1
                    have d0 : (u.tag == tag) = true := by simp [HTJ.out]
                    have HGr := Lib.hid (HBG.out.upd HVr.out (by simp))
                    have g0 : wr.cell? ⟨G, 0, none⟩ = some (.int .i64 u.tag) := by rw [HGr.out.cell]; rfl
                    have g1 : wr.cell? ⟨G, 1, none⟩ = some (.int .i64 u.typ) := by rw [HGr.out.cell]; rfl
                    have g2 : wr.cell? ⟨G, 2, none⟩ = some (.slice p.IA p.i p.ic) := by rw [HGr.out.cell]; rfl
                    have g3 : wr.cell? ⟨G, 3, none⟩ = some (.slice p.TA p.n p.tc) := by rw [HGr.out.cell]; rfl
                    have g4 : wr.cell? ⟨G, 4, none⟩ = some (.slice p.BA p.m p.bc) := by rw [HGr.out.cell]; rfl
                    have HTMr := Lib.hid (HTM6.out.upd0 HVr.out)
                    go_wp2
                    have c0' := fun x => later_cell c0 x
                    have c1' := fun x => later_cell c1 x
                    have c2' := fun x => later_cell c2 x
                    have c3' := fun x => later_cell c3 x
                    have c4' := fun x => later_cell c4 x
                    have g0' := fun x => later_cell g0 x
                    have g1' := fun x => later_cell g1 x
                    have g2' := fun x => later_cell g2 x
                    have g3' := fun x => later_cell g3 x
                    have g4' := fun x => later_cell g4 x
                    clear c0 c1 c2 c3 c4 g0 g1 g2 g3 g4
                    refine wp_region_later (by kernel_rfl) (by kernel_rfl) ?_
                    repeat (go_big_quiet_step (first | (go_at_call 16; exact laterU (one_any _ p q u (HTMr.out.upd0 (later_upd _ _)) (HQ.out.upd0 (later_upd _ _))))))
                    refine wpQuiet_nil ?_
                    intro _ hw'
                    obtain ⟨xq, hw''⟩ := hw'
                    subst hw''
                    obtain ⟨w8, hw5⟩ : ∃ w8 : World, w8 = later wr xq := ⟨_, rfl⟩
                    rw [← hw5]
                    have HUw8 : Hid (Upd [] w w8) := by rw [hw5]; exact HUr.out.trans (later_upd wr xq)
                    have HXw8 : Hid (Upd [] wr w8) := by rw [hw5]; exact later_upd wr xq
                    clear hw5 c0' c1' c2' c3' c4' g0' g1' g2' g3' g4'
                    clear d0 hix
                    go_wp2
                    go_roundw
                    case rel => exact ⟨k + 1, Or.inr ⟨rfl, rfl⟩, by go_num, HUw8, HVr.out.trans HXw8.out⟩
                    case measure => simp [intOf]; omega
                  · have d0 : (u.tag == tag) = false := by
                      simp only [beq_eq_false_iff_ne]
                      refine HBF.out u ?_
                      obtain ⟨hkl, hke⟩ := List.getElem?_eq_some_iff.1 HUU.out
                      rw [← hke]
                      exact List.mem_take_iff_getElem.2 ⟨k, by omega, rfl⟩
                    go_wp2
                    go_roundw
                    case rel => exact ⟨k + 1, Or.inl ⟨by omega, rfl⟩, by go_num, HUr, HVr⟩
                    case measure => simp [intOf]; omega
                · subst hk
                  have HUw7 := HUr
                  by_cases hjl : j + 1 < n
                  · have dlt : decide ((j : Int) + 1 < n) = true := by simp; omega
                    go_wp2_with fail
                    have HI := Lib.hid (HBI.out.upd HUr.out (by simp))
                    refine (parse_any wr D m d ys HI.out HBY.out hmd (by omega)).mono ?_
                    obtain ⟨r, HR⟩ : ∃ r, Hid (parseB ys = r) := ⟨parseB ys, rfl⟩
                    rw [HR.out]
                    cases r with
                    | error kc =>
                      obtain ⟨ak, ac⟩ := kc
                      rintro e w10 ⟨rfl, hv10⟩
                      have HU10 := Lib.hid (HUr.out.trans hv10)
                      have hac := parse_code HR.out
                      clear hv10 HI
                      go_upto_region 26 with (fail)
                      have HBF2 : Hid (Blk (w10.alloc (.cells #[.string ⟨#[]⟩, .int .i64 (ak : Int), .int .i64 ac] 32)) w10.heap.size 32 #[.string ⟨#[]⟩, .int .i64 (ak : Int), .int .i64 ac]) := Blk.new _ _ _
                      have HNw11 : Hid (Upd [] w10 (w10.alloc (.cells #[.string ⟨#[]⟩, .int .i64 (ak : Int), .int .i64 ac] 32))) := (Upd.refl _ _).alloc _
                      obtain ⟨F2, HGF2⟩ : ∃ F2, Hid (F2 = w10.heap.size) := ⟨_, rfl⟩
                      rw [← HGF2.out] at HBF2 ⊢
                      generalize hw : w10.alloc _ = w11 at *
                      clear hw
                      have HU11 := Lib.hid (HU10.out.trans HNw11.out)
                      have f0 : w11.cell? ⟨F2, 0, none⟩ = some (.string ⟨#[]⟩) := by rw [HBF2.out.cell]; rfl
                      have f1 : w11.cell? ⟨F2, 1, none⟩ = some (.int .i64 (ak : Int)) := by rw [HBF2.out.cell]; rfl
                      have f2 : w11.cell? ⟨F2, 2, none⟩ = some (.int .i64 ac) := by rw [HBF2.out.cell]; rfl
                      have d1 : (ac == 0) = false := by simpa using hac
                      have d2 : (ac != 0) = true := by simpa using hac
                      clear hac
                      go_wp2
                      go_ret
                      exact ⟨rfl, HU11.out⟩
                    | ok us =>
                      rintro e w10 ⟨L2, lc2, xs2, hus, rfl, ht10, hv10⟩
                      have HU10 := Lib.hid (HUr.out.trans hv10)
                      clear hv10 HI
                      have HCK := Lib.hid (parse_check HBY.out (by rw [HYL.out]; omega) HR.out)
                      have HTO := Lib.hid ht10
                      have HUS := Lib.hid hus
                      clear ht10 hus
                      have HSM : Hid (∀ x ∈ xs2, lenT x.2 ≤ 1000000000000000) := by
                        obtain ⟨_, dd, _, h2, _, h5⟩ := parse_good HBY.out HR.out
                        intro x hx
                        have := h5 x.2 (by rw [HUS.out]; exact List.mem_map_of_mem hx)
                        rw [HYL.out] at h2
                        omega
                      have hl2 : xs2.length ≤ 256 := by
                        have h := (check_zero HCK.out.1).1
                        rw [HUS.out, List.length_map] at h
                        exact h
                      have HTK : Hid (∀ W, Upd [] w10 W → Tags W L2 xs2.length us) := fun W hW => by rw [HUS.out]; exact (HTO.out.upd hW).tags' HSM.out
                      obtain ⟨n2, HN2⟩ : ∃ n2, Hid (xs2.length = n2) := ⟨xs2.length, rfl⟩
                      rw [HN2.out] at hl2 HTK ⊢
                      go_upto_region 26 with (fail)
                      have HBF2 : Hid (Blk (w10.alloc (.cells #[.string ⟨#[]⟩, .int .i64 0, .int .i64 0] 32)) w10.heap.size 32 #[.string ⟨#[]⟩, .int .i64 0, .int .i64 0]) := Blk.new _ _ _
                      have HNw11 : Hid (Upd [] w10 (w10.alloc (.cells #[.string ⟨#[]⟩, .int .i64 0, .int .i64 0] 32))) := (Upd.refl _ _).alloc _
                      obtain ⟨F2, HGF2⟩ : ∃ F2, Hid (F2 = w10.heap.size) := ⟨_, rfl⟩
                      rw [← HGF2.out] at HBF2 ⊢
                      generalize hw : w10.alloc _ = w11 at *
                      clear hw
                      have HU11 := Lib.hid (HU10.out.trans HNw11.out)
                      have f0 : w11.cell? ⟨F2, 0, none⟩ = some (.string ⟨#[]⟩) := by rw [HBF2.out.cell]; rfl
                      have f1 : w11.cell? ⟨F2, 1, none⟩ = some (.int .i64 0) := by rw [HBF2.out.cell]; rfl
                      have f2 : w11.cell? ⟨F2, 2, none⟩ = some (.int .i64 0) := by rw [HBF2.out.cell]; rfl
                      go_wp2_with fail
                      refine (print_ok w11 L2 n2 lc2 us (HTK.out w11 HNw11.out) (by have := HCK.out.2; omega) HCK.out.1).mono ?_
                      rintro e w12 ⟨X2, xc2, rfl, ho12, hv12⟩
                      have HO12 := Lib.hid ho12
                      have HU12 := Lib.hid (HU11.out.trans hv12)
                      have HN12 := Lib.hid (HNw11.out.trans hv12)
                      have hpl := print_len HCK.out.1
                      have hpc := HO12.out.le
                      clear ho12 hv12 f0 f1 f2
                      have HPB2 : Hid (∀ z ∈ printB us, 0 ≤ z ∧ z ≤ 255) := print_bd us (HTK.out w12 HN12.out).bb
                      obtain ⟨pl, HPL⟩ : ∃ pl, Hid ((printB us).length = pl) := ⟨(printB us).length, rfl⟩
                      rw [HPL.out] at HO12 hpl hpc ⊢
                      go_wp2_with fail
                      refine (parse_any w12 X2 pl xc2 (printB us) (Ints.ofOwn HO12.out) HPB2.out hpc (by omega)).mono ?_
                      rw [parse_print HCK.out.1]
                      rintro e w13 ⟨L3, lc3, xs3, hus3, rfl, ht13, hv13⟩
                      have HU13 := Lib.hid (HU12.out.trans hv13)
                      have HN13 := Lib.hid (HN12.out.trans hv13)
                      have HSM3 : Hid (∀ x ∈ xs3, lenT x.2 ≤ 1000000000000000) := by
                        intro x hx
                        have hm3 : x.2 ∈ us := by rw [hus3]; exact List.mem_map_of_mem hx
                        rw [HUS.out] at hm3
                        obtain ⟨y, hy, he⟩ := List.mem_map.1 hm3
                        have := HSM.out y hy
                        rw [he] at this
                        exact this
                      have HN3 : Hid (xs3.length = n2) := by
                        have h := congrArg List.length hus3
                        rw [HUS.out, List.length_map, List.length_map, HN2.out] at h
                        exact h.symm
                      have HTK3 : Hid (∀ W, Upd [] w13 W → Tags W L3 n2 us) := fun W hW => by rw [hus3, ← HN3.out]; exact (ht13.upd hW).tags' HSM3.out
                      rw [HN3.out]
                      clear hv13
                      go_upto_region 30 with (fail)
                      have HBF3 : Hid (Blk (w13.alloc (.cells #[.string ⟨#[]⟩, .int .i64 0, .int .i64 0] 32)) w13.heap.size 32 #[.string ⟨#[]⟩, .int .i64 0, .int .i64 0]) := Blk.new _ _ _
                      have HNw14 : Hid (Upd [] w13 (w13.alloc (.cells #[.string ⟨#[]⟩, .int .i64 0, .int .i64 0] 32))) := (Upd.refl _ _).alloc _
                      obtain ⟨F3, HGF3⟩ : ∃ F3, Hid (F3 = w13.heap.size) := ⟨_, rfl⟩
                      rw [← HGF3.out] at HBF3 ⊢
                      generalize hw : w13.alloc _ = w14 at *
                      clear hw
                      have HU14 := Lib.hid (HU13.out.trans HNw14.out)
                      have HN14 := Lib.hid (HN13.out.trans HNw14.out)
                      have f0 : w14.cell? ⟨F3, 0, none⟩ = some (.string ⟨#[]⟩) := by rw [HBF3.out.cell]; rfl
                      have f1 : w14.cell? ⟨F3, 1, none⟩ = some (.int .i64 0) := by rw [HBF3.out.cell]; rfl
                      have f2 : w14.cell? ⟨F3, 2, none⟩ = some (.int .i64 0) := by rw [HBF3.out.cell]; rfl
                      go_wp2_with fail
                      refine (same_any w14 L2 n2 lc2 L3 lc3 us (HTK.out w14 HN14.out) (HTK3.out w14 HNw14.out) (by omega)).mono ?_
                      rintro e w15 ⟨rfl, hv15⟩
                      have HU15 := Lib.hid (HU14.out.trans hv15)
                      clear hv15 f0 f1 f2
                      go_wp2
                      go_ret
                      exact ⟨rfl, HU15.out⟩
                  · have dlt : decide ((j : Int) + 1 < n) = false := by simp; omega
                    go_wp2_with fail
                    have HI := Lib.hid (HBI.out.upd HUr.out (by simp))
                    refine (parse_any wr D m d ys HI.out HBY.out hmd (by omega)).mono ?_
                    obtain ⟨r, HR⟩ : ∃ r, Hid (parseB ys = r) := ⟨parseB ys, rfl⟩
                    rw [HR.out]
                    cases r with
                    | error kc =>
                      obtain ⟨ak, ac⟩ := kc
                      rintro e w10 ⟨rfl, hv10⟩
                      have HU10 := Lib.hid (HUr.out.trans hv10)
                      have hac := parse_code HR.out
                      clear hv10 HI
                      go_upto_region 26 with (fail)
                      have HBF2 : Hid (Blk (w10.alloc (.cells #[.string ⟨#[]⟩, .int .i64 (ak : Int), .int .i64 ac] 32)) w10.heap.size 32 #[.string ⟨#[]⟩, .int .i64 (ak : Int), .int .i64 ac]) := Blk.new _ _ _
                      have HNw11 : Hid (Upd [] w10 (w10.alloc (.cells #[.string ⟨#[]⟩, .int .i64 (ak : Int), .int .i64 ac] 32))) := (Upd.refl _ _).alloc _
                      obtain ⟨F2, HGF2⟩ : ∃ F2, Hid (F2 = w10.heap.size) := ⟨_, rfl⟩
                      rw [← HGF2.out] at HBF2 ⊢
                      generalize hw : w10.alloc _ = w11 at *
                      clear hw
                      have HU11 := Lib.hid (HU10.out.trans HNw11.out)
                      have f0 : w11.cell? ⟨F2, 0, none⟩ = some (.string ⟨#[]⟩) := by rw [HBF2.out.cell]; rfl
                      have f1 : w11.cell? ⟨F2, 1, none⟩ = some (.int .i64 (ak : Int)) := by rw [HBF2.out.cell]; rfl
                      have f2 : w11.cell? ⟨F2, 2, none⟩ = some (.int .i64 ac) := by rw [HBF2.out.cell]; rfl
                      have d1 : (ac == 0) = false := by simpa using hac
                      have d2 : (ac != 0) = true := by simpa using hac
                      clear hac
                      go_wp2
                      go_ret
                      exact ⟨rfl, HU11.out⟩
                    | ok us =>
                      rintro e w10 ⟨L2, lc2, xs2, hus, rfl, ht10, hv10⟩
                      have HU10 := Lib.hid (HUr.out.trans hv10)
                      clear hv10 HI
                      have HCK := Lib.hid (parse_check HBY.out (by rw [HYL.out]; omega) HR.out)
                      have HTO := Lib.hid ht10
                      have HUS := Lib.hid hus
                      clear ht10 hus
                      have HSM : Hid (∀ x ∈ xs2, lenT x.2 ≤ 1000000000000000) := by
                        obtain ⟨_, dd, _, h2, _, h5⟩ := parse_good HBY.out HR.out
                        intro x hx
                        have := h5 x.2 (by rw [HUS.out]; exact List.mem_map_of_mem hx)
                        rw [HYL.out] at h2
                        omega
                      have hl2 : xs2.length ≤ 256 := by
                        have h := (check_zero HCK.out.1).1
                        rw [HUS.out, List.length_map] at h
                        exact h
                      have HTK : Hid (∀ W, Upd [] w10 W → Tags W L2 xs2.length us) := fun W hW => by rw [HUS.out]; exact (HTO.out.upd hW).tags' HSM.out
                      obtain ⟨n2, HN2⟩ : ∃ n2, Hid (xs2.length = n2) := ⟨xs2.length, rfl⟩
                      rw [HN2.out] at hl2 HTK ⊢
                      go_upto_region 26 with (fail)
                      have HBF2 : Hid (Blk (w10.alloc (.cells #[.string ⟨#[]⟩, .int .i64 0, .int .i64 0] 32)) w10.heap.size 32 #[.string ⟨#[]⟩, .int .i64 0, .int .i64 0]) := Blk.new _ _ _
                      have HNw11 : Hid (Upd [] w10 (w10.alloc (.cells #[.string ⟨#[]⟩, .int .i64 0, .int .i64 0] 32))) := (Upd.refl _ _).alloc _
                      obtain ⟨F2, HGF2⟩ : ∃ F2, Hid (F2 = w10.heap.size) := ⟨_, rfl⟩
                      rw [← HGF2.out] at HBF2 ⊢
                      generalize hw : w10.alloc _ = w11 at *
                      clear hw
                      have HU11 := Lib.hid (HU10.out.trans HNw11.out)
                      have f0 : w11.cell? ⟨F2, 0, none⟩ = some (.string ⟨#[]⟩) := by rw [HBF2.out.cell]; rfl
                      have f1 : w11.cell? ⟨F2, 1, none⟩ = some (.int .i64 0) := by rw [HBF2.out.cell]; rfl
                      have f2 : w11.cell? ⟨F2, 2, none⟩ = some (.int .i64 0) := by rw [HBF2.out.cell]; rfl
                      go_wp2_with fail
                      refine (print_ok w11 L2 n2 lc2 us (HTK.out w11 HNw11.out) (by have := HCK.out.2; omega) HCK.out.1).mono ?_
                      rintro e w12 ⟨X2, xc2, rfl, ho12, hv12⟩
                      have HO12 := Lib.hid ho12
                      have HU12 := Lib.hid (HU11.out.trans hv12)
                      have HN12 := Lib.hid (HNw11.out.trans hv12)
                      have hpl := print_len HCK.out.1
                      have hpc := HO12.out.le
                      clear ho12 hv12 f0 f1 f2
                      have HPB2 : Hid (∀ z ∈ printB us, 0 ≤ z ∧ z ≤ 255) := print_bd us (HTK.out w12 HN12.out).bb
                      obtain ⟨pl, HPL⟩ : ∃ pl, Hid ((printB us).length = pl) := ⟨(printB us).length, rfl⟩
                      rw [HPL.out] at HO12 hpl hpc ⊢
                      go_wp2_with fail
                      refine (parse_any w12 X2 pl xc2 (printB us) (Ints.ofOwn HO12.out) HPB2.out hpc (by omega)).mono ?_
                      rw [parse_print HCK.out.1]
                      rintro e w13 ⟨L3, lc3, xs3, hus3, rfl, ht13, hv13⟩
                      have HU13 := Lib.hid (HU12.out.trans hv13)
                      have HN13 := Lib.hid (HN12.out.trans hv13)
                      have HSM3 : Hid (∀ x ∈ xs3, lenT x.2 ≤ 1000000000000000) := by
                        intro x hx
                        have hm3 : x.2 ∈ us := by rw [hus3]; exact List.mem_map_of_mem hx
                        rw [HUS.out] at hm3
                        obtain ⟨y, hy, he⟩ := List.mem_map.1 hm3
                        have := HSM.out y hy
                        rw [he] at this
                        exact this
                      have HN3 : Hid (xs3.length = n2) := by
                        have h := congrArg List.length hus3
                        rw [HUS.out, List.length_map, List.length_map, HN2.out] at h
                        exact h.symm
                      have HTK3 : Hid (∀ W, Upd [] w13 W → Tags W L3 n2 us) := fun W hW => by rw [hus3, ← HN3.out]; exact (ht13.upd hW).tags' HSM3.out
                      rw [HN3.out]
                      clear hv13
                      go_upto_region 30 with (fail)
                      have HBF3 : Hid (Blk (w13.alloc (.cells #[.string ⟨#[]⟩, .int .i64 0, .int .i64 0] 32)) w13.heap.size 32 #[.string ⟨#[]⟩, .int .i64 0, .int .i64 0]) := Blk.new _ _ _
                      have HNw14 : Hid (Upd [] w13 (w13.alloc (.cells #[.string ⟨#[]⟩, .int .i64 0, .int .i64 0] 32))) := (Upd.refl _ _).alloc _
                      obtain ⟨F3, HGF3⟩ : ∃ F3, Hid (F3 = w13.heap.size) := ⟨_, rfl⟩
                      rw [← HGF3.out] at HBF3 ⊢
                      generalize hw : w13.alloc _ = w14 at *
                      clear hw
                      have HU14 := Lib.hid (HU13.out.trans HNw14.out)
                      have HN14 := Lib.hid (HN13.out.trans HNw14.out)
                      have f0 : w14.cell? ⟨F3, 0, none⟩ = some (.string ⟨#[]⟩) := by rw [HBF3.out.cell]; rfl
                      have f1 : w14.cell? ⟨F3, 1, none⟩ = some (.int .i64 0) := by rw [HBF3.out.cell]; rfl
                      have f2 : w14.cell? ⟨F3, 2, none⟩ = some (.int .i64 0) := by rw [HBF3.out.cell]; rfl
                      go_wp2_with fail
                      refine (same_any w14 L2 n2 lc2 L3 lc3 us (HTK.out w14 HN14.out) (HTK3.out w14 HNw14.out) (by omega)).mono ?_
                      rintro e w15 ⟨rfl, hv15⟩
                      have HU15 := Lib.hid (HU14.out.trans hv15)
                      clear hv15 f0 f1 f2
                      go_wp2
                      go_ret
                      exact ⟨rfl, HU15.out⟩
      · have HNE : Hid (checkE ts ≠ 0) := by show _ ≠ _; rw [HQ2.out]; exact h0
        have dq : (q == 0) = false := by simpa using h0
        go_wp2_with fail
        refine (print_err w2 A n c ts (HT.out w2 HU2.out) (by omega) (by omega) HNE.out).mono ?_
        rintro e w4 ⟨rfl, hv3⟩
        rw [HQ2.out]
        have HUw4 := Lib.hid (HU2.out.trans hv3)
        clear hv3
        go_wp2_with fail
        refine (get_any w4 A n c ts tag (HT.out w4 HUw4.out) HLF.out.small (by omega)).mono ?_
        rintro e w5 hg
        rcases hg with ⟨hnone, rfl, hv5⟩ | ⟨j, t, p, hj, htj, hbef, rfl, htm, hv5⟩
        · have HU5 := Lib.hid (HUw4.out.trans hv5)
          have HNO := Lib.hid hnone
          clear hv5 hnone
          go_upto_region 15 with (fail)
          have HBG : Hid (Blk (w5.alloc (.cells #[.int .i64 0, .int .i64 0, .slice none 0 0, .slice none 0 0, .slice none 0 0] 40)) w5.heap.size 40 #[.int .i64 0, .int .i64 0, .slice none 0 0, .slice none 0 0, .slice none 0 0]) := Blk.new _ _ _
          have HNw6 : Hid (Upd [] w5 (w5.alloc (.cells #[.int .i64 0, .int .i64 0, .slice none 0 0, .slice none 0 0, .slice none 0 0] 40))) := (Upd.refl _ _).alloc _
          obtain ⟨G, HGG⟩ : ∃ G, Hid (G = w5.heap.size) := ⟨_, rfl⟩
          rw [← HGG.out] at HBG ⊢
          generalize hw : w5.alloc _ = w6 at *
          clear hw
          have HU6 := Lib.hid (HU5.out.trans HNw6.out)
          go_wp2_with fail
          go_loop [14, 15] (fun x i => ∃ k : Nat, k ≤ n ∧ i = .int .i64 k ∧ x = .bool false) (fun _ i => n - (intOf i).toNat)
          case atStart => exact ⟨0, by omega, rfl, rfl⟩
          case round =>
            obtain ⟨k, hk, rfl, rfl⟩ := hrel
            by_cases hlt : k < n
            · have dlt : decide ((k : Int) < n) = true := by simp; omega
              obtain ⟨u, q, HUU, HQ, c0, c1, c2, c3, c4⟩ := (HT.out w6 HU6.out).get hlt
              have hix := (HT.out w6 HU6.out).index c k hlt
              have d0 : (u.tag == tag) = false := by simpa using HNO.out u (List.mem_of_getElem? HUU.out)
              go_wp2
              go_round
              case rel => exact ⟨k + 1, by omega, by go_num, rfl⟩
              case measure => simp [intOf]; omega
            · have dlt : decide ((k : Int) < n) = false := by simp; omega
              obtain rfl : n = k := by omega
              have g0 : w6.cell? ⟨G, 0, none⟩ = some (.int .i64 0) := by rw [HBG.out.cell]; rfl
              have g1 : w6.cell? ⟨G, 1, none⟩ = some (.int .i64 0) := by rw [HBG.out.cell]; rfl
              have g2 : w6.cell? ⟨G, 2, none⟩ = some (.slice none 0 0) := by rw [HBG.out.cell]; rfl
              have g3 : w6.cell? ⟨G, 3, none⟩ = some (.slice none 0 0) := by rw [HBG.out.cell]; rfl
              have g4 : w6.cell? ⟨G, 4, none⟩ = some (.slice none 0 0) := by rw [HBG.out.cell]; rfl
              go_wp2_with fail
              refine (one_any w6 ⟨none, 0, 0, none, 0, 0, none, 0, 0⟩ ⟨none, 0, 0, none, 0, 0, none, 0, 0⟩ ⟨0, 0, [], [], []⟩ (zero_tagM w6) (zero_tagM w6)).mono ?_
              rintro e w7 ⟨rfl, hv7⟩
              have HUw7 := Lib.hid (HU6.out.trans hv7)
              clear hv7 g0 g1 g2 g3 g4
              have HI := Lib.hid (HBI.out.upd HUw7.out (by simp))
              go_wp2_with fail
              refine (parse_any w7 D m d ys HI.out HBY.out hmd (by omega)).mono ?_
              obtain ⟨r, HR⟩ : ∃ r, Hid (parseB ys = r) := ⟨parseB ys, rfl⟩
              rw [HR.out]
              cases r with
              | error kc =>
                obtain ⟨ak, ac⟩ := kc
                rintro e w10 ⟨rfl, hv10⟩
                have HU10 := Lib.hid (HUw7.out.trans hv10)
                have hac := parse_code HR.out
                clear hv10 HI
                go_upto_region 26 with (fail)
                have HBF2 : Hid (Blk (w10.alloc (.cells #[.string ⟨#[]⟩, .int .i64 (ak : Int), .int .i64 ac] 32)) w10.heap.size 32 #[.string ⟨#[]⟩, .int .i64 (ak : Int), .int .i64 ac]) := Blk.new _ _ _
                have HNw11 : Hid (Upd [] w10 (w10.alloc (.cells #[.string ⟨#[]⟩, .int .i64 (ak : Int), .int .i64 ac] 32))) := (Upd.refl _ _).alloc _
                obtain ⟨F2, HGF2⟩ : ∃ F2, Hid (F2 = w10.heap.size) := ⟨_, rfl⟩
                rw [← HGF2.out] at HBF2 ⊢
                generalize hw : w10.alloc _ = w11 at *
                clear hw
                have HU11 := Lib.hid (HU10.out.trans HNw11.out)
                have f0 : w11.cell? ⟨F2, 0, none⟩ = some (.string ⟨#[]⟩) := by rw [HBF2.out.cell]; rfl
                have f1 : w11.cell? ⟨F2, 1, none⟩ = some (.int .i64 (ak : Int)) := by rw [HBF2.out.cell]; rfl
                have f2 : w11.cell? ⟨F2, 2, none⟩ = some (.int .i64 ac) := by rw [HBF2.out.cell]; rfl
                have d1 : (ac == 0) = false := by simpa using hac
                have d2 : (ac != 0) = true := by simpa using hac
                clear hac
                go_wp2
                go_ret
                exact ⟨rfl, HU11.out⟩
              | ok us =>
                rintro e w10 ⟨L2, lc2, xs2, hus, rfl, ht10, hv10⟩
                have HU10 := Lib.hid (HUw7.out.trans hv10)
                clear hv10 HI
                have HCK := Lib.hid (parse_check HBY.out (by rw [HYL.out]; omega) HR.out)
                have HTO := Lib.hid ht10
                have HUS := Lib.hid hus
                clear ht10 hus
                have HSM : Hid (∀ x ∈ xs2, lenT x.2 ≤ 1000000000000000) := by
                  obtain ⟨_, dd, _, h2, _, h5⟩ := parse_good HBY.out HR.out
                  intro x hx
                  have := h5 x.2 (by rw [HUS.out]; exact List.mem_map_of_mem hx)
                  rw [HYL.out] at h2
                  omega
                have hl2 : xs2.length ≤ 256 := by
                  have h := (check_zero HCK.out.1).1
                  rw [HUS.out, List.length_map] at h
                  exact h
                have HTK : Hid (∀ W, Upd [] w10 W → Tags W L2 xs2.length us) := fun W hW => by rw [HUS.out]; exact (HTO.out.upd hW).tags' HSM.out
                obtain ⟨n2, HN2⟩ : ∃ n2, Hid (xs2.length = n2) := ⟨xs2.length, rfl⟩
                rw [HN2.out] at hl2 HTK ⊢
                go_upto_region 26 with (fail)
                have HBF2 : Hid (Blk (w10.alloc (.cells #[.string ⟨#[]⟩, .int .i64 0, .int .i64 0] 32)) w10.heap.size 32 #[.string ⟨#[]⟩, .int .i64 0, .int .i64 0]) := Blk.new _ _ _
                have HNw11 : Hid (Upd [] w10 (w10.alloc (.cells #[.string ⟨#[]⟩, .int .i64 0, .int .i64 0] 32))) := (Upd.refl _ _).alloc _
                obtain ⟨F2, HGF2⟩ : ∃ F2, Hid (F2 = w10.heap.size) := ⟨_, rfl⟩
                rw [← HGF2.out] at HBF2 ⊢
                generalize hw : w10.alloc _ = w11 at *
                clear hw
                have HU11 := Lib.hid (HU10.out.trans HNw11.out)
                have f0 : w11.cell? ⟨F2, 0, none⟩ = some (.string ⟨#[]⟩) := by rw [HBF2.out.cell]; rfl
                have f1 : w11.cell? ⟨F2, 1, none⟩ = some (.int .i64 0) := by rw [HBF2.out.cell]; rfl
                have f2 : w11.cell? ⟨F2, 2, none⟩ = some (.int .i64 0) := by rw [HBF2.out.cell]; rfl
                go_wp2_with fail
                refine (print_ok w11 L2 n2 lc2 us (HTK.out w11 HNw11.out) (by have := HCK.out.2; omega) HCK.out.1).mono ?_
                rintro e w12 ⟨X2, xc2, rfl, ho12, hv12⟩
                have HO12 := Lib.hid ho12
                have HU12 := Lib.hid (HU11.out.trans hv12)
                have HN12 := Lib.hid (HNw11.out.trans hv12)
                have hpl := print_len HCK.out.1
                have hpc := HO12.out.le
                clear ho12 hv12 f0 f1 f2
                have HPB2 : Hid (∀ z ∈ printB us, 0 ≤ z ∧ z ≤ 255) := print_bd us (HTK.out w12 HN12.out).bb
                obtain ⟨pl, HPL⟩ : ∃ pl, Hid ((printB us).length = pl) := ⟨(printB us).length, rfl⟩
                rw [HPL.out] at HO12 hpl hpc ⊢
                go_wp2_with fail
                refine (parse_any w12 X2 pl xc2 (printB us) (Ints.ofOwn HO12.out) HPB2.out hpc (by omega)).mono ?_
                rw [parse_print HCK.out.1]
                rintro e w13 ⟨L3, lc3, xs3, hus3, rfl, ht13, hv13⟩
                have HU13 := Lib.hid (HU12.out.trans hv13)
                have HN13 := Lib.hid (HN12.out.trans hv13)
                have HSM3 : Hid (∀ x ∈ xs3, lenT x.2 ≤ 1000000000000000) := by
                  intro x hx
                  have hm3 : x.2 ∈ us := by rw [hus3]; exact List.mem_map_of_mem hx
                  rw [HUS.out] at hm3
                  obtain ⟨y, hy, he⟩ := List.mem_map.1 hm3
                  have := HSM.out y hy
                  rw [he] at this
                  exact this
                have HN3 : Hid (xs3.length = n2) := by
                  have h := congrArg List.length hus3
                  rw [HUS.out, List.length_map, List.length_map, HN2.out] at h
                  exact h.symm
                have HTK3 : Hid (∀ W, Upd [] w13 W → Tags W L3 n2 us) := fun W hW => by rw [hus3, ← HN3.out]; exact (ht13.upd hW).tags' HSM3.out
                rw [HN3.out]
                clear hv13
                go_upto_region 30 with (fail)
                have HBF3 : Hid (Blk (w13.alloc (.cells #[.string ⟨#[]⟩, .int .i64 0, .int .i64 0] 32)) w13.heap.size 32 #[.string ⟨#[]⟩, .int .i64 0, .int .i64 0]) := Blk.new _ _ _
                have HNw14 : Hid (Upd [] w13 (w13.alloc (.cells #[.string ⟨#[]⟩, .int .i64 0, .int .i64 0] 32))) := (Upd.refl _ _).alloc _
                obtain ⟨F3, HGF3⟩ : ∃ F3, Hid (F3 = w13.heap.size) := ⟨_, rfl⟩
                rw [← HGF3.out] at HBF3 ⊢
                generalize hw : w13.alloc _ = w14 at *
                clear hw
                have HU14 := Lib.hid (HU13.out.trans HNw14.out)
                have HN14 := Lib.hid (HN13.out.trans HNw14.out)
                have f0 : w14.cell? ⟨F3, 0, none⟩ = some (.string ⟨#[]⟩) := by rw [HBF3.out.cell]; rfl
                have f1 : w14.cell? ⟨F3, 1, none⟩ = some (.int .i64 0) := by rw [HBF3.out.cell]; rfl
                have f2 : w14.cell? ⟨F3, 2, none⟩ = some (.int .i64 0) := by rw [HBF3.out.cell]; rfl
                go_wp2_with fail
                refine (same_any w14 L2 n2 lc2 L3 lc3 us (HTK.out w14 HN14.out) (HTK3.out w14 HNw14.out) (by omega)).mono ?_
                rintro e w15 ⟨rfl, hv15⟩
                have HU15 := Lib.hid (HU14.out.trans hv15)
                clear hv15 f0 f1 f2
                go_wp2
                go_ret
                exact ⟨rfl, HU15.out⟩
        · have HU5 := Lib.hid (HUw4.out.trans hv5)
          have HJ := Lib.hid hj
          have HTJ := Lib.hid htj
          have HBF := Lib.hid hbef
          have HTM := Lib.hid htm
          have hjn : j < n := by
            have := (List.getElem?_eq_some_iff.1 hj).1
            rw [HTL.out] at this
            exact this
          clear hv5 hj htj hbef htm
          go_upto_region 15 with (fail)
          have HBG : Hid (Blk (w5.alloc (.cells #[.int .i64 t.tag, .int .i64 t.typ, .slice p.IA p.i p.ic, .slice p.TA p.n p.tc, .slice p.BA p.m p.bc] 40)) w5.heap.size 40 #[.int .i64 t.tag, .int .i64 t.typ, .slice p.IA p.i p.ic, .slice p.TA p.n p.tc, .slice p.BA p.m p.bc]) := Blk.new _ _ _
          have HNw6 : Hid (Upd [] w5 (w5.alloc (.cells #[.int .i64 t.tag, .int .i64 t.typ, .slice p.IA p.i p.ic, .slice p.TA p.n p.tc, .slice p.BA p.m p.bc] 40))) := (Upd.refl _ _).alloc _
          obtain ⟨G, HGG⟩ : ∃ G, Hid (G = w5.heap.size) := ⟨_, rfl⟩
          rw [← HGG.out] at HBG ⊢
          generalize hw : w5.alloc _ = w6 at *
          clear hw
          have HU6 := Lib.hid (HU5.out.trans HNw6.out)
          have HTM6 := Lib.hid (HTM.out.upd0 HNw6.out)
          go_wp2_with fail
          go_loopw [14, 15] (fun x i wr => ∃ k : Nat, ((k ≤ j ∧ x = .bool false) ∨ (k = j + 1 ∧ x = .bool true)) ∧ i = .int .i64 k ∧ Hid (Upd [] w wr) ∧ Hid (Upd [] w6 wr)) (fun _ i _ => n - (intOf i).toNat)
          case atStart => exact ⟨0, Or.inl ⟨by omega, rfl⟩, rfl, HU6, Upd.refl _ _⟩
          case round =>
            obtain ⟨k, hkx, rfl, HUr, HVr⟩ := hrel
            rcases hkx with ⟨hk, rfl⟩ | ⟨hk, rfl⟩
            · have dlt : decide ((k : Int) < n) = true := by simp; omega
              obtain ⟨u, q, HUU, HQ, c0, c1, c2, c3, c4⟩ := (HT.out wr HUr.out).get (k := k) (by omega)
              have hix := (HT.out wr HUr.out).index c k (by omega)
              by_cases hkj : k = j
              · subst hkj
                obtain rfl : u = t := by have h1 := HJ.out; rw [HUU.out] at h1; injection h1
                have d0 : (u.tag == tag) = true := by simp [HTJ.out]
                have HGr := Lib.hid (HBG.out.upd HVr.out (by simp))
                have g0 : wr.cell? ⟨G, 0, none⟩ = some (.int .i64 u.tag) := by rw [HGr.out.cell]; rfl
                have g1 : wr.cell? ⟨G, 1, none⟩ = some (.int .i64 u.typ) := by rw [HGr.out.cell]; rfl
                have g2 : wr.cell? ⟨G, 2, none⟩ = some (.slice p.IA p.i p.ic) := by rw [HGr.out.cell]; rfl
                have g3 : wr.cell? ⟨G, 3, none⟩ = some (.slice p.TA p.n p.tc) := by rw [HGr.out.cell]; rfl
                have g4 : wr.cell? ⟨G, 4, none⟩ = some (.slice p.BA p.m p.bc) := by rw [HGr.out.cell]; rfl
                have HTMr := Lib.hid (HTM6.out.upd0 HVr.out)
                go_wp2
                have c0' := fun x => later_cell c0 x
                have c1' := fun x => later_cell c1 x
                have c2' := fun x => later_cell c2 x
                have c3' := fun x => later_cell c3 x
                have c4' := fun x => later_cell c4 x
                have g0' := fun x => later_cell g0 x
                have g1' := fun x => later_cell g1 x
                have g2' := fun x => later_cell g2 x
                have g3' := fun x => later_cell g3 x
                have g4' := fun x => later_cell g4 x
                clear c0 c1 c2 c3 c4 g0 g1 g2 g3 g4
                refine wp_region_later (by kernel_rfl) (by kernel_rfl) ?_
                repeat (go_big_quiet_step (first | (go_at_call 16; exact laterU (one_any _ p q u (HTMr.out.upd0 (later_upd _ _)) (HQ.out.upd0 (later_upd _ _))))))
                refine wpQuiet_nil ?_
                intro _ hw'
                obtain ⟨xq, hw''⟩ := hw'
                subst hw''
                obtain ⟨w8, hw5⟩ : ∃ w8 : World, w8 = later wr xq := ⟨_, rfl⟩
                rw [← hw5]
                have HUw8 : Hid (Upd [] w w8) := by rw [hw5]; exact HUr.out.trans (later_upd wr xq)
                have HXw8 : Hid (Upd [] wr w8) := by rw [hw5]; exact later_upd wr xq
                clear hw5 c0' c1' c2' c3' c4' g0' g1' g2' g3' g4'
                clear d0 hix
                go_wp2
                go_roundw
                case rel => exact ⟨k + 1, Or.inr ⟨rfl, rfl⟩, by go_num, HUw8, HVr.out.trans HXw8.out⟩
                case measure => simp [intOf]; omega
              · have d0 : (u.tag == tag) = false := by
                  simp only [beq_eq_false_iff_ne]
                  refine HBF.out u ?_
                  obtain ⟨hkl, hke⟩ := List.getElem?_eq_some_iff.1 HUU.out
                  rw [← hke]
                  exact List.mem_take_iff_getElem.2 ⟨k, by omega, rfl⟩
                go_wp2
                go_roundw
                case rel => exact ⟨k + 1, Or.inl ⟨by omega, rfl⟩, by go_num, HUr, HVr⟩
                case measure => simp [intOf]; omega
            · subst hk
              have HUw7 := HUr
              by_cases hjl : j + 1 < n
              · have dlt : decide ((j : Int) + 1 < n) = true := by simp; omega
                go_wp2_with fail
                have HI := Lib.hid (HBI.out.upd HUr.out (by simp))
                refine (parse_any wr D m d ys HI.out HBY.out hmd (by omega)).mono ?_
                obtain ⟨r, HR⟩ : ∃ r, Hid (parseB ys = r) := ⟨parseB ys, rfl⟩
                rw [HR.out]
                cases r with
                | error kc =>
                  obtain ⟨ak, ac⟩ := kc
                  rintro e w10 ⟨rfl, hv10⟩
                  have HU10 := Lib.hid (HUr.out.trans hv10)
                  have hac := parse_code HR.out
                  clear hv10 HI
                  go_upto_region 26 with (fail)
                  have HBF2 : Hid (Blk (w10.alloc (.cells #[.string ⟨#[]⟩, .int .i64 (ak : Int), .int .i64 ac] 32)) w10.heap.size 32 #[.string ⟨#[]⟩, .int .i64 (ak : Int), .int .i64 ac]) := Blk.new _ _ _
                  have HNw11 : Hid (Upd [] w10 (w10.alloc (.cells #[.string ⟨#[]⟩, .int .i64 (ak : Int), .int .i64 ac] 32))) := (Upd.refl _ _).alloc _
                  obtain ⟨F2, HGF2⟩ : ∃ F2, Hid (F2 = w10.heap.size) := ⟨_, rfl⟩
                  rw [← HGF2.out] at HBF2 ⊢
                  generalize hw : w10.alloc _ = w11 at *
                  clear hw
                  have HU11 := Lib.hid (HU10.out.trans HNw11.out)
                  have f0 : w11.cell? ⟨F2, 0, none⟩ = some (.string ⟨#[]⟩) := by rw [HBF2.out.cell]; rfl
                  have f1 : w11.cell? ⟨F2, 1, none⟩ = some (.int .i64 (ak : Int)) := by rw [HBF2.out.cell]; rfl
                  have f2 : w11.cell? ⟨F2, 2, none⟩ = some (.int .i64 ac) := by rw [HBF2.out.cell]; rfl
                  have d1 : (ac == 0) = false := by simpa using hac
                  have d2 : (ac != 0) = true := by simpa using hac
                  clear hac
                  go_wp2
                  go_ret
                  exact ⟨rfl, HU11.out⟩
                | ok us =>
                  rintro e w10 ⟨L2, lc2, xs2, hus, rfl, ht10, hv10⟩
                  have HU10 := Lib.hid (HUr.out.trans hv10)
                  clear hv10 HI
                  have HCK := Lib.hid (parse_check HBY.out (by rw [HYL.out]; omega) HR.out)
                  have HTO := Lib.hid ht10
                  have HUS := Lib.hid hus
                  clear ht10 hus
                  have HSM : Hid (∀ x ∈ xs2, lenT x.2 ≤ 1000000000000000) := by
                    obtain ⟨_, dd, _, h2, _, h5⟩ := parse_good HBY.out HR.out
                    intro x hx
                    have := h5 x.2 (by rw [HUS.out]; exact List.mem_map_of_mem hx)
                    rw [HYL.out] at h2
                    omega
                  have hl2 : xs2.length ≤ 256 := by
                    have h := (check_zero HCK.out.1).1
                    rw [HUS.out, List.length_map] at h
                    exact h
                  have HTK : Hid (∀ W, Upd [] w10 W → Tags W L2 xs2.length us) := fun W hW => by rw [HUS.out]; exact (HTO.out.upd hW).tags' HSM.out
                  obtain ⟨n2, HN2⟩ : ∃ n2, Hid (xs2.length = n2) := ⟨xs2.length, rfl⟩
                  rw [HN2.out] at hl2 HTK ⊢
                  go_upto_region 26 with (fail)
                  have HBF2 : Hid (Blk (w10.alloc (.cells #[.string ⟨#[]⟩, .int .i64 0, .int .i64 0] 32)) w10.heap.size 32 #[.string ⟨#[]⟩, .int .i64 0, .int .i64 0]) := Blk.new _ _ _
                  have HNw11 : Hid (Upd [] w10 (w10.alloc (.cells #[.string ⟨#[]⟩, .int .i64 0, .int .i64 0] 32))) := (Upd.refl _ _).alloc _
                  obtain ⟨F2, HGF2⟩ : ∃ F2, Hid (F2 = w10.heap.size) := ⟨_, rfl⟩
                  rw [← HGF2.out] at HBF2 ⊢
                  generalize hw : w10.alloc _ = w11 at *
                  clear hw
                  have HU11 := Lib.hid (HU10.out.trans HNw11.out)
                  have f0 : w11.cell? ⟨F2, 0, none⟩ = some (.string ⟨#[]⟩) := by rw [HBF2.out.cell]; rfl
                  have f1 : w11.cell? ⟨F2, 1, none⟩ = some (.int .i64 0) := by rw [HBF2.out.cell]; rfl
                  have f2 : w11.cell? ⟨F2, 2, none⟩ = some (.int .i64 0) := by rw [HBF2.out.cell]; rfl
                  go_wp2_with fail
                  refine (print_ok w11 L2 n2 lc2 us (HTK.out w11 HNw11.out) (by have := HCK.out.2; omega) HCK.out.1).mono ?_
                  rintro e w12 ⟨X2, xc2, rfl, ho12, hv12⟩
                  have HO12 := Lib.hid ho12
                  have HU12 := Lib.hid (HU11.out.trans hv12)
                  have HN12 := Lib.hid (HNw11.out.trans hv12)
                  have hpl := print_len HCK.out.1
                  have hpc := HO12.out.le
                  clear ho12 hv12 f0 f1 f2
                  have HPB2 : Hid (∀ z ∈ printB us, 0 ≤ z ∧ z ≤ 255) := print_bd us (HTK.out w12 HN12.out).bb
                  obtain ⟨pl, HPL⟩ : ∃ pl, Hid ((printB us).length = pl) := ⟨(printB us).length, rfl⟩
                  rw [HPL.out] at HO12 hpl hpc ⊢
                  go_wp2_with fail
                  refine (parse_any w12 X2 pl xc2 (printB us) (Ints.ofOwn HO12.out) HPB2.out hpc (by omega)).mono ?_
                  rw [parse_print HCK.out.1]
                  rintro e w13 ⟨L3, lc3, xs3, hus3, rfl, ht13, hv13⟩
                  have HU13 := Lib.hid (HU12.out.trans hv13)
                  have HN13 := Lib.hid (HN12.out.trans hv13)
                  have HSM3 : Hid (∀ x ∈ xs3, lenT x.2 ≤ 1000000000000000) := by
                    intro x hx
                    have hm3 : x.2 ∈ us := by rw [hus3]; exact List.mem_map_of_mem hx
                    rw [HUS.out] at hm3
                    obtain ⟨y, hy, he⟩ := List.mem_map.1 hm3
                    have := HSM.out y hy
                    rw [he] at this
                    exact this
                  have HN3 : Hid (xs3.length = n2) := by
                    have h := congrArg List.length hus3
                    rw [HUS.out, List.length_map, List.length_map, HN2.out] at h
                    exact h.symm
                  have HTK3 : Hid (∀ W, Upd [] w13 W → Tags W L3 n2 us) := fun W hW => by rw [hus3, ← HN3.out]; exact (ht13.upd hW).tags' HSM3.out
                  rw [HN3.out]
                  clear hv13
                  go_upto_region 30 with (fail)
                  have HBF3 : Hid (Blk (w13.alloc (.cells #[.string ⟨#[]⟩, .int .i64 0, .int .i64 0] 32)) w13.heap.size 32 #[.string ⟨#[]⟩, .int .i64 0, .int .i64 0]) := Blk.new _ _ _
                  have HNw14 : Hid (Upd [] w13 (w13.alloc (.cells #[.string ⟨#[]⟩, .int .i64 0, .int .i64 0] 32))) := (Upd.refl _ _).alloc _
                  obtain ⟨F3, HGF3⟩ : ∃ F3, Hid (F3 = w13.heap.size) := ⟨_, rfl⟩
                  rw [← HGF3.out] at HBF3 ⊢
                  generalize hw : w13.alloc _ = w14 at *
                  clear hw
                  have HU14 := Lib.hid (HU13.out.trans HNw14.out)
                  have HN14 := Lib.hid (HN13.out.trans HNw14.out)
                  have f0 : w14.cell? ⟨F3, 0, none⟩ = some (.string ⟨#[]⟩) := by rw [HBF3.out.cell]; rfl
                  have f1 : w14.cell? ⟨F3, 1, none⟩ = some (.int .i64 0) := by rw [HBF3.out.cell]; rfl
                  have f2 : w14.cell? ⟨F3, 2, none⟩ = some (.int .i64 0) := by rw [HBF3.out.cell]; rfl
                  go_wp2_with fail
                  refine (same_any w14 L2 n2 lc2 L3 lc3 us (HTK.out w14 HN14.out) (HTK3.out w14 HNw14.out) (by omega)).mono ?_
                  rintro e w15 ⟨rfl, hv15⟩
                  have HU15 := Lib.hid (HU14.out.trans hv15)
                  clear hv15 f0 f1 f2
                  go_wp2
                  go_ret
                  exact ⟨rfl, HU15.out⟩
              · have dlt : decide ((j : Int) + 1 < n) = false := by simp; omega
                go_wp2_with fail
                have HI := Lib.hid (HBI.out.upd HUr.out (by simp))
                refine (parse_any wr D m d ys HI.out HBY.out hmd (by omega)).mono ?_
                obtain ⟨r, HR⟩ : ∃ r, Hid (parseB ys = r) := ⟨parseB ys, rfl⟩
                rw [HR.out]
                cases r with
                | error kc =>
                  obtain ⟨ak, ac⟩ := kc
                  rintro e w10 ⟨rfl, hv10⟩
                  have HU10 := Lib.hid (HUr.out.trans hv10)
                  have hac := parse_code HR.out
                  clear hv10 HI
                  go_upto_region 26 with (fail)
                  have HBF2 : Hid (Blk (w10.alloc (.cells #[.string ⟨#[]⟩, .int .i64 (ak : Int), .int .i64 ac] 32)) w10.heap.size 32 #[.string ⟨#[]⟩, .int .i64 (ak : Int), .int .i64 ac]) := Blk.new _ _ _
                  have HNw11 : Hid (Upd [] w10 (w10.alloc (.cells #[.string ⟨#[]⟩, .int .i64 (ak : Int), .int .i64 ac] 32))) := (Upd.refl _ _).alloc _
                  obtain ⟨F2, HGF2⟩ : ∃ F2, Hid (F2 = w10.heap.size) := ⟨_, rfl⟩
                  rw [← HGF2.out] at HBF2 ⊢
                  generalize hw : w10.alloc _ = w11 at *
                  clear hw
                  have HU11 := Lib.hid (HU10.out.trans HNw11.out)
                  have f0 : w11.cell? ⟨F2, 0, none⟩ = some (.string ⟨#[]⟩) := by rw [HBF2.out.cell]; rfl
                  have f1 : w11.cell? ⟨F2, 1, none⟩ = some (.int .i64 (ak : Int)) := by rw [HBF2.out.cell]; rfl
                  have f2 : w11.cell? ⟨F2, 2, none⟩ = some (.int .i64 ac) := by rw [HBF2.out.cell]; rfl
                  have d1 : (ac == 0) = false := by simpa using hac
                  have d2 : (ac != 0) = true := by simpa using hac
                  clear hac
                  go_wp2
                  go_ret
                  exact ⟨rfl, HU11.out⟩
                | ok us =>
                  rintro e w10 ⟨L2, lc2, xs2, hus, rfl, ht10, hv10⟩
                  have HU10 := Lib.hid (HUr.out.trans hv10)
                  clear hv10 HI
                  have HCK := Lib.hid (parse_check HBY.out (by rw [HYL.out]; omega) HR.out)
                  have HTO := Lib.hid ht10
                  have HUS := Lib.hid hus
                  clear ht10 hus
                  have HSM : Hid (∀ x ∈ xs2, lenT x.2 ≤ 1000000000000000) := by
                    obtain ⟨_, dd, _, h2, _, h5⟩ := parse_good HBY.out HR.out
                    intro x hx
                    have := h5 x.2 (by rw [HUS.out]; exact List.mem_map_of_mem hx)
                    rw [HYL.out] at h2
                    omega
                  have hl2 : xs2.length ≤ 256 := by
                    have h := (check_zero HCK.out.1).1
                    rw [HUS.out, List.length_map] at h
                    exact h
                  have HTK : Hid (∀ W, Upd [] w10 W → Tags W L2 xs2.length us) := fun W hW => by rw [HUS.out]; exact (HTO.out.upd hW).tags' HSM.out
                  obtain ⟨n2, HN2⟩ : ∃ n2, Hid (xs2.length = n2) := ⟨xs2.length, rfl⟩
                  rw [HN2.out] at hl2 HTK ⊢
                  go_upto_region 26 with (fail)
                  have HBF2 : Hid (Blk (w10.alloc (.cells #[.string ⟨#[]⟩, .int .i64 0, .int .i64 0] 32)) w10.heap.size 32 #[.string ⟨#[]⟩, .int .i64 0, .int .i64 0]) := Blk.new _ _ _
                  have HNw11 : Hid (Upd [] w10 (w10.alloc (.cells #[.string ⟨#[]⟩, .int .i64 0, .int .i64 0] 32))) := (Upd.refl _ _).alloc _
                  obtain ⟨F2, HGF2⟩ : ∃ F2, Hid (F2 = w10.heap.size) := ⟨_, rfl⟩
                  rw [← HGF2.out] at HBF2 ⊢
                  generalize hw : w10.alloc _ = w11 at *
                  clear hw
                  have HU11 := Lib.hid (HU10.out.trans HNw11.out)
                  have f0 : w11.cell? ⟨F2, 0, none⟩ = some (.string ⟨#[]⟩) := by rw [HBF2.out.cell]; rfl
                  have f1 : w11.cell? ⟨F2, 1, none⟩ = some (.int .i64 0) := by rw [HBF2.out.cell]; rfl
                  have f2 : w11.cell? ⟨F2, 2, none⟩ = some (.int .i64 0) := by rw [HBF2.out.cell]; rfl
                  go_wp2_with fail
                  refine (print_ok w11 L2 n2 lc2 us (HTK.out w11 HNw11.out) (by have := HCK.out.2; omega) HCK.out.1).mono ?_
                  rintro e w12 ⟨X2, xc2, rfl, ho12, hv12⟩
                  have HO12 := Lib.hid ho12
                  have HU12 := Lib.hid (HU11.out.trans hv12)
                  have HN12 := Lib.hid (HNw11.out.trans hv12)
                  have hpl := print_len HCK.out.1
                  have hpc := HO12.out.le
                  clear ho12 hv12 f0 f1 f2
                  have HPB2 : Hid (∀ z ∈ printB us, 0 ≤ z ∧ z ≤ 255) := print_bd us (HTK.out w12 HN12.out).bb
                  obtain ⟨pl, HPL⟩ : ∃ pl, Hid ((printB us).length = pl) := ⟨(printB us).length, rfl⟩
                  rw [HPL.out] at HO12 hpl hpc ⊢
                  go_wp2_with fail
                  refine (parse_any w12 X2 pl xc2 (printB us) (Ints.ofOwn HO12.out) HPB2.out hpc (by omega)).mono ?_
                  rw [parse_print HCK.out.1]
                  rintro e w13 ⟨L3, lc3, xs3, hus3, rfl, ht13, hv13⟩
                  have HU13 := Lib.hid (HU12.out.trans hv13)
                  have HN13 := Lib.hid (HN12.out.trans hv13)
                  have HSM3 : Hid (∀ x ∈ xs3, lenT x.2 ≤ 1000000000000000) := by
                    intro x hx
                    have hm3 : x.2 ∈ us := by rw [hus3]; exact List.mem_map_of_mem hx
                    rw [HUS.out] at hm3
                    obtain ⟨y, hy, he⟩ := List.mem_map.1 hm3
                    have := HSM.out y hy
                    rw [he] at this
                    exact this
                  have HN3 : Hid (xs3.length = n2) := by
                    have h := congrArg List.length hus3
                    rw [HUS.out, List.length_map, List.length_map, HN2.out] at h
                    exact h.symm
                  have HTK3 : Hid (∀ W, Upd [] w13 W → Tags W L3 n2 us) := fun W hW => by rw [hus3, ← HN3.out]; exact (ht13.upd hW).tags' HSM3.out
                  rw [HN3.out]
                  clear hv13
                  go_upto_region 30 with (fail)
                  have HBF3 : Hid (Blk (w13.alloc (.cells #[.string ⟨#[]⟩, .int .i64 0, .int .i64 0] 32)) w13.heap.size 32 #[.string ⟨#[]⟩, .int .i64 0, .int .i64 0]) := Blk.new _ _ _
                  have HNw14 : Hid (Upd [] w13 (w13.alloc (.cells #[.string ⟨#[]⟩, .int .i64 0, .int .i64 0] 32))) := (Upd.refl _ _).alloc _
                  obtain ⟨F3, HGF3⟩ : ∃ F3, Hid (F3 = w13.heap.size) := ⟨_, rfl⟩
                  rw [← HGF3.out] at HBF3 ⊢
                  generalize hw : w13.alloc _ = w14 at *
                  clear hw
                  have HU14 := Lib.hid (HU13.out.trans HNw14.out)
                  have HN14 := Lib.hid (HN13.out.trans HNw14.out)
                  have f0 : w14.cell? ⟨F3, 0, none⟩ = some (.string ⟨#[]⟩) := by rw [HBF3.out.cell]; rfl
                  have f1 : w14.cell? ⟨F3, 1, none⟩ = some (.int .i64 0) := by rw [HBF3.out.cell]; rfl
                  have f2 : w14.cell? ⟨F3, 2, none⟩ = some (.int .i64 0) := by rw [HBF3.out.cell]; rfl
                  go_wp2_with fail
                  refine (same_any w14 L2 n2 lc2 L3 lc3 us (HTK.out w14 HN14.out) (HTK3.out w14 HNw14.out) (by omega)).mono ?_
                  rintro e w15 ⟨rfl, hv15⟩
                  have HU15 := Lib.hid (HU14.out.trans hv15)
                  clear hv15 f0 f1 f2
                  go_wp2
                  go_ret
                  exact ⟨rfl, HU15.out⟩

end Go.Proofs.Ytogknbpbjgdldaa
