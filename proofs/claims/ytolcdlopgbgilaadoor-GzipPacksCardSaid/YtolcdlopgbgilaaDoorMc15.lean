/- Merged by wip/tools/merge.py: DefB DefC DefD DefE DefF DefG. -/
import Derived.StillTailTactics
import Derived.Lib.Tables
import Derived.Test.YtolcdlopgbgilaaDoorMc14

/-! Text DefB. -/
namespace Go.Proofs.YtolcdlopgbgilaaDoor
open Go.RowKit Go.Dray

theorem size_byte (w : World) : (sizeOf 5).run Tryd.prog w = .ok 1 w := by
  obtain ⟨i, hi, hz, hs, hb⟩ := info_get el_byte
  simp [sizeOf, typeInfo, hi, hs]
theorem zero_int (w : World) : (zeroValue 3).run Tryd.prog w = .ok (.int .i64 0) w := by
  obtain ⟨i, hi, hz, hs, hb⟩ := info_get el_int
  simp [zeroValue, typeInfo, hi, hz]
theorem under_three : Tryd.prog.underlying 175 = some (.array 3 5) := Tryd.underlying175
theorem under_map : Tryd.prog.underlying 145 = some (.map 175 3) := Tryd.underlying145

theorem three_eq {xs : List Int} {p : Nat} {x y z : Int} (hx : xs[p]? = some x) (hy : xs[p + 1]? = some y) (hz : xs[p + 2]? = some z) : three xs p = [x, y, z] := by
  unfold three
  obtain ⟨h1, h1'⟩ := List.getElem?_eq_some_iff.1 hx
  obtain ⟨h2, h2'⟩ := List.getElem?_eq_some_iff.1 hy
  obtain ⟨h3, h3'⟩ := List.getElem?_eq_some_iff.1 hz
  rw [List.drop_eq_getElem_cons h1, List.drop_eq_getElem_cons h2, List.drop_eq_getElem_cons h3, h1', h2', h3']
  rfl

def FindPost (xs : List Int) (n i : Nat) (w : World) (e : Ending) (w' : World) : Prop :=
  ∃ size back m : Nat, e = .returned (.tuple #[.int .i64 size, .int .i64 back]) ∧ w' = w.drewN m ∧ FoundF xs n i size back

/-- The same three bytes are followed by a run of three at least. -/
theorem three_run {xs : List Int} {n p i k : Nat} (h3 : three xs p = three xs i) (hi : i + 3 ≤ n) (hd : k < 258 → i + k < n → xs.getD (p + k) 0 ≠ xs.getD (i + k) 0) : 3 ≤ k := by
  rcases Nat.lt_or_ge k 3 with h | h
  · exfalso
    refine hd (by omega) (by omega) ?_
    rw [← three_get h, ← three_get h, h3]
  · exact h

set_option maxRecDepth 100000 in
set_option maxHeartbeats 2000000 in
theorem find_any {w : World} {f : Nat} {A : Option Addr} {n c : Nat} {xs : List Int} {g h : Nat} {zs : List Int} {i : Nat} (H : Fst w f A n c xs g h zs i) (hi : i < n) :
    Calls Tryd.prog 100 #[.pointer (some ⟨f, 0, none⟩), .int .i64 i] w (FindPost xs n i w) := by
  have hn := H.small
  have HH := Lib.hid H
  have c0 := H.blk.cell 0
  have c1 := H.blk.cell 1
  have c2 := H.blk.cell 2
  have c3 := H.blk.cell 3
  simp at c0 c1 c2 c3
  have hnc := H.nc
  clear H
  by_cases hs : n - i < 3
  · have d1 : decide ((n : Int) - i < 3) = true := by simp; omega
    go_enter Tryd.func100, Tryd.ntmps100
    go_wp2
    go_ret2
    exact ⟨1, 0, 0, rfl, rfl, Or.inl ⟨by omega, rfl, rfl⟩⟩
  · have d1 : decide ((n : Int) - i < 3) = false := by simp; omega
    have hA := Seg.at_ HH.out.src (by omega)
    have hcut0 := run_cut_lh el_byte A n c .i64 .i64 (i : Int) ((i : Int) + 3) i (i + 3) rfl (by omega) (by omega) (by omega)
    have hcA : cutA 1 A c i = some ⟨bl A, ofs A + i, none⟩ := by
      unfold cutA
      rw [if_neg (by omega)]
      generalize bl A = b at hA ⊢
      generalize ofs A = o at hA ⊢
      subst hA
      simp [Addr.add_lit]
    rw [hcA, show i + 3 - i = 3 from by omega] at hcut0
    have hcut := hcut0
    have har : ∀ W, (Instr.arrayAt 175 (.slice (some ⟨bl A, ofs A + i, none⟩) 3 (c - i))).run Tryd.prog W = .ok (.pointer (some ⟨bl A, ofs A + i, none⟩)) W := fun W => by
      simp [Instr.arrayAt, run_underlying under_three]
    obtain ⟨x, HX, cx⟩ := HH.out.src.int (i := i) (by omega)
    obtain ⟨y, HY, cy⟩ := HH.out.src.int (i := i + 1) (by omega)
    obtain ⟨z, HZ, cz⟩ := HH.out.src.int (i := i + 2) (by omega)
    rw [← Nat.add_assoc] at cy cz
    have H3 : Hid (three xs i = [x, y, z]) := three_eq HX.out HY.out HZ.out
    obtain ⟨fl, hfl, v, ok, hlk, hok⟩ := HH.out.map.look (P := Tryd.prog) under_map under_three Tryd.underlying5 size_byte zero_int (three xs i) (three_len (by rw [HH.out.len]; omega))
    have hlk1 : ∀ q, (Instr.lookup 145 (.map (some g)) (.agg #[.int .u8 x, .int .u8 y, .int .u8 z]) true).run Tryd.prog (w.drewN q) = .ok (.tuple #[.int .i64 v, .bool ok]) (w.drewN q) := fun q => by
      have := hlk (w.drewN q) rfl
      rw [H3.out] at this
      exact this
    have HOK : Hid (LastIs xs n i (three xs i) (if ok = true then some v else none)) := by
      have h1 := hfl (three xs i)
      rw [hok] at h1
      exact h1
    have hi3 : i + 3 ≤ n := by omega
    have w3 : IntKind.i64.wrap ((i : Int) + 3) = (i : Int) + 3 := by rw [IntKind.wrap_i64]; omega
    clear hlk hok hfl hcut0 hA hcA
    go_enter Tryd.func100, Tryd.ntmps100
    go_wp2
    go_quiet (fail)
    clear cx cy cz hcut har hlk1 w3
    go_wp2
    go_loopw [4, 5, 6, 7, 8] (fun vs vb va vo vn wr => ∃ (size back t m b : Nat) (at_ : Int) (ok : Bool), vs = .int .i64 size ∧ vb = .int .i64 back ∧ va = .int .i64 at_ ∧ vo = .bool ok ∧ vn = .int .i64 t ∧ t + b ≤ i ∧ wr = w.drewN m ∧ Hid (Best xs n i b size back) ∧ Hid (LastIs xs n b (three xs i) (if ok = true then some at_ else none))) (fun _ _ _ _ vn _ => n - (intOf vn).toNat)
    case atStart => exact ⟨1, 0, 0, nq, i, v, ok, rfl, rfl, rfl, rfl, rfl, by omega, rfl, Best.start xs n i, HOK⟩
    case round =>
      clear HOK
      obtain ⟨size, back, t, m, b, at_, ok, rfl, rfl, rfl, rfl, rfl, ht, rfl, HF, HO⟩ := hrel
      cases ok with
      | false =>
        have HF9 : Hid (FoundF xs n i size back) := Or.inr ⟨hi3, HF.out.all fun q hq => (show ∀ q, q < b → q + 3 ≤ n → three xs q ≠ three xs i from HO.out) q hq (by omega)⟩
        clear HO
        go_wp2
        go_ret2
        exact ⟨size, back, m, rfl, rfl, HF9.out⟩
      | true =>
        obtain ⟨p, rfl, hpb, h2, h3, h5⟩ := (show LastIs xs n b (three xs i) (some at_) from HO.out)
        have H3P := Lib.hid h3
        have HNO : Hid (∀ q, p < q → q < b → three xs q ≠ three xs i) := fun q g1 g2 => h5 q g1 g2 (by omega)
        have hpi : p < i := by omega
        clear h2 h3 h5 HO
        by_cases htn : t < n
        · have d2 : decide ((t : Int) < n) = true := by simp; omega
          have d3 : decide ((i : Int) - p ≤ 32768) = true := by simp; omega
          go_wp2_with fail
          refine (same_any (HH.out.drewN m) p i hpi hi).mono ?_
          rintro e w2 ⟨k, m2, rfl, rfl, hk1, hk2, hk3, hk4⟩
          have hk : 3 ≤ k := three_run H3P.out (by omega) hk4
          have HSI : Hid (SameIs xs n p i k) := ⟨hk1, hk2, hk3, hk4⟩
          clear hk3 hk4
          by_cases hsk : size < k
          · have d4 : decide ((size : Int) < k) = true := by simp; omega
            have HF' : Hid (Best xs n i p k (i - p)) := HF.out.better hpb (by omega) H3P.out HSI.out hk hsk HNO.out
            by_cases h258 : k = 258
            · have d5 : ((k : Int) == 258) = true := by simp; omega
              have HF9 : Hid (FoundF xs n i k (i - p)) := Or.inr ⟨hi3, by have := HF'.out; rw [h258] at this ⊢; exact this.full⟩
              clear h258
              go_wp2
              go_ret2
              exact ⟨k, i - p, m + m2, by rw [show ((i - p : Nat) : Int) = (i : Int) - p from by omega]; rfl, by first | rfl | rw [World.drewN_drewN], HF9.out⟩
            · have d5 : ((k : Int) == 258) = false := by simp; omega
              have hcell := HH.out.old.cell p
              have hpl : p < zs.length := by rw [HH.out.zl]; omega
              obtain ⟨oz, hoz⟩ : ∃ oz, oz = zs[p] := ⟨_, rfl⟩
              have co : w.cell? ⟨h, p, none⟩ = some (.int .i64 oz) := by rw [hcell, hoz]; simp [hpl]
              have HOZ : Hid (Old xs n p oz) := by
                have := HH.out.oldr p hpi (by omega)
                rw [List.getD, List.getElem?_eq_getElem hpl] at this
                rw [hoz]
                exact this
              have ih := (HH.out.old.seg).index el_int 32768 .i64 p (by simp [HH.out.zl]; omega)
              have ih' : ∀ W : World, (Instr.indexAt 61 (.slice (some ⟨h, 0, none⟩) 32768 32768) (.int .i64 ((p : Int) % 32768))).run Tryd.prog W = .ok (.pointer (some ⟨h, p, none⟩)) W := fun W => by
                have h1 := ih W
                simp only [List.size_toArray, List.length_map, HH.out.zl, Nat.mul_one] at h1
                rw [show (p : Int) % 32768 = p from by omega]
                simpa [bl, ofs] using h1
              clear hcell hoz ih hpl
              go_wp2
              go_roundw
              case rel =>
                refine ⟨k, i - p, t + 1, m + m2, p, oz, decide (0 ≤ oz), rfl, by rw [show ((i - p : Nat) : Int) = (i : Int) - p from by omega], rfl, rfl, by go_num, by omega, by first | rfl | rw [World.drewN_drewN], HF', ?_⟩
                have h3 := H3P.out
                rcases HOZ.out with ⟨h1, h2⟩ | h2
                · have hd : ¬ (decide (0 ≤ oz) = true) := by simp; omega
                  show LastIs xs n p (three xs i) (if decide (0 ≤ oz) = true then some oz else none)
                  rw [if_neg hd, ← h3]
                  exact h2
                · have h4 := h2
                  obtain ⟨p2, h5, _⟩ := h4
                  have hd : decide (0 ≤ oz) = true := by simp; omega
                  show LastIs xs n p (three xs i) (if decide (0 ≤ oz) = true then some oz else none)
                  rw [if_pos hd, ← h3]
                  exact h2
              case measure => simp [intOf]; omega
          · have d4 : decide ((size : Int) < k) = false := by simp; omega
            have HF' : Hid (Best xs n i p size back) := HF.out.worse hpb H3P.out HSI.out hk (by omega) HNO.out
            by_cases h258 : size = 258
            · have d5 : ((size : Int) == 258) = true := by simp; omega
              have HF9 : Hid (FoundF xs n i size back) := Or.inr ⟨hi3, by have := HF'.out; rw [h258] at this ⊢; exact this.full⟩
              clear h258
              go_wp2
              go_ret2
              exact ⟨size, back, m + m2, rfl, by first | rfl | rw [World.drewN_drewN], HF9.out⟩
            · have d5 : ((size : Int) == 258) = false := by simp; omega
              have hcell := HH.out.old.cell p
              have hpl : p < zs.length := by rw [HH.out.zl]; omega
              obtain ⟨oz, hoz⟩ : ∃ oz, oz = zs[p] := ⟨_, rfl⟩
              have co : w.cell? ⟨h, p, none⟩ = some (.int .i64 oz) := by rw [hcell, hoz]; simp [hpl]
              have HOZ : Hid (Old xs n p oz) := by
                have := HH.out.oldr p hpi (by omega)
                rw [List.getD, List.getElem?_eq_getElem hpl] at this
                rw [hoz]
                exact this
              have ih := (HH.out.old.seg).index el_int 32768 .i64 p (by simp [HH.out.zl]; omega)
              have ih' : ∀ W : World, (Instr.indexAt 61 (.slice (some ⟨h, 0, none⟩) 32768 32768) (.int .i64 ((p : Int) % 32768))).run Tryd.prog W = .ok (.pointer (some ⟨h, p, none⟩)) W := fun W => by
                have h1 := ih W
                simp only [List.size_toArray, List.length_map, HH.out.zl, Nat.mul_one] at h1
                rw [show (p : Int) % 32768 = p from by omega]
                simpa [bl, ofs] using h1
              clear hcell hoz ih hpl
              go_wp2
              go_roundw
              case rel =>
                refine ⟨size, back, t + 1, m + m2, p, oz, decide (0 ≤ oz), rfl, rfl, rfl, rfl, by go_num, by omega, by first | rfl | rw [World.drewN_drewN], HF', ?_⟩
                have h3 := H3P.out
                rcases HOZ.out with ⟨h1, h2⟩ | h2
                · have hd : ¬ (decide (0 ≤ oz) = true) := by simp; omega
                  show LastIs xs n p (three xs i) (if decide (0 ≤ oz) = true then some oz else none)
                  rw [if_neg hd, ← h3]
                  exact h2
                · have h4 := h2
                  obtain ⟨p2, h5, _⟩ := h4
                  have hd : decide (0 ≤ oz) = true := by simp; omega
                  show LastIs xs n p (three xs i) (if decide (0 ≤ oz) = true then some oz else none)
                  rw [if_pos hd, ← h3]
                  exact h2
              case measure => simp [intOf]; omega
        · exfalso
          omega

end Go.Proofs.YtolcdlopgbgilaaDoor

/-! Text DefC. -/
namespace Go.Proofs.YtolcdlopgbgilaaDoor
open Go.RowKit Go.Dray

def AddPost (f : Nat) (A : Option Addr) (n c : Nat) (xs : List Int) (g h : Nat) (i : Nat) (w : World) (e : Ending) (w' : World) : Prop :=
  e = .returned (.tuple #[]) ∧ ∃ zs, Fst w' f A n c xs g h zs i ∧ Upd [some g, some h] w w'

theorem Fst.older {w : World} {f : Nat} {A : Option Addr} {n c : Nat} {xs : List Int} {g h : Nat} {zs : List Int} {i : Nat} (H : Fst w f A n c xs g h zs i) (p : Nat) (hp : i ≤ p) (u : Int) : Fst (w.setCell ⟨h, p, none⟩ (.int .i64 u)) f A n c xs g h (zs.set p u) i := by
  have hu : Upd [some h] w (w.setCell ⟨h, p, none⟩ (.int .i64 u)) := (Upd.refl _ w).putIn (by simp) _
  refine ⟨H.blk.upd hu (by simp; exact H.blk.ne H.old (by decide)), H.src.upd hu (by simp; exact fun hn => H.bl_h hn), H.nc, H.map.upd hu (by simp; exact H.map.ne H.old), ?_, by rw [List.length_set]; exact H.zl, fun q hq hq3 => ?_, H.small, H.bl_f, H.bl_g, H.bl_h⟩
  · have := H.old.set p (.int .i64 u)
    rw [List.setIfInBounds_toArray, ← List.map_set] at this
    exact this
  · have e : (zs.set p u).getD q 0 = zs.getD q 0 := by simp only [List.getD, List.getElem?_set_ne (show p ≠ q by omega)]
    rw [e]
    exact H.oldr q hq hq3
theorem Fst.store {w : World} {f : Nat} {A : Option Addr} {n c : Nat} {xs : List Int} {g h : Nat} {zs : List Int} {i : Nat} {u : Int} (H : Fst w f A n c xs g h (zs.set i u) i) (ho : Old xs n i u) (hi : i < n) {x y z : Int} (h3 : three xs i = [x, y, z]) :
    ∃ w', (Instr.mapUpdate 145 (.map (some g)) (.agg #[.int .u8 x, .int .u8 y, .int .u8 z]) (.int .i64 i)).run Tryd.prog w.drew = .ok () w' ∧ Fst w' f A n c xs g h (zs.set i u) (i + 1) ∧ Upd [some g] w.drew w' := by
  have hl3 : i + 3 ≤ n := by
    have := congrArg List.length h3
    unfold three at this
    rw [List.length_take, List.length_drop, H.len] at this
    simp at this
    omega
  have hm : Places w.drew g 3 (Last xs n i) := H.map
  obtain ⟨w', hr, hp, hu⟩ := hm.store (P := Tryd.prog) (R' := Last xs n (i + 1)) under_map under_three Tryd.underlying5 size_byte (three xs i) (by rw [h3]; rfl) i (fun _ h => h.put hl3)
  rw [h3] at hr
  have hul : Upd [some g] w w' := (Upd.refl _ w).drew.trans hu
  refine ⟨w', hr, ⟨H.blk.upd hul (by simp; exact fun e => H.map.ne H.blk e.symm), H.src.upd hul (by simp; exact fun hn => H.bl_g hn), H.nc, hp, H.old.upd hul (by simp; exact fun e => H.map.ne H.old e.symm), H.zl, fun q hq hq3 => ?_, H.small, H.bl_f, H.bl_g, H.bl_h⟩, hu⟩
  by_cases hqi : q < i
  · exact H.oldr q hqi hq3
  · obtain rfl : q = i := by omega
    have hzl := H.zl
    rw [List.length_set] at hzl
    have hsm := H.small
    have e : (zs.set q u).getD q 0 = u := by rw [List.getD, List.getElem?_set_self (by omega)]; rfl
    rw [e]
    exact ho

set_option maxRecDepth 100000 in
set_option maxHeartbeats 2000000 in
theorem add_any {w : World} {f : Nat} {A : Option Addr} {n c : Nat} {xs : List Int} {g h : Nat} {zs : List Int} {i : Nat} (H : Fst w f A n c xs g h zs i) (hi : i < n) :
    Calls Tryd.prog 101 #[.pointer (some ⟨f, 0, none⟩), .int .i64 i] w (AddPost f A n c xs g h (i + 1) w) := by
  have hn := H.small
  have HH := Lib.hid H
  have c0 := H.blk.cell 0
  simp at c0
  have hnc := H.nc
  clear H
  by_cases hs : n - i < 3
  · have d1 : decide ((n : Int) - i < 3) = true := by simp; omega
    go_enter Tryd.func101, Tryd.ntmps101
    go_wp2
    go_end0
    exact ⟨rfl, zs, ⟨HH.out.blk, HH.out.src, HH.out.nc, HH.out.map.mono fun _ h => h.succ (by omega), HH.out.old, HH.out.zl, fun p hp hp3 => HH.out.oldr p (by omega) hp3, HH.out.small, HH.out.bl_f, HH.out.bl_g, HH.out.bl_h⟩, Upd.refl _ _⟩
  · have d1 : decide ((n : Int) - i < 3) = false := by simp; omega
    have hA := Seg.at_ HH.out.src (by omega)
    have hcut := run_cut_lh el_byte A n c .i64 .i64 (i : Int) ((i : Int) + 3) i (i + 3) rfl (by omega) (by omega) (by omega)
    have hcA : cutA 1 A c i = some ⟨bl A, ofs A + i, none⟩ := by
      unfold cutA
      rw [if_neg (by omega)]
      generalize bl A = b at hA ⊢
      generalize ofs A = o at hA ⊢
      subst hA
      simp [Addr.add_lit]
    rw [hcA, show i + 3 - i = 3 from by omega] at hcut
    have har : ∀ W, (Instr.arrayAt 175 (.slice (some ⟨bl A, ofs A + i, none⟩) 3 (c - i))).run Tryd.prog W = .ok (.pointer (some ⟨bl A, ofs A + i, none⟩)) W := fun W => by
      simp [Instr.arrayAt, run_underlying under_three]
    obtain ⟨x, HX, cx⟩ := HH.out.src.int (i := i) (by omega)
    obtain ⟨y, HY, cy⟩ := HH.out.src.int (i := i + 1) (by omega)
    obtain ⟨z, HZ, cz⟩ := HH.out.src.int (i := i + 2) (by omega)
    rw [← Nat.add_assoc] at cy cz
    have H3 : Hid (three xs i = [x, y, z]) := three_eq HX.out HY.out HZ.out
    obtain ⟨w1, hw1⟩ : ∃ w1 : World, w1 = w.alloc (.cells #[.int .u8 x, .int .u8 y, .int .u8 z] 175) := ⟨_, rfl⟩
    obtain ⟨b3, hb3⟩ : ∃ b3, b3 = w.heap.size := ⟨_, rfl⟩
    have hu1 : Upd [] w w1 := by rw [hw1]; exact (Upd.refl _ _).alloc _
    have HK1 : Hid (Blk w1 b3 175 #[.int .u8 x, .int .u8 y, .int .u8 z]) := by rw [hw1, hb3]; exact Blk.new _ _ _
    have HF1 : Hid (Fst w1 f A n c xs g h zs i) := HH.out.upd hu1 (by simp) (by simp) (by simp) (by simp)
    have HU1 := Lib.hid hu1
    clear hu1 hA hcA
    go_enter Tryd.func101, Tryd.ntmps101
    go_wp2
    rw [← hw1, ← hb3]
    clear hw1 hb3 cx cy cz hcut har c0
    have k1 := HF1.out.blk.cell 1
    have k2 := HF1.out.blk.cell 2
    simp at k1 k2
    have e0 := HK1.out.cell 0
    have e1 := HK1.out.cell 1
    have e2 := HK1.out.cell 2
    simp at e0 e1 e2
    obtain ⟨fl, hfl, v, ok, hlk, hok⟩ := HF1.out.map.look (P := Tryd.prog) under_map under_three Tryd.underlying5 size_byte zero_int (three xs i) (three_len (by rw [HH.out.len]; omega))
    have hlk1 : ∀ q, (Instr.lookup 145 (.map (some g)) (.agg #[.int .u8 x, .int .u8 y, .int .u8 z]) true).run Tryd.prog (w1.drewN q) = .ok (.tuple #[.int .i64 v, .bool ok]) (w1.drewN q) := fun q => by
      have := hlk (w1.drewN q) rfl
      rw [H3.out] at this
      exact this
    have HOK : Hid (Old xs n i (if ok = true then v else -1)) := hfl.old hok
    clear hlk hok hfl
    go_quiet (fail)
    obtain ⟨w2, hw2⟩ : ∃ w2 : World, w2 = w1.drewN nq := ⟨_, rfl⟩
    have HF2 : Hid (Fst w2 f A n c xs g h zs i) := by rw [hw2]; exact HF1.out.drewN nq
    have HK2 : Hid (Blk w2 b3 175 #[.int .u8 x, .int .u8 y, .int .u8 z]) := by rw [hw2]; exact HK1.out
    have HU2 : Hid (Upd [] w w2) := by rw [hw2]; exact HU1.out.drewN nq
    rw [← hw2]
    clear hw2 HF1 HK1 HU1 hlk1 k1 k2 e0 e1 e2
    have k1 := HF2.out.blk.cell 1
    have k2 := HF2.out.blk.cell 2
    simp at k1 k2
    have hf2 := HF2.out.old.frozen i
    have hpl : i < zs.length := by rw [HF2.out.zl]; omega
    obtain ⟨oz, hoz⟩ : ∃ oz, oz = zs[i] := ⟨_, rfl⟩
    have co : w2.cell? ⟨h, i, none⟩ = some (.int .i64 oz) := by rw [HF2.out.old.cell, hoz]; simp [hpl]
    have ih := (HF2.out.old.seg).index el_int 32768 .i64 i (by simp [HF2.out.zl]; omega)
    have ih' : ∀ W : World, (Instr.indexAt 61 (.slice (some ⟨h, 0, none⟩) 32768 32768) (.int .i64 ((i : Int) % 32768))).run Tryd.prog W = .ok (.pointer (some ⟨h, i, none⟩)) W := fun W => by
      have h1 := ih W
      simp only [List.size_toArray, List.length_map, HF2.out.zl, Nat.mul_one] at h1
      rw [show (i : Int) % 32768 = i from by omega]
      simpa [bl, ofs] using h1
    clear hoz ih hpl
    cases ok with
    | true =>
      have hox : Old xs n i (v) := HOK.out
      go_wp2
      have hwz : (zs.set i (v)).length = 32768 := by rw [List.length_set]; exact HF2.out.zl
      have HF3 : Hid (Fst (w2.setCell ⟨h, i, none⟩ (.int .i64 (v))) f A n c xs g h (zs.set i (v)) i) := HF2.out.older i (by omega) _
      have HK3 : Hid (Blk (w2.setCell ⟨h, i, none⟩ (.int .i64 (v))) b3 175 #[.int .u8 x, .int .u8 y, .int .u8 z]) := HK2.out.far (p := ⟨h, i, none⟩) (fun e => HK2.out.ne HF2.out.old (by decide) e) _
      have HU3 : Hid (Upd [some g, some h] w (w2.setCell ⟨h, i, none⟩ (.int .i64 (v)))) := (HU2.out.mono (by simp)).putIn (by simp) _
      have HOX := Lib.hid hox
      generalize w2.setCell ⟨h, i, none⟩ (.int .i64 (v)) = w3 at HF3 HK3 HU3 ⊢
      clear HF2 HK2 HU2 k1 k2 hf2 co ih' hox hwz
      have k1 := HF3.out.blk.cell 1
      simp at k1
      have e0 := HK3.out.cell 0
      have e1 := HK3.out.cell 1
      have e2 := HK3.out.cell 2
      simp at e0 e1 e2
      go_still_tail 6, (by kernel_rfl)
      change wpList _ _ _ _ _ w3.drew
      obtain ⟨w4, hrun, hmap, hu4⟩ := HF3.out.store HOX.out hi (x := x) (y := y) (z := z) H3.out
      have hst : (Instr.mapUpdate 145 (.map (some g)) (.agg #[.int .u8 x, .int .u8 y, .int .u8 z]) (.int .i64 i)).run Tryd.prog w3.drew = .ok () w4 := hrun
      have HF4 := Lib.hid hmap
      have HU4 : Hid (Upd [some g, some h] w w4) := (HU3.out.drew).trans (hu4.mono (by simp))
      clear hrun hmap hu4 HF3 HK3 HU3 k1 e0 e1 e2
      have d5 : decide ((0 : Int) ≤ (i : Int) - 32768) = false := by simp; omega
      have d6 : decide ((32768 : Int) ≤ (i : Int)) = false := by simp; omega
      go_wp2
      go_end0
      exact ⟨rfl, zs.set i (v), HF4.out, HU4.out⟩
    | false =>
      have hox : Old xs n i (-1) := HOK.out
      go_wp2
      have hwz : (zs.set i (-1)).length = 32768 := by rw [List.length_set]; exact HF2.out.zl
      have HF3 : Hid (Fst (w2.setCell ⟨h, i, none⟩ (.int .i64 (-1))) f A n c xs g h (zs.set i (-1)) i) := HF2.out.older i (by omega) _
      have HK3 : Hid (Blk (w2.setCell ⟨h, i, none⟩ (.int .i64 (-1))) b3 175 #[.int .u8 x, .int .u8 y, .int .u8 z]) := HK2.out.far (p := ⟨h, i, none⟩) (fun e => HK2.out.ne HF2.out.old (by decide) e) _
      have HU3 : Hid (Upd [some g, some h] w (w2.setCell ⟨h, i, none⟩ (.int .i64 (-1)))) := (HU2.out.mono (by simp)).putIn (by simp) _
      have HOX := Lib.hid hox
      generalize w2.setCell ⟨h, i, none⟩ (.int .i64 (-1)) = w3 at HF3 HK3 HU3 ⊢
      clear HF2 HK2 HU2 k1 k2 hf2 co ih' hox hwz
      have k1 := HF3.out.blk.cell 1
      simp at k1
      have e0 := HK3.out.cell 0
      have e1 := HK3.out.cell 1
      have e2 := HK3.out.cell 2
      simp at e0 e1 e2
      go_still_tail 6, (by kernel_rfl)
      change wpList _ _ _ _ _ w3.drew
      obtain ⟨w4, hrun, hmap, hu4⟩ := HF3.out.store HOX.out hi (x := x) (y := y) (z := z) H3.out
      have hst : (Instr.mapUpdate 145 (.map (some g)) (.agg #[.int .u8 x, .int .u8 y, .int .u8 z]) (.int .i64 i)).run Tryd.prog w3.drew = .ok () w4 := hrun
      have HF4 := Lib.hid hmap
      have HU4 : Hid (Upd [some g, some h] w w4) := (HU3.out.drew).trans (hu4.mono (by simp))
      clear hrun hmap hu4 HF3 HK3 HU3 k1 e0 e1 e2
      have d5 : decide ((0 : Int) ≤ (i : Int) - 32768) = false := by simp; omega
      have d6 : decide ((32768 : Int) ≤ (i : Int)) = false := by simp; omega
      go_wp2
      go_end0
      exact ⟨rfl, zs.set i (-1), HF4.out, HU4.out⟩

end Go.Proofs.YtolcdlopgbgilaaDoor

/-! Text DefD. -/
namespace Go.Proofs.YtolcdlopgbgilaaDoor
open Go.RowKit Go.Dray

theorem el_piece : El Tryd.prog 79 113 (.agg #[.int .i32 0, .int .i32 0]) 2 8 := ⟨Tryd.underlying79, by kernel_rfl, rfl, by omega⟩

/-- A piece's cells. -/
def pcell (x : Piece) : List Value := [.int .i32 x.1, .int .i32 x.2]
def pcells (ps : List Piece) : List Value := ps.flatMap pcell
theorem pcells_snoc (ps : List Piece) (x : Piece) : pcells (ps ++ [x]) = pcells ps ++ [.int .i32 x.1, .int .i32 x.2] := by simp [pcells, pcell]
theorem pcells_len (ps : List Piece) : (pcells ps).length = ps.length * 2 := by
  induction ps with
  | nil => rfl
  | cons x ps ih =>
    have : pcells (x :: ps) = pcell x ++ pcells ps := by simp [pcells]
    rw [this, List.length_append, ih, List.length_cons]
    simp [pcell]
    omega
theorem pcells_get {ps : List Piece} {k : Nat} {x : Piece} (h : ps[k]? = some x) : (pcells ps)[k * 2]? = some (.int .i32 x.1) ∧ (pcells ps)[k * 2 + 1]? = some (.int .i32 x.2) := by
  induction ps generalizing k with
  | nil => simp at h
  | cons y ps ih =>
    have e : pcells (y :: ps) = .int .i32 y.1 :: .int .i32 y.2 :: pcells ps := by simp [pcells, pcell]
    rw [e]
    match k, h with
    | 0, h => simp at h; subst h; exact ⟨rfl, rfl⟩
    | k + 1, h =>
      have := ih (k := k) (by simpa using h)
      rw [show (k + 1) * 2 = k * 2 + 1 + 1 from by omega]
      exact ⟨by simpa using this.1, by simpa using this.2⟩

/-- The pieces that the closure has captured: in a box. -/
structure PSt (w : World) (B bx : Nat) (PA : Option Addr) (c : Nat) (ps : List Piece) : Prop where
  box : Blk w bx 79 #[.slice PA ps.length c]
  own : Own w B 113 2 PA ps.length c (pcells ps)
  bb : B ≤ bx
  bw : B ≤ w.heap.size
theorem PSt.upd {w w' : World} {B bx : Nat} {PA : Option Addr} {c : Nat} {ps : List Piece} {L : List (Option Nat)} (H : PSt w B bx PA c ps) (hu : Upd L w w') (h1 : some bx ∉ L) (h2 : ∀ g, ob PA = some g → some g ∉ L) : PSt w' B bx PA c ps :=
  ⟨H.box.upd hu h1, H.own.upd hu h2, H.bb, Nat.le_trans H.bw hu.size⟩

def PutPost (w : World) (B bx : Nat) (PA : Option Addr) (ps : List Piece) (e : Ending) (w' : World) : Prop :=
  e = .returned (.tuple #[]) ∧ ∃ PA' c', PSt w' B bx PA' c' ps ∧ Upd [some bx, ob PA] w w' ∧ Fresh w PA PA'

theorem Seg.twoD (w : World) (x y : Value) (t : TypeId) : Seg (w.alloc (.cells #[x, y] t)) 2 (some ⟨w.heap.size, 0, none⟩) 1 [x, y] :=
  ⟨rfl, fun _ => rfl, fun k u hu => by
    match k, hu with
    | 0, hu => simp at hu; subst hu; simp [bl, ofs]
    | 1, hu => simp at hu; subst hu; simp [bl, ofs]⟩

set_option maxRecDepth 100000 in
set_option maxHeartbeats 1000000 in
theorem put_piece {w : World} {B bx : Nat} {PA : Option Addr} {c : Nat} {ps : List Piece} (H : PSt w B bx PA c ps) (hl : ps.length ≤ 100000) (x y : Nat) (hx : x ≤ 100000) (hy : y ≤ 100000) :
    Calls Tryd.prog 76 #[.int .i64 x, .int .i64 y, .pointer (some ⟨bx, 0, none⟩)] w (PutPost w B bx PA (ps ++ [((x : Int), (y : Int))])) := by
  have HH := Lib.hid H
  have c0 := H.box.cell 0
  simp at c0
  have f0 := H.box.frozen 0
  have wx : IntKind.i32.wrap (x : Int) = x := by rw [IntKind.wrap_i32]; omega
  have wy : IntKind.i32.wrap (y : Int) = y := by rw [IntKind.wrap_i32]; omega
  clear H
  have hsl := Seg.twoD w (.int .i32 (x : Int)) (.int .i32 (y : Int)) 113
  have hu0 : Upd [] w (w.alloc (.cells #[.int .i32 (x : Int), .int .i32 (y : Int)] 113)) := (Upd.refl _ w).alloc _
  go_enter Tryd.func76, Tryd.ntmps76
  go_wp2_with (at_builtin; refine wpList_app rfl rfl el_piece rfl (HH.out.own.alloc _) rfl hsl (by simp [Value.oneCell']) (by simp only [maxLen]; omega) (by omega) (by have := HH.out.bw; simp; omega) ?_; intro PA' c' w2 hown hu hfr; have HB2 := Lib.hid ((HH.out.box.alloc (.cells #[.int .i32 (x : Int), .int .i32 (y : Int)] 113)).upd hu (by simp; exact fun e => HH.out.own.neBlk HH.out.box (by decide) e.symm)); have k0 := HB2.out.cell 0; simp at k0; have kf := HB2.out.frozen 0)
  have hug : Upd [some bx, ob PA] w w2 := ((Upd.refl _ w).alloc _).trans (hu.mono (by simp; intro b hb; exact Or.inr hb))
  have hob : ∀ k, ob PA' = some k → k ≠ bx := fun k hk e => by subst e; exact hown.neBlk HB2.out (by decide) hk
  go_end0
  refine ⟨rfl, PA', c', ⟨?_, ?_, HH.out.bb, ?_⟩, hug.putIn (by simp) _, fun k hk => ?_⟩
  · have := HB2.out.set 0 (.slice PA' (ps.length + 1) c')
    rw [List.length_append]
    exact this
  · rw [pcells_snoc, List.length_append]
    exact hown.far (p := ⟨bx, 0, none⟩) (fun e => hob bx e rfl) _
  · have := HH.out.bw
    have := hug.size
    simp
    omega
  · rcases hfr k hk with h | h
    · exact Or.inl h
    · right; simp at h; omega

end Go.Proofs.YtolcdlopgbgilaaDoor

/-! Text DefE. -/
namespace Go.Proofs.YtolcdlopgbgilaaDoor
open Go.RowKit Go.Dray

theorem cp_run {xs : List Int} {i back : Nat} (hb : 1 ≤ back) (hbi : back ≤ i) : ∀ n : Nat, i + n ≤ xs.length → (∀ j, j < n → xs.getD (i - back + j) 0 = xs.getD (i + j) 0) → xs.take i ++ cp (xs.take i) back n = xs.take (i + n) := by
  intro n
  induction n with
  | zero => intro _ _; simp [cp]
  | succ n ih =>
    intro hl he
    have h1 := ih (by omega) (fun j hj => he j (by omega))
    rw [cp, ← List.append_assoc, h1]
    have hlen : (xs.take (i + n)).length = i + n := by rw [List.length_take]; omega
    rw [hlen]
    have e : (xs.take (i + n)).getD (i + n - back) 0 = xs.getD (i + n) 0 := by
      have h2 := he n (by omega)
      rw [← h2, show i - back + n = i + n - back from by omega]
      simp only [List.getD, List.getElem?_take_of_lt (show i + n - back < i + n by omega)]
    rw [e, show i + (n + 1) = i + n + 1 from rfl, List.take_succ_eq_append_getElem (by omega), List.getD, List.getElem?_eq_getElem (show i + n < xs.length by omega)]
    rfl

/-- What is found makes a piece. -/
theorem found_piece {xs : List Int} {n i size back : Nat} (hx : xs.length = n) (hi : i < n) (hz : ∀ z ∈ xs, 0 ≤ z ∧ z ≤ 255) (hn : n ≤ 3000) (h : Found xs n i size back) (x : Piece) (hp : x = if back = 0 then (xs.getD i 0, 0) else ((size : Int), (back : Int))) :
    PieceOk (xs.take i) x ∧ grow1 (xs.take i) x = xs.take (i + size) ∧ i + size ≤ n ∧ 1 ≤ size := by
  have hlen : (xs.take i).length = i := by rw [List.length_take]; omega
  rcases h with ⟨rfl, rfl⟩ | ⟨h1, h2, h3, h4, h5, h6⟩
  · rw [if_pos rfl] at hp
    subst hp
    have hg : xs.getD i 0 = xs[i] := by rw [List.getD, List.getElem?_eq_getElem (by omega)]; rfl
    have hb := hz xs[i] (List.getElem_mem _)
    refine ⟨Or.inl ⟨rfl, by rw [hg]; exact hb.1, by rw [hg]; exact hb.2⟩, ?_, by omega, by omega⟩
    unfold grow1
    rw [if_pos rfl, hg, List.take_succ_eq_append_getElem (by omega)]
  · rw [if_neg (by omega)] at hp
    subst hp
    refine ⟨Or.inr ⟨by simp; omega, by simp; omega, by simp; omega, by simp; omega, by rw [hlen]; simp; omega⟩, ?_, by omega, by omega⟩
    unfold grow1
    rw [if_neg (by simp; omega)]
    simp only [Int.toNat_natCast]
    exact cp_run h3 h4 size (by omega) h6

theorem own_whole {w : World} {B : Nat} {e : TypeId} {A : Option Addr} {n : Nat} {xs : List Value} (h : Own w B e 1 A n n xs) (hn : 0 < n) : ∃ b, A = some ⟨b, 0, none⟩ ∧ B ≤ b ∧ Blk w b e xs.toArray := by
  rcases h.cases.2.2.2 with ⟨_, h0, _⟩ | ⟨g, cur, hA, hB, hb, hs, ht⟩
  · omega
  · refine ⟨g, hA, hB, ?_⟩
    rw [List.take_of_length_le (by rw [Array.length_toList, hs]; omega)] at ht
    rw [← ht]
    exact hb

theorem Fst.put {w w' : World} {f : Nat} {A : Option Addr} {n c : Nat} {xs : List Int} {g h : Nat} {zs : List Int} {i : Nat} (H : Fst w f A n c xs g h zs i) {B bx : Nat} {PA : Option Addr} {pc : Nat} {ps : List Piece} (hp : PSt w B bx PA pc ps) (hu : Upd [some bx, ob PA] w w') (hA : 0 < n → bl A < B) : Fst w' f A n c xs g h zs i :=
  H.upd hu (by simp; exact ⟨fun e => H.blk.ne hp.box (by decide) e, fun e => hp.own.neBlk H.blk (by decide) e.symm⟩) (by simp; exact ⟨fun e => H.map.ne hp.box e, fun e => H.map.neOwn hp.own e.symm⟩)
    (by simp; exact ⟨fun e => H.old.ne hp.box (by decide) e, fun e => hp.own.neBlk H.old (by decide) e.symm⟩)
    (fun hn => by simp; exact ⟨fun e => by have := hA hn; have := hp.bb; omega, fun e => by have := hA hn; have := (hp.own.base e.symm).1; omega⟩)

def RunsPost (w : World) (B bx : Nat) (xs : List Int) (e : Ending) (w' : World) : Prop :=
  e = .returned (.tuple #[]) ∧ ∃ PA c ps, PSt w' B bx PA c ps ∧ PiecesOk ps [] ∧ (expand ps [] = xs ∧ Parsed xs xs.length 0 ps) ∧ Upd [some bx] w w'

/-- The state between two pieces. -/
def RunsAt (w wr : World) (B bx f : Nat) (A : Option Addr) (n c : Nat) (xs : List Int) (g h i : Nat) : Prop :=
  ∃ PA pc ps zs, Fst wr f A n c xs g h zs i ∧ PSt wr B bx PA pc ps ∧ PiecesOk ps [] ∧ (expand ps [] = xs.take i ∧ ParsedTo xs n i ps) ∧ Upd [some bx] w wr ∧ ∀ k, ob PA = some k → w.heap.size ≤ k

set_option maxRecDepth 100000 in
set_option maxHeartbeats 2000000 in
theorem runs_any {w : World} {B bx : Nat} {c0 : Nat} (A : Option Addr) (n c : Nat) (xs : List Int) (hs : Ints .u8 w A n xs) (hz : ∀ z ∈ xs, 0 ≤ z ∧ z ≤ 255) (hn : n ≤ 3000) (hnc : n ≤ c) (H : PSt w B bx none c0 []) (hA : 0 < n → bl A < B) :
    Calls Tryd.prog 75 #[.slice A n c, .func (.func 76) #[] #[.pointer (some ⟨bx, 0, none⟩)]] w (RunsPost w B bx xs) := by
  have HS := Lib.hid hs
  have HZ := Lib.hid hz
  have HP := Lib.hid H
  have HA := Lib.hid hA
  have hshort : decide ((n : Int) ≤ 16000) = true := by simp; omega
  clear hs hz H hA
  have hmk : (Instr.makeMap 145 none).run Tryd.prog w = .ok (.map (some w.heap.size)) (w.alloc (.map #[] 0)) := by
    simp [Instr.makeMap, newObj, Sem.run]
  obtain ⟨w1, hw1⟩ : ∃ w1 : World, w1 = w.alloc (.map #[] 0) := ⟨_, rfl⟩
  obtain ⟨g, hg⟩ : ∃ g, g = w.heap.size := ⟨_, rfl⟩
  have HM1 : Hid (Places w1 g 3 (Last xs n 0)) := by rw [hw1, hg]; exact Places.new _ _ (Last.none xs n)
  have HU1 : Hid (Upd [] w w1) := by rw [hw1]; exact (Upd.refl _ w).alloc _
  have HG : Hid (w.heap.size = g) := hg.symm
  go_enter Tryd.func75, Tryd.ntmps75
  go_wp2_with (refine wpList_mk rfl rfl g el_int 32768 rfl rfl rfl rfl rfl (by omega) (by simp only [maxLen]; omega) (by simp; omega) ?_; intro HA2 w2 hown2 hu2 hob2; obtain ⟨h, rfl, hgh, hold⟩ := own_whole hown2 (by omega))
  rw [HG.out]
  obtain ⟨f, hf⟩ : ∃ f, f = w2.heap.size := ⟨_, rfl⟩
  obtain ⟨w3, hw3⟩ : ∃ w3 : World, w3 = w2.alloc (.cells #[.slice A n c, .map (some g), .slice (some ⟨h, 0, none⟩) 32768 32768, .int .i64 n] 147) := ⟨_, rfl⟩
  rw [← hf, ← hw3]
  rw [← hw1] at hu2
  have hu3 : Upd [] w2 w3 := by rw [hw3]; exact (Upd.refl _ _).alloc _
  have hblk : Blk w3 f 147 #[.slice A n c, .map (some g), .slice (some ⟨h, 0, none⟩) 32768 32768, .int .i64 n] := by rw [hw3, hf]; exact Blk.new _ _ _
  have HU3 : Hid (Upd [] w w3) := (HU1.out.trans hu2).trans hu3
  have HB : Hid (B ≤ w.heap.size) := HP.out.bw
  have hfw : w.heap.size ≤ f := by rw [hf]; exact (HU1.out.trans hu2).size
  have hgw : w.heap.size ≤ g := by omega
  have hhw : w.heap.size ≤ h := by omega
  have HF3 : Hid (Fst w3 f A n c xs g h (List.replicate 32768 0) 0) :=
    ⟨hblk, HS.out.upd HU3.out (by simp), hnc, (HM1.out.upd hu2 (by simp)).upd hu3 (by simp), by have := hold.upd hu3 (by simp); rw [List.map_replicate]; exact this, by simp, fun p hp => by omega, hn,
      fun hp => by have := HA.out hp; have := HB.out; omega, fun hp => by have := HA.out hp; have := HB.out; omega, fun hp => by have := HA.out hp; have := HB.out; omega⟩
  have HP3 : Hid (PSt w3 B bx none c0 []) := HP.out.upd HU3.out (by simp) (by simp)
  have HXL : Hid (xs.length = n) := HS.out.len.out
  have HFW : Hid (w.heap.size ≤ f ∧ w.heap.size ≤ g ∧ w.heap.size ≤ h) := ⟨hfw, hgw, hhw⟩
  clear hu2 hu3 hblk hold hown2 hob2 hw1 hw3 hf hgh hfw hgw hhw hmk HM1 HU1 HG HP hg
  go_loopw [5] (fun v wr => ∃ i : Nat, i ≤ n ∧ v = .int .i64 i ∧ Hid (RunsAt w wr B bx f A n c xs g h i)) (fun v _ => n - (intOf v).toNat)
  case atStart => exact ⟨0, by omega, rfl, none, c0, [], _, HF3.out, HP3.out, trivial, ⟨rfl, ParsedTo.start xs n⟩, HU3.out.mono (by simp), fun k hk => by cases hk⟩
  case round =>
    clear HF3 HP3 HU3
    obtain ⟨i, hi, rfl, HR⟩ := hrel
    by_cases hlt : i < n
    · obtain ⟨PA, pc, ps, zs, hF, hP, hok, hex, hu, hpb⟩ := HR.out
      have HPB := Lib.hid hpb
      have HFr := Lib.hid hF
      have HPr := Lib.hid hP
      have HOK := Lib.hid hok
      have HEX := Lib.hid hex.1
      have HPT := Lib.hid hex.2
      have HUr := Lib.hid hu
      have HPL : Hid (ps.length ≤ 3000) := by
        have h1 := expand_ge ps [] hok
        rw [hex.1, List.length_take] at h1
        simp at h1
        show _ ≤ _
        omega
      clear hF hP hok hex hu hpb HR
      go_wp2_with fail
      refine (find_any HFr.out hlt).mono ?_
      rintro e w4 ⟨size, back, m, rfl, rfl, hfound⟩
      obtain ⟨x, hx⟩ : ∃ x : Piece, x = if back = 0 then (xs.getD i 0, 0) else ((size : Int), (back : Int)) := ⟨_, rfl⟩
      obtain ⟨hxok, hxg, hin, hs1⟩ := found_piece HXL.out hlt HZ.out hn hfound.found x hx
      have hsb : size ≤ 3000 ∧ back ≤ 3000 := by rcases hfound.found with ⟨h1, h2⟩ | ⟨h1, h2, h3, h4, h5, h6⟩ <;> omega
      have HFm := Lib.hid (HFr.out.drewN m)
      have HPm : Hid (PSt (wr.drewN m) B bx PA pc ps) := HPr.out.upd ((Upd.refl [] wr).drewN m) (by simp) (by simp)
      have HUm : Hid (Upd [some bx] w (wr.drewN m)) := HUr.out.drewN m
      have HOK2 : Hid (PiecesOk (ps ++ [x]) []) := HOK.out.snoc (by rw [HEX.out]; exact hxok)
      have HEX2 : Hid (expand (ps ++ [x]) [] = xs.take (i + size)) := by show _ = _; rw [expand_snoc, HEX.out, hxg]
      have HPT2 : Hid (ParsedTo xs n (i + size) (ps ++ [x])) := HPT.out.step hlt hfound hx
      have HX := Lib.hid hx
      generalize wr.drewN m = w5 at HFm HPm HUm ⊢
      clear HFr HPr HUr HOK HEX HPT hxok hxg hfound hx
      have HBA : Hid (0 < n → bl A < B) := HA.out
      by_cases hb0 : back = 0
      · have d4 : ((back : Int) == 0) = true := by simp; omega
        obtain ⟨z, HZI, cz⟩ := HFm.out.src.int hlt
        have hzb := HZ.out z (List.mem_of_getElem? HZI.out)
        obtain ⟨zn, rfl⟩ := Int.eq_ofNat_of_zero_le hzb.1
        have hzn : zn ≤ 255 := by omega
        have ix := HFm.out.src.index el_byte c .i64 i hlt
        have HPUT : Hid (Calls Tryd.prog 76 #[.int .i64 (zn : Int), .int .i64 0, .pointer (some ⟨bx, 0, none⟩)] w5 (PutPost w5 B bx PA (ps ++ [x]))) := by
          have h1 := put_piece HPm.out (by have := HPL.out; omega) zn 0 (by omega) (by omega)
          have h2 := HX.out
          rw [if_pos hb0, List.getD, HZI.out] at h2
          rw [h2]
          exact h1
        clear hzb hb0
        go_wp2_with (first | (go_at_call 76; refine HPUT.out.mono ?_; rintro e w6 ⟨rfl, PA6, pc6, hps6, hu6, hfr6⟩; have HF6 := Lib.hid (HFm.out.put HPm.out hu6 HBA.out); have HP6 := Lib.hid hps6; have HU6 : Hid (Upd [some bx] w w6) := HUm.out.then hu6 (by intro b hb; simp at hb; rcases hb with hb | hb; exact Or.inl (by simp [hb]); exact Or.inr (HPB.out b hb.symm)); have HPB6 : Hid (∀ k, ob PA6 = some k → w.heap.size ≤ k) := (fun k hk => by rcases hfr6 k hk with h | h; exact HPB.out k h; have := HUm.out.size; omega); clear hps6 hu6 hfr6 HFm HPm HUm HPUT) | fail)
        go_loopw [46] (fun v wr => ∃ k : Nat, k ≤ size ∧ v = .int .i64 k ∧ Hid (∃ zs, Fst wr f A n c xs g h zs (i + k) ∧ PSt wr B bx PA6 pc6 (ps ++ [x]) ∧ Upd [some bx] w wr)) (fun v _ => size - (intOf v).toNat)
        case atStart => exact ⟨0, by omega, rfl, zs, HF6.out, HP6.out, HU6.out⟩
        case round =>
          clear HF6 HP6 HU6
          obtain ⟨k, hk, rfl, HR⟩ := hrel
          by_cases hks : k < size
          · obtain ⟨zs1, hF, hP, hu⟩ := HR.out
            have HFr := Lib.hid hF
            have HPr := Lib.hid hP
            have HUr := Lib.hid hu
            clear hF hP hu HR
            have HADD : Hid (∀ W, W = wr → Calls Tryd.prog 101 #[.pointer (some ⟨f, 0, none⟩), .int .i64 ((i : Int) + k)] W (AddPost f A n c xs g h (i + k + 1) W)) := by
              rintro W rfl
              have := add_any HFr.out (by omega)
              rw [Int.natCast_add] at this
              exact this
            go_wp2_with fail
            refine (HADD.out _ rfl).mono ?_
            rintro e w7 ⟨rfl, zs2, hF2, hu2⟩
            have HP7 := Lib.hid (HPr.out.upd hu2 (by simp; exact ⟨fun e => HFr.out.map.ne HPr.out.box e.symm, fun e => HPr.out.box.ne HFr.out.old (by decide) e⟩) (fun k hk => by simp; exact ⟨fun e => HFr.out.map.neOwn HPr.out.own (by rw [hk, e]), fun e => HPr.out.own.neBlk HFr.out.old (by decide) (by rw [hk, e])⟩))
            have HU7 : Hid (Upd [some bx] w w7) := HUr.out.then hu2 (by intro b hb; simp at hb; right; have := HFW.out; rcases hb with rfl | rfl <;> omega)
            have HF7 := Lib.hid hF2
            clear hF2 hu2 HFr HPr HUr HADD
            go_wp2
            go_roundw
            case rel => exact ⟨k + 1, by omega, by go_num, ⟨zs2, HF7.out, HP7.out, HU7.out⟩⟩
            case measure => simp [intOf]; omega
          · obtain rfl : k = size := by omega
            go_wp2
            go_roundw
            case rel =>
              obtain ⟨zs1, hF, hP, hu⟩ := HR.out
              exact ⟨i + k, by omega, by go_num, PA6, pc6, _, zs1, hF, hP, HOK2.out, ⟨HEX2.out, HPT2.out⟩, hu, HPB6.out⟩
            case measure => simp [intOf]; omega
      · have d4 : ((back : Int) == 0) = false := by simp; omega
        have HPUT : Hid (Calls Tryd.prog 76 #[.int .i64 (size : Int), .int .i64 (back : Int), .pointer (some ⟨bx, 0, none⟩)] w5 (PutPost w5 B bx PA (ps ++ [x]))) := by
          have h1 := put_piece HPm.out (by have := HPL.out; omega) size back (by omega) (by omega)
          have h2 := HX.out
          rw [if_neg hb0] at h2
          rw [h2]
          exact h1
        go_wp2_with (first | (go_at_call 76; refine HPUT.out.mono ?_; rintro e w6 ⟨rfl, PA6, pc6, hps6, hu6, hfr6⟩; have HF6 := Lib.hid (HFm.out.put HPm.out hu6 HBA.out); have HP6 := Lib.hid hps6; have HU6 : Hid (Upd [some bx] w w6) := HUm.out.then hu6 (by intro b hb; simp at hb; rcases hb with hb | hb; exact Or.inl (by simp [hb]); exact Or.inr (HPB.out b hb.symm)); have HPB6 : Hid (∀ k, ob PA6 = some k → w.heap.size ≤ k) := (fun k hk => by rcases hfr6 k hk with h | h; exact HPB.out k h; have := HUm.out.size; omega); clear hps6 hu6 hfr6 HFm HPm HUm HPUT) | fail)
        go_loopw [46] (fun v wr => ∃ k : Nat, k ≤ size ∧ v = .int .i64 k ∧ Hid (∃ zs, Fst wr f A n c xs g h zs (i + k) ∧ PSt wr B bx PA6 pc6 (ps ++ [x]) ∧ Upd [some bx] w wr)) (fun v _ => size - (intOf v).toNat)
        case atStart => exact ⟨0, by omega, rfl, zs, HF6.out, HP6.out, HU6.out⟩
        case round =>
          clear HF6 HP6 HU6
          obtain ⟨k, hk, rfl, HR⟩ := hrel
          by_cases hks : k < size
          · obtain ⟨zs1, hF, hP, hu⟩ := HR.out
            have HFr := Lib.hid hF
            have HPr := Lib.hid hP
            have HUr := Lib.hid hu
            clear hF hP hu HR
            have HADD : Hid (∀ W, W = wr → Calls Tryd.prog 101 #[.pointer (some ⟨f, 0, none⟩), .int .i64 ((i : Int) + k)] W (AddPost f A n c xs g h (i + k + 1) W)) := by
              rintro W rfl
              have := add_any HFr.out (by omega)
              rw [Int.natCast_add] at this
              exact this
            go_wp2_with fail
            refine (HADD.out _ rfl).mono ?_
            rintro e w7 ⟨rfl, zs2, hF2, hu2⟩
            have HP7 := Lib.hid (HPr.out.upd hu2 (by simp; exact ⟨fun e => HFr.out.map.ne HPr.out.box e.symm, fun e => HPr.out.box.ne HFr.out.old (by decide) e⟩) (fun k hk => by simp; exact ⟨fun e => HFr.out.map.neOwn HPr.out.own (by rw [hk, e]), fun e => HPr.out.own.neBlk HFr.out.old (by decide) (by rw [hk, e])⟩))
            have HU7 : Hid (Upd [some bx] w w7) := HUr.out.then hu2 (by intro b hb; simp at hb; right; have := HFW.out; rcases hb with rfl | rfl <;> omega)
            have HF7 := Lib.hid hF2
            clear hF2 hu2 HFr HPr HUr HADD
            go_wp2
            go_roundw
            case rel => exact ⟨k + 1, by omega, by go_num, ⟨zs2, HF7.out, HP7.out, HU7.out⟩⟩
            case measure => simp [intOf]; omega
          · obtain rfl : k = size := by omega
            go_wp2
            go_roundw
            case rel =>
              obtain ⟨zs1, hF, hP, hu⟩ := HR.out
              exact ⟨i + k, by omega, by go_num, PA6, pc6, _, zs1, hF, hP, HOK2.out, ⟨HEX2.out, HPT2.out⟩, hu, HPB6.out⟩
            case measure => simp [intOf]; omega
    · obtain rfl : i = n := by omega
      go_wp2
      go_end0
      obtain ⟨PA, pc, ps, zs, hF, hP, hok, hex, hu, -⟩ := HR.out
      exact ⟨rfl, PA, pc, ps, hP, hok, ⟨by rw [hex.1, List.take_of_length_le (by rw [HXL.out]; omega)], by rw [HXL.out]; exact hex.2.all⟩, hu⟩

end Go.Proofs.YtolcdlopgbgilaaDoor

/-! Text DefF. -/
namespace Go.Proofs.YtolcdlopgbgilaaDoor
open Go.RowKit Go.Dray

def ParsePost (w : World) (xs : List Int) (e : Ending) (w' : World) : Prop :=
  ∃ PA c ps, e = .returned (.slice PA (List.length ps) c) ∧ Own w' w.heap.size 113 2 PA (List.length ps) c (pcells ps) ∧ PiecesOk ps [] ∧ (expand ps [] = xs ∧ Parsed xs xs.length 0 ps) ∧ Upd [] w w'

set_option maxRecDepth 100000 in
set_option maxHeartbeats 1000000 in
theorem parse_bytes (A : Option Addr) (n c : Nat) (xs : List Int) (w : World) (hs : Ints .u8 w A n xs) (hz : ∀ z ∈ xs, 0 ≤ z ∧ z ≤ 255) (hn : n ≤ 3000) (hnc : n ≤ c) :
    Calls Tryd.prog 40 #[.slice A n c] w (ParsePost w xs) := by
  have HS := Lib.hid hs
  have HZ := Lib.hid hz
  clear hs hz
  obtain ⟨w1, hw1⟩ : ∃ w1 : World, w1 = w.alloc (.cells #[.slice none 0 0] 79) := ⟨_, rfl⟩
  obtain ⟨bx, hbx⟩ : ∃ bx, bx = w.heap.size := ⟨_, rfl⟩
  have hu1 : Upd [] w w1 := by rw [hw1]; exact (Upd.refl _ w).alloc _
  have hb1 : Blk w1 bx 79 #[.slice none 0 0] := by rw [hw1, hbx]; exact Blk.new _ _ _
  have HP1 : Hid (PSt w1 bx bx none 0 []) := ⟨hb1, Own.nil _ _ _ _, Nat.le_refl _, by rw [hbx]; exact hu1.size⟩
  have HS1 := Lib.hid (HS.out.upd hu1 (by simp))
  have HA : Hid (0 < n → bl A < bx) := fun hp => by rw [hbx]; exact Seg.lt HS.out hp (by omega)
  have HU1 := Lib.hid hu1
  have HBX : Hid (w.heap.size = bx) := hbx.symm
  have hmf : ∀ (fn : Fn) (first cap : Array Value) (w : World), (Instr.makeFunc fn first cap).run Tryd.prog w = .ok (.func fn first cap) w := fun _ _ _ _ => rfl
  clear hu1 hb1
  go_enter Tryd.func40, Tryd.ntmps40
  go_wp2_with fail
  rw [← hw1, ← hbx]
  clear hw1 hbx
  refine (runs_any A n c xs HS1.out HZ.out hn hnc HP1.out HA.out).mono ?_
  rintro e w2 ⟨rfl, PA, pc, ps, hps, hok, hex, hu2⟩
  have HPS := Lib.hid hps
  have HOK := Lib.hid hok
  have HEX := Lib.hid hex
  have HU2 : Hid (Upd [] w w2) := HU1.out.then hu2 (by intro b hb; simp at hb; rw [hb]; right; exact Nat.le_of_eq HBX.out)
  have k0 := hps.box.cell 0
  simp at k0
  clear hps hok hex hu2
  go_wp2
  go_ret
  refine ⟨PA, pc, ps, rfl, ?_, HOK.out, HEX.out, HU2.out⟩
  rw [HBX.out]
  exact HPS.out.own

end Go.Proofs.YtolcdlopgbgilaaDoor

/-! Text DefG. -/
namespace Go.Proofs.YtolcdlopgbgilaaDoor
open Go.RowKit Go.Dray Go.Lib

theorem len8_small : ∀ x : Nat, x < 256 → len8 (x : Int) = if x = 0 then 0 else ((x.log2 : Nat) : Int) + 1 := by decide +kernel
theorem log2_hi {x : Nat} (h1 : 256 ≤ x) (h2 : x < 65536) : (x / 256).log2 + 8 = x.log2 ∧ x.log2 < 16 := by
  have h0 : x / 256 ≠ 0 := by omega
  have a := Nat.log2_self_le h0
  have b : x / 256 < 2 ^ ((x / 256).log2 + 1) := Nat.lt_log2_self
  have c : (x / 256).log2 < 8 := (Nat.log2_lt h0 (k := 8)).2 (by omega)
  have e : x.log2 = (x / 256).log2 + 8 := by
    refine log2_of ?_ ?_
    · rw [Nat.pow_add]
      have := Nat.mul_le_mul_right 256 a
      omega
    · rw [show (x / 256).log2 + 8 + 1 = (x / 256).log2 + 1 + 8 from by omega, Nat.pow_add]
      have := Nat.mul_le_mul_right 256 (Nat.succ_le_of_lt b)
      omega
  omega

set_option maxRecDepth 100000 in
set_option maxHeartbeats 1000000 in
theorem len64_any (x : Nat) (h1 : 1 ≤ x) (h2 : x < 65536) (w : World) : Calls Tryd.prog 118 #[.int .u64 x] w fun e w' => e = .returned (.int .i64 ((x.log2 : Nat) + 1)) ∧ w = w' := by
  have d1 : decide ((4294967296 : Int) ≤ x) = false := by simp; omega
  have d2 : decide ((65536 : Int) ≤ x) = false := by simp; omega
  by_cases h : x < 256
  · have d3 : decide ((256 : Int) ≤ x) = false := by simp; omega
    have HL : Hid (len8 (x : Int) = ((x.log2 : Nat) : Int) + 1) := by
      have := len8_small x h
      rw [if_neg (by omega)] at this
      exact this
    have HB : Hid (x.log2 < 16) := (Nat.log2_lt (by omega) (k := 16)).2 (by omega)
    have hx : (x : Int) ≤ 255 := by omega
    go_enter Tryd.func118, Tryd.ntmps118
    go_wp2
    go_ret
    have hb := HB.out
    exact ⟨ret_int (by rw [HL.out, IntWalk.wrap64_in (((x.log2 : Nat) : Int) + 1) (by omega)]; exact IntWalk.wrap64_in _ (by omega)), rfl⟩
  · have d3 : decide ((256 : Int) ≤ x) = true := by simp; omega
    obtain ⟨y, hy⟩ : ∃ y, y = x / 256 := ⟨_, rfl⟩
    have hy2 : (x : Int) / 256 = (y : Int) := by omega
    have hlg := log2_hi (x := x) (by omega) h2
    have HL : Hid (len8 (y : Int) = ((x.log2 : Nat) : Int) - 7 ∧ x.log2 < 16 ∧ 8 ≤ x.log2) := by
      have := len8_small y (by omega)
      rw [if_neg (by omega)] at this
      show _ ∧ _
      rw [this, hy]
      omega
    have hy3 : (y : Int) ≤ 255 := by omega
    clear hy hlg
    go_enter Tryd.func118, Tryd.ntmps118
    go_wp2
    go_ret
    have hb := HL.out.2
    refine ⟨ret_int ?_, rfl⟩
    rw [HL.out.1, IntWalk.wrap64_in (((x.log2 : Nat) : Int) - 7) (by omega), IntWalk.wrap64_in _ (by omega)]
    omega

set_option maxRecDepth 100000 in
theorem len_any (x : Nat) (h1 : 1 ≤ x) (h2 : x < 65536) (w : World) : Calls Tryd.prog 99 #[.int .u64 x] w fun e w' => e = .returned (.int .i64 ((x.log2 : Nat) + 1)) ∧ w = w' := by
  obtain ⟨L, hL⟩ : ∃ L : Int, L = (x.log2 : Nat) + 1 := ⟨_, rfl⟩
  have H : Hid (∀ W : World, Calls Tryd.prog 118 #[.int .u64 x] W fun e w' => e = .returned (.int .i64 L) ∧ W = w') := fun W => by
    rw [hL]
    exact len64_any x h1 h2 W
  rw [← hL]
  clear hL h1 h2
  go_enter Tryd.func99, Tryd.ntmps99
  go_wp2_with (go_at_call 118; refine (H.out _).mono ?_; rintro e w' ⟨rfl, rfl⟩)
  go_ret
  exact ⟨rfl, rfl⟩

theorem and_mask {v k : Nat} (hv : v < 2 ^ 32) (hk : k ≤ 32) : bits .and .i64 (v : Int) (2 ^ k - 1) = (v : Int) % 2 ^ k := by
  have hp := Nat.two_pow_pos k
  have hp2 : 2 ^ k ≤ 2 ^ 32 := Nat.pow_le_pow_right (by omega) hk
  have e0 : ((2 : Int) ^ k - 1) = ((2 ^ k - 1 : Nat) : Int) := by
    have : ((2 ^ k : Nat) : Int) = (2 : Int) ^ k := by simp
    omega
  have e1 : (v : Int) % 2 ^ k = ((v % 2 ^ k : Nat) : Int) := by simp
  have hm := Nat.mod_lt v hp
  unfold bits
  have h1 : (BitVec.ofInt IntKind.i64.bits (v : Int) &&& BitVec.ofInt IntKind.i64.bits (2 ^ k - 1)).toNat = v % 2 ^ k := by
    rw [BitVec.toNat_and, e0]
    show (BitVec.ofInt 64 ((v : Nat) : Int)).toNat &&& (BitVec.ofInt 64 ((2 ^ k - 1 : Nat) : Int)).toNat = _
    rw [BitVec.ofInt_natCast, BitVec.ofInt_natCast, BitVec.toNat_ofNat, BitVec.toNat_ofNat, Nat.mod_eq_of_lt (by omega), Nat.mod_eq_of_lt (by omega), Nat.and_two_pow_sub_one_eq_mod]
  simp only [h1]
  rw [e1, IntKind.wrap_i64]
  omega

theorem pow2_d14 (k : Nat) (h : k ≤ 14) : (1 : Int) ≤ 2 ^ k ∧ (2 : Int) ^ k ≤ 16384 := by
  have h1 : ∀ k, k ≤ 14 → (1 : Int) ≤ 2 ^ k ∧ (2 : Int) ^ k ≤ 16384 := by decide
  exact h1 k h
/-- Three numbers are handed back, as they are told of a size or a distance. -/
def DSymPost (x : Int × Int × Nat) (w : World) (e : Ending) (w' : World) : Prop := e = .returned (.tuple #[.int .i64 x.1, .int .i64 x.2.1, .int .i64 (x.2.2 : Nat)]) ∧ ∃ m, w' = w.drewN m

theorem sym_nums {k v a b : Nat} (hk : k ≤ 14) (hv : v < 65536) (ha : a ≤ 300) (hb : b ≤ 4) : wrap64 (wrap64 ((a : Int) + b * ((k : Int) + 1) + (v : Int) / 2 ^ k) - b) = (a : Int) + b * ((k : Int) + 1) + (v : Int) / 2 ^ k - b ∧ bits .and .i64 (v : Int) (wrap64 (wrap64 (2 ^ k) - 1)) = (v : Int) % 2 ^ k := by
  have hp := pow2_d14 k hk
  have hd : 0 ≤ (v : Int) / 2 ^ k ∧ (v : Int) / 2 ^ k ≤ 65536 := by
    have h1 : (0 : Int) ≤ v := by omega
    refine ⟨Int.ediv_nonneg h1 (by omega), ?_⟩
    have := Int.ediv_le_self (2 ^ k) h1
    omega
  have hm : 0 ≤ (b : Int) * ((k : Int) + 1) ∧ (b : Int) * ((k : Int) + 1) ≤ 60 := by
    have e : (b : Int) * ((k : Int) + 1) = ((b * (k + 1) : Nat) : Int) := by simp
    have h2 : b * (k + 1) ≤ 4 * 15 := Nat.mul_le_mul hb (by omega)
    omega
  constructor
  · rw [IntWalk.wrap64_in ((a : Int) + b * ((k : Int) + 1) + (v : Int) / 2 ^ k) (by omega)]
    exact IntWalk.wrap64_in _ (by omega)
  · rw [IntWalk.wrap64_in ((2 : Int) ^ k) (by omega), IntWalk.wrap64_in ((2 : Int) ^ k - 1) (by omega)]
    exact and_mask (by omega) (by omega)

set_option maxRecDepth 100000 in
set_option maxHeartbeats 1000000 in
theorem lengthSymbol_any (size : Nat) (h1 : 3 ≤ size) (h2 : size ≤ 258) (w : World) : Calls Tryd.prog 73 #[.int .i64 size] w (DSymPost (lsym size) w) := by
  by_cases h258 : size = 258
  · subst h258
    go_enter Tryd.func73, Tryd.ntmps73
    go_wp2
    go_ret3
    exact ⟨rfl, 0, rfl⟩
  · obtain ⟨v, rfl⟩ : ∃ v, size = v + 3 := ⟨size - 3, by omega⟩
    have d1 : (((v + 3 : Nat) : Int) == 258) = false := by simp; omega
    have d1' : ((v : Int) + 3 == 258) = false := by simp; omega
    by_cases h8 : v < 8
    · have d2 : decide ((v : Int) < 8) = true := by simp; omega
      have HE : Hid (lsym ((v + 3 : Nat) : Int) = (257 + (v : Int), 0, 0)) := by
        show _ = _
        unfold lsym
        rw [if_neg (by omega), if_pos (by omega), show ((v + 3 : Nat) : Int) - 3 = (v : Int) from by omega]
      clear h258
      go_enter Tryd.func73, Tryd.ntmps73
      go_wp2
      go_ret3
      exact ⟨by rw [HE.out]; rfl, 0, rfl⟩
    · have d2 : decide ((v : Int) < 8) = false := by simp; omega
      have hlg : 3 ≤ v.log2 := (Nat.le_log2 (by omega) (k := 3)).2 (by omega)
      have hlg2 : v.log2 < 8 := (Nat.log2_lt (by omega) (k := 8)).2 (by omega)
      obtain ⟨k, hk⟩ : ∃ k, k = v.log2 - 2 := ⟨_, rfl⟩
      have HLEN : Hid (∀ W : World, Calls Tryd.prog 99 #[.int .u64 v] W fun e w' => e = .returned (.int .i64 ((k : Int) + 3)) ∧ W = w') := fun W => by
        have := len_any v (by omega) (by omega) W
        rw [show ((v.log2 : Nat) : Int) + 1 = (k : Int) + 3 from by omega] at this
        exact this
      have HE : Hid (lsym ((v + 3 : Nat) : Int) = (257 + 4 * ((k : Int) + 1) + (v : Int) / 2 ^ k - 4, (v : Int) % 2 ^ k, k)) := by
        show _ = _
        unfold lsym
        rw [if_neg (by omega), if_neg (by omega), show ((v + 3 : Nat) : Int) - 3 = (v : Int) from by omega, Int.toNat_natCast, ← hk]
      have hk14 : k ≤ 14 := by omega
      have hv : v < 65536 := by omega
      have HN := Lib.hid (sym_nums (k := k) (v := v) (a := 257) (b := 4) hk14 hv (by omega) (by omega))
      clear h258 hlg hlg2 hk
      go_enter Tryd.func73, Tryd.ntmps73
      go_wp2_with (go_at_call 99; refine (HLEN.out _).mono ?_; rintro e w' ⟨rfl, rfl⟩)
      go_quiet (fail)
      go_wp2
      go_ret3
      have e1 := HN.out.1
      have e2 := HN.out.2
      refine ⟨?_, nq, rfl⟩
      show Ending.returned (.tuple #[.int .i64 (wrap64 (wrap64 (((257 : Nat) : Int) + ((4 : Nat) : Int) * ((k : Int) + 1) + (v : Int) / 2 ^ k) - ((4 : Nat) : Int))), .int .i64 (bits .and .i64 (v : Int) (wrap64 (wrap64 (2 ^ k) - 1))), .int .i64 k]) = _
      rw [e1, e2, HE.out]
      rfl

set_option maxRecDepth 100000 in
set_option maxHeartbeats 1000000 in
theorem distanceSymbol_any (back : Nat) (h1 : 1 ≤ back) (h2 : back ≤ 32768) (w : World) : Calls Tryd.prog 74 #[.int .i64 back] w (DSymPost (dsym back) w) := by
  obtain ⟨v, rfl⟩ : ∃ v, back = v + 1 := ⟨back - 1, by omega⟩
  by_cases h4 : v < 4
  · have d2 : decide ((v : Int) < 4) = true := by simp; omega
    have HE : Hid (dsym ((v + 1 : Nat) : Int) = ((v : Int), 0, 0)) := by
      show _ = _
      unfold dsym
      rw [if_pos (by omega), show ((v + 1 : Nat) : Int) - 1 = (v : Int) from by omega]
    go_enter Tryd.func74, Tryd.ntmps74
    go_wp2
    go_ret3
    exact ⟨by rw [HE.out]; rfl, 0, rfl⟩
  · have d2 : decide ((v : Int) < 4) = false := by simp; omega
    have hlg : 2 ≤ v.log2 := (Nat.le_log2 (by omega) (k := 2)).2 (by omega)
    have hlg2 : v.log2 < 15 := (Nat.log2_lt (by omega) (k := 15)).2 (by omega)
    obtain ⟨k, hk⟩ : ∃ k, k = v.log2 - 1 := ⟨_, rfl⟩
    have HLEN : Hid (∀ W : World, Calls Tryd.prog 99 #[.int .u64 v] W fun e w' => e = .returned (.int .i64 ((k : Int) + 2)) ∧ W = w') := fun W => by
      have := len_any v (by omega) (by omega) W
      rw [show ((v.log2 : Nat) : Int) + 1 = (k : Int) + 2 from by omega] at this
      exact this
    have HE : Hid (dsym ((v + 1 : Nat) : Int) = (2 * ((k : Int) + 1) + (v : Int) / 2 ^ k - 2, (v : Int) % 2 ^ k, k)) := by
      show _ = _
      unfold dsym
      rw [if_neg (by omega), show ((v + 1 : Nat) : Int) - 1 = (v : Int) from by omega, Int.toNat_natCast, ← hk]
    have hk14 : k ≤ 14 := by omega
    have hv : v < 65536 := by omega
    have HN := Lib.hid (sym_nums (k := k) (v := v) (a := 0) (b := 2) hk14 hv (by omega) (by omega))
    clear hlg hlg2 hk
    go_enter Tryd.func74, Tryd.ntmps74
    go_wp2_with (go_at_call 99; refine (HLEN.out _).mono ?_; rintro e w' ⟨rfl, rfl⟩)
    go_quiet (fail)
    go_wp2
    go_ret3
    have e1 := HN.out.1
    have e2 := HN.out.2
    rw [show ((0 : Nat) : Int) + ((2 : Nat) : Int) * ((k : Int) + 1) = 2 * ((k : Int) + 1) from by omega] at e1
    refine ⟨?_, nq, rfl⟩
    show Ending.returned (.tuple #[.int .i64 (wrap64 (wrap64 (2 * ((k : Int) + 1) + (v : Int) / 2 ^ k) - ((2 : Nat) : Int))), .int .i64 (bits .and .i64 (v : Int) (wrap64 (wrap64 (2 ^ k) - 1))), .int .i64 k]) = _
    rw [e1, e2, HE.out]
    rfl

end Go.Proofs.YtolcdlopgbgilaaDoor
