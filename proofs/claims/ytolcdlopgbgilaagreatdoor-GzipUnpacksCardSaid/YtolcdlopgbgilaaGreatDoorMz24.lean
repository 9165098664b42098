/- Merged by wip/tools/merge.py: GzC DigA LagV GzS Rely StrApp. -/
import Derived.Laws.CopyRow
import Derived.Deep.RegionWith
import Derived.Deep.Cut
import Derived.StillTailTactics
import Derived.Handy
import Derived.Lib.AppendStr
import Derived.Test.YtolcdlopgbgilaaGreatDoorMz01
import Derived.Test.YtolcdlopgbgilaaGreatDoorMz04
import Derived.Test.YtolcdlopgbgilaaGreatDoorMz07
import Derived.Test.YtolcdlopgbgilaaGreatDoorMz23

/-! Text GzC. -/
namespace Go.Proofs.YtolcdlopgbgilaaGreatDoor
open Go.RowKit Go.Dray

set_option maxHeartbeats 1000000 in
theorem growB_nil (n : Nat) (w : World) (hn : n ≤ 100000000) :
    Calls Tryz.prog 34 #[.slice none 0 0, .int .i64 n] w (GrowPost 5 n w) := by
  rcases Nat.eq_zero_or_pos n with h0 | h0
  · subst h0
    go_enter Tryz.func34, Tryz.ntmps34
    go_wp2
    go_ret
    exact ⟨none, 0, rfl, Nat.le_refl _, Own.nil _ _ _ _, Upd.refl _ _⟩
  · obtain ⟨i, hi, hz, hs, hb⟩ := info_get el_byte
    have hcap := grownCap_ge w n 0 5
    have hmax := grownCap_le_maxLen w n 0 5 (by simp only [maxLen]; omega)
    have hr : ∀ ty, (Builtin.append_ #[22, 3] ty #[.slice none 0 0, .int .i64 n]).run Tryz.prog w = .ok (.slice (some ⟨w.heap.size, 0, none⟩) n (grownCap w n 0 5)) (w.drew.alloc (.cells (Builtin.zeroCells #[Value.int .u8 0] n ++ Builtin.zeroCells #[Value.int .u8 0] (grownCap w n 0 5 - n)) 5)) := fun ty => by
      have h := Lib.run_append_grow_zeros (P := Tryz.prog) w 22 3 ty 5 i (.int .u8 0) .i64 .i64 el_byte.under Tryz.underlying3 hi hz none 0 0 [] (run_firstCells_none w.drew i.size 0 0 0) n h0 (by rw [hs]; omega) (by omega) (by omega) (by rw [hb]; omega) (by
        rw [hb]
        exact growslice_fits (by omega) (by omega))
      simpa [Value.cells] using h
    obtain ⟨G, hG⟩ : ∃ G, G = grownCap w n 0 5 := ⟨_, rfl⟩
    rw [← hG] at hcap hmax hr
    have hsz : (Builtin.zeroCells #[Value.int .u8 0] n ++ Builtin.zeroCells #[Value.int .u8 0] (G - n)).size = G := by
      simp [Builtin.zeroCells]
      omega
    obtain ⟨cs, hcs⟩ : ∃ cs, cs = Builtin.zeroCells #[Value.int .u8 0] n ++ Builtin.zeroCells #[Value.int .u8 0] (G - n) := ⟨_, rfl⟩
    rw [← hcs] at hr hsz
    have HR := Lib.hid hr
    have HCS := Lib.hid hsz
    clear hi hz hs hb hG hcs hr hsz
    have hw0 : (0 : Int) < n := by omega
    go_enter Tryz.func34, Tryz.ntmps34
    go_wp2_with (at_builtin; refine Lib.wpList_append_run _ rfl _ _ _ _ rfl _ _ rfl rfl _ _ (HR.out _) ?_)
    go_ret
    refine ⟨some ⟨w.heap.size, 0, none⟩, G, rfl, hcap, ?_, ((Upd.refl [] w).drew.alloc _)⟩
    exact Own.mk rfl (Nat.zero_le _) hmax rfl (Nat.le_refl _) (Blk.new w.drew 5 cs) (by rw [HCS.out]; omega) (by simp)

theorem el_rowsB : El Tryz.prog 73 22 (.slice none 0 0) 1 24 := ⟨Tryz.underlying73, by kernel_rfl, rfl, by omega⟩
def ConcPostB (l : List Pt) (w : World) (e : Ending) (w' : World) : Prop := ∃ A c, e = .returned (.slice A (sizes l) c) ∧ Own w' w.heap.size 5 1 A (sizes l) c ((allZ l).map (Value.int .u8)) ∧ Upd [] w w'

set_option maxRecDepth 100000 in
set_option maxHeartbeats 2000000 in
theorem concatB_any (PA : Option Addr) (k pc : Nat) (l : List Pt) (w : World) (hp : Seg w 1 PA k (l.map ptV)) (hz : ∀ x ∈ l, Ints .u8 w x.A x.n x.zs) (hs : sizes l ≤ 10000000) (hk : k ≤ 1000) :
    Calls Tryz.prog 14 #[.slice PA k pc] w (ConcPostB l w) := by
  have HP := Lib.hid hp
  have HZ := Lib.hid hz
  have HL : Hid (l.length = k) := by have := hp.len; rw [List.length_map] at this; show _ = _; omega
  clear hp hz
  go_enter Tryz.func14, Tryz.ntmps14
  go_wp2
  go_loop [3, 11] (fun s i => ∃ j : Nat, j ≤ k ∧ i = .int .i64 j ∧ s = .int .i64 (sizes (l.take j) : Nat)) (fun _ i => k - (intOf i).toNat)
  case atStart => exact ⟨0, by omega, rfl, rfl⟩
  case round =>
    obtain ⟨j, hj, rfl, rfl⟩ := hrel
    have hsl := sizes_le l j
    obtain ⟨S, hS⟩ : ∃ S, S = sizes (l.take j) := ⟨_, rfl⟩
    rw [← hS] at hsl ⊢
    have HS := Lib.hid hS
    clear hS
    by_cases hlt : j < k
    · obtain ⟨x, hx⟩ : ∃ x, l[j]? = some x := ⟨_, List.getElem?_eq_getElem (by rw [HL.out]; exact hlt)⟩
      have HX := Lib.hid hx
      have hc := HP.out.cell j (ptV x) (by rw [List.getElem?_map, hx]; rfl)
      unfold ptV at hc
      have hix := run_index el_rowsB HP.out.at_ pc .i64 j hlt
      rw [Nat.mul_one] at hix
      have hs1 := sizes_le l (j + 1)
      rw [sizes_snoc hx, ← HS.out] at hs1
      clear hx
      go_wp2
      go_round
      case rel => exact ⟨j + 1, by omega, by go_num, by rw [sizes_snoc HX.out, ← HS.out]; go_num⟩
      case measure => simp [intOf]; omega
    · obtain rfl : j = k := by omega
      have HSE : Hid (S = sizes l) := by show _ = _; rw [HS.out, List.take_of_length_le (by rw [HL.out]; omega)]
      go_wp2_with fail
      refine (growB_nil S w (by omega)).mono ?_
      rintro e w1 ⟨G0, gc, rfl, hgc, hown1, hv1⟩
      have HO1 := Lib.hid hown1
      have HV1 := Lib.hid hv1
      clear hown1 hv1
      go_wp2
      go_loopw [6, 27] (fun v i wr => ∃ (t xn : Nat) (X : Option Addr) (xc : Nat), t ≤ j ∧ i = .int .i64 t ∧ v = .slice X xn xc ∧ Hid (xn = sizes (l.take t)) ∧ Hid (Own wr w.heap.size 5 1 X xn xc ((allZ (l.take t)).map (Value.int .u8)) ∧ Upd [] w wr)) (fun _ i _ => j - (intOf i).toNat)
      case atStart => exact ⟨0, 0, G0, gc, by omega, rfl, rfl, rfl, ⟨HO1.out, HV1.out⟩⟩
      case round =>
        clear HO1 HV1
        obtain ⟨t, xn, X, xc, ht, rfl, rfl, HXN, HO⟩ := hrel
        by_cases htk : t < j
        · obtain ⟨x, hx⟩ : ∃ x, l[t]? = some x := ⟨_, List.getElem?_eq_getElem (by rw [HL.out]; exact htk)⟩
          have HX := Lib.hid hx
          have hpr := HP.out.upd HO.out.2 (by omega) (by simp)
          have hc := hpr.cell t (ptV x) (by rw [List.getElem?_map, hx]; rfl)
          unfold ptV at hc
          have hix := run_index el_rowsB HP.out.at_ pc .i64 t htk
          rw [Nat.mul_one] at hix
          have hxi := (HZ.out x (List.mem_of_getElem? hx)).upd HO.out.2 (by simp)
          have hs1 := sizes_le l (t + 1)
          rw [sizes_snoc hx, ← HXN.out] at hs1
          have hO := HO.out.1
          have hsz := HO.out.2.size
          obtain ⟨xA, xnn, xcc, xzs⟩ := x
          simp only at hc hxi hs1
          clear hx hpr
          go_wp2_with (at_builtin; refine wpList_app rfl rfl el_byte rfl hO rfl hxi (ints_one _ _) (by simp only [maxLen]; omega) (by omega) hsz ?_; intro X3 c3 w3 hown3 hu3 hfr3)
          go_roundw
          case rel =>
            refine ⟨t + 1, xn + xnn, X3, c3, by omega, by go_num, rfl, ?_, ?_, ?_⟩
            · show _ = _; rw [sizes_snoc HX.out, ← HXN.out]
            · rw [allZ_snoc HX.out, List.map_append]; exact hown3
            · exact HO.out.2.then hu3 (fun b hb => by simp at hb; have := (hO.base hb.symm).1; right; omega)
          case measure => simp [intOf]; omega
        · obtain rfl : t = j := by omega
          have e1 : l.take t = l := List.take_of_length_le (by rw [HL.out]; omega)
          rw [e1] at HXN HO
          go_wp2
          go_ret
          refine ⟨X, xc, ?_, ?_, HO.out.2⟩
          · rw [← HXN.out]; rfl
          · rw [← HXN.out]; exact HO.out.1

end Go.Proofs.YtolcdlopgbgilaaGreatDoor

/-! Text DigA. -/
namespace Go.Proofs.YtolcdlopgbgilaaGreatDoor
open Go.RowKit Go.Dray

/-- One step of the CRC-32. -/
def crcBit (c : Int) : Int := if c % 2 = 1 then bits .xor .u32 (c / 2) 3988292384 else c / 2
def crcN : Nat → Int → Int
  | 0, c => c
  | n + 1, c => crcBit (crcN n c)
/-- One byte more. -/
def crcB (c z : Int) : Int := crcN 8 (bits .xor .u32 c z)
def crcL (c : Int) (zs : List Int) : Int := zs.foldl crcB c

def U32 (c : Int) : Prop := 0 ≤ c ∧ c ≤ 4294967295
theorem xor_u32 (a b : Int) : U32 (bits .xor .u32 a b) := by
  unfold bits U32
  have h := (BitVec.ofInt IntKind.u32.bits a ^^^ BitVec.ofInt IntKind.u32.bits b).isLt
  simp only [IntKind.wrap_u32']
  omega
theorem crcBit_bd (c : Int) (h : U32 c) : U32 (crcBit c) := by
  unfold crcBit
  split
  · exact xor_u32 _ _
  · unfold U32 at *; omega
theorem crcN_bd (n : Nat) (c : Int) (h : U32 c) : U32 (crcN n c) := by
  induction n with
  | zero => exact h
  | succ n ih => exact crcBit_bd _ ih
theorem crcL_snoc (c : Int) (zs : List Int) (z : Int) : crcL c (zs ++ [z]) = crcB (crcL c zs) z := by simp [crcL]
theorem crcL_bd (c : Int) (h : U32 c) (zs : List Int) : U32 (crcL c zs) := by
  unfold crcL
  induction zs generalizing c with
  | nil => exact h
  | cons z zs ih => exact ih _ (crcN_bd 8 _ (xor_u32 _ _))
theorem crcL_take {zs : List Int} {k : Nat} {z : Int} (c : Int) (h : zs[k]? = some z) : crcL c (zs.take (k + 1)) = crcB (crcL c (zs.take k)) z := by
  obtain ⟨hk, he⟩ := List.getElem?_eq_some_iff.1 h
  rw [List.take_succ_eq_append_getElem hk, he, crcL_snoc]

theorem and1_u32 (c : Int) (h : U32 c) : bits .and .u32 c 1 = c % 2 := by
  unfold U32 at h
  rw [u32_and c 1 h.1 (by omega) (by omega) (by omega)]
  show ((c.toNat &&& 1 : Nat) : Int) = _
  rw [nat_mask1]
  omega
theorem crcBit_odd {c : Int} (h : c % 2 = 1) : crcBit c = bits .xor .u32 (c / 2) 3988292384 := by simp [crcBit, h]
theorem crcBit_even {c : Int} (h : ¬ c % 2 = 1) : crcBit c = c / 2 := by simp [crcBit, h]

/-- The other bits. -/
def not32 (c : Int) : Int := bits .xor .u32 4294967295 c
theorem run_not32 (c : Int) : Op.unary .xor (.int .u32 c) = pure (.int .u32 (not32 c)) := rfl
theorem not32_eq (c : Int) (h : U32 c) : not32 c = 4294967295 - c := by
  unfold U32 at h
  obtain ⟨n, rfl⟩ := Int.eq_ofNat_of_zero_le h.1
  show IntKind.u32.wrap (((BitVec.ofInt 32 4294967295 ^^^ BitVec.ofInt 32 (n : Int)).toNat : Nat) : Int) = _
  have e : BitVec.ofInt 32 4294967295 = BitVec.allOnes 32 := by decide
  rw [e, BitVec.allOnes_xor, BitVec.toNat_not, ofInt_u32 n (by omega), IntKind.wrap_u32']
  omega
theorem not32_bd (c : Int) : U32 (not32 c) := xor_u32 _ _
theorem not32_not32 (c : Int) (h : U32 c) : not32 (not32 c) = c := by
  rw [not32_eq _ (not32_bd c), not32_eq c h]; omega

set_option maxHeartbeats 400000 in
theorem crcMore_any (A : Option Addr) (n c : Nat) (zs : List Int) (s : Int) (w : World) (hs : Ints .u8 w A n zs) (hz : ∀ z ∈ zs, 0 ≤ z ∧ z ≤ 255) (hn : n ≤ 100000000000000) :
    Calls Tryz.prog 68 #[.int .u32 s, .slice A n c] w fun e w' => e = .returned (.int .u32 (not32 (crcL (not32 s) zs))) ∧ w = w' := by
  have HL := hs.len
  have HZ := Lib.hid hz
  have hnot := run_not32
  clear hz
  go_enter Tryz.func68, Tryz.ntmps68
  go_wp2
  go_loop [5, 12] (fun x i => ∃ k : Nat, k ≤ n ∧ i = .int .i64 k ∧ x = .int .u32 (crcL (not32 s) (zs.take k))) (fun _ i => n - (intOf i).toNat)
  case atStart => exact ⟨0, Nat.zero_le _, rfl, rfl⟩
  case round =>
    obtain ⟨k, hk, rfl, rfl⟩ := hrel
    have hcb := crcL_bd (not32 s) (not32_bd s) (zs.take k)
    unfold U32 at hcb
    by_cases hlt : k < n
    · obtain ⟨z, HX, hcell⟩ := hs.int hlt
      have hix := hs.index el_byte c .i64 k hlt
      obtain ⟨hz0, hz1⟩ := HZ.out z (List.mem_of_getElem? HX.out)
      go_wp2
      go_loop [5, 20] (fun x i => ∃ j : Nat, j ≤ 8 ∧ i = .int .i64 j ∧ x = .int .u32 (crcN j (bits .xor .u32 (crcL (not32 s) (zs.take k)) z))) (fun _ i => 8 - (intOf i).toNat)
      case atStart => exact ⟨0, by omega, rfl, rfl⟩
      case round =>
        obtain ⟨j, hj, rfl, rfl⟩ := hrel
        have hb := crcN_bd j _ (xor_u32 (crcL (not32 s) (zs.take k)) z)
        by_cases hj8 : j < 8
        · obtain ⟨y, hy⟩ : ∃ y, y = crcN j (bits .xor .u32 (crcL (not32 s) (zs.take k)) z) := ⟨_, rfl⟩
          rw [← hy] at hb ⊢
          have ha := and1_u32 y hb
          have HY := Lib.hid hy
          obtain ⟨hb0, hb1⟩ := hb
          clear hy
          by_cases ho : y % 2 = 1
          · have hd : (y % 2 == 1) = true := by simp [ho]
            have HO := Lib.hid ho
            clear ho
            go_wp2
            go_round
            case rel => exact ⟨j + 1, by omega, by go_num, by rw [crcN, ← HY.out, crcBit_odd HO.out]⟩
            case measure => simp [intOf]; omega
          · have hd : (y % 2 == 1) = false := by simp [ho]
            have HO := Lib.hid ho
            clear ho
            go_wp2
            go_round
            case rel => exact ⟨j + 1, by omega, by go_num, by rw [crcN, ← HY.out, crcBit_even HO.out]⟩
            case measure => simp [intOf]; omega
        · obtain rfl : j = 8 := by omega
          go_wp2
          go_round
          case rel => exact ⟨k + 1, by omega, by go_num, by rw [crcL_take _ HX.out]; rfl⟩
          case measure => simp [intOf]; omega
    · obtain rfl : k = n := by omega
      go_wp2
      go_ret
      exact ⟨ret_int (by rw [List.take_of_length_le (by rw [HL.out]; omega)]), rfl⟩

set_option maxHeartbeats 400000 in
theorem crc_any (A : Option Addr) (n c : Nat) (zs : List Int) (w : World) (hs : Ints .u8 w A n zs) (hz : ∀ z ∈ zs, 0 ≤ z ∧ z ≤ 255) (hn : n ≤ 100000000000000) :
    Calls Tryz.prog 33 #[.slice A n c] w fun e w' => e = .returned (.int .u32 (not32 (crcL 4294967295 zs))) ∧ w = w' := by
  have HZ := Lib.hid hz
  have HE : Hid (not32 0 = 4294967295) := by show not32 0 = 4294967295; rw [not32_eq 0 (by unfold U32; omega)]; rfl
  clear hz
  go_enter Tryz.func33, Tryz.ntmps33
  go_wp2_with (go_at_call 68; refine (crcMore_any A n c zs 0 w hs HZ.out hn).mono ?_; rintro e w' ⟨rfl, rfl⟩)
  go_ret
  exact ⟨by rw [HE.out]; rfl, rfl⟩

set_option maxHeartbeats 400000 in
theorem rcrc_any (A : Option Addr) (n c : Nat) (zs : List Int) (w : World) (hs : Ints .u8 w A n zs) (hz : ∀ z ∈ zs, 0 ≤ z ∧ z ≤ 255) (hn : n ≤ 100000000000000) :
    Calls Tryz.prog 20 #[.slice A n c] w fun e w' => e = .returned (.int .u32 (not32 (crcL 4294967295 zs))) ∧ w = w' := by
  have HL := hs.len
  have HZ := Lib.hid hz
  have hnot := run_not32
  clear hz
  have hF : U32 4294967295 := by unfold U32; omega
  have HF := Lib.hid hF
  clear hF
  go_enter Tryz.func20, Tryz.ntmps20
  go_wp2
  go_loop [3, 4] (fun x i => ∃ k : Nat, k ≤ n ∧ i = .int .i64 k ∧ x = .int .u32 (crcL 4294967295 (zs.take k))) (fun _ i => n - (intOf i).toNat)
  case atStart => exact ⟨0, Nat.zero_le _, rfl, rfl⟩
  case round =>
    obtain ⟨k, hk, rfl, rfl⟩ := hrel
    have hcb := crcL_bd 4294967295 HF.out (zs.take k)
    unfold U32 at hcb
    by_cases hlt : k < n
    · obtain ⟨z, HX, hcell⟩ := hs.int hlt
      have hix := hs.index el_byte c .i64 k hlt
      obtain ⟨hz0, hz1⟩ := HZ.out z (List.mem_of_getElem? HX.out)
      go_wp2
      go_loop [3, 5] (fun x i => ∃ j : Nat, j ≤ 8 ∧ i = .int .i64 j ∧ x = .int .u32 (crcN j (bits .xor .u32 (crcL 4294967295 (zs.take k)) z))) (fun _ i => 8 - (intOf i).toNat)
      case atStart => exact ⟨0, by omega, rfl, rfl⟩
      case round =>
        obtain ⟨j, hj, rfl, rfl⟩ := hrel
        have hb := crcN_bd j _ (xor_u32 (crcL 4294967295 (zs.take k)) z)
        by_cases hj8 : j < 8
        · obtain ⟨y, hy⟩ : ∃ y, y = crcN j (bits .xor .u32 (crcL 4294967295 (zs.take k)) z) := ⟨_, rfl⟩
          rw [← hy] at hb ⊢
          have HY := Lib.hid hy
          obtain ⟨hb0, hb1⟩ := hb
          clear hy
          by_cases ho : y % 2 = 1
          · have hd : (y % 2 == 1) = true := by simp [ho]
            have HO := Lib.hid ho
            clear ho
            go_wp2
            go_round
            case rel => exact ⟨j + 1, by omega, by go_num, by rw [crcN, ← HY.out, crcBit_odd HO.out]⟩
            case measure => simp [intOf]; omega
          · have hd : (y % 2 == 1) = false := by simp [ho]
            have HO := Lib.hid ho
            clear ho
            go_wp2
            go_round
            case rel => exact ⟨j + 1, by omega, by go_num, by rw [crcN, ← HY.out, crcBit_even HO.out]⟩
            case measure => simp [intOf]; omega
        · obtain rfl : j = 8 := by omega
          go_wp2
          go_round
          case rel => exact ⟨k + 1, by omega, by go_num, by rw [crcL_take _ HX.out]; rfl⟩
          case measure => simp [intOf]; omega
    · obtain rfl : k = n := by omega
      go_wp2
      go_ret
      exact ⟨ret_int (by rw [List.take_of_length_le (by rw [HL.out]; omega)]), rfl⟩

end Go.Proofs.YtolcdlopgbgilaaGreatDoor

/-! Text LagV. -/
namespace Go.Dray
open Go.RowKit

theorem wp_region_lagV {P : Program} {w : World} {id : Nat} {Q : Exit → Act → World → Prop} {a : Act} {o : Oper} {l : List Oper} {v : Value} (n : Nat) (hm : P.follows .mixedOrders = true) (hx : ∀ w, (execOp a.eval o).run P w = .ok (.value v) w) (hg : o.guard = none)
    (hp : preB .any (o :: l).toArray 1 = true) (hf : Region.free .any (o :: l).toArray (Array.replicate (o :: l).toArray.size false) 0 = true) (hr : (Region.ready .any (o :: l).toArray (Array.replicate (o :: l).toArray.size false)).contains 0 = true)
    (hB : lagB .any (o :: l).toArray 1 n (preL (o :: l).toArray 1) = true) (hQ : ∀ c a w v, Q (.panic c) (a.put o.dst v) w → Q (.panic c) a w)
    (h : wpStill P (o :: l).toArray w.drew (fun a' => wpList P (o :: l).toArray Q ((o :: l).drop n) a' w.drew) (((o :: l).take n).drop 1) (a.put o.dst v)) : (Code.region id (o :: l).toArray true).wp P Q a w := by
  have hns : Region.noSelect (o :: l).toArray = true := by
    simp only [lagB, Bool.and_eq_true] at hB
    exact hB.1.1.1.1.1
  have hy : Yields P (o :: l).toArray o v a := Or.inl ⟨by simp [Region.wanted, hg], hx⟩
  refine wp_region_any hm ?_
  have e1 : (Array.replicate (o :: l).toArray.size false).setIfInBounds 0 true = preL (o :: l).toArray 1 := by
    apply Array.ext
    · simp [preL]
    · intro i h1 h2
      rcases i with _ | i
      · simp [preL]
      · rw [Array.getElem_setIfInBounds_ne (by simpa using h1) (by omega)]
        simp [preL]
  have h2 := wpAny_lag (w := w.drew) 1 n hp hB h
  have h3 := wpAny_take (md := .any) (fuel := (o :: l).toArray.size - 1) (Q := Q) (listed := Array.replicate (o :: l).toArray.size false) (a := a) (w := w.drew) (oi := o) (i := 0) rfl hns hf hr (fun c a w => hQ c a w _) hy (by rw [e1]; exact h2)
  rw [show (o :: l).toArray.size - 1 + 1 = (o :: l).toArray.size by simp] at h3
  exact h3

end Go.Dray

/-! Text GzS. -/
namespace Go.Proofs.YtolcdlopgbgilaaGreatDoor
open Go.RowKit Go.Dray

/-- The check sum and the eight bytes. -/
def crcOf (zs : List Int) : Int := not32 (crcL 4294967295 zs)
def sums8 (zs : List Int) : List Int := leB (crcOf zs) 4 ++ leB (zs.length : Int) 4
theorem sums8_len (zs : List Int) : (sums8 zs).length = 8 := by simp [sums8, leB_len]
theorem crcOf_bd (zs : List Int) : 0 ≤ crcOf zs ∧ crcOf zs ≤ 4294967295 := by
  have h := crcL_bd 4294967295 (by unfold U32; omega) zs
  unfold crcOf
  rw [not32_eq _ h]
  unfold U32 at h
  omega

theorem gz_setRow {L : List (Option Nat)} {w w' : World} (h : Upd L w w') {g : Nat} (hp : some g ∈ L ∨ w.heap.size ≤ g) (cs : Array Value) : Upd L w (w'.setRow g cs) :=
  ⟨h.os, h.tape, h.output, by have := h.size; simp [World.setRow]; omega, fun k hk hn => by
    have : (w'.setRow g cs).heap[k]? = w'.heap[k]? := by
      simp only [World.setRow]
      rw [Array.getElem?_modify, if_neg (by rintro rfl; rcases hp with h1 | h1; exact hn h1; omega)]
    exact this.trans (h.block k hk hn)⟩

/-- Four bytes are copied into a block of eight. -/
theorem copy4 {w : World} {g : Nat} {t : TypeId} {xs zs : List Int} (hb : Blk w g t (xs.map (Value.int .u8)).toArray) (hx : xs.length = 8) {A : Option Addr} {c : Nat} (hs : Ints .u8 w A 4 zs) (k dc : Nat) (hk : k ≤ 4) :
    ∃ w', (∀ ty, (Builtin.copy_ #[22, 22] ty #[.slice (some ⟨g, k, none⟩) 4 dc, .slice A 4 c]).run Tryz.prog w = .ok (goInt 4) w') ∧ Blk w' g t ((xs.take k ++ zs ++ xs.drop (k + 4)).map (Value.int .u8)).toArray ∧ ∀ L w0, Upd L w0 w → some g ∈ L ∨ w0.heap.size ≤ g → Upd L w0 w' := by
  have hA := Seg.at_ hs (by omega)
  have hl := hs.len.out
  have hr := fun ty => run_copy_row (P := Tryz.prog) w 22 22 ty 5 g k 4 dc ⟨bl A, ofs A, none⟩ 4 c _ t (zs.map (Value.int .u8)) el_byte.under (by kernel_rfl) hb (by rw [List.length_map, hl]; rfl) (fun j v hv => by rw [Addr.add_lit]; exact Seg.cell hs j v hv) (by simp [hl, hx]; omega) (ints_one _ _)
  rw [← hA] at hr
  simp only [List.length_map, hl] at hr
  refine ⟨_, hr, ?_, fun L w0 hu hg => gz_setRow hu hg _⟩
  refine (setRow_heap w g _ _ _ _ hb).trans ?_
  congr 2
  simp

/-- Slicing an array behind a pointer. -/
theorem gz_cut_l {P : Program} {t e : TypeId} {n : Nat} (h : P.underlying t = some (.array n e)) (hs : (P.info? e).map (·.size) = some 1) (b o k : Nat) (hk : k < n) (kd : IntKind) :
    ∀ W : World, (Instr.sliceAt t (.pointer (some ⟨b, o, none⟩)) (some (.int kd k)) none none).run P W = .ok (.slice (some ⟨b, o + k, none⟩) (n - k) (n - k)) W := by
  intro W
  have he : P.elem t = e := by simp [Program.elem, h]
  have hl : P.arrayLen t = n := by simp [Program.arrayLen, h]
  cases hq : P.info? e with
  | none => simp [hq] at hs
  | some i =>
    have hi : i.size = 1 := by simpa [hq] using hs
    rw [run_sliceAt_array_l W t ⟨b, o, none⟩ (by rw [he, hl]; exact h) kd k (by omega) (by rw [hl]; omega)]
    simp [hl, he, sizeOf, typeInfo, hq, hi, slicedAt, Addr.add_lit]
    omega
theorem gz_cut_h {P : Program} {t e : TypeId} {n : Nat} (h : P.underlying t = some (.array n e)) (hs : (P.info? e).map (·.size) = some 1) (b o k : Nat) (hk : k ≤ n) (kd : IntKind) :
    ∀ W : World, (Instr.sliceAt t (.pointer (some ⟨b, o, none⟩)) none (some (.int kd k)) none).run P W = .ok (.slice (some ⟨b, o, none⟩) k n) W := by
  intro W
  have he : P.elem t = e := by simp [Program.elem, h]
  have hl : P.arrayLen t = n := by simp [Program.arrayLen, h]
  cases hq : P.info? e with
  | none => simp [hq] at hs
  | some i =>
    have hi : i.size = 1 := by simpa [hq] using hs
    rw [run_sliceAt_array_h W t ⟨b, o, none⟩ (by rw [he, hl]; exact h) kd k (by omega) (by rw [hl]; omega)]
    simp [hl, he, sizeOf, typeInfo, hq, hi, slicedAt, Addr.add_lit]
theorem gz_cut_all {P : Program} {t e : TypeId} {n : Nat} (h : P.underlying t = some (.array n e)) (hs : (P.info? e).map (·.size) = some 1) (b o : Nat) :
    ∀ W : World, (Instr.sliceAt t (.pointer (some ⟨b, o, none⟩)) none none none).run P W = .ok (.slice (some ⟨b, o, none⟩) n n) W := by
  intro W
  have he : P.elem t = e := by simp [Program.elem, h]
  have hl : P.arrayLen t = n := by simp [Program.arrayLen, h]
  cases hq : P.info? e with
  | none => simp [hq] at hs
  | some i =>
    have hi : i.size = 1 := by simpa [hq] using hs
    rw [run_sliceAt_array_all W t ⟨b, o, none⟩ (by rw [he, hl]; exact h)]
    simp [hl, he, sizeOf, typeInfo, hq, hi, slicedAt, Addr.add_lit]

theorem eight {l : List Int} (h : l.length = 8) : ∃ b0 b1 b2 b3 b4 b5 b6 b7, l = [b0, b1, b2, b3, b4, b5, b6, b7] := by
  rcases l with _ | ⟨b0, _ | ⟨b1, _ | ⟨b2, _ | ⟨b3, _ | ⟨b4, _ | ⟨b5, _ | ⟨b6, _ | ⟨b7, _ | ⟨b8, l⟩⟩⟩⟩⟩⟩⟩⟩⟩ <;> simp_all

/-- Two new arrays of eight bytes. -/
theorem two_arrays (w : World) :
    Blk ((w.alloc (.cells #[.int .u8 0, .int .u8 0, .int .u8 0, .int .u8 0, .int .u8 0, .int .u8 0, .int .u8 0, .int .u8 0] 43)).alloc (.cells #[.int .u8 0, .int .u8 0, .int .u8 0, .int .u8 0, .int .u8 0, .int .u8 0, .int .u8 0, .int .u8 0] 43)) (w.heap.size + 1) 43 (([0, 0, 0, 0, 0, 0, 0, 0] : List Int).map (Value.int .u8)).toArray ∧
    Blk ((w.alloc (.cells #[.int .u8 0, .int .u8 0, .int .u8 0, .int .u8 0, .int .u8 0, .int .u8 0, .int .u8 0, .int .u8 0] 43)).alloc (.cells #[.int .u8 0, .int .u8 0, .int .u8 0, .int .u8 0, .int .u8 0, .int .u8 0, .int .u8 0, .int .u8 0] 43)) w.heap.size 43 (([0, 0, 0, 0, 0, 0, 0, 0] : List Int).map (Value.int .u8)).toArray ∧
    Upd [] w ((w.alloc (.cells #[.int .u8 0, .int .u8 0, .int .u8 0, .int .u8 0, .int .u8 0, .int .u8 0, .int .u8 0, .int .u8 0] 43)).alloc (.cells #[.int .u8 0, .int .u8 0, .int .u8 0, .int .u8 0, .int .u8 0, .int .u8 0, .int .u8 0, .int .u8 0] 43)) := by
  refine ⟨?_, (Blk.new w _ _).alloc _, ((Upd.refl _ _).alloc _).alloc _⟩
  have h := Blk.new (w.alloc (.cells #[.int .u8 0, .int .u8 0, .int .u8 0, .int .u8 0, .int .u8 0, .int .u8 0, .int .u8 0, .int .u8 0] 43)) 43 #[.int .u8 0, .int .u8 0, .int .u8 0, .int .u8 0, .int .u8 0, .int .u8 0, .int .u8 0, .int .u8 0]
  rw [show (w.alloc (.cells #[.int .u8 0, .int .u8 0, .int .u8 0, .int .u8 0, .int .u8 0, .int .u8 0, .int .u8 0, .int .u8 0] 43)).heap.size = w.heap.size + 1 by simp] at h
  exact h

set_option maxRecDepth 100000 in
set_option maxHeartbeats 4000000 in
theorem sums_any (A : Option Addr) (n c : Nat) (zs : List Int) (w : World) (hs : Ints .u8 w A n zs) (hz : ∀ z ∈ zs, 0 ≤ z ∧ z ≤ 255) (hn : n ≤ 1000000000) :
    Calls Tryz.prog 13 #[.slice A n c] w fun e w' => e = .returned (.agg ((sums8 zs).map (Value.int .u8)).toArray) ∧ Upd [] w w' := by
  have HS := Lib.hid hs
  have HZ := Lib.hid hz
  have HL := hs.len
  have HC := Lib.hid (crcOf_bd zs)
  clear hs hz
  go_enter Tryz.func13, Tryz.ntmps13
  have a8 : Tryz.prog.underlying 43 = some (.array 8 5) := by kernel_rfl
  have a1 : (Tryz.prog.info? 5).map (·.size) = some 1 := by kernel_rfl
  go_upto_region 2 with (fail)
  have HB := Lib.hid (two_arrays w)
  generalize (w.alloc _).alloc _ = w1 at HB ⊢
  have HB3 := Lib.hid HB.out.1
  have HB2 := Lib.hid HB.out.2.1
  have HU1 := Lib.hid HB.out.2.2
  clear HB
  obtain ⟨g2, hg2⟩ : ∃ g, g = w.heap.size := ⟨_, rfl⟩
  obtain ⟨g3, hg3⟩ : ∃ g, g = w.heap.size + 1 := ⟨_, rfl⟩
  have HG2 : Hid (w.heap.size ≤ g2 ∧ g2 < g3) := ⟨by omega, by omega⟩
  rw [← hg3] at HB3 ⊢
  rw [← hg2] at HB2 ⊢
  clear hg2 hg3
  obtain ⟨q, hq⟩ : ∃ q, q = crcOf zs := ⟨_, rfl⟩
  have hq0 : 0 ≤ q := by rw [hq]; exact HC.out.1
  have hq1 : q ≤ 4294967295 := by rw [hq]; exact HC.out.2
  have HCRC : Hid (∀ W, Upd [] w W → Calls Tryz.prog 33 #[.slice A n c] W fun e w' => e = .returned (.int .u32 q) ∧ W = w') := fun W hW => by
    rw [hq]; exact crc_any A n c zs W (HS.out.upd hW (by simp)) HZ.out (by omega)
  have HQ := Lib.hid hq
  have c4 : ∀ W : World, (Instr.sliceAt 43 (.pointer (some ⟨g3, 0, none⟩)) none (some (.int .i64 4)) none).run Tryz.prog W = .ok (.slice (some ⟨g3, 0, none⟩) 4 8) W := gz_cut_h a8 a1 g3 0 4 (by omega) .i64
  have c5 : ∀ W : World, (Instr.sliceAt 43 (.pointer (some ⟨g3, 0, none⟩)) (some (.int .i64 4)) none none).run Tryz.prog W = .ok (.slice (some ⟨g3, 4, none⟩) 4 4) W := gz_cut_l a8 a1 g3 0 4 (by omega) .i64
  clear hq HC
  refine wp_region_lagV (v := .slice (some ⟨g3, 0, none⟩) 4 8) 2 (by kernel_rfl) (fun W => by simp [execOp]; erw [c4 W]; rfl) rfl (by kernel_rfl) (by kernel_rfl) (by kernel_rfl) (by kernel_rfl) (fun _ _ _ _ h => h) ?_
  simp only [List.take_succ_cons, List.take_zero, List.drop_succ_cons, List.drop_zero]
  repeat still_step
  refine wpStill_nil ?_
  go_wp2_with fail
  refine (HCRC.out _ (HU1.out.drew)).mono ?_
  rintro e wa ⟨rfl, rfl⟩
  go_wp2_with fail
  refine (le_any _ q 4 (by omega) (by omega)).mono ?_
  rintro e w2 ⟨LA, lc, rfl, hlo, hlu⟩
  obtain ⟨w3, hr3, hb3, hu3⟩ := copy4 (HB3.out.drew.upd hlu (by simp)) rfl (c := lc) (Ints.ofOwn hlo) 0 8 (by omega)
  have HB3' : Hid (Blk w3 g3 43 ((leB q 4 ++ [0, 0, 0, 0]).map (Value.int .u8)).toArray) := hb3
  have HV3 := Lib.hid (hu3 [some g3] w1 ((Upd.refl _ w1).drew.trans (hlu.mono (by simp))) (Or.inl (by simp)))
  clear hb3 hu3 hlo HB3
  go_wp2
  clear hr3 hlu
  refine wp_region_lagV (v := .slice (some ⟨g3, 4, none⟩) 4 4) 4 (by kernel_rfl) (fun W => by simp [execOp]; erw [c5 W]; rfl) rfl (by kernel_rfl) (by kernel_rfl) (by kernel_rfl) (by kernel_rfl) (fun _ _ _ _ h => h) ?_
  simp only [List.take_succ_cons, List.take_zero, List.drop_succ_cons, List.drop_zero]
  repeat still_step
  refine wpStill_nil ?_
  go_wp2_with fail
  refine (le_any _ (n : Int) 4 (by omega) (by omega)).mono ?_
  rintro e w4 ⟨LB, ld, rfl, hlo, hlu⟩
  obtain ⟨w5, hr5, hb5, hu5⟩ := copy4 (HB3'.out.drew.upd hlu (by simp)) (by simp [leB_len]) (c := ld) (Ints.ofOwn hlo) 4 4 (by omega)
  have HB5 : Hid (Blk w5 g3 43 ((sums8 zs).map (Value.int .u8)).toArray) := by
    have e : (leB q 4 ++ [0, 0, 0, 0]).take 4 ++ leB (n : Int) (Int.toNat 4) ++ (leB q 4 ++ [0, 0, 0, 0]).drop (4 + 4) = sums8 zs := by
      unfold sums8
      rw [← HQ.out, HL.out, List.take_append_of_le_length (by simp [leB_len]), List.take_of_length_le (by simp [leB_len]), List.drop_of_length_le (by simp [leB_len])]
      simp
    rw [e] at hb5
    exact hb5
  have HV5 := Lib.hid (hu5 [some g3] w1 (HV3.out.drew.trans (hlu.mono (by simp))) (Or.inl (by simp)))
  have HB25 := Lib.hid (HB2.out.upd HV5.out (by have := HG2.out; simp; omega))
  obtain ⟨b0, b1, b2, b3, b4, b5, b6, b7, hE⟩ := eight (sums8_len zs)
  have HE := Lib.hid hE
  rw [hE] at HB5
  have k0 := HB5.out.cell 0
  have f0 := HB25.out.frozen 0
  have z0 := HB25.out.cell 0
  have k1 := HB5.out.cell 1
  have f1 := HB25.out.frozen 1
  have z1 := HB25.out.cell 1
  have k2 := HB5.out.cell 2
  have f2 := HB25.out.frozen 2
  have z2 := HB25.out.cell 2
  have k3 := HB5.out.cell 3
  have f3 := HB25.out.frozen 3
  have z3 := HB25.out.cell 3
  have k4 := HB5.out.cell 4
  have f4 := HB25.out.frozen 4
  have z4 := HB25.out.cell 4
  have k5 := HB5.out.cell 5
  have f5 := HB25.out.frozen 5
  have z5 := HB25.out.cell 5
  have k6 := HB5.out.cell 6
  have f6 := HB25.out.frozen 6
  have z6 := HB25.out.cell 6
  have k7 := HB5.out.cell 7
  have f7 := HB25.out.frozen 7
  have z7 := HB25.out.cell 7
  simp at k0 k1 k2 k3 k4 k5 k6 k7 z0 z1 z2 z3 z4 z5 z6 z7
  have hne : g3 ≠ g2 := by have := HG2.out; omega
  clear hb5 hu5 hlo HB3' HV3 hE
  go_wp2
  have hg2 : w.heap.size ≤ g2 := HG2.out.1
  have HU5 : Upd [] w w5 := HU1.out.then HV5.out (fun b hb => by right; simp at hb; have := HG2.out; omega)
  have HB6 := Lib.hid ((((((((HB25.out.set 0 (.int .u8 b0)).set 1 (.int .u8 b1)).set 2 (.int .u8 b2)).set 3 (.int .u8 b3)).set 4 (.int .u8 b4)).set 5 (.int .u8 b5)).set 6 (.int .u8 b6)).set 7 (.int .u8 b7))
  have HU6 := Lib.hid ((((((((HU5.put (o := 0) hg2 (.int .u8 b0)).put (o := 1) hg2 (.int .u8 b1)).put (o := 2) hg2 (.int .u8 b2)).put (o := 3) hg2 (.int .u8 b3)).put (o := 4) hg2 (.int .u8 b4)).put (o := 5) hg2 (.int .u8 b5)).put (o := 6) hg2 (.int .u8 b6)).put (o := 7) hg2 (.int .u8 b7))
  clear HU5 HB5 HB25 HV5 k0 k1 k2 k3 k4 k5 k6 k7 z0 z1 z2 z3 z4 z5 z6 z7 f0 f1 f2 f3 f4 f5 f6 f7
  generalize World.setCell _ _ _ = w6 at HB6 HU6 ⊢
  have z0 := HB6.out.cell 0
  have z1 := HB6.out.cell 1
  have z2 := HB6.out.cell 2
  have z3 := HB6.out.cell 3
  have z4 := HB6.out.cell 4
  have z5 := HB6.out.cell 5
  have z6 := HB6.out.cell 6
  have z7 := HB6.out.cell 7
  simp at z0 z1 z2 z3 z4 z5 z6 z7
  refine bodyPost_ret (by simp [results, Tryz.results13, go_sem, z0, z1, z2, z3, z4, z5, z6, z7]; rfl) rfl ?_
  refine ⟨?_, HU6.out⟩
  rw [HE.out]
  rfl

end Go.Proofs.YtolcdlopgbgilaaGreatDoor

/-! Text Rely. -/
namespace Go.Dray
open Go.RowKit

section
variable {P : Program} {ops : Array Oper} {Q : Exit → Act → World → Prop}

/-- The slot that the i-th operation writes. -/
def dstOf (ops : Array Oper) (i : Nat) : Nat := ((ops[i]?).bind (·.dst)).getD 0
/-- Each operation writes a slot of its own below n, has no guard and waits for earlier ones alone. -/
def relyB (ops : Array Oper) (n : Nat) : Bool := (List.range ops.size).all fun i => match ops[i]? with
  | some o => o.guard.isNone && o.dst.isSome && decide (dstOf ops i < n) && (o.after.all fun e => !Region.binds .any e || decide (e.on < i)) && (List.range ops.size).all fun j => decide (j = i) || decide (dstOf ops j ≠ dstOf ops i)
  | none => false
theorem relyB_at {n i : Nat} {o : Oper} (h : relyB ops n = true) (ho : ops[i]? = some o) :
    o.guard = none ∧ o.dst = some (dstOf ops i) ∧ dstOf ops i < n ∧ (∀ e ∈ o.after, Region.binds .any e = true → e.on < i) ∧ ∀ j, j < ops.size → j ≠ i → dstOf ops j ≠ dstOf ops i := by
  have hi : i < ops.size := (Array.getElem?_eq_some_iff.1 ho).1
  have h1 := List.all_eq_true.1 h i (List.mem_range.2 hi)
  simp only [ho, Bool.and_eq_true, decide_eq_true_eq] at h1
  obtain ⟨⟨⟨⟨hg, hd⟩, hn⟩, ha⟩, hj⟩ := h1
  refine ⟨by simpa using hg, ?_, hn, fun e he hb => ?_, fun j hj1 hne => ?_⟩
  · obtain ⟨d, hd⟩ := Option.isSome_iff_exists.1 hd
    simp [dstOf, ho, hd]
  · have := Array.all_eq_true'.1 ha e he
    simpa [hb] using this
  · have := List.all_eq_true.1 hj j (List.mem_range.2 hj1)
    simpa [hne] using this

/-- What holds in the midst of the region. -/
structure RelyInv (ops : Array Oper) (a0 : Act) (w0 : World) (Post : Nat → Value → World → Prop) (Rel : World → World → Prop) (listed : Array Bool) (a : Act) (w : World) : Prop where
  size : listed.size = ops.size
  tsize : a.tmps.size = a0.tmps.size
  defers : a.defers = a0.defers
  fr : ∀ t, (∀ i, i < ops.size → listed.getD i false = true → dstOf ops i ≠ t) → a.tmps.getD t undef = a0.tmps.getD t undef
  post : ∀ i, i < ops.size → listed.getD i false = true → Post i (a.tmps.getD (dstOf ops i) undef) w
  rel : Rel w0 w

theorem getD_set (l : Array Bool) (i k : Nat) (hi : i < l.size) : (l.setIfInBounds i true).getD k false = if k = i then true else l.getD k false := by
  by_cases h : k = i
  · subst h
    simp [Array.getD, hi]
  · rw [if_neg h]
    simp only [Array.getD, Array.size_setIfInBounds]
    split
    · exact Array.getElem_setIfInBounds_ne (by assumption) (Ne.symm h)
    · rfl
theorem tmps_set (t : Array Value) (d k : Nat) (v : Value) (hd : d < t.size) : (t.setIfInBounds d v).getD k undef = if k = d then v else t.getD k undef := by
  by_cases h : k = d
  · subst h
    simp [Array.getD, hd]
  · rw [if_neg h]
    simp only [Array.getD, Array.size_setIfInBounds]
    split
    · exact Array.getElem_setIfInBounds_ne (by assumption) (Ne.symm h)
    · rfl

variable {a0 : Act} {w0 : World} {Post : Nat → Value → World → Prop} {Rel : World → World → Prop}

theorem RelyInv.set {listed : Array Bool} {a : Act} {w w' : World} {i : Nat} {o : Oper} {v : Value} (h : RelyInv ops a0 w0 Post Rel listed a w) (hB : relyB ops a0.tmps.size = true) (ho : ops[i]? = some o)
    (st : ∀ i v w w', Rel w w' → Post i v w → Post i v w') (tr : ∀ w w' w'', Rel w w' → Rel w' w'' → Rel w w'') (hv : Post i v w') (hr : Rel w w') :
    RelyInv ops a0 w0 Post Rel (listed.setIfInBounds i true) (a.put o.dst v) w' := by
  obtain ⟨_, hd, hn, _, hne⟩ := relyB_at hB ho
  have hi : i < ops.size := (Array.getElem?_eq_some_iff.1 ho).1
  have hil : i < listed.size := by rw [h.size]; exact hi
  have hdl : dstOf ops i < a.tmps.size := by rw [h.tsize]; exact hn
  rw [hd]
  refine ⟨by simp [h.size], by simp [Act.put, h.tsize], h.defers, fun t ht => ?_, fun k hk hl => ?_, tr _ _ _ h.rel hr⟩
  · show (a.tmps.setIfInBounds (dstOf ops i) v).getD t undef = _
    rw [tmps_set _ _ _ _ hdl, if_neg (fun e => ht i hi (by rw [getD_set _ _ _ hil, if_pos rfl]) e.symm)]
    refine h.fr t fun k hk hl => ht k hk ?_
    rw [getD_set _ _ _ hil]
    split
    · rfl
    · exact hl
  · show Post k ((a.tmps.setIfInBounds (dstOf ops i) v).getD (dstOf ops k) undef) w'
    rw [tmps_set _ _ _ _ hdl]
    by_cases e : k = i
    · subst e
      rw [if_pos rfl]
      exact hv
    · rw [if_neg (hne k hk e)]
      rw [getD_set _ _ _ hil, if_neg e] at hl
      exact st _ _ _ _ hr (h.post k hk hl)

theorem ready_mem {listed : Array Bool} {i : Nat} (h : i ∈ Region.ready .any ops listed) : ∃ o, ops[i]? = some o ∧ listed.getD i true = false ∧ ∀ e ∈ o.after, Region.binds .any e = true → listed.getD e.on false = true := by
  unfold Region.ready at h
  rw [List.mem_filter, List.mem_range] at h
  obtain ⟨hi, h⟩ := h
  rw [Bool.and_eq_true] at h
  obtain ⟨o, ho⟩ : ∃ o, ops[i]? = some o := ⟨_, Array.getElem?_eq_getElem hi⟩
  refine ⟨o, ho, by simpa using h.1, fun e he hb => ?_⟩
  have h2 := h.2
  rw [ho] at h2
  simp only [Option.map_some, Option.getD_some] at h2
  have := Array.all_eq_true'.1 h2 e he
  simpa [hb] using this

theorem all_listed {listed : Array Bool} {n : Nat} (hB : relyB ops n = true) (hs : listed.size = ops.size) (h : Region.ready .any ops listed = []) : ∀ i, i < ops.size → listed.getD i false = true := by
  intro i
  induction i using Nat.strongRecOn with
  | _ i ih =>
    intro hi
    obtain ⟨o, ho⟩ : ∃ o, ops[i]? = some o := ⟨_, Array.getElem?_eq_getElem hi⟩
    have hb := relyB_at hB ho
    by_cases hl : listed.getD i false = true
    · exact hl
    · exfalso
      have hm : i ∈ Region.ready .any ops listed := by
        unfold Region.ready
        rw [List.mem_filter, List.mem_range]
        refine ⟨hi, ?_⟩
        rw [ho]
        have h1 : listed.getD i true = false := by
          have hil : i < listed.size := by omega
          simp [Array.getD, hil] at hl ⊢
          exact hl
        simp only [h1, Bool.not_false, Bool.true_and, Option.map_some, Option.getD_some]
        refine Array.all_eq_true'.2 fun e he => ?_
        by_cases hbe : Region.binds .any e = true
        · have := ih e.on (hb.2.2.2.1 e he hbe) (by have := hb.2.2.2.1 e he hbe; omega)
          simp [hbe, this]
        · simp [hbe]
      rw [h] at hm
      cases hm

/-- How many are left. -/
def leftN (listed : Array Bool) : Nat := listed.toList.count false
theorem leftN_set {listed : Array Bool} {i : Nat} (h : listed.getD i true = false) : leftN (listed.setIfInBounds i true) + 1 = leftN listed := by
  have hi : i < listed.size := by
    rcases Nat.lt_or_ge i listed.size with h1 | h1
    · exact h1
    · simp [Array.getD, Nat.not_lt.2 h1] at h
  have hv : listed.toList[i]? = some false := by
    simp [Array.getD, hi] at h
    rw [Array.getElem?_toList, Array.getElem?_eq_getElem hi, h]
  unfold leftN
  rw [Array.toList_setIfInBounds]
  generalize listed.toList = l at hv ⊢
  clear h hi
  induction l generalizing i with
  | nil => simp at hv
  | cons b l ih =>
    cases i with
    | zero => simp at hv; subst hv; simp
    | succ i =>
      simp at hv
      have := ih hv
      simp only [List.set_cons_succ, List.count_cons]
      omega

theorem wpAny_rely (hB : relyB ops a0.tmps.size = true) (st : ∀ i v w w', Rel w w' → Post i v w → Post i v w') (tr : ∀ w w' w'', Rel w w' → Rel w' w'' → Rel w w'')
    (step : ∀ i o, ops[i]? = some o → ∀ a w, (∀ t, (∀ k, k < ops.size → dstOf ops k ≠ t) → a.tmps.getD t undef = a0.tmps.getD t undef) → (∀ e ∈ o.after, Region.binds .any e = true → Post e.on (a.tmps.getD (dstOf ops e.on) undef) w) → Rel w0 w →
      Oper.wp P o a w (fun a' w' => ∃ v, a' = a.put o.dst v ∧ Post i v w' ∧ Rel w w') Q)
    (fin : ∀ a w, a.tmps.size = a0.tmps.size → a.defers = a0.defers → (∀ t, (∀ k, k < ops.size → dstOf ops k ≠ t) → a.tmps.getD t undef = a0.tmps.getD t undef) → (∀ i, i < ops.size → Post i (a.tmps.getD (dstOf ops i) undef) w) → Rel w0 w → Q .normal a w) :
    ∀ (fuel : Nat) (listed : Array Bool) (a : Act) (w : World), leftN listed ≤ fuel → RelyInv ops a0 w0 Post Rel listed a w → wpAny P .any ops Q fuel listed a w := by
  have fin' : ∀ (listed : Array Bool) (a : Act) (w : World), RelyInv ops a0 w0 Post Rel listed a w → Region.ready .any ops listed = [] → Q .normal a w := fun listed a w h hr =>
    fin a w h.tsize h.defers (fun t ht => h.fr t fun i hi _ => ht i hi) (fun i hi => h.post i hi (all_listed hB h.size hr i hi)) h.rel
  intro fuel
  induction fuel with
  | zero =>
    intro listed a w hf h
    have hr : Region.ready .any ops listed = [] := by
      apply List.eq_nil_iff_forall_not_mem.2
      intro i hi
      obtain ⟨o, _, hl, _⟩ := ready_mem hi
      have := leftN_set hl
      omega
    exact ⟨hr, fin' listed a w h hr⟩
  | succ fuel ih =>
    intro listed a w hf h
    refine ⟨fin' listed a w h, fun i hi => ?_⟩
    obtain ⟨o, ho, hl, hdep⟩ := ready_mem hi
    have hb := relyB_at hB ho
    have hsz := (Array.getElem?_eq_some_iff.1 ho).1
    unfold wpOp
    rw [ho]
    simp only
    rw [if_pos (by simp [Region.wanted, hb.1])]
    refine Or.inl (Oper.wp_mono ?_ (step i o ho a w (fun t ht => h.fr t fun k hk _ => ht k hk) (fun e he hbe => h.post e.on (by have := hb.2.2.2.1 e he hbe; omega) (hdep e he hbe)) h.rel))
    rintro a' w' ⟨v, rfl, hv, hr⟩
    exact ih _ _ _ (by have := leftN_set hl; omega) (h.set hB ho st tr hv hr)

theorem wp_region_rely {id : Nat} {a : Act} {w : World} (Post : Nat → Value → World → Prop) (Rel : World → World → Prop) (hm : P.follows .mixedOrders = true) (hB : relyB ops a.tmps.size = true) (rf : Rel w.drew w.drew) (st : ∀ i v w w', Rel w w' → Post i v w → Post i v w') (tr : ∀ w w' w'', Rel w w' → Rel w' w'' → Rel w w'')
    (step : ∀ i o, ops[i]? = some o → ∀ a' w', (∀ t, (∀ k, k < ops.size → dstOf ops k ≠ t) → a'.tmps.getD t undef = a.tmps.getD t undef) → (∀ e ∈ o.after, Region.binds .any e = true → Post e.on (a'.tmps.getD (dstOf ops e.on) undef) w') → Rel w.drew w' →
      Oper.wp P o a' w' (fun a2 w2 => ∃ v, a2 = a'.put o.dst v ∧ Post i v w2 ∧ Rel w' w2) Q)
    (fin : ∀ a' w', a'.tmps.size = a.tmps.size → a'.defers = a.defers → (∀ t, (∀ k, k < ops.size → dstOf ops k ≠ t) → a'.tmps.getD t undef = a.tmps.getD t undef) → (∀ i, i < ops.size → Post i (a'.tmps.getD (dstOf ops i) undef) w') → Rel w.drew w' → Q .normal a' w') :
    (Code.region id ops true).wp P Q a w := by
  refine wp_region_any hm ?_
  refine wpAny_rely (a0 := a) (w0 := w.drew) (Post := Post) (Rel := Rel) hB st tr step fin _ _ _ _ ?_ ⟨by simp, rfl, rfl, fun _ _ => rfl, fun i hi hl => ?_, rf⟩
  · unfold leftN
    simp
  · simp [Array.getD, hi] at hl
end

end Go.Dray

/-! Text StrApp. -/
namespace Go.Dray
open Go.RowKit

/-- A text's bytes. -/
def sb (s : ByteArray) : List Int := s.data.toList.map fun b => (b.toNat : Int)
theorem sb_len (s : ByteArray) : (sb s).length = s.size := by unfold sb; rw [List.length_map, Array.length_toList]; rfl
theorem sb_bd (s : ByteArray) : ∀ z ∈ sb s, 0 ≤ z ∧ z ≤ 255 := by
  intro z hz
  unfold sb at hz
  obtain ⟨b, _, rfl⟩ := List.mem_map.1 hz
  have := b.toNat_lt
  omega
theorem strCells_sb (s : ByteArray) : Lib.strCells s = (sb s).map (Value.int .u8) := by simp [Lib.strCells, sb]

theorem run_app_str {P : Program} {w : World} {B : Nat} {t u ty e : TypeId} (el : El P t e (.int .u8 0) 1 1) (hu : P.underlying u = some .string)
    {A : Option Addr} {n c : Nat} {xs : List Value} (hown : Own w B e 1 A n c xs) (s : ByteArray) (hmax : n + s.size ≤ maxLen) (hbytes : n + s.size ≤ 140737488355328) (hB : B ≤ w.heap.size) :
    ∃ A' c' w', (Builtin.append_ #[t, u] ty #[.slice A n c, .string s]).run P w = .ok (.slice A' (n + s.size) c') w' ∧ Own w' B e 1 A' (n + s.size) c' (xs ++ (sb s).map (Value.int .u8)) ∧ Upd [ob A] w w' ∧ Fresh w A A' := by
  obtain ⟨i, hi, hz, hs, hb⟩ := info_get el
  obtain ⟨v', w', hr, h2, h3, _⟩ := Lib.run_append_own_string (P := P) w B t u ty e i el.under hu hi hz hs hb (.slice A n c) n xs hown s hmax hbytes hB
  have hrow : (Value.slice A n c).ownBlock = ob A := by cases A <;> rfl
  rw [hrow] at h3
  have hv : ∃ A' c', v' = .slice A' (n + s.size) c' := by
    rcases h2.2 with ⟨h, h0⟩ | ⟨g, cap, cur, h, _⟩
    · exact ⟨none, 0, by rw [h, h0]⟩
    · exact ⟨_, _, h⟩
  obtain ⟨A', c', rfl⟩ := hv
  rw [strCells_sb] at h2
  refine ⟨A', c', w', hr, h2, Upd.ofGrown h3, fun g hg => ?_⟩
  have h63 : maxLen = 9223372036854775807 := rfl
  rcases hown.cases.2.2.2 with ⟨rfl, rfl, rfl⟩ | ⟨g0, cur, rfl, hbg, hblk, hcs, htk⟩
  · rcases Nat.eq_zero_or_pos s.size with h0 | h0
    · rcases Own.cases h2 with ⟨_, _, _, ⟨rfl, _⟩ | ⟨g1, cur1, rfl, hB1, hb1, _⟩⟩
      · cases hg
      · right
        have hr2 : (Builtin.append_ #[t, u] ty #[.slice none 0 0, .string s]).run P w = .ok (.slice none 0 0) w := by
          have hf := Lib.run_firstCells_string (P := P) w 1 s
          rw [h0] at hf
          have hn : Lib.strCells s = [] := List.eq_nil_of_length_eq_zero (by rw [Lib.strCells_length]; exact h0)
          simp [Builtin.append_, run_underlying el.under, run_underlying hu, sizeOf, typeInfo, hi, hs, Builtin.lenOf, h0, hf]
        rw [hr2] at hr
        injection hr with hr
        injection hr with hr
        cases hr
    · have hr2 := run_append_nil_string (P := P) w t u ty e i (.int .u8 0) el.under hu hi hz s h0 (by omega) (by rw [hb]; omega)
      rw [hr2] at hr
      injection hr with hr
      injection hr with hr _ _
      subst hr
      injection hg with hg
      right
      exact Nat.le_of_eq hg
  · by_cases hroom : n + s.size ≤ c
    · have hr2 := Lib.run_append_room_string (P := P) w t u ty e i el.under hu hi hs g0 n c cur hblk s hroom (by rw [hcs]; omega)
      rw [hr2] at hr
      injection hr with hr
      injection hr with hr _ _
      subst hr
      left
      exact hg
    · have hxl : xs.length = n := by have := hown.len; omega
      have hr2 := Lib.run_append_grow_string (P := P) w t u ty e i (.int .u8 0) el.under hu hi hz ⟨g0, 0, none⟩ n c xs (by rw [hs]; omega)
        (fun j v hv => by
          have := hown.seg.cell j v hv
          rw [Addr.add_lit]
          exact this) s (by omega) (by omega) (by rw [hb]; exact growslice_fits (by omega) (by omega))
      rw [hr2] at hr
      injection hr with hr
      injection hr with hr _ _
      subst hr
      injection hg with hg
      right
      exact Nat.le_of_eq hg

theorem wpList_appS {P : Program} {w : World} {ops : Array Oper} {rest : List Oper} {o : Oper} {a : Act} {Q : Exit → Act → World → Prop} (hgd : o.guard = none) {sl x : Operand} {t u : TypeId}
    (ho : o.op = .call { callee := .builtin .append, args := #[sl, x], argTypes := #[t, u] })
    {B : Nat} {e : TypeId} (el : El P t e (.int .u8 0) 1 1) (hu : P.underlying u = some .string)
    {A : Option Addr} {n c : Nat} {xs : List Value} (hs : a.eval sl = .slice A n c) (hown : Own w B e 1 A n c xs) {s : ByteArray} (hx : a.eval x = .string s)
    (hmax : n + s.size ≤ maxLen) (hbytes : n + s.size ≤ 140737488355328) (hB : B ≤ w.heap.size)
    (h : ∀ A' c' w', Own w' B e 1 A' (n + s.size) c' (xs ++ (sb s).map (Value.int .u8)) → Upd [ob A] w w' → Fresh w A A' → wpList P ops Q rest (a.put o.dst (.slice A' (n + s.size) c')) w') : wpList P ops Q (o :: rest) a w := by
  refine wpList_plain hgd fun K hK => ?_
  obtain ⟨A', c', w', hr, h2, h3, h4⟩ := run_app_str (P := P) (ty := o.type) el hu hown s hmax hbytes hB
  unfold Oper.wp execOp
  simp only [ho, resolve, invoke, builtin, Sem.run_bind, Sem.run_pure, Result.andThen_ok, List.map_toArray, List.map_cons, List.map_nil, hs, hx, hr]
  exact hK _ _ (h A' c' w' h2 h3 h4)

end Go.Dray
