/- Merged by wip/tools/merge.py: GzO GzJ GzW GzM GzV GzP. -/
import Derived.Test.YtolcdlopgbgilaaGreatDoorMz25

/-! Text GzO. -/
namespace Go.Proofs.YtolcdlopgbgilaaGreatDoor
open Go.RowKit Go.Dray

theorem leNum_leB4 (v : Int) (h0 : 0 ≤ v) (h1 : v ≤ 4294967295) : leNum (leB v 4) = v := by
  simp [leB, tab, List.range_succ, leNum, beNum]
  omega
theorem gz_front (s : ByteArray) (mt : Int) (out zs rest : List Int) : gzBytes s mt out zs ++ rest = 31 :: 139 :: 8 :: gzFlag s :: (leB mt 4 ++ (0 :: 3 :: (sb (gzTail s) ++ (out ++ (sums8 zs ++ rest))))) := by
  simp [gzBytes]
theorem gz_drop10 (s : ByteArray) (mt : Int) (out zs rest : List Int) : (gzBytes s mt out zs ++ rest).drop 10 = sb (gzTail s) ++ (out ++ (sums8 zs ++ rest)) := by
  rw [gz_front]
  have h : (leB mt 4).length = 4 := leB_len _ _
  generalize leB mt 4 = l at h ⊢
  match l, h with
  | [a, b, c, d], _ => rfl
theorem nought_app {a b : List Int} (h : (0 : Int) ∉ a) : noughtAt (a ++ 0 :: b) = a.length := by
  unfold noughtAt
  induction a with
  | nil => rfl
  | cons x a ih =>
    have hx : (x == 0) = false := by
      simp only [List.mem_cons, not_or] at h
      simpa using fun e => h.1 e.symm
    rw [List.cons_append, List.findIdx_cons, hx, List.length_cons, ← ih (fun hm => h (List.mem_cons_of_mem _ hm))]
    rfl
theorem no_nought {s : ByteArray} (h : ¬ 0 ≤ Lib.indexByte s.data.toList 0) : (0 : Int) ∉ sb s := by
  intro hm
  apply h
  have h1 := index_nought (sb s) (sb_bd s)
  have h2 : Lib.bytesOf (sb s) = s.data.toList := by
    unfold Lib.bytesOf sb
    rw [List.map_map]
    conv => rhs; rw [← List.map_id s.data.toList]
    refine List.map_congr_left fun b _ => ?_
    simp
  rw [h2] at h1
  have h3 : noughtAt (sb s) < (sb s).length := List.findIdx_lt_length_of_exists ⟨0, hm, by simp⟩
  rw [h1, if_pos h3]
  omega

theorem sb_tail (s : ByteArray) (h : s.size ≠ 0) : sb (gzTail s) = sb s ++ [0] := by
  unfold gzTail
  rw [if_neg h]
  unfold sb
  rw [ByteArray.data_append, Array.toList_append, List.map_append]
  rfl
/-- The front of a member, and what stands behind it. -/
def gzFront (s : ByteArray) (mt : Int) (r : List Int) : List Int := 31 :: 139 :: 8 :: gzFlag s :: (leB mt 4 ++ (0 :: 3 :: (sb (gzTail s) ++ r)))
theorem front_len (s : ByteArray) (mt : Int) (r : List Int) : (gzFront s mt r).length = 10 + (gzTail s).size + r.length := by
  unfold gzFront
  simp [leB_len, sb_len]
  omega
theorem front_drop10 (s : ByteArray) (mt : Int) (r : List Int) : (gzFront s mt r).drop 10 = sb (gzTail s) ++ r := by
  unfold gzFront
  have h : (leB mt 4).length = 4 := leB_len _ _
  generalize leB mt 4 = l at h ⊢
  match l, h with
  | [a, b, c, d], _ => rfl
theorem front_drop (s : ByteArray) (mt : Int) (r : List Int) : (gzFront s mt r).drop (10 + (gzTail s).size) = r := by
  rw [← List.drop_drop, front_drop10, List.drop_left' (sb_len _)]
/-- The front of a member says its head, whatever stands behind it. -/
theorem head_front (s : ByteArray) (mt : Int) (r : List Int) (h0 : 0 ≤ mt) (h1 : mt ≤ 4294967295) (hn : ¬ 0 ≤ Lib.indexByte s.data.toList 0) (hs : s.size ≤ 200) :
    headOf (gzFront s mt r) = .ok mt (sb s) (10 + (gzTail s).size) := by
  have hd := front_drop10 s mt r
  have hlen := front_len s mt r
  have g0 : (gzFront s mt r).getD 0 0 = 31 := rfl
  have g1 : (gzFront s mt r).getD 1 0 = 139 := rfl
  have g2 : (gzFront s mt r).getD 2 0 = 8 := rfl
  have g3 : (gzFront s mt r).getD 3 0 = gzFlag s := rfl
  have g4 : leNum (((gzFront s mt r).drop 4).take 4) = mt := by
    unfold gzFront
    simp only [List.drop_succ_cons, List.drop_zero]
    rw [List.take_left' (leB_len mt 4), leNum_leB4 mt h0 h1]
  generalize gzFront s mt r = X at *
  unfold headOf
  rw [if_neg (by omega), if_neg (by rw [g0, g1]; simp), if_neg (by rw [g2]; simp)]
  by_cases hz : s.size = 0
  · have hf : gzFlag s = 0 := if_pos hz
    have ht : (gzTail s).size = 0 := by unfold gzTail; rw [if_pos hz]; rfl
    have hsb : sb s = [] := List.eq_nil_of_length_eq_zero (by rw [sb_len]; exact hz)
    rw [hf] at g3
    rw [if_neg (by rw [g3]; omega), g4, head1, if_neg (by rw [g3]; decide), head2, if_neg (by rw [g3]; decide), head3, if_neg (by rw [g3]; decide), head4, if_neg (by rw [g3]; decide), hsb, ht]
  · have hf : gzFlag s = 8 := if_neg hz
    have ht : (gzTail s).size = s.size + 1 := by rw [← sb_len, sb_tail s hz, List.length_append, sb_len]; rfl
    rw [hf] at g3
    rw [sb_tail s hz, List.append_assoc] at hd
    have hna : noughtAt (X.drop 10) = s.size := by rw [hd, ← sb_len]; exact nought_app (no_nought hn)
    have htk : (X.drop 10).take s.size = sb s := by rw [hd]; exact List.take_left' (sb_len s)
    rw [if_neg (by rw [g3]; omega), g4, head1, if_neg (by rw [g3]; decide), head2, if_pos (by rw [g3]; decide), hna, if_pos (by omega), if_neg (by omega), htk, head3, if_neg (by rw [g3]; decide), head4, if_neg (by rw [g3]; decide), ht]
    congr 1
/-- A member that Pack made says its own head, whatever stands behind it. -/
theorem gz_is_front (s : ByteArray) (mt : Int) (out zs rest : List Int) : gzBytes s mt out zs ++ rest = gzFront s mt (out ++ (sums8 zs ++ rest)) := gz_front s mt out zs rest

end Go.Proofs.YtolcdlopgbgilaaGreatDoor

/-! Text GzJ. -/
namespace Go.Proofs.YtolcdlopgbgilaaGreatDoor
open Go.RowKit Go.Dray

theorem gz_cut_some {A : Option Addr} {a : Addr} (h : A = some a) (c lo : Nat) : ∃ a', cutA 1 A c lo = some a' := by
  subst h
  unfold cutA
  split
  · exact ⟨_, rfl⟩
  · exact ⟨_, rfl⟩
/-- The first nought from k on. -/
theorem nought_any (A : Option Addr) (n c : Nat) (zs : List Int) (w : World) (hs : Ints .u8 w A n zs) (hz : ∀ z ∈ zs, 0 ≤ z ∧ z ≤ 255) (hnc : n ≤ c) (k : Nat) (hk : k ≤ n) (hn : 0 < n) :
    Calls Tryz.prog 36 #[.slice (cutA 1 A c k) (n - k) (c - k), .int .u8 0] w fun e w' => e = .returned (.int .i64 (if noughtAt (zs.drop k) < n - k then (noughtAt (zs.drop k) : Int) else -1)) ∧ w = w' := by
  have hA := Seg.at_ hs hn
  obtain ⟨a', ha⟩ := gz_cut_some hA c k
  have hc := cut_from hs (c := c) hk hnc
  have hl := hs.len.out
  rw [ha] at hc ⊢
  have h := indexByte_any a' (n - k) (c - k) (zs.drop k) w hc fun z h => hz z (List.mem_of_mem_drop h)
  rw [List.length_drop, hl] at h
  exact h

end Go.Proofs.YtolcdlopgbgilaaGreatDoor

/-! Text GzW. -/
namespace Go.Proofs.YtolcdlopgbgilaaGreatDoor
open Go.RowKit Go.Dray

def GzHeadPost (r : HeadR) (w : World) (e : Ending) (w' : World) : Prop := match r with
  | .bad er => HeadBad er w e w'
  | .ok tm nm at_ => e = .returned (.tuple #[.agg #[.string (strOfNums nm), .int .i64 tm, .slice none 0 0], .int .i64 (at_ : Nat), .int .i64 0]) ∧ Upd [] w w'

theorem gz_bad {r : HeadR} {er : Int} {w w' : World} {e : Ending} (h : r = .bad er) (hh : HeadBad er w e w') : GzHeadPost r w e w' := by
  subst h
  exact hh
theorem gz_good {r : HeadR} {tm : Int} {nm : List Int} {at_ : Nat} {w w' : World} {e : Ending} (h : r = .ok tm nm at_) (hh : e = .returned (.tuple #[.agg #[.string (strOfNums nm), .int .i64 tm, .slice none 0 0], .int .i64 (at_ : Nat), .int .i64 0])) (hu : Upd [] w w') : GzHeadPost r w e w' := by
  subst h
  exact ⟨hh, hu⟩
theorem gz_str0 : (⟨#[]⟩ : ByteArray) = strOfNums [] := rfl
theorem and_low32 {q : Int} (h0 : 0 ≤ q) (h1 : q ≤ 4294967295) : bits .and .u32 q 65535 = q % 65536 := by
  rw [u32_and q 65535 h0 (by omega) (by omega) (by omega)]
  show ((q.toNat &&& 65535 : Nat) : Int) = _
  rw [show (65535 : Nat) = 2 ^ 16 - 1 from rfl, Nat.and_two_pow_sub_one_eq_mod]
  omega

set_option maxRecDepth 100000 in
set_option maxHeartbeats 16000000 in
theorem gzHead_any (A : Option Addr) (n c : Nat) (zs : List Int) (x3 : Int) (w : World) (hs : Ints .u8 w A n zs) (hz : ∀ z ∈ zs, 0 ≤ z ∧ z ≤ 255) (hnc : n ≤ c) (hn : 10 ≤ n) (hbig : n ≤ 100000000) (h0 : zs[0]? = some 31) (h1 : zs[1]? = some 139) (h2 : zs[2]? = some 8) (h3 : zs[3]? = some x3) (hx0 : 0 ≤ x3) (hx : x3 < 32) :
    Calls Tryz.prog 16 #[.slice A n c] w (GzHeadPost (head1 zs (leNum ((zs.drop 4).take 4))) w) := by
  have d1 : decide ((n : Int) < 10) = false := by simp; omega
  have HS := Lib.hid hs
  have HZ := Lib.hid hz
  have HL := hs.len
  have hF := flag_int hx0 (show x3 ≤ 255 by omega)
  have q3 : (bits .and .u8 x3 224 != 0) = false := by
    have := hF.1.2 hx
    simp [this]
  have HF := Lib.hid hF
  have HX3 : Hid (zs.getD 3 0 = x3) := by show _ = _; simp [List.getD, h3]
  clear hs hz hF
  obtain ⟨t, ht⟩ : ∃ t, t = leNum ((zs.drop 4).take 4) := ⟨_, rfl⟩
  have htb : 0 ≤ t ∧ t ≤ 4294967295 := by
    have h := leNum_bd ((zs.drop 4).take 4) fun z hz' => HZ.out z (List.mem_of_mem_drop (List.mem_of_mem_take hz'))
    have hl : ((zs.drop 4).take 4).length = 4 := by rw [List.length_take, List.length_drop, HL.out]; omega
    rw [hl, ← ht] at h
    have : (2 : Int) ^ (8 * 4) = 4294967296 := by decide
    omega
  have ht0 := htb.1
  have ht1 := htb.2
  rw [← ht]
  have HG : Hid (∀ W, Upd [] w W → Calls Tryz.prog 35 #[.slice A n c, .int .i64 4, .int .i64 4] W fun e w' => e = .returned (.tuple #[.int .u64 t, .bool true]) ∧ W = w') := fun W hW => by
    rw [ht]
    exact getLe_ok A n c zs 4 4 W (HS.out.upd hW (by simp)) HZ.out hnc (by omega) (by omega) (by omega) (by omega) (by omega)
  clear htb
  obtain ⟨r, hr⟩ : ∃ r, r = head1 zs t := ⟨_, rfl⟩
  rw [← hr]
  have HR := Lib.hid hr
  clear hr
  have HB1 : Hid (Blk (w.alloc (.cells #[.string ⟨#[]⟩, .int .i64 0, .slice none 0 0] 35)) w.heap.size 35 #[.string ⟨#[]⟩, .int .i64 0, .slice none 0 0]) := Blk.new w _ _
  have HU1 : Hid (Upd [] w (w.alloc (.cells #[.string ⟨#[]⟩, .int .i64 0, .slice none 0 0] 35))) := (Upd.refl _ _).alloc _
  obtain ⟨g, hg⟩ : ∃ g, g = w.heap.size := ⟨_, rfl⟩
  have hgw : w.heap.size ≤ g := by omega
  go_enter Tryz.func16, Tryz.ntmps16
  go_upto_region 1 with (fail)
  rw [← hg] at HB1 ⊢
  generalize hw1 : w.alloc _ = w1 at HB1 HU1 ⊢
  have k0 := HB1.out.cell 0
  have k1 := HB1.out.cell 1
  have k2 := HB1.out.cell 2
  have f0 := HB1.out.frozen 0
  have f1 := HB1.out.frozen 1
  have f2 := HB1.out.frozen 2
  simp at k0 k1 k2
  clear hw1 hg
  have HS1 := Lib.hid (HS.out.upd HU1.out (by simp))
  have ix0 := HS1.out.index el_byte c .i64 0 (by omega)
  have cx0 := HS1.out.cell h0
  have ix1 := HS1.out.index el_byte c .i64 1 (by omega)
  have cx1 := HS1.out.cell h1
  have ix2 := HS1.out.index el_byte c .i64 2 (by omega)
  have cx2 := HS1.out.cell h2
  have ix3 := HS1.out.index el_byte c .i64 3 (by omega)
  have cx3 := HS1.out.cell h3
  simp at ix0 cx0 ix1 cx1 ix2 cx2 ix3 cx3
  clear ht h0 h1 h2 h3
  go_upto_region 13 with (go_at_call 35; refine (HG.out _ HU1.out).mono ?_; rintro e w' ⟨rfl, rfl⟩)
  have HB2 := Lib.hid (HB1.out.set 1 (.int .i64 t))
  have HU2 := Lib.hid (HU1.out.put (o := 1) hgw (.int .i64 t))
  clear ix0 cx0 ix1 cx1 ix2 cx2 ix3 cx3 k0 k1 k2 f0 f1 f2 HG HS1
  generalize World.setCell _ _ _ = w2 at HB2 HU2 ⊢
  have HB2 : Hid (Blk w2 g 35 #[.string ⟨#[]⟩, .int .i64 t, .slice none 0 0]) := HB2
  clear HB1 HU1
  go_upto_if 58 with fail
  go_cut [8] from 9 (fun v8 wc => ∃ a : Nat, v8 = .int .i64 a ∧ a ≤ n ∧ wc = w2 ∧ Hid (r = head2 zs t a))
  case first =>
    by_cases hf4 : x3 / 4 % 2 = 1
    · have b4 : (bits .and .u8 x3 4 != 0) = true := by
        rw [bne_iff_ne]
        intro e
        have := (HF.out.2.1).1 e
        omega
      by_cases hl : n < 12
      · have k0 := HB2.out.cell 0
        have k1 := HB2.out.cell 1
        have k2 := HB2.out.cell 2
        have f0 := HB2.out.frozen 0
        have f1 := HB2.out.frozen 1
        have f2 := HB2.out.frozen 2
        simp at k0 k1 k2
        go_wp2_with (go_at_call 35; refine (getLe_bad A n c 10 2 _ (by omega) (by omega) (by omega) (by omega) (by omega)).mono ?_; rintro e w' ⟨rfl, rfl⟩)
        have HB3 := Lib.hid (((HB2.out.set 0 (.string ⟨#[]⟩)).set 1 (.int .i64 t)).set 2 (.slice none 0 0))
        have HU3 := Lib.hid (((HU2.out.put (o := 0) hgw (.string ⟨#[]⟩)).put (o := 1) hgw (.int .i64 t)).put (o := 2) hgw (.slice none 0 0))
        clear k0 k1 k2 f0 f1 f2
        generalize World.setCell _ _ _ = w3 at HB3 HU3 ⊢
        have k0 := HB3.out.cell 0
        have k1 := HB3.out.cell 1
        have k2 := HB3.out.cell 2
        simp at k0 k1 k2
        refine bodyPost_ret (by simp [results, Tryz.results16, go_sem, k0, k1, k2]; rfl) rfl ?_
        exact gz_bad (by rw [HR.out, head1, if_pos (by rw [HX3.out]; exact hf4), if_pos (by rw [HL.out]; exact hl)]) ⟨_, _, rfl, HU3.out⟩
      · obtain ⟨v, hv⟩ : ∃ v, v = leNum ((zs.drop 10).take 2) := ⟨_, rfl⟩
        have hvb : 0 ≤ v ∧ v ≤ 65535 := by
          have h := leNum_bd ((zs.drop 10).take 2) fun z hz' => HZ.out z (List.mem_of_mem_drop (List.mem_of_mem_take hz'))
          have hl2 : ((zs.drop 10).take 2).length = 2 := by rw [List.length_take, List.length_drop, HL.out]; omega
          rw [hl2, ← hv] at h
          have : (2 : Int) ^ (8 * 2) = 65536 := by decide
          omega
        have hv0 := hvb.1
        have hv1 := hvb.2
        have HV := Lib.hid hv
        have HG1 : Hid (∀ W, Upd [] w W → Calls Tryz.prog 35 #[.slice A n c, .int .i64 10, .int .i64 2] W fun e w' => e = .returned (.tuple #[.int .u64 v, .bool true]) ∧ W = w') := fun W hW => by
          rw [hv]
          exact getLe_ok A n c zs 10 2 W (HS.out.upd hW (by simp)) HZ.out hnc (by omega) (by omega) (by omega) (by omega) (by omega)
        clear hv hvb
        by_cases hvn : (n : Int) - 12 < v
        · have dv : decide ((n : Int) - 12 < v) = true := by simpa using hvn
          have k0 := HB2.out.cell 0
          have k1 := HB2.out.cell 1
          have k2 := HB2.out.cell 2
          have f0 := HB2.out.frozen 0
          have f1 := HB2.out.frozen 1
          have f2 := HB2.out.frozen 2
          simp at k0 k1 k2
          go_wp2_with (go_at_call 35; refine (HG1.out _ HU2.out).mono ?_; rintro e w' ⟨rfl, rfl⟩)
          have HB3 := Lib.hid (((HB2.out.set 0 (.string ⟨#[]⟩)).set 1 (.int .i64 t)).set 2 (.slice none 0 0))
          have HU3 := Lib.hid (((HU2.out.put (o := 0) hgw (.string ⟨#[]⟩)).put (o := 1) hgw (.int .i64 t)).put (o := 2) hgw (.slice none 0 0))
          clear k0 k1 k2 f0 f1 f2
          generalize World.setCell _ _ _ = w3 at HB3 HU3 ⊢
          have k0 := HB3.out.cell 0
          have k1 := HB3.out.cell 1
          have k2 := HB3.out.cell 2
          simp at k0 k1 k2
          refine bodyPost_ret (by simp [results, Tryz.results16, go_sem, k0, k1, k2]; rfl) rfl ?_
          exact gz_bad (by rw [HR.out, head1, if_pos (by rw [HX3.out]; exact hf4), if_neg (by rw [HL.out]; exact hl), if_pos (by rw [HL.out, ← HV.out]; exact hvn)]) ⟨_, _, rfl, HU3.out⟩
        · have dv : decide ((n : Int) - 12 < v) = false := by simpa using hvn
          go_wp2_with (go_at_call 35; refine (HG1.out _ HU2.out).mono ?_; rintro e w' ⟨rfl, rfl⟩)
          go_meet
          case rel =>
            refine ⟨12 + v.toNat, by congr 1; omega, by omega, rfl, ?_⟩
            show _ = _
            rw [HR.out, head1, if_pos (by rw [HX3.out]; exact hf4), if_neg (by rw [HL.out]; exact hl), if_neg (by rw [HL.out, ← HV.out]; omega), ← HV.out]
    · have b4 : (bits .and .u8 x3 4 != 0) = false := by
        have := (HF.out.2.1).2 (by omega)
        simp [this]
      go_wp2
      go_meet
      case rel => exact ⟨10, rfl, by omega, rfl, by show _ = _; rw [HR.out, head1, if_neg (by rw [HX3.out]; exact hf4)]⟩
  case rest =>
    obtain ⟨a, rfl, ha, rfl, HRa⟩ := hcut
    clear HR
    go_upto_if 85 with fail
    go_cut [8] from 9 (fun v8 wc => ∃ (a : Nat) (nm : List Int) (S : ByteArray), v8 = .int .i64 a ∧ a ≤ n ∧ Hid (S = strOfNums nm) ∧ Hid (Blk wc g 35 #[.string S, .int .i64 t, .slice none 0 0]) ∧ Hid (Upd [] w wc) ∧ Hid (r = head3 zs t nm a))
    case first =>
      by_cases hf8 : x3 / 8 % 2 = 1
      · have b8 : (bits .and .u8 x3 8 != 0) = true := by
          rw [bne_iff_ne]
          intro e
          have := (HF.out.2.2.1).1 e
          omega
        have cut8 := run_cut_l el_byte A n c .i64 (a : Int) a rfl (by omega)
        obtain ⟨K, hK⟩ : ∃ K, K = noughtAt (zs.drop a) := ⟨_, rfl⟩
        have HK := Lib.hid hK
        clear hK
        by_cases hk : K < n - a
        · have HIX : Hid (∀ W, Upd [] w W → Calls Tryz.prog 36 #[.slice (cutA 1 A c a) (n - a) (c - a), .int .u8 0] W fun e w' => e = .returned (.int .i64 (K : Int)) ∧ W = w') := fun W hW => by
            have h := nought_any A n c zs W (HS.out.upd hW (by simp)) HZ.out hnc a (by omega) (by omega)
            rw [← HK.out, if_pos hk] at h
            exact h
          by_cases hk2 : 200 < K
          · have dk : decide ((200 : Int) < K) = true := by simp; omega
            have k0 := HB2.out.cell 0
            have k1 := HB2.out.cell 1
            have k2 := HB2.out.cell 2
            have f0 := HB2.out.frozen 0
            have f1 := HB2.out.frozen 1
            have f2 := HB2.out.frozen 2
            simp at k0 k1 k2
            go_wp2_with (go_at_call 36; refine (HIX.out _ HU2.out).mono ?_; rintro e w' ⟨rfl, rfl⟩)
            have HB3 := Lib.hid (((HB2.out.set 0 (.string ⟨#[]⟩)).set 1 (.int .i64 t)).set 2 (.slice none 0 0))
            have HU3 := Lib.hid (((HU2.out.put (o := 0) hgw (.string ⟨#[]⟩)).put (o := 1) hgw (.int .i64 t)).put (o := 2) hgw (.slice none 0 0))
            clear k0 k1 k2 f0 f1 f2
            generalize World.setCell _ _ _ = w3 at HB3 HU3 ⊢
            have k0 := HB3.out.cell 0
            have k1 := HB3.out.cell 1
            have k2 := HB3.out.cell 2
            simp at k0 k1 k2
            refine bodyPost_ret (by simp [results, Tryz.results16, go_sem, k0, k1, k2]; rfl) rfl ?_
            exact gz_bad (by rw [HRa.out, head2, if_pos (by rw [HX3.out]; exact hf8), ← HK.out, if_pos (by rw [HL.out]; exact hk), if_pos hk2]) ⟨_, _, rfl, HU3.out⟩
          · have dk : decide ((200 : Int) < K) = false := by simp; omega
            have cut9 := run_cut_lh el_byte A n c .i64 .i64 (a : Int) ((a : Int) + K) a (a + K) rfl (by omega) (by omega) (by omega)
            have cutI := Lib.hid ((HS.out.upd HU2.out (by simp)).cut (lo := a) (hi := a + K) (c := c) (by omega) (by omega) hnc)
            rw [show a + K - a = K from by omega] at cut9 cutI
            obtain ⟨nm, hnm⟩ : ∃ nm, nm = (zs.drop a).take K := ⟨_, rfl⟩
            rw [← hnm] at cutI
            have HNM := Lib.hid hnm
            have cvt := str_cut (c := c - a) cutI.out
            clear hnm
            have k0 := HB2.out.cell 0
            have k1 := HB2.out.cell 1
            have k2 := HB2.out.cell 2
            have f0 := HB2.out.frozen 0
            have f1 := HB2.out.frozen 1
            have f2 := HB2.out.frozen 2
            simp at k0 k1 k2
            go_wp2_with (go_at_call 36; refine (HIX.out _ HU2.out).mono ?_; rintro e w' ⟨rfl, rfl⟩)
            have HB4 := Lib.hid (HB2.out.set 0 (.string (strOfNums nm)))
            have HU4 := Lib.hid (HU2.out.put (o := 0) hgw (.string (strOfNums nm)))
            clear k0 k1 k2 f0 f1 f2
            generalize World.setCell _ _ _ = w4 at HB4 HU4 ⊢
            go_meet
            case rel =>
              refine ⟨a + K + 1, nm, _, by go_num, by omega, rfl, HB4, HU4, ?_⟩
              show _ = _
              rw [HRa.out, head2, if_pos (by rw [HX3.out]; exact hf8), ← HK.out, if_pos (by rw [HL.out]; exact hk), if_neg hk2, ← HNM.out]
        · have HIX : Hid (∀ W, Upd [] w W → Calls Tryz.prog 36 #[.slice (cutA 1 A c a) (n - a) (c - a), .int .u8 0] W fun e w' => e = .returned (.int .i64 (-1)) ∧ W = w') := fun W hW => by
            have h := nought_any A n c zs W (HS.out.upd hW (by simp)) HZ.out hnc a (by omega) (by omega)
            rw [← HK.out, if_neg hk] at h
            exact h
          have k0 := HB2.out.cell 0
          have k1 := HB2.out.cell 1
          have k2 := HB2.out.cell 2
          have f0 := HB2.out.frozen 0
          have f1 := HB2.out.frozen 1
          have f2 := HB2.out.frozen 2
          simp at k0 k1 k2
          go_wp2_with (go_at_call 36; refine (HIX.out _ HU2.out).mono ?_; rintro e w' ⟨rfl, rfl⟩)
          have HB3 := Lib.hid (((HB2.out.set 0 (.string ⟨#[]⟩)).set 1 (.int .i64 t)).set 2 (.slice none 0 0))
          have HU3 := Lib.hid (((HU2.out.put (o := 0) hgw (.string ⟨#[]⟩)).put (o := 1) hgw (.int .i64 t)).put (o := 2) hgw (.slice none 0 0))
          clear k0 k1 k2 f0 f1 f2
          generalize World.setCell _ _ _ = w3 at HB3 HU3 ⊢
          have k0 := HB3.out.cell 0
          have k1 := HB3.out.cell 1
          have k2 := HB3.out.cell 2
          simp at k0 k1 k2
          refine bodyPost_ret (by simp [results, Tryz.results16, go_sem, k0, k1, k2]; rfl) rfl ?_
          exact gz_bad (by rw [HRa.out, head2, if_pos (by rw [HX3.out]; exact hf8), ← HK.out, if_neg (by rw [HL.out]; exact hk)]) ⟨_, _, rfl, HU3.out⟩
      · have b8 : (bits .and .u8 x3 8 != 0) = false := by
          have := (HF.out.2.2.1).2 (by omega)
          simp [this]
        go_wp2
        go_meet
        case rel => exact ⟨a, [], _, rfl, ha, rfl, HB2, HU2, by show _ = _; rw [HRa.out, head2, if_neg (by rw [HX3.out]; exact hf8)]⟩
    case rest =>
      clear HB2 HU2 HRa ha
      obtain ⟨a, nm, S, rfl, ha, HS0, HB5, HU5, HRb⟩ := hcut
      obtain ⟨w5, hw5⟩ : ∃ w5 : World, w5 = wc := ⟨_, rfl⟩
      rw [← hw5] at HB5 HU5 ⊢
      clear hw5
      go_upto_if 110 with fail
      go_cut [8] from 9 (fun v8 wc => ∃ a : Nat, v8 = .int .i64 a ∧ a ≤ n ∧ wc = w5 ∧ Hid (r = head4 zs t nm a))
      case first =>
        by_cases hf16 : x3 / 16 % 2 = 1
        · have b16 : (bits .and .u8 x3 16 != 0) = true := by
            rw [bne_iff_ne]
            intro e
            have := (HF.out.2.2.2.1).1 e
            omega
          have cut8 := run_cut_l el_byte A n c .i64 (a : Int) a rfl (by omega)
          obtain ⟨K, hK⟩ : ∃ K, K = noughtAt (zs.drop a) := ⟨_, rfl⟩
          have HK := Lib.hid hK
          clear hK
          by_cases hk : K < n - a
          · have HIX : Hid (∀ W, Upd [] w W → Calls Tryz.prog 36 #[.slice (cutA 1 A c a) (n - a) (c - a), .int .u8 0] W fun e w' => e = .returned (.int .i64 (K : Int)) ∧ W = w') := fun W hW => by
              have h := nought_any A n c zs W (HS.out.upd hW (by simp)) HZ.out hnc a (by omega) (by omega)
              rw [← HK.out, if_pos hk] at h
              exact h
            go_wp2_with (go_at_call 36; refine (HIX.out _ HU5.out).mono ?_; rintro e w' ⟨rfl, rfl⟩)
            go_meet
            case rel =>
              refine ⟨a + K + 1, by go_num, by omega, rfl, ?_⟩
              show _ = _
              rw [HRb.out, head3, if_pos (by rw [HX3.out]; exact hf16), ← HK.out, if_pos (by rw [HL.out]; exact hk)]
          · have HIX : Hid (∀ W, Upd [] w W → Calls Tryz.prog 36 #[.slice (cutA 1 A c a) (n - a) (c - a), .int .u8 0] W fun e w' => e = .returned (.int .i64 (-1)) ∧ W = w') := fun W hW => by
              have h := nought_any A n c zs W (HS.out.upd hW (by simp)) HZ.out hnc a (by omega) (by omega)
              rw [← HK.out, if_neg hk] at h
              exact h
            have k0 := HB5.out.cell 0
            have k1 := HB5.out.cell 1
            have k2 := HB5.out.cell 2
            have f0 := HB5.out.frozen 0
            have f1 := HB5.out.frozen 1
            have f2 := HB5.out.frozen 2
            simp at k0 k1 k2
            go_wp2_with (go_at_call 36; refine (HIX.out _ HU5.out).mono ?_; rintro e w' ⟨rfl, rfl⟩)
            have HB3 := Lib.hid (((HB5.out.set 0 (.string S)).set 1 (.int .i64 t)).set 2 (.slice none 0 0))
            have HU3 := Lib.hid (((HU5.out.put (o := 0) hgw (.string S)).put (o := 1) hgw (.int .i64 t)).put (o := 2) hgw (.slice none 0 0))
            clear k0 k1 k2 f0 f1 f2
            generalize World.setCell _ _ _ = w3 at HB3 HU3 ⊢
            have k0 := HB3.out.cell 0
            have k1 := HB3.out.cell 1
            have k2 := HB3.out.cell 2
            simp at k0 k1 k2
            refine bodyPost_ret (by simp [results, Tryz.results16, go_sem, k0, k1, k2]; rfl) rfl ?_
            exact gz_bad (by rw [HRb.out, head3, if_pos (by rw [HX3.out]; exact hf16), ← HK.out, if_neg (by rw [HL.out]; exact hk)]) ⟨_, _, rfl, HU3.out⟩
        · have b16 : (bits .and .u8 x3 16 != 0) = false := by
            have := (HF.out.2.2.2.1).2 (by omega)
            simp [this]
          go_wp2
          go_meet
          case rel => exact ⟨a, rfl, ha, rfl, by show _ = _; rw [HRb.out, head3, if_neg (by rw [HX3.out]; exact hf16)]⟩
      case rest =>
        clear HRb ha
        obtain ⟨a, rfl, ha, hw, HRc⟩ := hcut
        have hw2 := hw.symm; clear hw; subst hw2
        go_upto_if 124 with fail
        go_cut [8] from 9 (fun v8 wc => ∃ a : Nat, v8 = .int .i64 a ∧ a ≤ n ∧ wc = w5 ∧ Hid (r = .ok t nm a))
        case first =>
          by_cases hf2 : x3 / 2 % 2 = 1
          · have b2 : (bits .and .u8 x3 2 != 0) = true := by
              rw [bne_iff_ne]
              intro e
              have := (HF.out.2.2.2.2).1 e
              omega
            by_cases hl : n < a + 2
            · have k0 := HB5.out.cell 0
              have k1 := HB5.out.cell 1
              have k2 := HB5.out.cell 2
              have f0 := HB5.out.frozen 0
              have f1 := HB5.out.frozen 1
              have f2 := HB5.out.frozen 2
              simp at k0 k1 k2
              go_wp2_with (first | (go_at_call 35; refine (getLe_bad A n c a 2 _ (by omega) (by omega) (by omega) (by omega) (by omega)).mono ?_; rintro e w' ⟨rfl, rfl⟩) | fail)
              have HB3 := Lib.hid (((HB5.out.set 0 (.string S)).set 1 (.int .i64 t)).set 2 (.slice none 0 0))
              have HU3 := Lib.hid (((HU5.out.put (o := 0) hgw (.string S)).put (o := 1) hgw (.int .i64 t)).put (o := 2) hgw (.slice none 0 0))
              clear k0 k1 k2 f0 f1 f2
              generalize World.setCell _ _ _ = w3 at HB3 HU3 ⊢
              have k0 := HB3.out.cell 0
              have k1 := HB3.out.cell 1
              have k2 := HB3.out.cell 2
              simp at k0 k1 k2
              refine bodyPost_ret (by simp [results, Tryz.results16, go_sem, k0, k1, k2]; rfl) rfl ?_
              exact gz_bad (by rw [HRc.out, head4, if_pos (by rw [HX3.out]; exact hf2), if_pos (by rw [HL.out]; exact hl)]) ⟨_, _, rfl, HU3.out⟩
            · obtain ⟨v, hv⟩ : ∃ v, v = leNum ((zs.drop a).take 2) := ⟨_, rfl⟩
              have hvb : 0 ≤ v ∧ v ≤ 65535 := by
                have h := leNum_bd ((zs.drop a).take 2) fun z hz' => HZ.out z (List.mem_of_mem_drop (List.mem_of_mem_take hz'))
                have hl2 : ((zs.drop a).take 2).length = 2 := by rw [List.length_take, List.length_drop, HL.out]; omega
                rw [hl2, ← hv] at h
                have : (2 : Int) ^ (8 * 2) = 65536 := by decide
                omega
              have hv0 := hvb.1
              have hv1 := hvb.2
              have HV := Lib.hid hv
              have HG1 : Hid (∀ W, Upd [] w W → Calls Tryz.prog 35 #[.slice A n c, .int .i64 a, .int .i64 2] W fun e w' => e = .returned (.tuple #[.int .u64 v, .bool true]) ∧ W = w') := fun W hW => by
                rw [hv]
                exact getLe_ok A n c zs a 2 W (HS.out.upd hW (by simp)) HZ.out hnc (by omega) (by omega) (by omega) (by omega) (by omega)
              clear hv hvb
              have cut10 := run_cut_h el_byte A n c .i64 (a : Int) a rfl (by omega) (by omega)
              obtain ⟨q, hq⟩ : ∃ q, q = crcOf (zs.take a) := ⟨_, rfl⟩
              have hqb := crcOf_bd (zs.take a)
              rw [← hq] at hqb
              have hq0 := hqb.1
              have hq1 := hqb.2
              have HCR : Hid (∀ W, Upd [] w W → Calls Tryz.prog 33 #[.slice A a c] W fun e w' => e = .returned (.int .u32 q) ∧ W = w') := fun W hW => by
                rw [hq]
                exact crc_any A a c (zs.take a) W ((HS.out.upd hW (by simp)).pre (by omega)) (fun z hz' => HZ.out z (List.mem_of_mem_take hz')) (by omega)
              have HQ := Lib.hid hq
              obtain ⟨p, hp⟩ : ∃ p, p = q % 65536 := ⟨_, rfl⟩
              have hand : bits .and .u32 q 65535 = p := by rw [hp]; exact and_low32 hq0 hq1
              have hp0 : 0 ≤ p := by omega
              have hp1 : p ≤ 65535 := by omega
              have HP := Lib.hid hp
              clear hq hqb hp
              by_cases hvq : v = p
              · have dv : (v != p) = false := by simpa using hvq
                go_wp2_with (first | (go_at_call 35; refine (HG1.out _ HU5.out).mono ?_; rintro e w' ⟨rfl, rfl⟩) | (go_at_call 33; refine (HCR.out _ HU5.out).mono ?_; rintro e w' ⟨rfl, rfl⟩) | fail)
                go_meet
                case rel =>
                  refine ⟨a + 2, rfl, by omega, rfl, ?_⟩
                  show _ = _
                  rw [HRc.out, head4, if_pos (by rw [HX3.out]; exact hf2), if_neg (by rw [HL.out]; exact hl), ← HV.out, ← HQ.out, ← HP.out, if_neg (by simpa using hvq)]
              · have dv : (v != p) = true := by simpa using hvq
                have k0 := HB5.out.cell 0
                have k1 := HB5.out.cell 1
                have k2 := HB5.out.cell 2
                have f0 := HB5.out.frozen 0
                have f1 := HB5.out.frozen 1
                have f2 := HB5.out.frozen 2
                simp at k0 k1 k2
                go_wp2_with (first | (go_at_call 35; refine (HG1.out _ HU5.out).mono ?_; rintro e w' ⟨rfl, rfl⟩) | (go_at_call 33; refine (HCR.out _ HU5.out).mono ?_; rintro e w' ⟨rfl, rfl⟩) | fail)
                have HB3 := Lib.hid (((HB5.out.set 0 (.string S)).set 1 (.int .i64 t)).set 2 (.slice none 0 0))
                have HU3 := Lib.hid (((HU5.out.put (o := 0) hgw (.string S)).put (o := 1) hgw (.int .i64 t)).put (o := 2) hgw (.slice none 0 0))
                clear k0 k1 k2 f0 f1 f2
                generalize World.setCell _ _ _ = w3 at HB3 HU3 ⊢
                have k0 := HB3.out.cell 0
                have k1 := HB3.out.cell 1
                have k2 := HB3.out.cell 2
                simp at k0 k1 k2
                refine bodyPost_ret (by simp [results, Tryz.results16, go_sem, k0, k1, k2]; rfl) rfl ?_
                exact gz_bad (by rw [HRc.out, head4, if_pos (by rw [HX3.out]; exact hf2), if_neg (by rw [HL.out]; exact hl), ← HV.out, ← HQ.out, ← HP.out, if_pos hvq]) ⟨_, _, rfl, HU3.out⟩
          · have b2 : (bits .and .u8 x3 2 != 0) = false := by
              have := (HF.out.2.2.2.2).2 (by omega)
              simp [this]
            go_wp2
            go_meet
            case rel => exact ⟨a, rfl, ha, rfl, by show _ = _; rw [HRc.out, head4, if_neg (by rw [HX3.out]; exact hf2)]⟩
        case rest =>
          clear HRc ha
          obtain ⟨a, rfl, ha, hw, HRd⟩ := hcut
          have hw2 := hw.symm; clear hw; subst hw2
          have k0 := HB5.out.cell 0
          have k1 := HB5.out.cell 1
          have k2 := HB5.out.cell 2
          have f0 := HB5.out.frozen 0
          have f1 := HB5.out.frozen 1
          have f2 := HB5.out.frozen 2
          simp at k0 k1 k2
          repeat (first | go_values | go_skip | go_guarded | go_step | go_upon)
          have HB3 := Lib.hid (((HB5.out.set 0 (.string S)).set 1 (.int .i64 t)).set 2 (.slice none 0 0))
          have HU3 := Lib.hid (((HU5.out.put (o := 0) hgw (.string S)).put (o := 1) hgw (.int .i64 t)).put (o := 2) hgw (.slice none 0 0))
          clear k0 k1 k2 f0 f1 f2
          generalize World.setCell _ _ _ = w3 at HB3 HU3 ⊢
          have k0 := HB3.out.cell 0
          have k1 := HB3.out.cell 1
          have k2 := HB3.out.cell 2
          simp at k0 k1 k2
          refine bodyPost_ret (by simp [results, Tryz.results16, go_sem, k0, k1, k2]; rfl) rfl ?_
          exact gz_good HRd.out (by rw [HS0.out]) HU3.out

end Go.Proofs.YtolcdlopgbgilaaGreatDoor

/-! Text GzM. -/
namespace Go.Proofs.YtolcdlopgbgilaaGreatDoor
open Go.RowKit Go.Dray

theorem strOfNums_sb (s : ByteArray) : strOfNums (sb s) = s := by
  obtain ⟨d⟩ := s
  have e : (d.toList.map fun b => (b.toNat : Int)).map (fun n => UInt8.ofNat n.toNat) = d.toList := by
    rw [List.map_map]
    conv => rhs; rw [← List.map_id d.toList]
    refine List.map_congr_left fun b _ => ?_
    simp
  unfold strOfNums sb
  show ByteArray.mk (List.map _ (List.map _ d.toList)).toArray = _
  rw [e]
theorem sb_strOfNums (zs : List Int) (h : ∀ z ∈ zs, 0 ≤ z ∧ z ≤ 255) : sb (strOfNums zs) = zs := by
  unfold sb strOfNums
  simp only [List.map_map]
  conv => rhs; rw [← List.map_id zs]
  refine List.map_congr_left fun z hz => ?_
  have := h z hz
  simp
  omega
/-- A member, as it is read: its time, its name, its data. -/
structure Mem where
  time : Int
  name : ByteArray
  data : List Int
inductive MemR where
  | bad (e : Int)
  | ok (m : Mem) (n : Nat)
/-- The member that bytes begin with. -/
noncomputable def memOf (F : Nat) (zs : List Int) (most : Nat) : MemR :=
  match headOf zs with
  | .bad e => .bad e
  | .ok tm nm a =>
    match run (bitsOf (zs.drop a)) most (infPr F F) 0 [] with
    | .err x => .bad x
    | .ok out p =>
      if zs.length < a + (p + 7) / 8 + 8 then .bad 2
      else if (zs.drop (a + (p + 7) / 8)).take 8 ≠ sums8 out then .bad 5
      else .ok ⟨tm, strOfNums nm, out⟩ (a + (p + 7) / 8 + 8)
inductive UnpR where
  | bad (at_ : Nat) (e : Int)
  | ok (l : List Mem)
/-- The members from a place on. -/
noncomputable def unpackAt (F : Nat) (zs : List Int) : Nat → Nat → Nat → List Mem → UnpR
  | 0, at_, _, _ => .bad at_ 0
  | f + 1, at_, most, acc =>
    match memOf F (zs.drop at_) most with
    | .bad e => .bad at_ e
    | .ok m n => if zs.length ≤ at_ + n then .ok (acc ++ [m]) else unpackAt F zs f (at_ + n) (most - m.data.length) (acc ++ [m])

theorem head4_ge {zs : List Int} {t : Int} {nm nm' : List Int} {a b : Nat} {t' : Int} (h : head4 zs t nm a = .ok t' nm' b) (ha : a ≤ zs.length) : a ≤ b ∧ b ≤ zs.length := by
  unfold head4 at h
  split at h
  · split at h
    · cases h
    · split at h
      · cases h
      · injection h with _ _ h; omega
  · injection h with _ _ h; omega
theorem head3_ge {zs : List Int} {t : Int} {nm nm' : List Int} {a b : Nat} {t' : Int} (h : head3 zs t nm a = .ok t' nm' b) (ha : a ≤ zs.length) : a ≤ b ∧ b ≤ zs.length := by
  unfold head3 at h
  split at h
  · split at h
    · have := head4_ge h (by omega); omega
    · cases h
  · exact head4_ge h ha
theorem head2_ge {zs : List Int} {t : Int} {nm' : List Int} {a b : Nat} {t' : Int} (h : head2 zs t a = .ok t' nm' b) (ha : a ≤ zs.length) : a ≤ b ∧ b ≤ zs.length := by
  unfold head2 at h
  split at h
  · split at h
    · split at h
      · cases h
      · have := head3_ge h (by omega); omega
    · cases h
  · exact head3_ge h ha
theorem headOf_ge {zs : List Int} {nm' : List Int} {b : Nat} {t' : Int} (h : headOf zs = .ok t' nm' b) : 10 ≤ b ∧ b ≤ zs.length := by
  unfold headOf at h
  split at h
  · cases h
  · split at h
    · cases h
    · split at h
      · cases h
      · split at h
        · cases h
        · unfold head1 at h
          split at h
          · split at h
            · cases h
            · split at h
              · cases h
              · have := head2_ge h (by omega); omega
          · exact head2_ge h (by omega)
theorem memOf_ge {F : Nat} {zs : List Int} {most : Nat} {m : Mem} {n : Nat} (h : memOf F zs most = .ok m n) : 18 ≤ n ∧ n ≤ zs.length ∧ m.data.length ≤ most := by
  unfold memOf at h
  split at h
  · cases h
  · next tm nm a hh =>
    have hg := headOf_ge hh
    split at h
    · cases h
    · next out p hr =>
      have hm := (run_ge _ hr).2.2 (Nat.zero_le _)
      split at h
      · cases h
      · split at h
        · cases h
        · injection h with h1 h2
          subst h1
          exact ⟨by omega, by omega, hm⟩

end Go.Proofs.YtolcdlopgbgilaaGreatDoor

/-! Text GzV. -/
namespace Go.Proofs.YtolcdlopgbgilaaGreatDoor
open Go.RowKit Go.Dray

theorem run_more {out r zs : List Int} {most F p : Nat} (h : run (bitsOf out) most (infPr F F) 0 [] = .ok zs p) (hp : p ≤ 8 * out.length) : run (bitsOf (out ++ r)) most (infPr F F) 0 [] = .ok zs p := by
  refine run_ext _ h ?_ ?_
  · rw [bitsOf_app, List.take_append_of_le_length (by rw [bitsOf_len]; exact hp)]
  · rw [bitsOf_len, List.length_append]; omega
/-- What a member says of packed bytes and eight bytes behind them. -/
theorem mem_front (s : ByteArray) (mt : Int) (out zs t8 rest : List Int) (h0 : 0 ≤ mt) (h1 : mt ≤ 4294967295) (hn : ¬ 0 ≤ Lib.indexByte s.data.toList 0) (hs : s.size ≤ 200)
    {most F p : Nat} (hrun : run (bitsOf out) most (infPr F F) 0 [] = .ok zs p) (hp : (p + 7) / 8 = out.length) (h8 : t8.length = 8) :
    memOf F (gzFront s mt (out ++ (t8 ++ rest))) most = if t8 ≠ sums8 zs then .bad 5 else .ok ⟨mt, s, zs⟩ (10 + (gzTail s).size + out.length + 8) := by
  have hh := head_front s mt (out ++ (t8 ++ rest)) h0 h1 hn hs
  have hd := front_drop s mt (out ++ (t8 ++ rest))
  have hl := front_len s mt (out ++ (t8 ++ rest))
  have hd2 : (gzFront s mt (out ++ (t8 ++ rest))).drop (10 + (gzTail s).size + out.length) = t8 ++ rest := by
    rw [← List.drop_drop, hd, List.drop_left' rfl]
  generalize gzFront s mt (out ++ (t8 ++ rest)) = X at *
  unfold memOf
  rw [hh]
  simp only
  rw [hd, run_more hrun (by omega)]
  simp only
  rw [hp, if_neg (by rw [hl, List.length_append, List.length_append]; omega), hd2, List.take_left' h8, strOfNums_sb]
/-- A member that was packed is said as it was. -/
theorem mem_own (s : ByteArray) (mt : Int) (out zs rest : List Int) {how : Int} (h0 : 0 ≤ mt) (h1 : mt ≤ 4294967295) (hn : ¬ 0 ≤ Lib.indexByte s.data.toList 0) (hs : s.size ≤ 200) (hd : DefOut zs how out) (hz : ∀ z ∈ zs, 0 ≤ z ∧ z ≤ 255) (hl : zs.length ≤ 3000)
    {most F : Nat} (hm : zs.length ≤ most) (hF : 3400 ≤ F) : memOf F (gzBytes s mt out zs ++ rest) most = .ok ⟨mt, s, zs⟩ (gzBytes s mt out zs).length := by
  obtain ⟨p, hrun, hp⟩ := hd.back hz hl hm hF
  have hlen : (gzBytes s mt out zs).length = 10 + (gzTail s).size + out.length + 8 := by
    have h := congrArg List.length (gz_is_front s mt out zs [])
    rw [front_len] at h
    simp [sums8_len] at h
    omega
  rw [gz_is_front, mem_front s mt out zs (sums8 zs) rest h0 h1 hn hs hrun hp (sums8_len zs), if_neg (by simp), hlen]

/-- Bytes that say a member, whatever stands behind them. -/
def Says (b : List Int) (m : Mem) : Prop := 18 ≤ b.length ∧ ∀ (rest : List Int) (most F : Nat), m.data.length ≤ most → 3400 ≤ F → memOf F (b ++ rest) most = .ok m b.length
theorem says_own (s : ByteArray) (mt : Int) (out zs : List Int) {how : Int} (h0 : 0 ≤ mt) (h1 : mt ≤ 4294967295) (hn : ¬ 0 ≤ Lib.indexByte s.data.toList 0) (hs : s.size ≤ 200) (hd : DefOut zs how out) (hz : ∀ z ∈ zs, 0 ≤ z ∧ z ≤ 255) (hl : zs.length ≤ 3000) :
    Says (gzBytes s mt out zs) ⟨mt, s, zs⟩ := by
  refine ⟨?_, fun rest most F hm hF => mem_own s mt out zs rest h0 h1 hn hs hd hz hl hm hF⟩
  have h := congrArg List.length (gz_is_front s mt out zs [])
  rw [front_len] at h
  simp [sums8_len] at h
  omega
def dataSum (l : List Mem) : Nat := (l.map fun m => m.data.length).sum
theorem unpack_own {F : Nat} (hF : 3400 ≤ F) : ∀ (l : List (List Int × Mem)) (pre : List Int) (acc : List Mem) (fuel most : Nat), l ≠ [] → (∀ x ∈ l, Says x.1 x.2) → dataSum (l.map (·.2)) ≤ most → l.length ≤ fuel →
    unpackAt F (pre ++ (l.map (·.1)).flatten) fuel pre.length most acc = .ok (acc ++ l.map (·.2))
  | [], _, _, _, _, h, _, _, _ => absurd rfl h
  | x :: l, pre, acc, fuel, most, _, hs, hm, hf => by
    obtain ⟨f, rfl⟩ : ∃ f, fuel = f + 1 := ⟨fuel - 1, by simp at hf; omega⟩
    have hx := hs x (by simp)
    have hm1 : x.2.data.length + dataSum (l.map (·.2)) ≤ most := by simpa [dataSum] using hm
    unfold unpackAt
    rw [List.drop_left' rfl, List.map_cons, List.flatten_cons, hx.2 _ most F (by omega) hF]
    simp only
    rcases l with _ | ⟨y, l⟩
    · rw [if_pos (by simp)]
      rfl
    · have hy := hs y (by simp)
      rw [if_neg (by simp; have := hy.1; omega)]
      have ih := unpack_own hF (y :: l) (pre ++ x.1) (acc ++ [x.2]) f (most - x.2.data.length) (by simp) (fun z hz => hs z (by simp at hz ⊢; right; exact hz)) (by omega) (by simp at hf ⊢; omega)
      rw [List.length_append, List.append_assoc] at ih
      rw [ih]
      simp
theorem unpack_all {F : Nat} (hF : 3400 ≤ F) (l : List (List Int × Mem)) (fuel most : Nat) (h : l ≠ []) (hs : ∀ x ∈ l, Says x.1 x.2) (hm : dataSum (l.map (·.2)) ≤ most) (hf : l.length ≤ fuel) : unpackAt F (l.map (·.1)).flatten fuel 0 most [] = .ok (l.map (·.2)) := by
  have h := unpack_own hF l [] [] fuel most h hs hm hf
  simpa using h
theorem unpack_none (F f most : Nat) : unpackAt F [] (f + 1) 0 most [] = .bad 0 2 := by
  unfold unpackAt memOf headOf
  simp

end Go.Proofs.YtolcdlopgbgilaaGreatDoor

/-! Text GzP. -/
namespace Go.Proofs.YtolcdlopgbgilaaGreatDoor
open Go.RowKit Go.Dray

theorem el_mem : El Tryz.prog 24 35 (.agg #[.string ⟨#[]⟩, .int .i64 0, .slice none 0 0]) 3 48 := ⟨Tryz.underlying24, by kernel_rfl, rfl, by omega⟩

/-- Where a member's data lie. -/
structure MemP where
  A : Option Addr
  n : Nat
  c : Nat
/-- The cells of a member. -/
def memC (p : MemP) (m : Mem) : List Value := [.string m.name, .int .i64 m.time, .slice p.A p.n p.c]
structure MemM (w : World) (p : MemP) (m : Mem) : Prop where
  ints : Ints .u8 w p.A p.n m.data
  bd : ∀ z ∈ m.data, 0 ≤ z ∧ z ≤ 255
  le : p.n ≤ p.c
theorem MemM.upd {L : List (Option Nat)} {w w' : World} {p : MemP} {m : Mem} (h : MemM w p m) (hu : Upd L w w') (hn : 0 < p.n → some (bl p.A) ∉ L) : MemM w' p m := ⟨h.ints.upd hu hn, h.bd, h.le⟩
/-- Members that can be read. -/
structure MemsR (w : World) (A : Option Addr) (n : Nat) (ms : List Mem) : Prop where
  len : ms.length = n
  at_ : 0 < n → A = some ⟨bl A, ofs A, none⟩
  mem : ∀ k m, ms[k]? = some m → ∃ p : MemP, MemM w p m ∧ ∀ j v, (memC p m)[j]? = some v → w.cell? ⟨bl A, ofs A + k * 3 + j, none⟩ = some v
theorem MemsR.upd0 {w w' : World} {A : Option Addr} {n : Nat} {ms : List Mem} (h : MemsR w A n ms) (hu : Upd [] w w') : MemsR w' A n ms :=
  ⟨h.len, h.at_, fun k t hk => by
    obtain ⟨p, hp, hc⟩ := h.mem k t hk
    exact ⟨p, hp.upd hu (by simp), fun j v hv => hu.cell (hc j v hv) (by simp)⟩⟩
theorem MemsR.index {w : World} {A : Option Addr} {n : Nat} {ms : List Mem} (h : MemsR w A n ms) (c k : Nat) (hk : k < n) :
    ∀ W : World, (Instr.indexAt 24 (.slice A n c) (.int .i64 k)).run Tryz.prog W = .ok (.pointer (some ⟨bl A, ofs A + k * 3, none⟩)) W := run_index el_mem h.at_ c .i64 k hk
theorem MemsR.get {w : World} {A : Option Addr} {n : Nat} {ms : List Mem} (h : MemsR w A n ms) {k : Nat} (hk : k < n) : ∃ (m : Mem) (p : MemP), Hid (ms[k]? = some m) ∧ Hid (MemM w p m) ∧
    w.cell? ⟨bl A, ofs A + k * 3, none⟩ = some (.string m.name) ∧ w.cell? ⟨bl A, ofs A + k * 3 + 1, none⟩ = some (.int .i64 m.time) ∧ w.cell? ⟨bl A, ofs A + k * 3 + 2, none⟩ = some (.slice p.A p.n p.c) := by
  have hl : k < ms.length := by rw [h.len]; exact hk
  obtain ⟨p, hp, hc⟩ := h.mem k ms[k] (List.getElem?_eq_getElem hl)
  exact ⟨ms[k], p, List.getElem?_eq_getElem hl, hp, hc 0 _ rfl, hc 1 _ rfl, hc 2 _ rfl⟩

/-- Members in a slice of the call's own. -/
structure MemsO (w : World) (B : Nat) (L : Option Addr) (lc : Nat) (xs : List (MemP × Mem)) : Prop where
  own : Own w B 35 3 L xs.length lc (xs.flatMap fun x => memC x.1 x.2)
  mems : ∀ x ∈ xs, MemM w x.1 x.2
  apart : ∀ x ∈ xs, 0 < x.1.n → ob L ≠ some (bl x.1.A)
theorem MemsO.nil (w : World) (B : Nat) : MemsO w B none 0 [] := ⟨Own.nil _ _ _ _, (fun _ h => by cases h), (fun _ h => by cases h)⟩
theorem MemsO.upd {w w' : World} {B : Nat} {L : Option Addr} {lc : Nat} {xs : List (MemP × Mem)} (h : MemsO w B L lc xs) (hu : Upd [] w w') : MemsO w' B L lc xs :=
  ⟨h.own.upd hu (by simp), fun x hx => (h.mems x hx).upd hu (by simp), h.apart⟩
/-- An older block is changed. -/
theorem MemsO.far {w w' : World} {B : Nat} {L : Option Addr} {lc : Nat} {xs : List (MemP × Mem)} {M : List (Option Nat)} (h : MemsO w B L lc xs) (hu : Upd M w w') (hM : ∀ g, B ≤ g → some g ∉ M) (hd : ∀ x ∈ xs, 0 < x.1.n → some (bl x.1.A) ∉ M) : MemsO w' B L lc xs :=
  ⟨h.own.upd hu (fun g hg => hM g (h.own.base hg).1), fun x hx => (h.mems x hx).upd hu (hd x hx), h.apart⟩
theorem MemsO.fault {w w' : World} {B g : Nat} {L : Option Addr} {lc : Nat} {xs : List (MemP × Mem)} {cs : Array Value} (h : MemsO w B L lc xs) (hk : Blk w g 27 cs) (hd : ∀ x ∈ xs, 0 < x.1.n → g < bl x.1.A) (hu : Upd [some g] w w') : MemsO w' B L lc xs :=
  ⟨h.own.upd hu (by intro b hb; simp; rintro rfl; exact h.own.neBlk hk (by decide) hb), fun x hx => (h.mems x hx).upd hu (fun h0 => by have := hd x hx h0; simp; omega), h.apart⟩
theorem seg_mem (w : World) (a b c : Value) (t : TypeId) : Seg (w.alloc (.cells #[a, b, c] t)) 3 (some ⟨w.heap.size, 0, none⟩) 1 [a, b, c] :=
  ⟨rfl, fun _ => rfl, fun k u hu => by
    match k, hu with
    | 0, hu => simp at hu; subst hu; simp [bl, ofs]
    | 1, hu => simp at hu; subst hu; simp [bl, ofs]
    | 2, hu => simp at hu; subst hu; simp [bl, ofs]⟩
/-- A member more: it lies apart from the list. -/
theorem MemsO.more {w w' : World} {B : Nat} {L L' : Option Addr} {lc lc' : Nat} {xs : List (MemP × Mem)} {p : MemP} {m : Mem} {k : Nat} (h : MemsO w B L lc xs) (hm : MemM w p m) (hap : 0 < p.n → ob L ≠ some (bl p.A)) (hk : k = xs.length + 1)
    (ho : Own w' B 35 3 L' k lc' ((xs.flatMap fun x => memC x.1 x.2) ++ [.string m.name, .int .i64 m.time, .slice p.A p.n p.c])) (hu : Upd [ob L] w w') (hf : Fresh w L L') : MemsO w' B L' lc' (xs ++ [(p, m)]) := by
  subst hk
  have hap2 : ∀ q : MemP, ∀ u : Mem, MemM w q u → (0 < q.n → ob L ≠ some (bl q.A)) → 0 < q.n → ob L' ≠ some (bl q.A) := fun q u hq h1 hp e => by
    rcases hf _ e with h2 | h2
    · exact h1 hp h2
    · have := Seg.lt hq.ints hp (by omega)
      omega
  refine ⟨?_, fun x hx => ?_, fun x hx => ?_⟩
  · have e : (xs ++ [(p, m)]).flatMap (fun x => memC x.1 x.2) = (xs.flatMap fun x => memC x.1 x.2) ++ [.string m.name, .int .i64 m.time, .slice p.A p.n p.c] := by simp [memC]
    rw [e, List.length_append]
    exact ho
  · rcases List.mem_append.1 hx with hx | hx
    · exact (h.mems x hx).upd hu (fun hp => by simp; exact fun e => h.apart x hx hp e.symm)
    · simp at hx
      subst hx
      exact hm.upd hu (fun hp => by simp; exact fun e => hap hp e.symm)
  · rcases List.mem_append.1 hx with hx | hx
    · exact hap2 _ _ (h.mems x hx) (h.apart x hx)
    · simp at hx
      subst hx
      exact hap2 _ _ hm hap
/-- Members of the call's own can be read. -/
theorem MemsO.reads {w : World} {B : Nat} {L : Option Addr} {lc : Nat} {xs : List (MemP × Mem)} (h : MemsO w B L lc xs) : MemsR w L xs.length (xs.map (·.2)) := by
  refine ⟨by simp, h.own.seg.at_, fun k t ht => ?_⟩
  rw [List.getElem?_map] at ht
  cases hx : xs[k]? with
  | none => rw [hx] at ht; cases ht
  | some x =>
    rw [hx] at ht
    cases ht
    have hm := List.mem_of_getElem? hx
    refine ⟨x.1, h.mems x hm, fun j v hv => ?_⟩
    have hj : j < 3 := by
      obtain ⟨hj, _⟩ := List.getElem?_eq_some_iff.1 hv
      exact hj
    have key : ∀ (ys : List (MemP × Mem)) (k : Nat), ys[k]? = some x → (ys.flatMap fun x => memC x.1 x.2)[k * 3 + j]? = some v := by
      intro ys
      induction ys with
      | nil => intro k hk; simp at hk
      | cons y ys ih =>
        intro k hk
        rw [List.flatMap_cons]
        cases k with
        | zero =>
          simp at hk
          subst hk
          rw [List.getElem?_append_left (by simp [memC]; omega), Nat.zero_mul, Nat.zero_add]
          exact hv
        | succ k =>
          simp at hk
          rw [List.getElem?_append_right (by simp [memC]; omega)]
          have e : (k + 1) * 3 + j - (memC y.1 y.2).length = k * 3 + j := by simp [memC]; omega
          rw [e]
          exact ih k hk
    rw [Nat.add_assoc]
    exact Seg.cell h.own.seg _ _ (key xs k hx)

end Go.Proofs.YtolcdlopgbgilaaGreatDoor
