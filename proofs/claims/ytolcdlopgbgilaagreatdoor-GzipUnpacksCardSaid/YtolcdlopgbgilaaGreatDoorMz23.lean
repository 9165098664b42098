/- Merged by wip/tools/merge.py: DefM DefN DefOb DefLaid CodP CodL. -/
import Derived.Test.YtolcdlopgbgilaaGreatDoorMz01
import Derived.Test.YtolcdlopgbgilaaGreatDoorMz13
import Derived.Test.YtolcdlopgbgilaaGreatDoorMz22

/-! Text DefM. -/
namespace Go.Proofs.YtolcdlopgbgilaaGreatDoor
open Go.RowKit Go.Dray

set_option maxRecDepth 100000 in
set_option maxHeartbeats 1000000 in
theorem align_go {w : World} {g n c : Nat} {A : Option Addr} {K : Int} (hb : Blk w g 98 #[.slice A n c, .int .i64 K]) (hn : n ≤ 100000000000) :
    Calls Tryz.prog 53 #[.pointer (some ⟨g, 0, none⟩)] w fun e w' => e = .returned (.tuple #[]) ∧ w' = w.setCell ⟨g, 1, none⟩ (.int .i64 (8 * (n : Int))) := by
  have c0 := hb.cell 0
  have c1 := hb.cell 1
  have f1 := hb.frozen 1
  simp at c0 c1
  clear hb
  go_enter Tryz.func53, Tryz.ntmps53
  go_wp2
  go_end0
  exact ⟨rfl, rfl⟩

theorem fill_al {bs : List Bool} (h : bs.length % 8 = 0) : fill bs = bs := by
  unfold fill
  rw [show 8 * ((bs.length + 7) / 8) - bs.length = 0 from by omega]
  simp
theorem Wr.mk_bytes {w : World} {B g : Nat} {A : Option Addr} {n c : Nat} {ys : List Int} (hb : Blk w g 98 #[.slice A n c, .int .i64 (8 * (n : Int))]) (ho : Own w B 5 1 A n c (ys.map (Value.int .u8))) (hy : ∀ z ∈ ys, 0 ≤ z ∧ z ≤ 255) : Wr w B g A (bitsOf ys) := by
  have hl := ho.len
  rw [List.length_map] at hl
  refine ⟨n, c, ?_, by rw [pack_bits hy]; exact ho⟩
  rw [bitsOf_len, hl, Nat.mul_one, show ((8 * n : Nat) : Int) = 8 * (n : Int) from by omega]
  exact hb

theorem walign_any (w : World) (B g : Nat) (A : Option Addr) (bs : List Bool) (hl : bs.length ≤ 100000000000) (h : Wr w B g A bs) :
    Calls Tryz.prog 53 #[.pointer (some ⟨g, 0, none⟩)] w (WrPost w B g A (fill bs)) := by
  obtain ⟨n, c, hb, ho⟩ := h
  have hn := ho.len
  rw [List.length_map, pack_len, Nat.mul_one] at hn
  refine (align_go hb (by omega)).mono ?_
  rintro e w' ⟨rfl, rfl⟩
  refine ⟨rfl, A, ?_, (Upd.refl _ w).putIn (by simp) _, fun g hg => Or.inl hg⟩
  rw [← fill_pack]
  refine Wr.mk_bytes (c := c) (n := n) (hb.set 1 _) (ho.far (p := ⟨g, 1, none⟩) (ho.neBlk hb (by decide)) _) (pack_bd bs)

set_option maxRecDepth 100000 in
set_option maxHeartbeats 1000000 in
theorem raw_any (w : World) (B g : Nat) (A : Option Addr) (bs : List Bool) (hl : bs.length ≤ 1000000000) (hal : bs.length % 8 = 0) (hB : B ≤ w.heap.size) (h : Wr w B g A bs) (S : Option Addr) (m cs : Nat) (zs : List Int) (hs : Ints .u8 w S m zs) (hz : ∀ z ∈ zs, 0 ≤ z ∧ z ≤ 255) (hm : m ≤ 1000000000) :
    Calls Tryz.prog 54 #[.pointer (some ⟨g, 0, none⟩), .slice S m cs] w (WrPost w B g A (bs ++ bitsOf zs)) := by
  obtain ⟨n, c, hb, ho⟩ := h
  have hn := ho.len
  rw [List.length_map, pack_len, Nat.mul_one] at hn
  have HO := Lib.hid ho
  have HB := Lib.hid hb
  have HS := Lib.hid hs
  have HZ := Lib.hid hz
  have HE : Hid (bs ++ bitsOf zs = bitsOf (pack bs ++ zs)) := by show _ = _; rw [bitsOf_app, fill_pack, fill_al hal]
  have HP : Hid (∀ z ∈ pack bs ++ zs, 0 ≤ z ∧ z ≤ 255) := fun z hz' => by
    rcases List.mem_append.1 hz' with h | h
    · exact pack_bd bs z h
    · exact hz z h
  have hnb : n ≤ 1000000000 := by omega
  have c0 := hb.cell 0
  simp at c0
  clear ho hb hs hz hn hal hl
  go_enter Tryz.func54, Tryz.ntmps54
  go_wp2_with (first | (at_builtin; refine wpList_app rfl rfl el_byte rfl HO.out rfl HS.out (ints_one _ _) (by simp only [maxLen]; omega) (by omega) hB ?_; intro A1 c1 w1 hown1 hu1 hfr1; have HB1 := Lib.hid (HB.out.upd hu1 (by simp; exact fun e => HO.out.neBlk HB.out (by decide) e.symm)); have k0 := HB1.out.cell 0; have kf := HB1.out.frozen 0; simp at k0) | fail)
  have HO2 : Hid (Own (w1.setCell ⟨g, 0, none⟩ (.slice A1 (n + m) c1)) B 5 1 A1 (n + m) c1 ((pack bs ++ zs).map (Value.int .u8))) := by
    show Own _ _ _ _ _ _ _ _
    rw [List.map_append]
    exact hown1.far (p := ⟨g, 0, none⟩) (hown1.neBlk HB1.out (by decide)) _
  have HB2 : Hid (Blk (w1.setCell ⟨g, 0, none⟩ (.slice A1 (n + m) c1)) g 98 #[.slice A1 (n + m) c1, .int .i64 bs.length]) := HB1.out.set 0 _
  have HU2 : Hid (Upd [some g, ob A] w (w1.setCell ⟨g, 0, none⟩ (.slice A1 (n + m) c1))) := (hu1.mono (by simp; intro b hb; exact Or.inr hb)).putIn (by simp) _
  have HFR := Lib.hid hfr1
  generalize w1.setCell ⟨g, 0, none⟩ (.slice A1 (n + m) c1) = w2 at HO2 HB2 HU2 ⊢
  clear HB1 k0 kf hown1 hu1 hfr1
  refine (align_go HB2.out (by omega)).mono ?_
  rintro e w3 ⟨rfl, hw3⟩
  have HW3 := Lib.hid hw3
  clear hw3
  go_wp2
  go_end0
  refine ⟨rfl, A1, ?_, ?_, HFR.out⟩
  · rw [HE.out, HW3.out]
    exact Wr.mk_bytes (HB2.out.set 1 _) (HO2.out.far (p := ⟨g, 1, none⟩) (HO2.out.neBlk HB2.out (by decide)) _) HP.out
  · rw [HW3.out]
    exact HU2.out.putIn (by simp) _

theorem align_at {w wr : World} {B gw : Nat} {WA WB : Option Addr} {bits : List Bool} (h : WAt w wr B gw WA WB bits) (hl : bits.length ≤ 100000000) :
    Calls Tryz.prog 53 #[.pointer (some ⟨gw, 0, none⟩)] wr (StepWr w wr B gw WA WB (fill bits)) := by
  refine (walign_any wr B gw WB bits (by omega) h.wri).mono ?_
  rintro e w' ⟨rfl, WC, hw, hv, hf⟩
  exact ⟨rfl, WC, h.next hw hv hf, hv⟩
theorem raw_at {w wr : World} {B gw : Nat} {WA WB : Option Addr} {bits : List Bool} (h : WAt w wr B gw WA WB bits) (hl : bits.length ≤ 100000000) (hal : bits.length % 8 = 0) (S : Option Addr) (m cs : Nat) (zs : List Int) (hs : Ints .u8 wr S m zs) (hz : ∀ z ∈ zs, 0 ≤ z ∧ z ≤ 255) (hm : m ≤ 1000000000) :
    Calls Tryz.prog 54 #[.pointer (some ⟨gw, 0, none⟩), .slice S m cs] wr (StepWr w wr B gw WA WB (bits ++ bitsOf zs)) := by
  refine (raw_any wr B gw WB bits (by omega) hal (by have := h.bw; have := h.upd.size; omega) h.wri S m cs zs hs hz hm).mono ?_
  rintro e w' ⟨rfl, WC, hw, hv, hf⟩
  exact ⟨rfl, WC, h.next hw hv hf, hv⟩

theorem stAll_len (f : Nat) : ∀ b : List Int, b.length < f → (stAll f b).length ≤ 2 * b.length + 5 := by
  induction f with
  | zero => intro b h; omega
  | succ f ih =>
    intro b h
    rw [stAll]
    split
    · rw [stOne_len]; omega
    · rename_i hb
      rw [List.length_append, stOne_len, List.length_take]
      have := ih (b.drop 65535) (by rw [List.length_drop]; omega)
      rw [List.length_drop] at this
      omega

/-- The state of store between two blocks. -/
def StoreAt (w wr : World) (B gw : Nat) (WA : Option Addr) (xs : List Int) (last : Int) (A1 : Option Addr) (m : Nat) : Prop :=
  ∃ (WB : Option Addr) (ys rest : List Int), WAt w wr B gw WA WB (bitsOf ys) ∧ rest.length = m ∧
    ((last = 0 ∧ Ints .u8 w A1 m rest ∧ Apart gw WA A1 m ∧ (∀ z ∈ rest, 0 ≤ z ∧ z ≤ 255) ∧ ∃ f, m < f ∧ ys ++ stAll f rest = stAll (xs.length + 1) xs) ∨ (last = 1 ∧ ys = stAll (xs.length + 1) xs))

set_option maxRecDepth 100000 in
set_option maxHeartbeats 4000000 in
theorem store_any (w : World) (B gw : Nat) (WA : Option Addr) (hw : Wr w B gw WA []) (hB : B ≤ w.heap.size) (A : Option Addr) (n c : Nat) (xs : List Int) (hs : Ints .u8 w A n xs) (hz : ∀ z ∈ xs, 0 ≤ z ∧ z ≤ 255) (hnc : n ≤ c) (hn : n ≤ 1000000) (ha : Apart gw WA A n) :
    Calls Tryz.prog 25 #[.pointer (some ⟨gw, 0, none⟩), .slice A n c] w (WritePost w B gw WA (bitsOf (stAll (xs.length + 1) xs))) := by
  have HT0 : Hid (WAt w w B gw WA WA []) := WAt.start hw hB
  have HL := hs.len
  have HST : Hid (StoreAt w w B gw WA xs 0 A n) := ⟨WA, [], xs, HT0.out, HL.out, Or.inl ⟨rfl, hs, ha, hz, xs.length + 1, by rw [HL.out]; omega, rfl⟩⟩
  clear hw hs hz ha HT0
  go_enter Tryz.func25, Tryz.ntmps25
  go_wp2
  go_loopw [1, 4] (fun vb vl wr => ∃ (last : Int) (A1 : Option Addr) (m c1 : Nat), vb = .slice A1 m c1 ∧ vl = .int .i64 last ∧ (last = 0 ∨ last = 1) ∧ m ≤ c1 ∧ m ≤ n ∧ Hid (StoreAt w wr B gw WA xs last A1 m)) (fun vb vl _ => if intOf vl = 0 then (match vb with | .slice _ m _ => m + 1 | _ => 0) else 0)
  case atStart => exact ⟨0, A, n, c, rfl, rfl, Or.inl rfl, hnc, Nat.le_refl _, HST⟩
  case round =>
    clear HST
    obtain ⟨last, A1, m, c1, rfl, rfl, hl01, hmc, hmn, HS⟩ := hrel
    rcases hl01 with rfl | rfl
    · obtain ⟨WB, ys, rest, hT, hlr, ⟨-, hI, hAp, hbd, f, hf, hst⟩ | ⟨h, _⟩⟩ := HS.out
      · have HT := Lib.hid hT
        have HI := Lib.hid hI
        have HAP := Lib.hid hAp
        have HBD := Lib.hid hbd
        have HSTE := Lib.hid hst
        have HYL : Hid (ys.length ≤ 2 * n + 5) := by
          have h1 := congrArg List.length hst
          have h2 := stAll_len (xs.length + 1) xs (by omega)
          rw [List.length_append] at h1
          have := HL.out
          show _ ≤ _
          omega
        have HLR := Lib.hid hlr
        obtain ⟨f', rfl⟩ : ∃ f', f = f' + 1 := ⟨f - 1, by omega⟩
        clear hT hI hAp hbd hst hlr HS
        by_cases hbig : m ≤ 65535
        · have m1 : (m : Int) ≤ 65535 := by omega
          go_wp2_with fail
          refine (put_at HT.out (by rw [bitsOf_len]; have := HYL.out; omega) 1 1 (by omega) (by omega)).mono ?_
          rintro e w2 ⟨rfl, W2, hT2, -⟩
          have HT2 := Lib.hid hT2
          clear hT2 HT
          go_wp2_with fail
          refine (put_at HT2.out (by rw [List.length_append, digits_len, bitsOf_len]; have := HYL.out; simp; omega) 0 2 (by omega) (by omega)).mono ?_
          rintro e w3 ⟨rfl, W3, hT3, -⟩
          have HT3 : Hid (WAt w w3 B gw WA W3 (bitsOf ys ++ digits 1 1 ++ digits 0 2)) := hT3
          clear hT3 HT2
          go_wp2_with fail
          refine (align_at HT3.out (by rw [List.length_append, List.length_append, digits_len, digits_len, bitsOf_len]; have := HYL.out; omega)).mono ?_
          rintro e w4 ⟨rfl, W4, hT4, -⟩
          rw [st_head ys (by simp)] at hT4
          have HT4 := Lib.hid hT4
          have HBL : Hid ((bitsOf (ys ++ [(1 : Int)])).length = 8 * (ys.length + 1)) := by show _ = _; rw [bitsOf_len, List.length_append]; rfl
          clear hT4 HT3
          go_wp2_with fail
          refine (put_at HT4.out (by rw [HBL.out]; have := HYL.out; omega) (m : Int) 16 (by omega) (by omega)).mono ?_
          rintro e w5 ⟨rfl, W5, hT5, -⟩
          have HT5 := Lib.hid hT5
          clear hT5 HT4
          go_wp2_with fail
          refine (put_at HT5.out (by rw [List.length_append, digits_len, HBL.out]; have := HYL.out; simp; omega) (65535 - (m : Int)) 16 (by omega) (by omega)).mono ?_
          rintro e w6 ⟨rfl, W6, hT6, -⟩
          have HT6 : Hid (WAt w w6 B gw WA W6 (bitsOf (ys ++ [(1 : Int)]) ++ digits ((m : Nat) : Int) 16 ++ digits (65535 - ((m : Nat) : Int)) 16)) := hT6
          clear hT6 HT5
          have cutH := run_cut_h el_byte A1 m c1 .i64 (m : Int) m rfl (by omega)
          go_wp2_with fail
          refine (raw_at HT6.out (by rw [List.length_append, List.length_append, digits_len, digits_len, HBL.out]; have := HYL.out; omega) (by rw [List.length_append, List.length_append, digits_len, digits_len, HBL.out]; omega) A1 m c1 rest (HT6.out.ints HI.out HAP.out) (HBD.out) (by omega)).mono ?_
          rintro e w7 ⟨rfl, W7, hT7, -⟩
          rw [st_nums ys 1 m (by omega)] at hT7
          have HT7 : Hid (WAt w w7 B gw WA W7 (bitsOf (ys ++ stOne 1 rest))) := by
            show WAt _ _ _ _ _ _ _
            unfold stOne
            rw [HLR.out]
            exact hT7
          clear hT7 HT6 HBL cutH
          have cutL := run_cut_l el_byte A1 m c1 .i64 (m : Int) m rfl (by omega)
          go_wp2
          go_roundw
          case rel => exact ⟨1, cutA 1 A1 c1 m, m - m, c1 - m, by simp, rfl, by simp, by omega, by omega, ⟨W7, ys ++ stOne 1 rest, [], HT7.out, by simp, Or.inr ⟨rfl, by rw [← HSTE.out, stAll, if_pos (by rw [HLR.out]; exact hbig)]⟩⟩⟩
          case measure => simp [intOf]
        · have m1 : (65535 : Int) < m := by omega
          have d1 : ((65535 : Int) == (m : Int)) = false := by simp; omega
          have HCUT : Hid (Ints .u8 w (cutA 1 A1 c1 65535) (m - 65535) (rest.drop 65535) ∧ Apart gw WA (cutA 1 A1 c1 65535) (m - 65535)) := by
            refine ⟨?_, fun hp => ?_⟩
            · have := HI.out.cut (lo := 65535) (hi := m) (c := c1) (by omega) (Nat.le_refl _) hmc
              rw [List.take_of_length_le (by rw [List.length_drop, HLR.out]; exact Nat.le_refl _)] at this
              exact this
            · rw [bl_cut]
              exact HAP.out (by omega)
          go_wp2_with fail
          refine (put_at HT.out (by rw [bitsOf_len]; have := HYL.out; omega) 0 1 (by omega) (by omega)).mono ?_
          rintro e w2 ⟨rfl, W2, hT2, -⟩
          have HT2 := Lib.hid hT2
          clear hT2 HT
          go_wp2_with fail
          refine (put_at HT2.out (by rw [List.length_append, digits_len, bitsOf_len]; have := HYL.out; simp; omega) 0 2 (by omega) (by omega)).mono ?_
          rintro e w3 ⟨rfl, W3, hT3, -⟩
          have HT3 : Hid (WAt w w3 B gw WA W3 (bitsOf ys ++ digits 0 1 ++ digits 0 2)) := hT3
          clear hT3 HT2
          go_wp2_with fail
          refine (align_at HT3.out (by rw [List.length_append, List.length_append, digits_len, digits_len, bitsOf_len]; have := HYL.out; omega)).mono ?_
          rintro e w4 ⟨rfl, W4, hT4, -⟩
          rw [st_head ys (by simp)] at hT4
          have HT4 := Lib.hid hT4
          have HBL : Hid ((bitsOf (ys ++ [(0 : Int)])).length = 8 * (ys.length + 1)) := by show _ = _; rw [bitsOf_len, List.length_append]; rfl
          clear hT4 HT3
          go_wp2_with fail
          refine (put_at HT4.out (by rw [HBL.out]; have := HYL.out; omega) 65535 16 (by omega) (by omega)).mono ?_
          rintro e w5 ⟨rfl, W5, hT5, -⟩
          have HT5 := Lib.hid hT5
          clear hT5 HT4
          go_wp2_with fail
          refine (put_at HT5.out (by rw [List.length_append, digits_len, HBL.out]; have := HYL.out; simp; omega) 0 16 (by omega) (by omega)).mono ?_
          rintro e w6 ⟨rfl, W6, hT6, -⟩
          have HT6 : Hid (WAt w w6 B gw WA W6 (bitsOf (ys ++ [(0 : Int)]) ++ digits ((65535 : Nat) : Int) 16 ++ digits (65535 - ((65535 : Nat) : Int)) 16)) := hT6
          clear hT6 HT5
          have cutH := run_cut_h el_byte A1 m c1 .i64 65535 65535 rfl (by omega)
          go_wp2_with fail
          refine (raw_at HT6.out (by rw [List.length_append, List.length_append, digits_len, digits_len, HBL.out]; have := HYL.out; omega) (by rw [List.length_append, List.length_append, digits_len, digits_len, HBL.out]; omega) A1 65535 c1 (rest.take 65535) ((HT6.out.ints HI.out HAP.out).pre (by omega)) (fun z hz => HBD.out z (List.mem_of_mem_take hz)) (by omega)).mono ?_
          rintro e w7 ⟨rfl, W7, hT7, -⟩
          rw [st_nums ys 0 65535 (by omega)] at hT7
          have HT7 : Hid (WAt w w7 B gw WA W7 (bitsOf (ys ++ stOne 0 (rest.take 65535)))) := by
            show WAt _ _ _ _ _ _ _
            unfold stOne
            rw [List.length_take, HLR.out, Nat.min_eq_left (by omega)]
            exact hT7
          clear hT7 HT6 HBL cutH
          have cutL := run_cut_l el_byte A1 m c1 .i64 65535 65535 rfl (by omega)
          go_wp2
          go_roundw
          case rel => exact ⟨0, cutA 1 A1 c1 65535, m - 65535, c1 - 65535, by simp, rfl, by simp, by omega, by omega, ⟨W7, ys ++ stOne 0 (rest.take 65535), rest.drop 65535, HT7.out, by rw [List.length_drop, HLR.out], Or.inl ⟨rfl, HCUT.out.1, HCUT.out.2, fun z hz => HBD.out z (List.mem_of_mem_drop hz), f', by omega, by rw [← HSTE.out, stAll, if_neg (by rw [HLR.out]; omega), List.append_assoc]⟩⟩⟩
          case measure => simp [intOf]; omega
      · exact absurd h (by decide)
    · obtain ⟨WB, ys, rest, hT, hlr, ⟨h, _⟩ | ⟨-, hys⟩⟩ := HS.out
      · exact absurd h (by decide)
      · have HT := Lib.hid hT
        have HYS := Lib.hid hys
        clear hT hys hlr HS
        go_wp2
        go_end0
        exact ⟨rfl, WB, by rw [← HYS.out]; exact HT.out⟩

end Go.Proofs.YtolcdlopgbgilaaGreatDoor

/-! Text DefN. -/
namespace Go.Proofs.YtolcdlopgbgilaaGreatDoor
open Go.RowKit Go.Dray

theorem stAll_bd (f : Nat) : ∀ b : List Int, (∀ z ∈ b, 0 ≤ z ∧ z ≤ 255) → ∀ z ∈ stAll f b, 0 ≤ z ∧ z ≤ 255 := by
  induction f with
  | zero => intro b _ z hz; cases hz
  | succ f ih =>
    intro b hb z hz
    rw [stAll] at hz
    split at hz
    · rename_i h; exact stOne_bd (Or.inr rfl) h hb z hz
    · rcases List.mem_append.1 hz with h | h
      · exact stOne_bd (Or.inl rfl) (by rw [List.length_take]; omega) (fun y hy => hb y (List.mem_of_mem_take hy)) z h
      · exact ih _ (fun y hy => hb y (List.mem_of_mem_drop hy)) z h
theorem wsum_lone (l : List Int) (h : ∀ z ∈ l, 0 ≤ z ∧ z ≤ 15) : wsum l ≤ 16384 * l.sum := by
  induction l with
  | nil => simp [wsum]
  | cons z l ih =>
    have h1 := ih fun y hy => h y (by simp [hy])
    have hz := h z (by simp)
    have h2 : wt z ≤ 16384 * z := by
      by_cases h0 : 0 < z
      · rw [wt_pos z h0]
        obtain ⟨k, rfl⟩ := Int.eq_ofNat_of_zero_le hz.1
        have : ∀ k : Nat, k ≤ 15 → 0 < k → (2 : Int) ^ (15 - (k : Int)).toNat ≤ 16384 * (k : Int) := by decide
        exact this k (by omega) (by omega)
      · rw [wt_no z (by omega)]; omega
    unfold wsum at h1 ⊢
    rw [List.map_cons, List.sum_cons, List.sum_cons]
    omega
theorem chk_dist {l : List Int} (hl : l.length ≤ 320) (hb : ∀ z ∈ l, 0 ≤ z ∧ z ≤ 15) (h : fullB l = true ∨ loneB l = true) : chk l = 0 := by
  rcases h with h | h
  · exact (full_parts h).2.2.2
  · unfold loneB at h
    rw [decide_eq_true_eq] at h
    exact chk_ok hl hb (by have := wsum_lone l hb; omega)
theorem far_apart {w : World} {B gw : Nat} {WA : Option Addr} {bits : List Bool} (hw : Wr w B gw WA bits) {A : Option Addr} {n : Nat} (h : w.heap.size ≤ bl A) : Apart gw WA A n := fun _ => by
  have h3 := hw.lt
  refine ⟨by omega, fun e => ?_⟩
  have := (hw.base e.symm).2
  omega

/-- The lengths that suit the pieces, exactly. -/
def DynF (ps : List Piece) (lz dz : List Int) : Prop := lz = (lensF (litZ ps) 15).take (toldN (lensF (litZ ps) 15) 257) ∧ dz = (lensF (distZ ps) 15).take (toldN (lensF (distZ ps) 15) 1)
/-- What Deflate makes of bytes. -/
def DefOut (xs : List Int) (how : Int) (out : List Int) : Prop :=
  (how = 0 ∧ out = stAll (xs.length + 1) xs) ∨ (how = 1 ∧ ∃ ps, (PiecesOk ps [] ∧ Parsed xs xs.length 0 ps) ∧ expand ps [] = xs ∧ out = pack (fixBits ps)) ∨
  (how = 2 ∧ ∃ ps lz dz tz c ss, (TellOk lz dz tz c ss ∧ DynF ps lz dz ∧ TellF lz dz tz c ss) ∧ (PiecesOk ps [] ∧ Parsed xs xs.length 0 ps) ∧ expand ps [] = xs ∧ chk dz = 0 ∧ (∀ x ∈ ps, PieceHas lz dz x) ∧ Has lz 256 ∧ out = pack (dynBits lz dz tz c ss ps))
theorem DefOut.bd {xs out : List Int} {how : Int} (h : DefOut xs how out) (hx : ∀ z ∈ xs, 0 ≤ z ∧ z ≤ 255) : ∀ z ∈ out, 0 ≤ z ∧ z ≤ 255 := by
  rcases h with ⟨_, rfl⟩ | ⟨_, ps, _, _, rfl⟩ | ⟨_, ps, lz, dz, tz, c, ss, _, _, _, _, _, _, rfl⟩
  · exact stAll_bd _ xs hx
  · exact pack_bd _
  · exact pack_bd _

theorem DefOut.uniq {xs o1 o2 : List Int} {how : Int} (h : DefOut xs how o1) (h' : DefOut xs how o2) : o1 = o2 := by
  rcases h with ⟨rfl, rfl⟩ | ⟨rfl, ps, hp, _, rfl⟩ | ⟨rfl, ps, lz, dz, tz, c, ss, ht, hp, _, _, _, _, rfl⟩
  · rcases h' with ⟨_, rfl⟩ | ⟨h, _⟩ | ⟨h, _⟩
    · rfl
    · omega
    · omega
  · rcases h' with ⟨h, _⟩ | ⟨_, ps', hp', _, rfl⟩ | ⟨h, _⟩
    · omega
    · rw [Parsed.uniq _ _ _ hp.2 hp'.2]
    · omega
  · rcases h' with ⟨h, _⟩ | ⟨h, _⟩ | ⟨_, ps', lz', dz', tz', c', ss', ht', hp', _, _, _, _, rfl⟩
    · omega
    · omega
    · obtain rfl := Parsed.uniq _ _ _ hp.2 hp'.2
      obtain ⟨_, ⟨e1, e2⟩, hf⟩ := ht
      obtain ⟨_, ⟨e1', e2'⟩, hf'⟩ := ht'
      have q1 := e1.trans e1'.symm
      have q2 := e2.trans e2'.symm
      clear e1 e1' e2 e2'
      subst q1 q2
      obtain ⟨rfl, rfl, rfl⟩ := hf.uniq hf'
      rfl

def DeflPost (w : World) (xs : List Int) (how : Int) (e : Ending) (w' : World) : Prop :=
  ∃ X xc out, e = .returned (.tuple #[.slice X (List.length out) xc, .int .i64 0]) ∧ Own w' w.heap.size 5 1 X (List.length out) xc (out.map (Value.int .u8)) ∧ DefOut xs how out ∧ List.length out ≤ 3000000 ∧ Upd [] w w'

/-- Handed back: the bytes of all that was written. -/
theorem bytes_at {w w5 : World} {gw : Nat} {WB : Option Addr} {bits : List Bool} {out : List Int} (hU : Upd [] w w5) (hw : Wr w5 w.heap.size gw WB bits) (hl : bits.length ≤ 100000000) (ho : pack bits = out) :
    Calls Tryz.prog 32 #[.pointer (some ⟨gw, 0, none⟩)] w5 (fun e w' => ∃ X xc, e = .returned (.slice X (List.length out) xc) ∧ Own w' w.heap.size 5 1 X (List.length out) xc (out.map (Value.int .u8)) ∧ Upd [] w w') := by
  refine (wbytes_any w5 w.heap.size gw WB bits (by omega) hw out.length (by rw [← ho, pack_len]) out ho).mono ?_
  rintro e w' ⟨X, xc, rfl, hown, hu⟩
  exact ⟨X, xc, rfl, hown.monoB hU.size, hU.trans hu⟩

set_option maxRecDepth 100000 in
set_option maxHeartbeats 4000000 in
theorem deflate_bad (A : Option Addr) (n c : Nat) (how : Int) (w : World) (h : how < 0 ∨ 2 < how) : Calls Tryz.prog 12 #[.slice A n c, .int .i64 how] w fun e w' => e = .returned (.tuple #[.slice none 0 0, .int .i64 1]) ∧ w = w' := by
  have d0 : (how != 0) = true := by simp; omega
  have d1 : (how != 1) = true := by simp; omega
  have d2 : (how != 2) = true := by simp; omega
  clear h
  go_enter Tryz.func12, Tryz.ntmps12
  go_wp2
  go_ret2
  exact ⟨rfl, rfl⟩

set_option maxRecDepth 100000 in
set_option maxHeartbeats 4000000 in
theorem deflate_stored (A : Option Addr) (n c : Nat) (xs : List Int) (w : World) (hs : Ints .u8 w A n xs) (hz : ∀ z ∈ xs, 0 ≤ z ∧ z ≤ 255) (hnc : n ≤ c) (hn : n ≤ 1000000) :
    Calls Tryz.prog 12 #[.slice A n c, .int .i64 0] w (DeflPost w xs 0) := by
  have HS := Lib.hid hs
  have HZ := Lib.hid hz
  have HL := hs.len
  have hbig : decide ((16777216 : Int) < n) = false := by simp; omega
  clear hs hz
  obtain ⟨w1, hw1⟩ : ∃ w1 : World, w1 = w.alloc (.cells #[.slice none 0 0, .int .i64 0] 98) := ⟨_, rfl⟩
  obtain ⟨gw, hgw⟩ : ∃ gw, gw = w.heap.size := ⟨_, rfl⟩
  have HW1 : Hid (Wr w1 w.heap.size gw none []) := by rw [hw1, hgw]; exact Wr.new w _
  have HU1 : Hid (Upd [] w w1) := by rw [hw1]; exact (Upd.refl _ _).alloc _
  have HNW : Hid (Calls Tryz.prog 24 #[] w fun e w' => e = .returned (.pointer (some ⟨gw, 0, none⟩)) ∧ w' = w1) := by
    rw [hw1, hgw]; exact newWriter_any w
  have HGW : Hid (w.heap.size ≤ gw) := by show _ ≤ _; omega
  have HAP : Hid (Apart gw none A n) := fun hp => by
    have := Seg.lt HS.out hp (by omega)
    exact ⟨by omega, by simp [ob]⟩
  clear hw1 hgw
  go_enter Tryz.func12, Tryz.ntmps12
  go_wp2_with fail
  refine HNW.out.mono ?_
  rintro e w' ⟨rfl, rfl⟩
  clear HNW
  go_wp2_with fail
  refine (store_any _ w.heap.size gw none HW1.out HU1.out.size A n c xs (HS.out.upd HU1.out (by simp)) HZ.out hnc hn HAP.out).mono ?_
  rintro e w2 ⟨rfl, WB, hT⟩
  have HU2 : Hid (Upd [] w w2) := HU1.out.then hT.upd (by intro b hb; simp [ob] at hb; right; rw [hb]; exact HGW.out)
  have HT := Lib.hid hT.wri
  clear hT
  have hsl : (stAll (xs.length + 1) xs).length ≤ 2000010 := by have := stAll_len (xs.length + 1) xs (by omega); have := HL.out; omega
  go_wp2_with fail
  refine (bytes_at HU2.out HT.out (by rw [bitsOf_len]; omega) (pack_bits (stAll_bd _ xs HZ.out))).mono ?_
  rintro e w3 ⟨X, xc, rfl, hown, hu3⟩
  have HO := Lib.hid hown
  have HU3 := Lib.hid hu3
  clear hown hu3
  go_wp2
  go_ret2
  exact ⟨X, xc, _, rfl, HO.out, Or.inl ⟨rfl, rfl⟩, by omega, HU3.out⟩

set_option maxRecDepth 100000 in
set_option maxHeartbeats 4000000 in
theorem deflate_fixed (A : Option Addr) (n c : Nat) (xs : List Int) (w : World) (hs : Ints .u8 w A n xs) (hz : ∀ z ∈ xs, 0 ≤ z ∧ z ≤ 255) (hnc : n ≤ c) (hn : n ≤ 3000) :
    Calls Tryz.prog 12 #[.slice A n c, .int .i64 1] w (DeflPost w xs 1) := by
  have HS := Lib.hid hs
  have HZ := Lib.hid hz
  have HL := hs.len
  have hbig : decide ((16777216 : Int) < n) = false := by simp; omega
  clear hs hz
  obtain ⟨w1, hw1⟩ : ∃ w1 : World, w1 = w.alloc (.cells #[.slice none 0 0, .int .i64 0] 98) := ⟨_, rfl⟩
  obtain ⟨gw, hgw⟩ : ∃ gw, gw = w.heap.size := ⟨_, rfl⟩
  have hu1 : Upd [] w w1 := by rw [hw1]; exact (Upd.refl _ _).alloc _
  have HT1 : Hid (WAt w1 w1 w.heap.size gw none none []) := by rw [hw1, hgw]; exact WAt.start (Wr.new w _) (by simp)
  have HU1 := Lib.hid hu1
  have HNW : Hid (Calls Tryz.prog 24 #[] w fun e w' => e = .returned (.pointer (some ⟨gw, 0, none⟩)) ∧ w' = w1) := by
    rw [hw1, hgw]; exact newWriter_any w
  have HGW : Hid (w.heap.size ≤ gw) := by show _ ≤ _; omega
  clear hw1 hgw hu1
  go_enter Tryz.func12, Tryz.ntmps12
  go_wp2_with fail
  refine HNW.out.mono ?_
  rintro e w' ⟨rfl, rfl⟩
  clear HNW
  go_wp2_with fail
  refine (put_at HT1.out (by simp) 1 1 (by omega) (by omega)).mono ?_
  rintro e w2 ⟨rfl, W2, hT2, -⟩
  have HT2 : Hid (WAt _ w2 w.heap.size gw none W2 (digits 1 1)) := hT2
  clear hT2 HT1
  go_wp2_with fail
  refine (put_at HT2.out (by rw [digits_len]; omega) 1 2 (by omega) (by omega)).mono ?_
  rintro e w3 ⟨rfl, W3, hT3, -⟩
  have HT3 : Hid (WAt _ w3 w.heap.size gw none W3 (digits 1 1 ++ digits 1 2)) := hT3
  have HU3 : Hid (Upd [] w w3) := HU1.out.then hT3.upd (by intro b hb; simp [ob] at hb; right; rw [hb]; exact HGW.out)
  clear hT3 HT2 HU1
  go_wp2_with fail
  refine (dfixed_any w3).mono ?_
  rintro e w4 ⟨LA, lc, DA, dc, rfl, hL, hD, hu4⟩
  have HT4 := Lib.hid (HT3.out.calm hu4)
  have HU4 : Hid (Upd [] w w4) := HU3.out.trans hu4
  have AL := Lib.hid (own_apart HT3.out.wri hL (Nat.le_refl _))
  have AD := Lib.hid (own_apart HT3.out.wri hD (Nat.le_refl _))
  have HLI := Lib.hid hL
  have HDI := Lib.hid hD
  clear hL hD hu4 HT3 HU3
  go_wp2_with fail
  refine (parse_bytes A n c xs w4 (HS.out.upd HU4.out (by simp)) HZ.out hn hnc).mono ?_
  rintro e w5 ⟨PA, pc, ps, rfl, hP, hok, hex, hu5⟩
  have HT5 := Lib.hid (HT4.out.calm hu5)
  have HU5 : Hid (Upd [] w w5) := HU4.out.trans hu5
  have AP := Lib.hid (own_apart HT4.out.wri hP (Nat.le_refl _))
  have HL5 := Lib.hid (Ints.ofOwn (HLI.out.upd hu5 (by simp)))
  have HD5 := Lib.hid (Ints.ofOwn (HDI.out.upd hu5 (by simp)))
  have HPI := Lib.hid hP.seg
  have HOK := Lib.hid hok
  have HEX := Lib.hid hex.1
  have HPRS := Lib.hid hex.2
  have hpl : ps.length ≤ 3000 := by
    have h1 := expand_ge ps [] hok
    rw [hex.1] at h1
    simp at h1
    have := HL.out
    omega
  have AP' : Hid (Apart gw W3 PA ps.length) := AP.out
  clear hP hok hex hu5 HT4 HU4 HLI HDI
  go_wp2_with fail
  refine (write_any w5 w.heap.size gw W3 (digits 1 1 ++ digits 1 2) PA LA DA pc 288 lc 32 dc ps fixedL fixedD HT5.out.wri HU5.out.size (by rw [List.length_append, digits_len, digits_len]; omega) HPI.out HL5.out HD5.out AP.out AL.out AD.out HOK.out hpl fixedL_chk fixedD_chk (fixed_has HOK.out) (fixedL_has (by omega))).mono ?_
  rintro e w6 ⟨rfl, W6, hT6⟩
  have HU6 : Hid (Upd [] w w6) := HU5.out.then hT6.upd (by
    intro b hb
    simp at hb
    right
    rcases hb with rfl | hb
    · exact HGW.out
    · exact (HT5.out.wri.base hb.symm).1)
  have HW6 := Lib.hid hT6.wri
  clear hT6 HT5 HU5 HPI HL5 HD5 AP AP' AL AD
  have hbl : (fixBits ps).length ≤ 1000000 := by
    unfold fixBits blockBits
    have h1 := piecesBits_len (lz := fixedL) (dz := fixedD) (chk_zero fixedL_chk).2.1 (chk_zero fixedD_chk).2.1 ps (PiecesOk.mem HOK.out)
    have h2 : (rowOf fixedL 256).length ≤ 15 := by rw [rowOf_len]; decide +kernel
    simp only [List.length_append, digits_len]
    omega
  have HBT : Hid (digits 1 1 ++ digits 1 2 ++ blockBits fixedL fixedD ps = fixBits ps) := by show _ = _; unfold fixBits; rw [List.append_assoc]
  rw [HBT.out] at HW6
  clear HBT
  go_wp2_with fail
  refine (bytes_at HU6.out HW6.out (by omega) rfl).mono ?_
  rintro e w7 ⟨X, xc, rfl, hown, hu7⟩
  have HO := Lib.hid hown
  have HU7 := Lib.hid hu7
  clear hown hu7
  go_wp2
  go_ret2
  exact ⟨X, xc, _, rfl, HO.out, Or.inr (Or.inl ⟨rfl, ps, ⟨HOK.out, HPRS.out⟩, HEX.out, rfl⟩), by rw [pack_len]; omega, HU7.out⟩

set_option maxRecDepth 100000 in
set_option maxHeartbeats 4000000 in
theorem deflate_dynamic (A : Option Addr) (n c : Nat) (xs : List Int) (w : World) (hs : Ints .u8 w A n xs) (hz : ∀ z ∈ xs, 0 ≤ z ∧ z ≤ 255) (hnc : n ≤ c) (hn : n ≤ 3000) (ho : OrdD w) :
    Calls Tryz.prog 12 #[.slice A n c, .int .i64 2] w (DeflPost w xs 2) := by
  have HS := Lib.hid hs
  have HZ := Lib.hid hz
  have HL := hs.len
  have hbig : decide ((16777216 : Int) < n) = false := by simp; omega
  have HOD := Lib.hid ho
  clear hs hz ho
  obtain ⟨w1, hw1⟩ : ∃ w1 : World, w1 = w.alloc (.cells #[.slice none 0 0, .int .i64 0] 98) := ⟨_, rfl⟩
  obtain ⟨gw, hgw⟩ : ∃ gw, gw = w.heap.size := ⟨_, rfl⟩
  have hu1 : Upd [] w w1 := by rw [hw1]; exact (Upd.refl _ _).alloc _
  have HT1 : Hid (WAt w1 w1 w.heap.size gw none none []) := by rw [hw1, hgw]; exact WAt.start (Wr.new w _) (by simp)
  have HU1 := Lib.hid hu1
  have HNW : Hid (Calls Tryz.prog 24 #[] w fun e w' => e = .returned (.pointer (some ⟨gw, 0, none⟩)) ∧ w' = w1) := by
    rw [hw1, hgw]; exact newWriter_any w
  have HGW : Hid (w.heap.size ≤ gw) := by show _ ≤ _; omega
  clear hw1 hgw hu1
  go_enter Tryz.func12, Tryz.ntmps12
  go_wp2_with fail
  refine HNW.out.mono ?_
  rintro e w' ⟨rfl, rfl⟩
  clear HNW
  go_wp2_with fail
  refine (put_at HT1.out (by simp) 1 1 (by omega) (by omega)).mono ?_
  rintro e w2 ⟨rfl, W2, hT2, -⟩
  have HT2 : Hid (WAt _ w2 w.heap.size gw none W2 (digits 1 1)) := hT2
  clear hT2 HT1
  go_wp2_with fail
  refine (put_at HT2.out (by rw [digits_len]; omega) 2 2 (by omega) (by omega)).mono ?_
  rintro e w3 ⟨rfl, W3, hT3, -⟩
  have HT3 : Hid (WAt _ w3 w.heap.size gw none W3 (digits 1 1 ++ digits 2 2)) := hT3
  have HU3 : Hid (Upd [] w w3) := HU1.out.then hT3.upd (by intro b hb; simp [ob] at hb; right; rw [hb]; exact HGW.out)
  clear hT3 HT2 HU1
  go_wp2_with fail
  refine (parse_bytes A n c xs w3 (HS.out.upd HU3.out (by simp)) HZ.out hn hnc).mono ?_
  rintro e w4 ⟨PA, pc, ps, rfl, hP, hok, hex, hu4⟩
  have HT4 := Lib.hid (HT3.out.calm hu4)
  have HU4 : Hid (Upd [] w w4) := HU3.out.trans hu4
  have AP := Lib.hid (own_apart HT3.out.wri hP (Nat.le_refl _))
  have HPO := Lib.hid hP
  have HOK := Lib.hid hok
  have HEX := Lib.hid hex.1
  have HPRS := Lib.hid hex.2
  have hpl : ps.length ≤ 3000 := by
    have h1 := expand_ge ps [] hok
    rw [hex.1] at h1
    simp at h1
    have := HL.out
    omega
  clear hP hok hex hu4 HT3 HU3
  go_wp2_with fail
  refine (dlengths_any PA pc ps w4 HPO.out.seg HOK.out hpl).mono ?_
  rintro e w5 ⟨LA, ln, lc, DA, dn, dc, L, M, rfl, hL, hD, hLk, hMk, ⟨htL, hnq⟩, ⟨htM, hmq⟩, hlc, hdc, hbl, hbd, hu5⟩
  have HDY : Hid (DynF ps (L.take ln) (M.take dn)) := ⟨by rw [hnq, hLk.eq], by rw [hmq, hMk.eq]⟩
  clear hnq hmq
  have HT5 := Lib.hid (HT4.out.calm hu5)
  have HU5 : Hid (Upd [] w w5) := HU4.out.trans hu5
  have AL : Hid (Apart gw W3 LA ln) := far_apart HT4.out.wri hbl
  have AD : Hid (Apart gw W3 DA dn) := far_apart HT4.out.wri hbd
  have HPI := Lib.hid (HPO.out.seg.upd hu5 (by omega) (by simp))
  have HLI := Lib.hid hL
  have HDI := Lib.hid hD
  have hLl : L.length = 286 := by rw [hLk.len, litZ_len]
  have hMl : M.length = 30 := by rw [hMk.len, distZ_len]
  have hln1 : 257 ≤ ln := htL.2.1 (by omega)
  have hln2 : ln ≤ 286 := by have := htL.1; omega
  have hdn1 : 1 ≤ dn := htM.2.1 (by omega)
  have hdn2 : dn ≤ 30 := by have := htM.1; omega
  have hLf : fullB (L.take ln) = true := full_pre htL.2.2 (hLk.full' (by omega) (by rw [litZ_len]; omega) (lit_two HOK.out))
  have hDf := hMk.dist' (by omega) (by rw [distZ_len]; omega) htM
  have hph := piece_has HOK.out hLk hMk htL htM
  have hMb : ∀ z ∈ M.take dn, 0 ≤ z ∧ z ≤ 15 := fun z hz => by
    obtain ⟨i, hi, rfl⟩ := getD_ex (List.mem_of_mem_take hz)
    have := hMk.bd i (by rw [← hMk.len]; exact hi)
    omega
  have hcd : chk (M.take dn) = 0 := chk_dist (by rw [List.length_take]; omega) hMb hDf
  have HF : Hid (fullB (L.take ln) = true ∧ (fullB (M.take dn) = true ∨ loneB (M.take dn) = true) ∧ (∀ z ∈ M.take dn, 0 ≤ z ∧ z ≤ 15) ∧ chk (M.take dn) = 0 ∧ (∀ x ∈ ps, PieceHas (L.take ln) (M.take dn) x) ∧ Has (L.take ln) 256) := ⟨hLf, hDf, hMb, hcd, hph.1, hph.2⟩
  have HOD5 := Lib.hid (HOD.out.upd HU5.out (by simp))
  have HGL : Hid (0 < w.heap.size) := HOD.out.low
  generalize L.take ln = lz at HLI HF HDY
  generalize M.take dn = dz at HDI HF HDY
  clear hL hD hLk hMk htL htM hbl hbd hu5 hLl hMl hLf hDf hph hMb hcd HT4 HU4 HPO HOD
  go_wp2_with fail
  refine (tell_any w5 w.heap.size gw W3 (digits 1 1 ++ digits 2 2) LA DA ln lc dn dc lz dz HT5.out.wri HU5.out.size (by rw [List.length_append, digits_len, digits_len]; omega) HOD5.out HLI.out HDI.out hln1 hln2 hdn1 hdn2 HF.out.1 (by have := HF.out.2.2.2.2.2.2; omega) HF.out.2.1 HF.out.2.2.1).mono ?_
  rintro e w6 ⟨rfl, W6, tz, cn, ss, ⟨htell, htf⟩, hT6⟩
  have HTF := Lib.hid htf
  clear htf
  have HTELL := Lib.hid htell
  have HT6 := Lib.hid hT6
  have HU6 : Hid (Upd [] w w6) := HU5.out.then hT6.upd (by
    intro b hb
    simp at hb
    right
    rcases hb with rfl | hb
    · exact HGW.out
    · exact (HT5.out.wri.base hb.symm).1)
  have hAL := AL.out
  have hAD := AD.out
  have hAP := AP.out
  have HL6 := Lib.hid (hT6.ints HLI.out hAL)
  have HD6 := Lib.hid (hT6.ints HDI.out hAD)
  have HP6 := Lib.hid (hT6.seg (by omega) HPI.out hAP)
  have hfr : ∀ {X : Option Addr} {m sz : Nat} {xs : List Value}, Seg w5 sz X m xs → 0 < sz → Apart gw W3 X m → Apart gw W6 X m := fun hi hsz ha hp => by
    refine ⟨(ha hp).1, fun e => ?_⟩
    rcases hT6.fresh _ e.symm with h | h
    · exact (ha hp).2 h.symm
    · have := hi.lt hp hsz; omega
  have AL6 : Hid (Apart gw W6 LA ln) := hfr HLI.out (by omega) hAL
  have AD6 : Hid (Apart gw W6 DA dn) := hfr HDI.out (by omega) hAD
  have AP6 : Hid (Apart gw W6 PA ps.length) := hfr HPI.out (by omega) hAP
  have HBL : Hid ((digits 1 1 ++ digits 2 2 ++ tellBits lz dz tz cn ss).length ≤ 100000) := by
    have h1 := stepsBits_len htell.t7 ss (StepsOk.bits htell.ok)
    have h2 := expandS_ge ss [] htell.ok
    rw [htell.ex, List.length_append] at h2
    simp at h2
    have h3 := htell.l2
    have h4 := htell.d2
    show _ ≤ _
    unfold tellBits
    simp only [List.length_append, digits_len, flat3_len, List.length_take, orderedOf_len]
    omega
  clear htell hT6 hfr hAL hAD hAP AL AD AP HLI HDI HPI HT5 HU5 HOD5
  go_wp2_with fail
  refine (write_any w6 w.heap.size gw W6 (digits 1 1 ++ digits 2 2 ++ tellBits lz dz tz cn ss) PA LA DA pc ln lc dn dc ps lz dz HT6.out.wri HU6.out.size (by have := HBL.out; omega) HP6.out HL6.out HD6.out AP6.out AL6.out AD6.out HOK.out hpl (full_parts HF.out.1).2.2.2 HF.out.2.2.2.1 HF.out.2.2.2.2.1 HF.out.2.2.2.2.2).mono ?_
  rintro e w7 ⟨rfl, W7, hT7⟩
  have HU7 : Hid (Upd [] w w7) := HU6.out.then hT7.upd (by
    intro b hb
    simp at hb
    right
    rcases hb with rfl | hb
    · exact HGW.out
    · exact (HT6.out.wri.base hb.symm).1)
  have HW7 := Lib.hid hT7.wri
  clear hT7 HT6 HU6 HP6 HL6 HD6 AP6 AL6 AD6
  have hbl : (dynBits lz dz tz cn ss ps).length ≤ 1000000 := by
    have h1 := piecesBits_len (lz := lz) (dz := dz) (full_parts HF.out.1).2.1 HF.out.2.2.1 ps (PiecesOk.mem HOK.out)
    have h2 : (rowOf lz 256).length ≤ 15 := by
      rw [rowOf_len]
      have hh : 256 < lz.length := HF.out.2.2.2.2.2.1
      rw [List.getD, List.getElem?_eq_getElem hh]
      have := (full_parts HF.out.1).2.1 (lz[256]'hh) (List.getElem_mem hh)
      show (lz[256]'hh).toNat ≤ 15
      omega
    have h3 := HBL.out
    unfold dynBits blockBits
    simp only [List.length_append, digits_len] at h3 ⊢
    omega
  have HBT : Hid (digits 1 1 ++ digits 2 2 ++ tellBits lz dz tz cn ss ++ blockBits lz dz ps = dynBits lz dz tz cn ss ps) := by show _ = _; unfold dynBits; simp only [List.append_assoc]
  rw [HBT.out] at HW7
  clear HBT
  go_wp2_with fail
  refine (bytes_at HU7.out HW7.out (by omega) rfl).mono ?_
  rintro e w8 ⟨X, xc, rfl, hown, hu8⟩
  have HO := Lib.hid hown
  have HU8 := Lib.hid hu8
  clear hown hu8
  go_wp2
  go_ret2
  exact ⟨X, xc, _, rfl, HO.out, Or.inr (Or.inr ⟨rfl, ps, lz, dz, tz, cn, ss, ⟨HTELL.out, HDY.out, HTF.out⟩, ⟨HOK.out, HPRS.out⟩, HEX.out, HF.out.2.2.2.1, HF.out.2.2.2.2.1, HF.out.2.2.2.2.2, rfl⟩), by rw [pack_len]; omega, HU8.out⟩

end Go.Proofs.YtolcdlopgbgilaaGreatDoor

/-! Text DefOb. -/
namespace Go.Proofs.YtolcdlopgbgilaaGreatDoor
open Go.RowKit Go.Dray

/-- Both tables, as the program's text lays them. -/
def Ords (w : World) : Prop := OrdI w ∧ OrdD w
theorem Ords.upd {w w' : World} (h : Ords w) (hu : Upd [] w w') : Ords w' := ⟨h.1.upd hu, h.2.upd hu (by simp)⟩

/-- What is packed is unpacked as it was. -/
theorem DefOut.back {xs out : List Int} {how : Int} (h : DefOut xs how out) (hx : ∀ z ∈ xs, 0 ≤ z ∧ z ≤ 255) (hl : xs.length ≤ 3000) {most F : Nat} (hm : xs.length ≤ most) (hF : 3400 ≤ F) :
    ∃ p, run (bitsOf out) most (infPr F F) 0 [] = .ok xs p ∧ (p + 7) / 8 = out.length := by
  rcases h with ⟨_, rfl⟩ | ⟨_, ps, ⟨hok, _⟩, hex, rfl⟩ | ⟨_, ps, lz, dz, tz, c, ss, ⟨ht, _⟩, ⟨hok, _⟩, hex, hcd, hph, h256, rfl⟩
  · have e : stAll (xs.length + 1) xs = stOne 1 xs := by rw [stAll, if_pos (by omega)]
    rw [e]
    exact ⟨_, st_back (by omega) hx hm (by omega), by omega⟩
  · exact ⟨_, fix_back hok hex hm (by omega), by rw [pack_len]⟩
  · exact ⟨_, dyn_back ht hok hex hcd hph h256 hm (by omega), by rw [pack_len]⟩
theorem fixed_none {out : List Int} (h : DefOut [] 1 out) : out = [3, 0] := by
  rcases h with ⟨h, _⟩ | ⟨_, ps, ⟨hok, _⟩, hex, rfl⟩ | ⟨h, _⟩
  · omega
  · have h1 := expand_ge ps [] hok
    rw [hex] at h1
    simp at h1
    subst h1
    decide +kernel
  · omega
theorem stored_a {out : List Int} (h : DefOut [97] 0 out) : out = [1, 1, 0, 254, 255, 97] := by
  rcases h with ⟨_, rfl⟩ | ⟨h, _⟩ | ⟨h, _⟩
  · decide +kernel
  · omega
  · omega

end Go.Proofs.YtolcdlopgbgilaaGreatDoor

/-! Text DefLaid. -/
namespace Go.Proofs.YtolcdlopgbgilaaGreatDoor
open Go.ChangeShapes Go.WideShapes Go.ChangeAt Go.RowKit Go.Dray

def laidDB : List (String × DataW Unit) := [("drayage/deflate.order", Rows.laid_drayage_deflate_order), ("drayage/inflate.order", Rows.laid_drayage_inflate_order)]
def laidDF : List (String × DataW Unit) := [("drayage/deflate.order", Rows.laid_drayage_deflate_order)]

theorem doorDB (os : Os) (args : Array Value) : laidMetH Tryz.prog laidDB ((World.doorLaid Tryz.prog 400 os).forCall (fun _ _ => 0) ⟨#[], args, []⟩).memory :=
  laidMetH_of_parts3 (fuel := 8) (laidMet_of_run' 8 (by kernel_rfl) (by kernel_rfl)) (by kernel_rfl) (by kernel_rfl)
theorem doorDF (os : Os) (args : Array Value) : laidMetH Tryz.prog laidDF ((World.doorLaid Tryz.prog 400 os).forCall (fun _ _ => 0) ⟨#[], args, []⟩).memory :=
  laidMetH_of_parts3 (fuel := 8) (laidMet_of_run' 8 (by kernel_rfl) (by kernel_rfl)) (by kernel_rfl) (by kernel_rfl)

theorem of_laidDB {W : World} (h : laidMetH Tryz.prog laidDB W) : Ords W := by
  rw [MakeChecks.laidMetH_plain _ _ _ (by kernel_rfl)] at h
  obtain ⟨ps, ⟨g0, t0, cs0, f0, p0, q0, hg0, ht0, hv0, hd0, ⟨g1, t1, cs1, f1, p1, q1, hg1, ht1, hv1, hd1, _⟩, _⟩, _, _⟩ := h
  obtain rfl := Option.some.inj ((show Tryz.prog.globalNamed "drayage/deflate.order" = some 0 by kernel_rfl).symm.trans hg0)
  obtain rfl := Option.some.inj ((show Tryz.prog.globalNamed "drayage/inflate.order" = some 2 by kernel_rfl).symm.trans hg1)
  obtain rfl := Option.some.inj ((show (Tryz.prog.globals[0]?).map (·.type) = some 116 by kernel_rfl).symm.trans ht0)
  obtain rfl := Option.some.inj ((show (Tryz.prog.globals[2]?).map (·.type) = some 116 by kernel_rfl).symm.trans ht1)
  have r0 := trod_row (n := 19) (e := 3) (k := .i64) (by kernel_rfl) (by kernel_rfl) (by kernel_rfl) (by kernel_rfl) hd0 ordI rfl
  have r1 := trod_row (n := 19) (e := 3) (k := .i64) (by kernel_rfl) (by kernel_rfl) (by kernel_rfl) (by kernel_rfl) hd1 ordI rfl
  refine ⟨fun i hi => ?_, fun i hi => ?_⟩
  · rw [World.var?_cell hg1 hv1 i]
    exact ordI_cell r1 i hi
  · rw [World.var?_cell hg0 hv0 i]
    exact ordI_cell r0 i hi
theorem of_laidDF {W : World} (h : laidMetH Tryz.prog laidDF W) : OrdD W := by
  rw [MakeChecks.laidMetH_plain _ _ _ (by kernel_rfl)] at h
  obtain ⟨ps, ⟨g0, t0, cs0, f0, p0, q0, hg0, ht0, hv0, hd0, _⟩, _, _⟩ := h
  obtain rfl := Option.some.inj ((show Tryz.prog.globalNamed "drayage/deflate.order" = some 0 by kernel_rfl).symm.trans hg0)
  obtain rfl := Option.some.inj ((show (Tryz.prog.globals[0]?).map (·.type) = some 116 by kernel_rfl).symm.trans ht0)
  have r0 := trod_row (n := 19) (e := 3) (k := .i64) (by kernel_rfl) (by kernel_rfl) (by kernel_rfl) (by kernel_rfl) hd0 ordI rfl
  intro i hi
  rw [World.var?_cell hg0 hv0 i]
  exact ordI_cell r0 i hi

end Go.Proofs.YtolcdlopgbgilaaGreatDoor

/-! Text CodP. -/
namespace Go.Proofs.YtolcdlopgbgilaaGreatDoor
open Go.RowKit Go.Dray

/-- A number's bytes, the lowest first. -/
def leB (v : Int) (n : Nat) : List Int := tab n fun i => v / 2 ^ (8 * i) % 256
/-- A number's bytes, the highest first. -/
def beB (v : Int) (n : Nat) : List Int := (leB v n).reverse
/-- The number of bytes, the highest first. -/
def beNum (zs : List Int) : Int := zs.foldl (fun n x => n * 256 + x) 0
/-- The number of bytes, the lowest first. -/
def leNum (zs : List Int) : Int := beNum zs.reverse

theorem cd_tab_succ {α : Type} (n : Nat) (f : Nat → α) : tab (n + 1) f = tab n f ++ [f n] := by simp [tab, List.range_succ]
theorem leB_len (v : Int) (n : Nat) : (leB v n).length = n := tab_len _ _
theorem beB_len (v : Int) (n : Nat) : (beB v n).length = n := by rw [beB, List.length_reverse, leB_len]
theorem leB_bd (v : Int) (n : Nat) : ∀ z ∈ leB v n, 0 ≤ z ∧ z ≤ 255 := by
  intro z hz
  unfold leB tab at hz
  obtain ⟨i, _, rfl⟩ := List.mem_map.1 hz
  omega
theorem beB_bd (v : Int) (n : Nat) : ∀ z ∈ beB v n, 0 ≤ z ∧ z ≤ 255 := fun z hz => leB_bd v n z (by unfold beB at hz; simpa using hz)
theorem leB_succ (v : Int) (n : Nat) : leB v (n + 1) = leB v n ++ [v / 2 ^ (8 * n) % 256] := cd_tab_succ n _
theorem beB_succ (v : Int) (n : Nat) : beB v (n + 1) = (v / 2 ^ (8 * n) % 256) :: beB v n := by simp [beB, leB_succ]
theorem beB_tab (v : Int) (n : Nat) : beB v n = tab n fun j => v / 2 ^ (8 * (n - 1 - j)) % 256 := by
  unfold beB leB
  apply List.ext_getElem (by simp [tab_len])
  intro i h1 h2
  simp [tab_len] at h1 h2
  simp [tab]

theorem beNum_snoc (zs : List Int) (x : Int) : beNum (zs ++ [x]) = beNum zs * 256 + x := by simp [beNum]
theorem beNum_bd (zs : List Int) (h : ∀ z ∈ zs, 0 ≤ z ∧ z ≤ 255) : 0 ≤ beNum zs ∧ beNum zs < 2 ^ (8 * zs.length) := by
  induction zs using snoc_ind with
  | h0 => simp [beNum]
  | h1 zs x ih =>
    have h1 := ih fun z hz => h z (by simp [hz])
    have h2 := h x (by simp)
    rw [beNum_snoc, List.length_append, show 8 * (zs.length + [x].length) = 8 * zs.length + 8 from by simp; omega, Int.pow_add]
    omega
theorem leNum_snoc (zs : List Int) (x : Int) : leNum (zs ++ [x]) = leNum zs + x * 2 ^ (8 * zs.length) := by
  unfold leNum
  rw [List.reverse_append]
  have key : ∀ (l : List Int) (a : Int), l.foldl (fun n x => n * 256 + x) a = beNum l + a * 2 ^ (8 * l.length) := by
    intro l
    induction l using snoc_ind with
    | h0 => intro a; simp [beNum]
    | h1 l y ih =>
      intro a
      rw [List.foldl_append, List.foldl_cons, List.foldl_nil, ih, beNum_snoc, List.length_append, show 8 * (l.length + [y].length) = 8 * l.length + 8 from by simp; omega, Int.pow_add, Int.add_mul, ← Int.mul_assoc]
      omega
  show ([x] ++ zs.reverse).foldl _ 0 = _
  rw [List.foldl_append]
  have := key zs.reverse x
  rw [List.length_reverse] at this
  simp only [List.foldl_cons, List.foldl_nil, Int.zero_mul, Int.zero_add]
  exact this

/-- A new slice of bytes. -/
def NewBytes (n : Nat) (ys : List Int) (w : World) (e : Ending) (w' : World) : Prop :=
  ∃ A c, e = .returned (.slice A n c) ∧ Own w' w.heap.size 5 1 A n c (ys.map (Value.int .u8)) ∧ Upd [] w w'

set_option maxHeartbeats 400000 in
theorem rbe_any (w : World) (v m : Int) (hv : 0 ≤ v) (hv1 : v ≤ 9223372036854775807) (h0 : 1 ≤ m) (hm : m ≤ 8) : Calls Tryz.prog 51 #[.int .u64 v, .int .i64 m] w (NewBytes m.toNat (beB v m.toNat) w) := by
  obtain ⟨n, rfl⟩ := Int.eq_ofNat_of_zero_le (show 0 ≤ m by omega)
  rw [Int.toNat_natCast]
  have d1 : decide ((n : Int) < 1) = false := by simp; omega
  have d2 : decide (8 < (n : Int)) = false := by simp; omega
  go_enter Tryz.func51, Tryz.ntmps51
  go_wp2
  go_loopw [0, 5, 6] (fun q x i wr => ∃ k : Nat, k ≤ n ∧ i = .int .i64 k ∧ q = .int .u64 (v / 2 ^ (8 * k)) ∧ ∃ X cc, x = .slice X k cc ∧ Own wr w.heap.size 5 1 X k cc ((beB v k).map (Value.int .u8)) ∧ Upd [] w wr) (fun _ _ i _ => n - (intOf i).toNat)
  case atStart => exact ⟨0, by omega, rfl, by simp, none, 0, rfl, Own.nil _ _ _ _, Upd.refl _ _⟩
  case round =>
    obtain ⟨k, hk, rfl, rfl, X, cc, rfl, hown, hu⟩ := hrel
    have hq : 0 ≤ v / 2 ^ (8 * k) ∧ v / 2 ^ (8 * k) ≤ 9223372036854775807 := ⟨Int.ediv_nonneg hv (Int.pow_nonneg (by decide)), by have := Int.ediv_le_self (2 ^ (8 * k)) hv; omega⟩
    obtain ⟨y, HY⟩ : ∃ y, Hid (y = v / 2 ^ (8 * k)) := ⟨_, rfl⟩
    rw [← HY.out] at hq ⊢
    by_cases hlt : k < n
    · have hB : w.heap.size ≤ wr.heap.size := hu.size
      have hmod : y % 256 % 256 = y % 256 := by omega
      go_wp2_with (at_builtin; refine wpList_app rfl rfl el_byte rfl (Own.mk (n := 1) (c := 1) (B := w.heap.size) rfl (Nat.le_refl _) (by simp [maxLen]) rfl hB (Blk.new wr _ _) rfl rfl) rfl (hown.seg.upd ((Upd.refl [] wr).alloc _) (by omega) (by simp)) (ints_one _ _) (by simp only [maxLen]; omega) (by omega) (by simp; omega) ?_; intro X3 c3 w3 hown3 hu3 hfr3)
      go_roundw
      case rel =>
        refine ⟨k + 1, by omega, by go_num, ?_, X3, c3, by rw [Nat.add_comm 1 k], ?_, ((hu.alloc _)).then hu3 (fun b hb => by simp [ob] at hb; right; omega)⟩
        · rw [HY.out, show 8 * (k + 1) = 8 * k + 8 from by omega, Int.pow_add, Int.ediv_ediv_of_nonneg (Int.pow_nonneg (by decide))]; rfl
        · rw [beB_succ, ← HY.out, Nat.add_comm k 1]
          exact hown3
      case measure => simp [intOf]; omega
    · obtain rfl : k = n := by omega
      go_wp2
      go_ret
      exact ⟨X, cc, rfl, hown, hu⟩

theorem take_num {zs : List Int} {a k : Nat} {x : Int} (h : zs[a + k]? = some x) : (zs.drop a).take (k + 1) = (zs.drop a).take k ++ [x] := by
  obtain ⟨hk, he⟩ := List.getElem?_eq_some_iff.1 h
  have hl : k < (zs.drop a).length := by rw [List.length_drop]; omega
  rw [List.take_succ_eq_append_getElem hl, List.getElem_drop, he]

theorem pow8_bd (k : Nat) (h : k ≤ 7) : (1 : Int) ≤ 2 ^ (8 * k) ∧ (2 : Int) ^ (8 * k) ≤ 72057594037927936 := by
  have h1 := Nat.pow_le_pow_right (n := 2) (by omega) (show 8 * k ≤ 56 by omega)
  have h0 : 0 < 2 ^ (8 * k) := Nat.pow_pos (by omega)
  have e : ((2 ^ (8 * k) : Nat) : Int) = (2 : Int) ^ (8 * k) := by simp
  rw [← e]
  omega

theorem num_part {zs : List Int} (hz : ∀ z ∈ zs, 0 ≤ z ∧ z ≤ 255) (a k : Nat) (hk : k ≤ 7) : 0 ≤ beNum ((zs.drop a).take k) ∧ beNum ((zs.drop a).take k) ≤ 72057594037927935 := by
  have h1 := beNum_bd ((zs.drop a).take k) fun z h => hz z (List.mem_of_mem_drop (List.mem_of_mem_take h))
  have h2 : ((zs.drop a).take k).length ≤ k := List.length_take_le _ _
  have h3 := Nat.pow_le_pow_right (n := 2) (by omega) (show 8 * ((zs.drop a).take k).length ≤ 8 * k by omega)
  have h4 := pow8_bd k hk
  have e : ∀ q : Nat, ((2 ^ q : Nat) : Int) = (2 : Int) ^ q := fun q => by simp
  rw [← e] at h1 h4
  omega

theorem or_byte (n x : Int) (h0 : 0 ≤ n) (h1 : n ≤ 72057594037927935) (hx0 : 0 ≤ x) (hx1 : x ≤ 255) : bits .or .u64 (n * 256) x = n * 256 + x := by
  obtain ⟨m, rfl⟩ := Int.eq_ofNat_of_zero_le h0
  obtain ⟨y, rfl⟩ := Int.eq_ofNat_of_zero_le hx0
  rw [show (m : Int) * 256 = ((m * 256 : Nat) : Int) from by omega, u64_or_nat (m * 256) y (by omega) (by omega), nat_join 8 _ _ (by omega) (by omega)]
  omega

end Go.Proofs.YtolcdlopgbgilaaGreatDoor

/-! Text CodL. -/
namespace Go.Proofs.YtolcdlopgbgilaaGreatDoor
open Go.RowKit Go.Dray

set_option maxHeartbeats 400000 in
theorem le_any (w : World) (v m : Int) (h0 : 1 ≤ m) (hm : m ≤ 8) : Calls Tryz.prog 15 #[.int .u64 v, .int .i64 m] w (NewBytes m.toNat (leB v m.toNat) w) := by
  obtain ⟨n, rfl⟩ := Int.eq_ofNat_of_zero_le (show 0 ≤ m by omega)
  rw [Int.toNat_natCast]
  have d1 : decide ((n : Int) < 1) = false := by simp; omega
  have d2 : decide (8 < (n : Int)) = false := by simp; omega
  go_enter Tryz.func15, Tryz.ntmps15
  go_wp2_with (at_make; refine wpList_mk rfl rfl w.heap.size el_byte n rfl rfl rfl rfl rfl (by omega) (by simp only [maxLen]; omega) (Nat.le_refl _) ?_; intro A1 w1 hown1 hu1 hob1)
  go_loopw [16] (fun i wr => ∃ k : Nat, k ≤ n ∧ i = .int .i64 k ∧ Own wr w.heap.size 5 1 A1 n n ((tab n fun j => if j < k then v / 2 ^ (8 * j) % 256 else 0).map (Value.int .u8)) ∧ Upd [] w wr) (fun i _ => n - (intOf i).toNat)
  case atStart =>
    refine ⟨0, by omega, rfl, ?_, hu1⟩
    rw [tab_congr (g := fun _ => (0 : Int)) (fun j _ => by simp), ← tab_rep, List.map_replicate]
    exact hown1
  case round =>
    obtain ⟨k, hk, rfl, hown, hu⟩ := hrel
    by_cases hlt : k < n
    · obtain ⟨y, _, hcell⟩ := (Ints.ofOwn hown).int (i := k) (by omega)
      have hix := (Ints.ofOwn hown).index el_byte n .i64 k (by omega)
      have hfz := hown.frozen (by omega) k
      have HSET := Lib.hid (hown.set (k := k) (by omega) (.int .u8 (v / 2 ^ (8 * k) % 256)))
      have hob := (hown.base (hown.obl (by omega))).1
      clear hown1 hu1
      go_wp2
      go_roundw
      case rel =>
        refine ⟨k + 1, by omega, by go_num, ?_, hu.put hob _⟩
        have h2 := HSET.out
        rw [← List.map_set, tab_set, tab_congr (g := fun j => if j < k + 1 then v / 2 ^ (8 * j) % 256 else 0) (fun j hj => ?_)] at h2
        · exact h2
        · by_cases e : j = k
          · subst e
            rw [if_pos rfl, if_pos (by omega)]
          · rw [if_neg e]
            by_cases e2 : j < k
            · rw [if_pos e2, if_pos (by omega)]
            · rw [if_neg e2, if_neg (by omega)]
      case measure => simp [intOf]; omega
    · obtain rfl : k = n := by omega
      go_wp2
      go_ret
      refine ⟨A1, k, rfl, ?_, hu⟩
      unfold leB
      rw [tab_congr (g := fun j => v / 2 ^ (8 * j) % 256) (fun j hj => by rw [if_pos (by omega)])] at hown
      exact hown

theorem or_high (a x : Int) (k : Nat) (hk : k ≤ 7) (h0 : 0 ≤ a) (h1 : a < 2 ^ (8 * k)) (hx0 : 0 ≤ x) (hx1 : x ≤ 255) : bits .or .u64 a (IntKind.u64.wrap (x * 2 ^ (8 * k))) = a + x * 2 ^ (8 * k) := by
  rw [IntKind.wrap_u64]
  have hp := pow8_bd k hk
  obtain ⟨m, rfl⟩ := Int.eq_ofNat_of_zero_le h0
  obtain ⟨y, rfl⟩ := Int.eq_ofNat_of_zero_le hx0
  have e : ∀ q : Nat, ((2 ^ q : Nat) : Int) = (2 : Int) ^ q := fun q => by simp
  rw [← e] at hp h1 ⊢
  generalize hq : 2 ^ (8 * k) = q at *
  have hyq : y * q ≤ 255 * q := Nat.mul_le_mul_right q (by omega)
  rw [show (y : Int) * (q : Int) = ((y * q : Nat) : Int) from by simp, Int.emod_eq_of_lt (by omega) (by omega), u64_or_nat m (y * q) (by omega) (by omega), Nat.or_comm, nat_join (8 * k) _ _ (by rw [hq]; exact Nat.mul_mod_left _ _) (by omega)]
  omega

theorem leNum_bd (zs : List Int) (h : ∀ z ∈ zs, 0 ≤ z ∧ z ≤ 255) : 0 ≤ leNum zs ∧ leNum zs < 2 ^ (8 * zs.length) := by
  have := beNum_bd zs.reverse fun z hz => h z (by simpa using hz)
  rw [List.length_reverse] at this
  exact this

set_option maxHeartbeats 400000 in
theorem getLe_ok (A : Option Addr) (n c : Nat) (zs : List Int) (a m : Int) (w : World) (hs : Ints .u8 w A n zs) (hz : ∀ z ∈ zs, 0 ≤ z ∧ z ≤ 255) (hnc : n ≤ c) (hn : n ≤ 100000000000000) (ha : 0 ≤ a) (h0 : 1 ≤ m) (hm : m ≤ 8) (ham : a + m ≤ n) :
    Calls Tryz.prog 35 #[.slice A n c, .int .i64 a, .int .i64 m] w fun e w' => e = .returned (.tuple #[.int .u64 (leNum ((zs.drop a.toNat).take m.toNat)), .bool true]) ∧ w = w' := by
  obtain ⟨s, rfl⟩ := Int.eq_ofNat_of_zero_le (show 0 ≤ m by omega)
  obtain ⟨p, rfl⟩ := Int.eq_ofNat_of_zero_le ha
  rw [Int.toNat_natCast, Int.toNat_natCast]
  have HZ := Lib.hid hz
  have d1 : decide ((s : Int) < 1) = false := by simp; omega
  have d2 : decide (8 < (s : Int)) = false := by simp; omega
  have d3 : decide ((p : Int) < 0) = false := by simp
  have d4 : decide ((n : Int) - s < p) = false := by simp; omega
  have hcut := run_cut_lh el_byte A n c .i64 .i64 (p : Int) ((p : Int) + s) p (p + s) rfl (by omega) (by omega) (by omega)
  have hct := hs.cut (lo := p) (hi := p + s) (c := c) (by omega) (by omega) hnc
  rw [Nat.add_sub_cancel_left] at hcut hct
  have HS := Lib.hid hs
  have HL := hs.len
  clear hz hs
  go_enter Tryz.func35, Tryz.ntmps35
  go_wp2
  go_loop [8, 36] (fun x i => ∃ k : Nat, k ≤ s ∧ i = .int .i64 k ∧ x = .int .u64 (leNum ((zs.drop p).take k))) (fun _ i => s - (intOf i).toNat)
  case atStart => exact ⟨0, by omega, rfl, rfl⟩
  case round =>
    obtain ⟨k, hk, rfl, rfl⟩ := hrel
    by_cases hlt : k < s
    · obtain ⟨x, HX, hcell⟩ := hct.int hlt
      have hix := hct.index el_byte (c - p) .i64 k hlt
      have HX2 : Hid (zs[p + k]? = some x) := by
        have := HX.out
        rw [List.getElem?_take_of_lt hlt, List.getElem?_drop] at this
        exact this
      obtain ⟨hx0, hx1⟩ := HZ.out x (List.mem_of_getElem? HX2.out)
      have HK : Hid (((zs.drop p).take k).length = k) := by
        have := HL.out
        show _ = _
        rw [List.length_take, List.length_drop]; omega
      have hb := leNum_bd ((zs.drop p).take k) fun z h => HZ.out z (List.mem_of_mem_drop (List.mem_of_mem_take h))
      rw [HK.out] at hb
      have hor := or_high _ x k (by omega) hb.1 hb.2 hx0 hx1
      clear hct hb
      go_wp2
      go_round
      case rel => exact ⟨k + 1, by omega, by go_num, by rw [take_num HX2.out, leNum_snoc, HK.out]⟩
      case measure => simp [intOf]; omega
    · obtain rfl : k = s := by omega
      go_wp2
      go_ret2
      exact ⟨rfl, rfl⟩

set_option maxHeartbeats 400000 in
theorem turned_any (A : Option Addr) (n c : Nat) (zs : List Int) (w : World) (hs : Ints .u8 w A n zs) (hn : n ≤ 100000000000000) :
    Calls Tryz.prog 42 #[.slice A n c] w (NewBytes n zs.reverse w) := by
  have HL := hs.len
  go_enter Tryz.func42, Tryz.ntmps42
  go_wp2
  go_loopw [3, 4] (fun x i wr => ∃ k : Nat, k ≤ n ∧ i = .int .i64 ((n : Int) - 1 - k) ∧ ∃ X cc, x = .slice X k cc ∧ Own wr w.heap.size 5 1 X k cc ((zs.reverse.take k).map (Value.int .u8)) ∧ Upd [] w wr) (fun _ i _ => (intOf i + 1).toNat)
  case atStart => exact ⟨0, by omega, by simp, none, 0, rfl, Own.nil _ _ _ _, Upd.refl _ _⟩
  case round =>
    obtain ⟨k, hk, rfl, X, cc, rfl, hown, hu⟩ := hrel
    by_cases hlt : k < n
    · have hsr := hs.upd hu (by simp)
      obtain ⟨x, HX, hcell⟩ := hsr.int (i := n - 1 - k) (by omega)
      have hix := hsr.indexI el_byte c .i64 ((n : Int) - 1 - k) (n - 1 - k) (by omega) (by omega)
      have hB : w.heap.size ≤ wr.heap.size := hu.size
      have hd : decide ((n : Int) - 1 - k < 0) = false := by simp; omega
      have hd2 : decide (0 ≤ (n : Int) - 1 - k) = true := by simp; omega
      have HT : Hid (zs.reverse.take (k + 1) = zs.reverse.take k ++ [x]) := by
        have hL := HL.out
        have h1 := HX.out
        have hk2 : k < zs.reverse.length := by rw [List.length_reverse]; omega
        show _ = _
        rw [List.take_succ_eq_append_getElem hk2, List.getElem_reverse]
        rw [List.getElem?_eq_getElem (by omega)] at h1
        injection h1 with h1
        congr 2
        rw [← h1]
        congr 1
        omega
      clear hs hsr
      go_wp2_with (at_builtin; refine wpList_app rfl rfl el_byte rfl (hown.alloc _) rfl (Seg.one wr _ _) (by intro u hu; simp at hu; subst hu; rfl) (by simp only [maxLen]; omega) (by omega) (by simp; omega) ?_; intro X3 c3 w3 hown3 hu3 hfr3)
      go_roundw
      case rel =>
        refine ⟨k + 1, by omega, by simp [go_sem]; omega, X3, c3, rfl, ?_, (hu.alloc _).then hu3 (fun b hb => ?_)⟩
        · rw [HT.out, List.map_append]
          exact hown3
        · right
          simp at hb
          exact (hown.base hb.symm).1
      case measure => simp [intOf, go_sem]; omega
    · obtain rfl : k = n := by omega
      have hd : decide ((k : Int) - 1 - k < 0) = true := by simp; omega
      have hd2 : decide (0 ≤ (k : Int) - 1 - k) = false := by simp; omega
      go_wp2
      go_ret
      refine ⟨X, cc, rfl, ?_, hu⟩
      rw [List.take_of_length_le (by rw [List.length_reverse, HL.out]; omega)] at hown
      exact hown

end Go.Proofs.YtolcdlopgbgilaaGreatDoor
